/- A part of the proof: a verified reading of the model by values alone, and what is shown by it. It holds without conditions. -/
import Derived.Test.YtjmgcdbefkojjaaGreatDoorAvMain5
namespace Go.Av
open Go

/-- A task that has been carried out, as the kit's contract. -/
theorem calls_of_task {Γ : Par} {f : FuncId} {base : Nat} {args : List AV} {H H' : Heap} {r : AV} (h : TaskOK Γ (.call f base args H) (r, H')) {fn : Func} {cd : Code} (hfn : fnOf Γ.P f = some (fn, cd))
    {c : Cn} {vs : Array Value} (hI : Inv c H) (hG : GlobOK Γ.G c) (hargs : RepL c args vs.toList) (hb : base ≤ H.length) :
    ∃ c' v, Post base c H c' H' ∧ Rep c' r v ∧ Calls Γ.P f vs c.w fun e w' => e = .returned v ∧ w' = c'.w := by
  obtain ⟨c', v, hp, hr, hc⟩ := h c vs hI hG hargs hb
  refine ⟨c', v, hp, hr, fun cs => ?_⟩
  have hent := callFunc_enter hfn vs c.w
  rcases hc with hv | ⟨_, hs⟩
  · rw [hent] at hv; cases hv
  · obtain ⟨fr, h1, h2, h3⟩ := hs .normal cs
    exact ⟨.returned v, c'.w, fr, ⟨rfl, rfl⟩, h1, h3, h2⟩

end Go.Av
