/- A part of the proof: a verified reading of the model by values alone, and what is shown by it. It holds without conditions. -/
import Derived.Test.YtjmgcdbefkojjaaGreatDoorAvV
import Derived.Laws.Externs
namespace Go.Av
open Go

/-- A function without a body, whose entry looks at no memory. -/
theorem extern_sum {Γ : Par} {f : FuncId} {fn : Func} {e : Array Value → Sem Value} (hf : Γ.P.funcs[f]? = some fn) (hname : (fn.name == "runtime.NumGoroutine") = false) (hb : fn.body.isNone = true)
    (hn : Extern.findNext fn = none) (he : Extern.find fn = some e) {base : Nat} {args : List AV} {H : Heap} {vs : List Value} {v : Value} (hv : toVL args = some vs) (hp : pe Γ.P (e vs.toArray) = some v) :
    TaskOK Γ (.call f base args H) (lift v, H) := by
  intro c us hI hG hr hbase
  have h1 := toVL_eq args vs _ hv hr
  have h2 : us = vs.toArray := by rw [← h1]
  refine ⟨c, v, Post.refl hI, lift_rep c v, .inl ?_⟩
  rw [run_callFunc_extern hf hname hb hn he, h2, pe_run hp]
  rfl

theorem noEscape_sum {Γ : Par} {f : FuncId} {fn : Func} (hf : Γ.P.funcs[f]? = some fn) (hname : (fn.name == "runtime.NumGoroutine") = false) (hb : fn.body.isNone = true)
    (hn : Extern.findNext fn = none) (he : Extern.find fn = some Extern.AbiNoEscape.same) {base : Nat} {a : AV} {H : Heap} : TaskOK Γ (.call f base [a] H) (a, H) := by
  intro c us hI hG hr hbase
  obtain ⟨v, us', h1, h2, h3⟩ := hr
  simp only [RepL] at h3
  subst h3
  have hu : us = #[v] := by rw [← Array.toArray_toList (xs := us), h1]
  refine ⟨c, v, Post.refl hI, h2, .inl ?_⟩
  rw [run_callFunc_extern hf hname hb hn he, hu, Lib.run_noEscape]
  rfl

/-- slices.Clone of a slice of no element: nil or not. -/
theorem clone_sum {Γ Γ0 : Par} (hP : Γ0.P = Γ.P) (hG0 : Γ0.G = Γ.G) {f : FuncId} (hok : ∀ t r, V Γ0 t = some r → TaskOK Γ0 t r)
    (h0 : ∀ (H : Heap) (cap : Nat), ∃ H', V Γ0 (.call f H.length [.atom (.slice none 0 cap)] H) = some (.sl [] 0 true, H'))
    (h1 : ∀ (H : Heap) (ad : Addr) (cap : Nat), ∃ H', V Γ0 (.call f H.length [.atom (.slice (some ad) 0 cap)] H) = some (.sl [] 0 true, H'))
    {base : Nat} {t : Bool} {H : Heap} : TaskOK Γ (.call f base [.sl [] 0 t] H) (.sl [] 0 true, H) := by
  intro c us hI hG hr hbase
  obtain ⟨v, us', hu1, h2, h3⟩ := hr
  simp only [RepL] at h3
  subst h3
  have key : ∀ ad cap, v = .slice ad 0 cap → ∃ c' x, Post base c H c' H ∧ Rep c' (.sl [] 0 true) x ∧ CallRuns Γ.P f us c.w x c'.w := by
    intro ad cap hv
    have : ∃ H', V Γ0 (.call f H.length [.atom (.slice ad 0 cap)] H) = some (.sl [] 0 true, H') := by
      cases ad with
      | none => exact h0 H cap
      | some a => exact h1 H a cap
    obtain ⟨H', hV⟩ := this
    obtain ⟨c', x, hp, hx, hc⟩ := hok _ _ hV c us hI (hG0 ▸ hG) (by rw [hu1]; exact ⟨v, [], rfl, hv, rfl⟩) (Nat.le_refl _)
    obtain ⟨c2, hw, hp2, hr2⟩ := Post.popPure (base := base) hI hp (a' := .sl [] 0 true) (by simp [frz, frzW]) hx
    exact ⟨c2, x, hp2, hr2, by rw [hw, ← hP]; exact hc⟩
  rcases h2 with ⟨_, _, ad, cap, hv, _⟩ | ⟨B, o, cap, vs, _, _, hv, _⟩
  · exact key ad cap hv
  · exact key _ cap hv

end Go.Av
