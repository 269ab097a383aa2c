/- A part of the proof: a verified reading of the model by values alone, and what is shown by it. It holds without conditions. -/
import Derived.Test.YtjmgcdbefkojjaaGreatDoorAvDraw2
namespace Go.Av
open Go

variable {Γ : Par}

theorem leave_ok {T : Task → Res → Prop} (ih : AllT Γ T) {x : Rc} {ds : List ADef} {env : Env} {H : Heap} {r : Res} (h : Q.Runs T (leaveQ Γ x ds env H) r) : TaskOK Γ (.leave x ds env H) r := by
  obtain ⟨ra, rH⟩ := r
  intro c tmps defers hI hG he hds hb
  unfold leaveQ at h
  split at h
  · split at h
    · rename_i fn hfn
      split at h
      · rename_i as has
        simp only [Q.Runs, Option.some.injEq, Prod.mk.injEq] at h
        obtain ⟨rfl, rfl⟩ := h
        simp only [DefsRep] at hds
        subst hds
        obtain ⟨v, hrun, hr⟩ := results_ok hI he has
        exact ⟨c, v, Post.refl hI, hr, fun kind cs todo => ⟨frLeave x.fid kind tmps [] todo, Steps.refl _ _, ⟨rfl, rfl, rfl, fn, hfn, hrun⟩, rfl⟩⟩
      · cases h
    · cases h
  · rename_i b ds
    split at h
    · rename_i ho
      split at h
      · rename_i hbb
        rw [goto_run] at h
        obtain ⟨B, us, rfl, hm, hds'⟩ := hds
        obtain ⟨B2, hm2, hBo⟩ := hI.ok b _ ho
        rw [hm] at hm2; cases hm2
        have hp1 := Post.updDead (base := x.base) (o := .dmark) (w' := { c.w with heap := c.w.heap.setIfInBounds B (.deferred none) }) hI ho rfl hm hbb (by simp)
          (fun B' hne => by simp [Array.getElem?_setIfInBounds_ne (Ne.symm hne)]) (fun p hp => by simp [World.shape?, hBo] at hp)
        obtain ⟨c', v, hp, hr, hf⟩ := ih _ _ h _ tmps us hp1.inv (hG.ext hp1.ext) (he.ext hp1.ext) (hds'.ext hp1.ext) (Nat.le_trans hb hp1.len)
        exact ⟨c', v, hp1.trans hp, hr, fun kind cs todo => (hf kind cs todo).head (fstep_mark hBo)⟩
      · cases h
    · cases h
  · rename_i f args ds
    obtain ⟨⟨a1, H1⟩, hcall, hk⟩ := ask_run h
    dsimp only at hk
    rw [goto_run] at hk
    obtain ⟨d, us, rfl, ⟨cap, vs, rfl, hargs⟩, hds'⟩ := hds
    obtain ⟨c1, v1, hp1, hr1, hcr⟩ := ih _ _ hcall c (vs ++ cap) hI hG hargs hb
    obtain ⟨c', v, hp, hr, hf⟩ := ih _ _ hk c1 tmps us hp1.inv (hG.ext hp1.ext) (he.ext hp1.ext) (hds'.ext hp1.ext) (Nat.le_trans hb hp1.len)
    refine ⟨c', v, hp1.trans hp, hr, ?_⟩
    intro kind cs todo
    rcases hcr with hval | ⟨hent, hsteps⟩
    · exact (hf kind cs todo).head (fstep_deferred_value hval)
    · obtain ⟨fr, hs, hleft, _⟩ := hsteps .deferred (frLeave x.fid kind tmps us todo :: cs)
      have h2 := left_deferred (cs := cs) hleft (c := frLeave x.fid kind tmps us todo) rfl
      exact (hf kind cs todo).steps ((Steps.head (fstep_deferred hent) hs).trans (.one h2))

theorem loop_upd {c : Cn} {H : Heap} (hI : Inv c H) {base l B : Nat} {st st' : LoopState} {p p' : Option Code} {fn : FuncId} {nt : Nat} {env : Env} {ps : Array Tmp} {as body : Code}
    (ho : hget H l = some (.loop st p fn nt env ps as body)) (hm : c.m l 0 = some (B, 0)) (hb : base ≤ l) :
    ∃ r : Loop, c.w.heap[B]? = some (.loop r) ∧ r.state = st ∧ r.pending = p ∧
      Post base c H { c with w := { c.w with heap := c.w.heap.setIfInBounds B (.loop { r with state := st', pending := p' }) } } (hset H l (.loop st' p' fn nt env ps as body)) := by
  obtain ⟨B2, tmps, dfs, hm2, hBo, he, hsz⟩ := hI.ok l _ ho
  rw [hm] at hm2; cases hm2
  have hlt := lt_of_heap hBo
  refine ⟨_, hBo, rfl, rfl, Post.upd (base := base) (o := .loop st p fn nt env ps as body) (o' := .loop st' p' fn nt env ps as body) hI ho rfl hm hb (by simp)
    (fun B' hne => by simp [Array.getElem?_setIfInBounds_ne (Ne.symm hne)]) (fun p hp => by simp [World.shape?, hBo] at hp) rfl rfl ?_⟩
  intro hext
  exact ⟨B, tmps, dfs, hm, by simp [hlt], he.ext hext, hsz⟩

theorem endRound_ok {x : Rc} {l B : Nat} {jump : Option Code} {ds : List ADef} {H H' : Heap} {ra : AV} (h : endRoundA x l jump ds H = some (ra, H')) {c : Cn} (hI : Inv c H) (hm : c.m l 0 = some (B, 0))
    {defers : List Deferred} (hds : DefsRep c ds defers) :
    defers = [] ∧ ∃ r : Loop, c.w.heap[B]? = some (.loop r) ∧ ra = .atom (.bool jump.isNone) ∧
      Post x.base c H { c with w := { c.w with heap := c.w.heap.setIfInBounds B (.loop { r with state := if jump.isNone then .ready else .done, pending := jump }) } } H' := by
  unfold endRoundA at h
  split at h
  · rename_i hc
    have hd0 : ds = [] := by simpa using hc.2
    subst hd0
    simp only [DefsRep] at hds
    subst hds
    split at h
    · rename_i st p fn nt env ps as body ho
      cases h
      obtain ⟨r, h1, _, _, h2⟩ := loop_upd (st' := if jump.isNone then .ready else .done) (p' := jump) hI ho hm hc.1
      exact ⟨rfl, r, h1, rfl, h2⟩
    · cases h
  · cases h

end Go.Av
