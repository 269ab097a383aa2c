/- A part of the proof: a verified reading of the model by values alone, and what is shown by it. It holds without conditions. -/
import Derived.Test.YtjmgcdbefkojjaaGreatDoorAvMain2
namespace Go.Av
open Go

variable {Γ : Par}

theorem push_old {w : World} {o : Obj} : ∀ B, B < w.heap.size → ({ w with heap := w.heap.push o } : World).heap[B]? = w.heap[B]? := by
  intro B hB
  show (w.heap.push o)[B]? = _
  rw [Array.getElem?_push_lt hB, Array.getElem?_eq_getElem hB]

/-- A new block that is an object of a known kind. -/
theorem Post.newObj {base : Nat} {c : Cn} {H : Heap} (hI : Inv c H) (hb : base ≤ H.length) (o : AObj) (ob : Obj) (hg : o.gen = 0)
    (hok : ObjOK (c.new H.length { c.w with heap := c.w.heap.push ob }) H.length o) :
    Post base c H (c.new H.length { c.w with heap := c.w.heap.push ob }) (o :: H) ∧ (c.new H.length { c.w with heap := c.w.heap.push ob }).m H.length 0 = some (c.w.heap.size, 0) :=
  ⟨Post.new hI o (by simp) push_old hg hb hok, by simp [Cn.new]⟩

theorem range_end {T : Task → Res → Prop} (ih : AllT Γ T) {x : Rc} {l : Nat} {st : LoopState} {p : Option Code} {fn : FuncId} {nt : Nat} {e : Env} {ps : Array Tmp} {as body : Code} {k : List Item} {env : Env} {ds : List ADef} {H : Heap} {r : Res}
    (ho : hget H l = some (.loop st p fn nt e ps as body)) (hst : st ≠ .busy) (hbl : x.base ≤ l)
    (h : T (.run x ((p.map Item.code).toList ++ k) env ds (hset H l (.loop .exhausted p fn nt e ps as body))) r) {c : Cn} (hI : Inv c H) (hG : GlobOK Γ.G c) {B : Nat} (hm : c.m l 0 = some (B, 0))
    {tmps : Array Value} {defers : List Deferred} {rd : Option Nat} (he : EnvRep c env tmps) (hsz : tmps.size = x.nt) (hds : DefsRep c ds defers) (hb : x.base ≤ H.length) (hrd : RdOK c x.round rd) :
    ∃ c' v, Post x.base c H c' r.2 ∧ Rep c' r.1 v ∧ ∀ kind cs, (rd.isSome = true → kind = .normal) → Fin Γ.P kind rd cs (frAt x.fid kind rd tmps defers (.endRangeFunc B :: k)) c.w v c'.w := by
  obtain ⟨rec, h1, hs1, hp1, hpost⟩ := loop_upd (base := x.base) (st' := .exhausted) (p' := p) hI ho hm hbl
  obtain ⟨ra, rH⟩ := r
  obtain ⟨c', v, hp, hr, hf⟩ := ih _ _ h _ tmps defers rd hpost.inv (hG.ext hpost.ext) (he.ext hpost.ext) hsz (hds.ext hpost.ext) (Nat.le_trans hb hpost.len) (hrd.ext hpost.ext)
  refine ⟨c', v, hpost.trans hp, hr, fun kind cs hkd => (hf kind cs hkd).head ?_⟩
  have := fstep_endRange (P := Γ.P) (fid := x.fid) (kind := kind) (rd := rd) (tmps := tmps) (ds := defers) (k := k) (cs := cs) h1 (by rw [hs1]; exact hst)
  rw [hp1] at this
  exact this

theorem run_ok {T : Task → Res → Prop} (ih : AllT Γ T) (hfn : ∀ f y, Γ.fn f = some y → fnOf Γ.P f = some y) (hmx : Γ.P.follows .mixedOrders = true) (hTP : PureT Γ T) {x : Rc} {todo : List Item} {env : Env} {ds : List ADef} {H : Heap} {r : Res}
    (h : Q.Runs T (runQ Γ x todo env ds H) r) : TaskOK Γ (.run x todo env ds H) r := by
  obtain ⟨ra, rH⟩ := r
  intro c tmps defers rd hI hG he hsz hds hb hrd
  have go1 : ∀ {todo'}, T (.run x todo' env ds H) (ra, rH) → (∀ kind cs, step Γ.P (lone (frAt x.fid kind rd tmps defers todo) cs c.w) = .next (lone (frAt x.fid kind rd tmps defers todo') cs c.w)) →
      ∃ c' v, Post x.base c H c' rH ∧ Rep c' ra v ∧ ∀ kind cs, (rd.isSome = true → kind = .normal) → Fin Γ.P kind rd cs (frAt x.fid kind rd tmps defers todo) c.w v c'.w := by
    intro todo' h1 h2
    obtain ⟨c', v, hp, hr, hf⟩ := ih _ _ h1 c tmps defers rd hI hG he hsz hds hb hrd
    exact ⟨c', v, hp, hr, fun kind cs hkd => (hf kind cs hkd).head (h2 kind cs)⟩
  have lv : x.round = none → T (.leave x ds env H) (ra, rH) → ∀ todo', (∀ kind cs, step Γ.P (lone (frAt x.fid kind none tmps defers todo) cs c.w) = .next (lone (frLeave x.fid kind tmps defers todo') cs c.w)) →
      ∃ c' v, Post x.base c H c' rH ∧ Rep c' ra v ∧ ∀ kind cs, (rd.isSome = true → kind = .normal) → Fin Γ.P kind rd cs (frAt x.fid kind rd tmps defers todo) c.w v c'.w := by
    intro hx h1 todo' h2
    have hrdn : rd = none := (rd_defer hrd).2 hx
    subst hrdn
    obtain ⟨c', v, hp, hr, hf⟩ := ih _ _ h1 c tmps defers hI hG he hds hb
    exact ⟨c', v, hp, hr, fun kind cs hkd => (hf kind cs todo').head (h2 kind cs)⟩
  have er : ∀ l jump, x.round = some l → endRoundA x l jump ds H = some (ra, rH) →
      (∀ (B : Nat) (r : Loop) (cf : Frame) (rest : List Frame), c.w.heap[B]? = some (.loop r) → step Γ.P (lone (frAt x.fid .normal (some B) tmps [] todo) (cf :: rest) c.w) =
        .next (lone (cf.finish (.bool jump.isNone)) rest { c.w with heap := c.w.heap.setIfInBounds B (.loop { r with state := if jump.isNone then .ready else .done, pending := jump }) })) →
      ∃ c' v, Post x.base c H c' rH ∧ Rep c' ra v ∧ ∀ kind cs, (rd.isSome = true → kind = .normal) → Fin Γ.P kind rd cs (frAt x.fid kind rd tmps defers todo) c.w v c'.w := by
    intro l jump hx h1 h2
    cases rd with
    | none => rw [hx] at hrd; exact hrd.elim
    | some B =>
      rw [hx] at hrd
      have hm := hrd
      obtain ⟨rfl, r, hr, rfl, hp⟩ := endRound_ok h1 hI hm hds
      refine ⟨_, .bool jump.isNone, hp, rfl, ?_⟩
      rintro kind cs hkd cf rest rfl
      obtain rfl := hkd rfl
      exact .one (h2 B r cf rest hr)
  unfold runQ at h
  split at h
  · split at h
    · rename_i hx
      rw [goto_run] at h
      exact lv hx h [] fun _ _ => fstep_end
    · rename_i l hx
      exact er l none hx h fun B r cf rest hr => fstep_round_end hr cf
  · split at h
    · rename_i hx
      rw [goto_run] at h
      exact lv hx h _ fun _ _ => fstep_ret
    · rename_i l hx
      exact er l (some .ret) hx h fun B r cf rest hr => fstep_round_ret hr cf
  · rw [goto_run] at h; exact go1 h fun _ _ => fstep_skip
  · rw [goto_run] at h; exact go1 h fun _ _ => fstep_label
  · rw [goto_run] at h; exact go1 h fun _ _ => fstep_inBlock
  · rw [goto_run] at h; exact go1 h fun _ _ => fstep_inScope
  · rw [goto_run] at h; exact go1 h fun _ _ => fstep_seq
  · split at h
    · rename_i t ht
      rw [goto_run] at h
      have := rhoOK (a := { tmps, defers := defers }) hG he _ _ ht
      simp only [Rep] at this
      exact go1 h fun _ _ => fstep_cond this
    · cases h
  · rw [goto_run] at h; exact go1 h fun _ _ => fstep_block
  · rw [goto_run] at h; exact go1 h fun _ _ => fstep_loop
  · rw [goto_run] at h; exact go1 h fun _ _ => fstep_inLoop
  · rw [goto_run] at h; exact go1 h fun _ _ => fstep_scope
  · split at h
    · rename_i k' hk'
      rw [goto_run] at h; exact go1 h fun _ _ => fstep_exit hk'
    · rename_i hk'
      split at h
      · cases h
      · rename_i l hx
        exact er l (some (.exit _)) hx h fun B r cf rest hr => fstep_round_exit hr hk' cf
  · split at h
    · rename_i k' hk'
      rw [goto_run] at h; exact go1 h fun _ _ => fstep_goto hk'
    · cases h
  · -- a region in the text's order
    rw [goto_run] at h
    obtain ⟨c', v, hp, hr, hf⟩ := ih _ _ h c tmps defers rd hI hG he hsz hds hb hrd
    exact ⟨c', v, hp, hr, fun kind cs hkd => (hf kind cs hkd).head fstep_region⟩
  · -- a drawn region
    exact draw_ok ih hTP hmx h c tmps defers rd hI hG he hsz hds hb hrd
  · -- the begin of a round
    rename_i k
    split at h
    · rename_i l hx
      split at h
      · rename_i hbl
        split at h
        · rename_i p fn nt e ps as body ho
          rw [goto_run] at h
          cases rd with
          | none => rw [hx] at hrd; exact hrd.elim
          | some B =>
            have hrd' := hrd
            rw [hx] at hrd'
            have hm := hrd'
            obtain ⟨r, hr1, hs1, hp1, hpost⟩ := loop_upd (base := x.base) (st' := .busy) (p' := p) hI ho hm hbl
            obtain ⟨c', v, hp, hr, hf⟩ := ih _ _ h _ tmps defers (some B) hpost.inv (hG.ext hpost.ext) (he.ext hpost.ext) hsz (hds.ext hpost.ext) (Nat.le_trans hb hpost.len) (hrd.ext hpost.ext)
            refine ⟨c', v, hpost.trans hp, hr, fun kind cs hkd => (hf kind cs hkd).head ?_⟩
            obtain rfl := hkd rfl
            have := fstep_beginRound (P := Γ.P) (fid := x.fid) (kind := .normal) (tmps := tmps) (ds := defers) (cs := cs) (k := k) hr1 hs1
            rw [hp1] at this
            exact this
        · cases h
      · cases h
    · cases h
  · -- a range over a function
    rename_i f ps as body k
    split at h
    · rename_i g first cap hfv
      have hfr := rhoOK (a := { tmps, defers := defers }) hG he _ _ hfv
      obtain ⟨ws, us, hval, h1, h2⟩ := hfr
      split at h
      · cases h
      · rename_i hfg
        obtain ⟨⟨fn, cd⟩, hfnv⟩ := Option.isSome_iff_exists.1 (by cases e : Γ.fn g <;> simp_all : (Γ.fn g).isSome = true)
        have hce := callFunc_enter (hfn _ _ hfnv)
        split at h
        · rename_i hx
          have hrdn : rd = none := (rd_defer hrd).2 hx
          subst hrdn
          obtain ⟨⟨a1, H1⟩, hcall, hk⟩ := ask_run h
          dsimp only at hk
          let w1 : World := { c.w with heap := c.w.heap.push (.deferred (some [])) }
          obtain ⟨hp1, hm1⟩ := Post.newObj (base := x.base) hI hb .dmark (.deferred (some [])) rfl ⟨c.w.heap.size, by simp [Cn.new], Array.getElem?_push_size⟩
          let c1 := c.new H.length w1
          have hm1' : c1.m H.length 0 = some (c.w.heap.size, 0) := hm1
          have hw1s : w1.heap.size = c.w.heap.size + 1 := by simp [w1]
          let w2 : World := { w1 with heap := w1.heap.push (loopObj x.fid tmps ps as body c.w.heap.size) }
          obtain ⟨hp2, hm2⟩ := Post.newObj (base := x.base) (c := c1) hp1.inv (Nat.le_trans hb hp1.len) (.loop .ready none x.fid x.nt env ps as body) (loopObj x.fid tmps ps as body c.w.heap.size) rfl
            ⟨w1.heap.size, tmps, c.w.heap.size, by simp [Cn.new, c1], Array.getElem?_push_size, (he.ext hp1.ext).ext (Cn.new_ext hp1.inv push_old), hsz⟩
          let c2 := c1.new (H.length + 1) w2
          have hp12 : Post x.base c H c2 (.loop .ready none x.fid x.nt env ps as body :: .dmark :: H) := hp1.trans hp2
          have hm2' : c2.m (H.length + 1) 0 = some (w1.heap.size, 0) := hm2
          have hargs : RepL c2 (first ++ [.yld (H.length + 1)] ++ cap) (ws ++ (#[Value.func (.yield (c.w.heap.size + 1)) #[] #[]] : Array Value) ++ us).toList := by
            simp only [Array.toList_append]
            refine ((RepL.ext hp12.ext _ _ h1).append (show RepL c2 [.yld (H.length + 1)] [_] from ⟨_, [], rfl, ⟨w1.heap.size, hm2', by rw [hw1s]⟩, rfl⟩)).append (RepL.ext hp12.ext _ _ h2)
          obtain ⟨c3, v3, hp3, hr3, hcr⟩ := ih _ _ hcall c2 _ hp12.inv (hG.ext hp12.ext) hargs (Nat.le_trans hb hp12.len)
          rcases hcr with hbad | ⟨_, hsteps⟩
          · rw [hce] at hbad; cases hbad
          · split at hk
            · rename_i st p fn' nt' e' ps' as' body' ho
              split at hk
              · cases hk
              · rename_i hst
                rw [goto_run] at hk
                have hp123 := hp12.trans hp3
                have hmm : c3.m (H.length + 1) 0 = some (c.w.heap.size + 1, 0) := by rw [← hw1s]; exact hp3.ext.m _ _ _ hm2'
                have hmk : c3.m H.length 0 = some (c.w.heap.size, 0) := hp3.ext.m _ _ _ (hp2.ext.m _ _ _ hm1')
                obtain ⟨c4, v4, hp4, hr4, hf4⟩ := range_end (rd := none) ih ho hst (by omega) hk hp123.inv (hG.ext hp123.ext) hmm (he.ext hp123.ext) hsz
                  (defers := { target := .collected c.w.heap.size, args := #[] } :: defers) ⟨_, _, rfl, hmk, hds.ext hp123.ext⟩ (Nat.le_trans hb hp123.len) (hrd.ext hp123.ext)
                refine ⟨c4, v4, hp123.trans hp4, hr4, fun kind cs hkd => ?_⟩
                obtain ⟨fr, hs, hleft, _⟩ := hsteps .normal (frAt x.fid kind none tmps ({ target := .collected c.w.heap.size, args := #[] } :: defers) (.inRangeFunc (c.w.heap.size + 1) :: k) :: cs)
                have hl := left_normal (cs := cs) (c := frAt x.fid kind none tmps ({ target := .collected c.w.heap.size, args := #[] } :: defers) (.inRangeFunc (c.w.heap.size + 1) :: k)) hleft
                rw [finish_rangeFunc] at hl
                have hfirst := fstep_rangeFunc (P := Γ.P) (fid := x.fid) (kind := kind) (cs := cs) (w := c.w) (k := k) (params := ps) (assign := as) (body := body) hval hce
                have hsteps' := (Steps.head hfirst hs).trans (.one hl)
                exact (hf4 kind cs hkd).steps hsteps'
            · cases hk
        · rename_i l0 hx
          split at h
          · cases h
          rename_i hl0
          obtain ⟨⟨a1, H1⟩, hcall, hk⟩ := ask_run h
          dsimp only at hk
          cases rd with
          | none => rw [hx] at hrd; exact hrd.elim
          | some B0 =>
            have hrd' := hrd
            rw [hx] at hrd'
            have hm0 := hrd'
            have hrec : ∃ r0 : Loop, c.w.heap[B0]? = some (.loop r0) := by
              cases ho0 : hget H l0 with
              | none => simp [ho0, isLoop] at hl0
              | some o0 =>
                cases o0 <;> simp [ho0, isLoop] at hl0
                obtain ⟨B2, t2, d2, hm2, hb2, _⟩ := hI.ok l0 _ ho0
                rw [hm0] at hm2; cases hm2
                exact ⟨_, hb2⟩
            obtain ⟨r0, hr0⟩ := hrec
            obtain ⟨hp2, hm2⟩ := Post.newObj (base := x.base) hI hb (.loop .ready none x.fid x.nt env ps as body) (loopObj x.fid tmps ps as body r0.defers) rfl
              ⟨c.w.heap.size, tmps, r0.defers, by simp [Cn.new], Array.getElem?_push_size, he.ext (Cn.new_ext hI push_old), hsz⟩
            let c2 := c.new H.length { c.w with heap := c.w.heap.push (loopObj x.fid tmps ps as body r0.defers) }
            have hm2' : c2.m H.length 0 = some (c.w.heap.size, 0) := hm2
            have hargs : RepL c2 (first ++ [.yld H.length] ++ cap) (ws ++ (#[Value.func (.yield c.w.heap.size) #[] #[]] : Array Value) ++ us).toList := by
              simp only [Array.toList_append]
              refine ((RepL.ext hp2.ext _ _ h1).append (show RepL c2 [.yld H.length] [_] from ⟨_, [], rfl, ⟨c.w.heap.size, hm2', rfl⟩, rfl⟩)).append (RepL.ext hp2.ext _ _ h2)
            obtain ⟨c3, v3, hp3, hr3, hcr⟩ := ih _ _ hcall c2 _ hp2.inv (hG.ext hp2.ext) hargs (Nat.le_trans hb hp2.len)
            rcases hcr with hbad | ⟨_, hsteps⟩
            · rw [hce] at hbad; cases hbad
            · split at hk
              · rename_i st p fn' nt' e' ps' as' body' ho
                split at hk
                · cases hk
                · rename_i hst
                  rw [goto_run] at hk
                  have hp23 := hp2.trans hp3
                  obtain ⟨c4, v4, hp4, hr4, hf4⟩ := range_end (rd := some B0) ih ho hst hb hk hp23.inv (hG.ext hp23.ext) (hp3.ext.m _ _ _ hm2') (he.ext hp23.ext) hsz
                    (defers := defers) (hds.ext hp23.ext) (Nat.le_trans hb hp23.len) (hrd.ext hp23.ext)
                  refine ⟨c4, v4, hp23.trans hp4, hr4, fun kind cs hkd => ?_⟩
                  obtain rfl := hkd rfl
                  obtain ⟨fr, hs, hleft, _⟩ := hsteps .normal (frAt x.fid .normal (some B0) tmps defers (.inRangeFunc c.w.heap.size :: k) :: cs)
                  have hl := left_normal (cs := cs) (c := frAt x.fid .normal (some B0) tmps defers (.inRangeFunc c.w.heap.size :: k)) hleft
                  rw [finish_rangeFunc] at hl
                  have hfirst := fstep_rangeFunc_in (P := Γ.P) (fid := x.fid) (kind := .normal) (cs := cs) (w := c.w) (k := k) (params := ps) (assign := as) (body := body) hr0 hval hce
                  have hsteps' := (Steps.head hfirst hs).trans (.one hl)
                  exact (hf4 .normal cs hkd).steps hsteps'
              · cases hk
    · cases h
  · cases h

end Go.Av
