/- A part of the proof: a verified reading of the model by values alone, and what is shown by it. It holds without conditions. -/
import Derived.Test.YtjmgcdbefkojjaaGreatDoorAvSound
namespace Go.Av
open Go

/-- What a tree of questions comes to, asked of a relation. -/
def Q.Runs (T : Task → Res → Prop) : Q → Res → Prop
  | .ret x, r => x = some r
  | .go t, r => T t r
  | .ask t k, r => ∃ r1, T t r1 ∧ (k r1).Runs T r

theorem goto_run (T : Task → Res → Prop) (t : Task) (r : Res) : Q.Runs T (goto t) r = T t r := rfl

theorem ask_run {T : Task → Res → Prop} {t : Task} {k : Res → Q} {r : Res} (h : Q.Runs T (.ask t k) r) : ∃ r1, T t r1 ∧ Q.Runs T (k r1) r := h

theorem Q.runs_iff {E : Task → Option Res} : ∀ {q : Q} {r : Res}, q.run E = some r ↔ Q.Runs (fun t r => E t = some r) q r
  | .ret _, _ => Iff.rfl
  | .go _, _ => Iff.rfl
  | .ask t k, r => by
    simp only [Q.run, Q.Runs]
    cases e : E t with
    | none => simp
    | some r1 => simpa using Q.runs_iff (q := k r1)

variable {Γ : Par}

/-- The calls that are taken by their word say what they should. -/
def SumOK (Γ : Par) : Prop := ∀ f base args H r, Γ.S f base args H = some r → TaskOK Γ (.call f base args H) r

def AllT (Γ : Par) (T : Task → Res → Prop) : Prop := ∀ t r, T t r → TaskOK Γ t r
def PureT (Γ : Par) (T : Task → Res → Prop) : Prop := ∀ f base args H r, T (.call f base args H) r → pureCall Γ f = true → r.2 = H
def AllOK (Γ : Par) (n : Nat) : Prop := ∀ t r, E Γ n t = some r → TaskOK Γ t r

theorem wanted_of_guard {c : Cn} {env : Env} {tmps : Array Value} (he : EnvRep c env tmps) {all : Array Oper} {o : Oper} {b : Bool} (h : guardOf all env o = some b) :
    Region.wanted o (yielded all tmps) = b := by
  unfold guardOf at h
  unfold Region.wanted
  split at h
  · rename_i hg
    cases h
    simp [hg]
  · rename_i j want hg
    simp only [hg]
    unfold yielded
    split at h
    · rename_i hd
      cases h
      simp [hd]
    · rename_i d hd
      split at h
      · rename_i b' hb
        cases h
        obtain ⟨v, hv, hr⟩ := he d _ hb
        simp only [Rep] at hr
        subst hr
        simp only [hd, Option.bind_some, hv]
        cases b' <;> cases want <;> rfl
      · rename_i vs hb
        cases h
        obtain ⟨v, hv, hr⟩ := he d _ hb
        simp only [Rep] at hr
        subst hr
        simp [hd, hv]
      · cases h

theorem rd_defer {c : Cn} {round rd : Option Nat} (h : RdOK c round rd) : (rd = none ↔ round = none) := by
  cases round <;> cases rd <;> simp_all [RdOK]

theorem step_val_or_skip {Γ : Ctx} {base : Nat} {env : Env} {o : Oper} {H H' : Heap} {a : AV} (h : aStep Γ base env o H = some (.val a H')) : isDefer o.op = false := by
  cases hop : o.op <;> simp only [isDefer]
  unfold aStep at h
  simp only [hop] at h
  split at h
  · split at h
    · split at h
      · cases h
      · cases h
    · cases h
  · cases h

theorem step_call_nd {Γ : Ctx} {base : Nat} {env : Env} {o : Oper} {H : Heap} {f : FuncId} {as : List AV} (h : aStep Γ base env o H = some (.call f as)) : isDefer o.op = false := by
  cases hop : o.op <;> simp only [isDefer]
  unfold aStep at h
  simp only [hop] at h
  split at h
  · split at h
    · split at h
      · cases h
      · cases h
    · cases h
  · cases h

theorem step_round_nd {Γ : Ctx} {base : Nat} {env : Env} {o : Oper} {H : Heap} {f : Nat} {as : List AV} (h : aStep Γ base env o H = some (.round f as)) : isDefer o.op = false := by
  cases hop : o.op <;> simp only [isDefer]
  unfold aStep at h
  simp only [hop] at h
  split at h
  · split at h
    · split at h
      · cases h
      · cases h
    · cases h
  · cases h

theorem ops_ok {T : Task → Res → Prop} (ih : AllT Γ T) {x : Rc} {all : Array Oper} {kp : Option (List Tmp)} {l : List Nat} {k : List Item} {env : Env} {ds : List ADef} {H : Heap} {r : Res}
    (h : Q.Runs T (opsQ Γ x all kp l k env ds H) r) : TaskOK Γ (.ops x all kp l k env ds H) r := by
  obtain ⟨ra, rH⟩ := r
  intro c tmps defers rd hI hG he hsz hds hb hrd
  have hmrd := rd_defer hrd
  unfold opsQ at h
  split at h
  · -- the region's end
    rw [goto_run] at h
    obtain ⟨c', v, hp, hr, hf⟩ := ih _ _ h c tmps defers rd hI hG (he.restrict kp) hsz hds hb hrd
    exact ⟨c', v, hp, hr, fun kind cs hkd => (hf kind cs hkd).head fstep_region_end⟩
  · rename_i i rest
    split at h
    · rename_i hnone
      rw [goto_run] at h
      obtain ⟨c', v, hp, hr, hf⟩ := ih _ _ h c tmps defers rd hI hG he hsz hds hb hrd
      refine ⟨c', v, hp, hr, fun kind cs hkd => (hf kind cs hkd).head ?_⟩
      have := fstep_op_skip (P := Γ.P) (fid := x.fid) (kind := kind) (rd := rd) (tmps := tmps) (ds := defers) (k := k) (cs := cs) (w := c.w) (ops := all) (i := i) (rest := rest) (by simp [hnone])
      simpa [hnone, putT] using this
    · rename_i o ho
      split at h
      · cases h
      · -- the guard says no
        rename_i hg
        have hw := wanted_of_guard he hg
        split at h
        · rename_i env' henv
          rw [goto_run] at h
          obtain ⟨he', hsz'⟩ := he.put hsz henv (c := c) (a := .atom undef) (v := undef) rfl
          obtain ⟨c', v, hp, hr, hf⟩ := ih _ _ h c _ defers rd hI hG he' hsz' hds hb hrd
          refine ⟨c', v, hp, hr, fun kind cs hkd => (hf kind cs hkd).head ?_⟩
          have := fstep_op_skip (P := Γ.P) (fid := x.fid) (kind := kind) (rd := rd) (tmps := tmps) (ds := defers) (k := k) (cs := cs) (w := c.w) (ops := all) (i := i) (rest := rest) (by simp [ho, hw])
          simpa [ho] using this
        · cases h
      · rename_i hg
        have hw := wanted_of_guard he hg
        have hρ : RhoOK Γ.G c env (Act.eval { tmps, defers := defers }) := rhoOK (a := { tmps, defers := defers }) hG he
        split at h
        · rename_i a H' hst
          have hs := aStep_ok hI hρ (fun _ => rfl) hb hst
          obtain ⟨v, c1, hrun, hp1, hr1⟩ := hs
          split at h
          · rename_i env' henv
            rw [goto_run] at h
            have he1 := he.ext hp1.ext
            obtain ⟨he', hsz'⟩ := he1.put hsz henv hr1
            obtain ⟨c', v', hp, hr, hf⟩ := ih _ _ h c1 _ defers rd hp1.inv (hG.ext hp1.ext) he' hsz' (hds.ext hp1.ext) (Nat.le_trans hb hp1.len) (hrd.ext hp1.ext)
            exact ⟨c', v', hp1.trans hp, hr, fun kind cs hkd => (hf kind cs hkd).head (fstep_op_value ho hw (.inr (step_val_or_skip hst)) hrun)⟩
          · cases h
        · rename_i f args hst
          obtain ⟨vs, hrun, hargs⟩ := aStep_ok hI hρ (fun _ => rfl) hb hst
          obtain ⟨⟨a1, H1⟩, hcall, hk⟩ := ask_run h
          obtain ⟨c1, v1, hp1, hr1, hcr⟩ := ih _ _ hcall c vs hI hG hargs hb
          dsimp only at hk
          split at hk
          · rename_i env' henv
            rw [goto_run] at hk
            have he1 := he.ext hp1.ext
            obtain ⟨he', hsz'⟩ := he1.put hsz henv hr1
            obtain ⟨c', v', hp, hr, hf⟩ := ih _ _ hk c1 _ defers rd hp1.inv (hG.ext hp1.ext) he' hsz' (hds.ext hp1.ext) (Nat.le_trans hb hp1.len) (hrd.ext hp1.ext)
            refine ⟨c', v', hp1.trans hp, hr, ?_⟩
            intro kind cs hkd
            have hnd : rd = none ∨ isDefer o.op = false := .inr (step_call_nd hst)
            rcases hcr with hval | ⟨hent, hsteps⟩
            · exact (hf kind cs hkd).head (fstep_op_value ho hw hnd (.inl (hrun.trans hval)))
            · obtain ⟨fr, hs, hleft, _⟩ := hsteps .normal (frAt x.fid kind rd tmps defers (.inRegion all (i :: rest) :: k) :: cs)
              have h1 := fstep_op_enter (P := Γ.P) (fid := x.fid) (kind := kind) (rd := rd) (k := k) (cs := cs) (rest := rest) ho hw hnd (hrun.trans hent)
              have h2 := left_normal (c := frAt x.fid kind rd tmps defers (.inRegion all (i :: rest) :: k)) (cs := cs) hleft
              rw [frAt_finish, ho] at h2
              exact (hf kind cs hkd).steps ((Steps.head h1 hs).trans (.one h2))
          · cases hk
        · rename_i l args hst
          obtain ⟨B, vs, hm, hrun, hargs⟩ := aStep_ok hI hρ (fun _ => rfl) hb hst
          obtain ⟨⟨a1, H1⟩, hcall, hk⟩ := ask_run h
          obtain ⟨c1, v1, hp1, hr1, fn, ts, as, body, hyl, hsteps⟩ := ih _ _ hcall c B vs hI hG hm hargs hb
          dsimp only at hk
          split at hk
          · rename_i env' henv
            rw [goto_run] at hk
            have he1 := he.ext hp1.ext
            obtain ⟨he', hsz'⟩ := he1.put hsz henv hr1
            obtain ⟨c', v', hp, hr, hf⟩ := ih _ _ hk c1 _ defers rd hp1.inv (hG.ext hp1.ext) he' hsz' (hds.ext hp1.ext) (Nat.le_trans hb hp1.len) (hrd.ext hp1.ext)
            refine ⟨c', v', hp1.trans hp, hr, ?_⟩
            intro kind cs hkd
            have hnd : rd = none ∨ isDefer o.op = false := .inr (step_round_nd hst)
            have h1 := fstep_op_round (P := Γ.P) (fid := x.fid) (kind := kind) (rd := rd) (k := k) (cs := cs) (rest := rest) ho hw hnd (hrun.trans hyl)
            have h2 := hsteps (frAt x.fid kind rd tmps defers (.inRegion all (i :: rest) :: k)) cs
            rw [frAt_finish, ho] at h2
            exact (hf kind cs hkd).steps (.head h1 h2)
          · cases hk
        · rename_i f args hst
          obtain ⟨d, hrun, hd⟩ := aStep_ok hI hρ (fun _ => rfl) hb hst
          split at h
          · rename_i env' hrnd henv
            rw [goto_run] at h
            obtain ⟨he', hsz'⟩ := he.put hsz henv (c := c) (a := .atom undef) (v := undef) rfl
            have hrdn : rd = none := hmrd.2 hrnd
            subst hrdn
            obtain ⟨c', v', hp, hr, hf⟩ := ih _ _ h c _ (d :: defers) none hI hG he' hsz' ⟨d, defers, rfl, hd, hds⟩ hb hrd
            exact ⟨c', v', hp, hr, fun kind cs hkd => (hf kind cs hkd).head (fstep_op_defer ho hw hrun)⟩
          · cases h
        · cases h

end Go.Av
