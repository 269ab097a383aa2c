/- A part of the proof: a verified reading of the model by values alone, and what is shown by it. It holds without conditions. -/
import Derived.Test.YtjmgcdbefkojjaaGreatDoorAvMain4
namespace Go.Av
open Go

variable {Γ : Par}

theorem hget_allDead {H : Heap} {b : Nat} {o : AObj} (h : hget (allDead H) b = some o) : o = .dead := by
  have : o ∈ allDead H := by
    revert h
    generalize allDead H = K
    induction K with
    | nil => intro h; simp [hget] at h
    | cons x K ih =>
      intro h
      by_cases e : b = K.length
      · subst e; rw [hget_cons_same] at h; cases h; simp
      · have hl := hget_lt h
        simp at hl
        rw [hget_cons_lt (by omega)] at h
        exact List.mem_cons_of_mem _ (ih h)
  exact List.eq_of_mem_replicate this

/-- Everything that is ours is lent. -/
def Cn.lent (c : Cn) (H : Heap) : Cn := { c with F := fun B => c.F B ∨ ∃ b, LiveAt c H b B }

theorem Cn.lent_ext (c : Cn) (H : Heap) : Ext c (c.lent H) := ⟨fun _ _ _ h => h, fun _ h => .inl h, fun _ _ => rfl, fun _ _ h => h⟩

theorem Inv.lent {c : Cn} {H : Heap} (h : Inv c H) : Inv (c.lent H) (allDead H) := by
  have hd : ∀ b B, ¬ LiveAt (c.lent H) (allDead H) b B := by
    rintro b B ⟨o, off, ho, hl, _⟩
    rw [hget_allDead ho] at hl
    simp [AObj.live] at hl
  refine ⟨fun b g l hm => ?_, fun b o g l ho hl _ => ?_, fun b o ho => ?_, fun b b' B h1 _ => (hd b B h1).elim, fun b B h1 _ => hd b B h1, ?_⟩
  · simpa [allDead] using h.dom b g l hm
  · rw [hget_allDead ho] at hl; simp [AObj.live] at hl
  · rw [hget_allDead ho]; trivial
  · rintro B (hF | ⟨b, hl⟩)
    · exact h.inF B hF
    · exact h.inHeap hl

theorem lendA_ok {c : Cn} {H : Heap} (h : Inv c H) {args args' : List AV} (ha : lendA H args = some args') {vs : List Value} (hr : RepL c args vs) : RepL (c.lent H) args' vs := by
  refine mapO_sound (fun a a' x h1 h2 => ?_) _ _ _ ha hr
  exact frz_sound (c := c) (c' := c.lent H) h (fun _ h => .inl h) rfl (fun b B _ hl => .inr ⟨b, hl⟩) (fun b o l hb => by omega) h1 h2

theorem Post.lentBack {base : Nat} {c c' : Cn} {H H' : Heap} (h : Inv c H) (hp : Post H.length (c.lent H) (allDead H) c' H') : Post base c H (c.after c'.w) H := by
  refine Post.after h hp.size (fun B hB => hp.frame B hB ?_) hp.out
  rintro b hb ⟨o, _, ho, hl, _⟩
  rw [hget_allDead ho] at hl
  simp [AObj.live] at hl

mutual
theorem scopedB_ok {n : Nat} : (a : AV) → scopedB n a = true → Scoped n a
  | .ptr b _ _, h => by simpa [scopedB, Scoped] using h
  | .slr b _ _ _ _ _, h => by simpa [scopedB, Scoped] using h
  | .map b, h => by simpa [scopedB, Scoped] using h
  | .yld b, h => by simpa [scopedB, Scoped] using h
  | .tptr b _ _ _, h => by simpa [scopedB, Scoped] using h
  | .slt b _ _ _, h => by simpa [scopedB, Scoped] using h
  | .bptr b _ _, h => by simpa [scopedB, Scoped] using h
  | .bnil, _ => by simp [Scoped]
  | .fn _ fs cs, h => by
    simp only [scopedB, Bool.and_eq_true] at h
    exact ⟨scopedBL_ok fs h.1, scopedBL_ok cs h.2⟩
  | .iface _ a, h => by simp only [scopedB] at h; exact scopedB_ok a h
  | .agg cs, h => by simp only [scopedB] at h; exact scopedBL_ok cs h
  | .tuple cs, h => by simp only [scopedB] at h; exact scopedBL_ok cs h
  | .atom _, _ => by simp [Scoped]
  | .cptr _, _ => by simp [Scoped]
  | .sl _ _ _, _ => by simp [Scoped]
  | .cmap _ _, _ => by simp [Scoped]
theorem scopedBL_ok {n : Nat} : (as : List AV) → scopedBL n as = true → ScopedL n as
  | [], _ => trivial
  | a :: as, h => by
    simp only [scopedBL, Bool.and_eq_true] at h
    exact ⟨scopedB_ok a h.1, scopedBL_ok as h.2⟩
end

theorem eget_mem {env : Env} {t : Nat} {a : AV} (h : eget env t = some a) : (t, a) ∈ env := by
  induction env with
  | nil => simp [eget] at h
  | cons p env ih =>
    simp only [eget] at h
    split at h
    · rename_i e; cases h; subst e; simp
    · simp [ih h]

theorem popB_ok {H H' : Heap} (h : popB H H' = true) : PopOK H H' := by
  intro b hb
  unfold popB at h
  have := List.all_eq_true.1 h b (by simpa using hb)
  split at this
  · rename_i o ho
    refine .inr ⟨o, ho, ?_⟩
    cases o with
    | cells g cs => exact scopedBL_ok _ this
    | map ks vs =>
      simp only [scopedObjB, Bool.and_eq_true] at this
      exact ⟨scopedBL_ok _ this.1, scopedBL_ok _ this.2⟩
    | loop st p fn nt env ps as body =>
      simp only [scopedObjB, List.all_eq_true] at this
      exact fun t a ha => scopedB_ok a (this (t, a) (eget_mem ha))
    | _ => trivial
  · cases this

theorem call_ok {T : Task → Res → Prop} (ih : AllT Γ T) (hS : SumOK Γ) (hfn0 : ∀ f y, Γ.fn f = some y → fnOf Γ.P f = some y) {f : FuncId} {base : Nat} {args : List AV} {H : Heap} {r : Res}
    (h : Q.Runs T (callQ Γ f base args H) r) : TaskOK Γ (.call f base args H) r := by
  unfold callQ at h
  split at h
  · rename_i r' hσ
    simp only [Q.Runs] at h
    cases h
    exact hS f base args H r hσ
  · obtain ⟨ra, rH⟩ := r
    intro c vs hI hG hargs hb
    split at h
    · rename_i fn cd hfn0'
      have hfn := hfn0 _ _ hfn0'
      split at h
      · rename_i hlen
        have hent := callFunc_enter hfn
        have henter := fun vs kind => enter_eq hfn vs kind
        have hvl : vs.size = args.length := by simpa using hargs.length
        have hsz : ∀ us : Array Value, us.size = args.length → (us ++ Array.replicate (fn.ntmps - us.size) undef).size = fn.ntmps := by
          intro us hu; simp; omega
        split at h
        · rw [goto_run] at h
          obtain ⟨c', v, hp, hr, hf⟩ := ih _ _ h c _ [] none hI hG (argsEnv_rep hargs _) (hsz vs hvl) rfl hb trivial
          refine ⟨c', v, hp, hr, .inr ⟨hent vs c.w, fun kind cs => ?_⟩⟩
          rw [henter]; exact hf kind cs (by simp)
        · split at h
          · obtain ⟨⟨a1, H1⟩, hcall, hk⟩ := ask_run h
            simp only [Q.Runs] at hk
            split at hk
            · rename_i a ha
              cases hk
              obtain ⟨c', v, hp, hr, hf⟩ := ih _ _ hcall c _ [] none hI hG (argsEnv_rep hargs _) (hsz vs hvl) rfl (Nat.le_refl _) trivial
              obtain ⟨c2, hw2, hp2, hr2⟩ := Post.popPure (base := base) hI hp ha hr
              refine ⟨c2, v, hp2, hr2, .inr ⟨hent vs c.w, fun kind cs => ?_⟩⟩
              rw [henter, hw2]; exact hf kind cs (by simp)
            · cases hk
          · split at h
            · split at h
              · rename_i args' hl
                obtain ⟨⟨a1, H1⟩, hcall, hk⟩ := ask_run h
                simp only [Q.Runs] at hk
                split at hk
                · rename_i u hu
                  cases hk
                  have hargs' := lendA_ok hI hl hargs
                  have hlen' : args'.length = args.length := by have h1 := hargs'.length; have h2 := hargs.length; omega
                  obtain ⟨c', v, hp, hr, hf⟩ := ih _ _ hcall (c.lent H) _ [] none hI.lent (hG.ext (c.lent_ext H)) (argsEnv_rep hargs' _) (hsz vs hvl) rfl (by simp [allDead]) trivial
                  refine ⟨_, v, Post.lentBack hI hp, ?_, .inr ⟨hent vs c.w, fun kind cs => ?_⟩⟩
                  · rw [toV_eq _ _ _ hu hr]; exact lift_rep _ _
                  · rw [henter]; exact hf kind cs (by simp)
                · cases hk
              · cases h
            · obtain ⟨⟨a1, H1⟩, hcall, hk⟩ := ask_run h
              simp only [Q.Runs] at hk
              split at hk
              · rename_i hok
                split at hk
                · rename_i a ha
                  cases hk
                  obtain ⟨c', v, hp, hr, hf⟩ := ih _ _ hcall c _ [] none hI hG (argsEnv_rep hargs _) (hsz vs hvl) rfl hb trivial
                  obtain ⟨c2, hw2, hp2, hr2⟩ := Post.popMut hI hb hp (popB_ok hok) ha hr
                  refine ⟨c2, v, hp2, hr2, .inr ⟨hent vs c.w, fun kind cs => ?_⟩⟩
                  rw [henter, hw2]; exact hf kind cs (by simp)
                · cases hk
              · cases hk
      · cases h
    · cases h

/-- A step of ours is the model's, if what it asks is. -/
theorem step_ok {T : Task → Res → Prop} (ih : AllT Γ T) (hTP : PureT Γ T) (hS : SumOK Γ) (hfn : ∀ f y, Γ.fn f = some y → fnOf Γ.P f = some y) (hmx : Γ.P.follows .mixedOrders = true) :
    ∀ (t : Task) (r : Res), Q.Runs T (stepQ Γ t) r → TaskOK Γ t r
  | .call _ _ _ _, _, h => call_ok ih hS hfn h
  | .run _ _ _ _ _, _, h => run_ok ih hfn hmx hTP h
  | .ops _ _ _ _ _ _ _ _, _, h => ops_ok ih h
  | .leave _ _ _ _, _, h => leave_ok ih h
  | .round _ _ _ _, _, h => round_ok ih h

/-- A pure call leaves memory as it is. -/
theorem pure_step (hSP : ∀ f base args H r, Γ.S f base args H = some r → pureCall Γ f = true → r.2 = H) {T : Task → Res → Prop} {f : FuncId} {base : Nat} {args : List AV} {H : Heap} {r : Res} (hp : pureCall Γ f = true)
    (h : Q.Runs T (stepQ Γ (.call f base args H)) r) : r.2 = H := by
  have hpol : Γ.pol f = 1 ∨ Γ.pol f = 2 := by simpa [pureCall] using hp
  simp only [stepQ] at h
  unfold callQ at h
  split at h
  · rename_i r' hr'
    simp only [Q.Runs, Option.some.injEq] at h
    subst h
    exact hSP _ _ _ _ _ hr' hp
  · split at h
    · split at h
      · split at h
        · omega
        · split at h
          · obtain ⟨r1, _, hk⟩ := ask_run h
            simp only [Q.Runs] at hk
            split at hk
            · cases hk; rfl
            · cases hk
          · split at h
            · split at h
              · obtain ⟨r1, _, hk⟩ := ask_run h
                simp only [Q.Runs] at hk
                split at hk
                · cases hk; rfl
                · cases hk
              · cases h
            · omega
      · cases h
    · cases h

theorem all_pure (hSP : ∀ f base args H r, Γ.S f base args H = some r → pureCall Γ f = true → r.2 = H) (n : Nat) : PureT Γ (fun t r => E Γ n t = some r) := by
  intro f base args H r h hp
  cases n with
  | zero => simp [E] at h
  | succ n => simp only [E] at h; exact pure_step hSP hp (Q.runs_iff.1 h)

theorem all_ok (hS : SumOK Γ) (hfn : ∀ f y, Γ.fn f = some y → fnOf Γ.P f = some y) (hmx : Γ.P.follows .mixedOrders = true) (hSP : ∀ f base args H r, Γ.S f base args H = some r → pureCall Γ f = true → r.2 = H) : ∀ n, AllOK Γ n
  | 0 => fun t r h => by simp [E] at h
  | n + 1 => fun t r h => by
    simp only [E] at h
    exact step_ok (T := fun t r => E Γ n t = some r) (all_ok hS hfn hmx hSP n) (all_pure hSP n) hS hfn hmx t r (Q.runs_iff.1 h)

end Go.Av
