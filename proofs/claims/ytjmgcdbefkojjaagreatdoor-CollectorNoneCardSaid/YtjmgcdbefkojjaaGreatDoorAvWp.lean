/- A part of the proof: a verified reading of the model by values alone, and what is shown by it. It holds without conditions. -/
import Derived.Test.YtjmgcdbefkojjaaGreatDoorAvCalm
import Derived.KernelRfl
namespace Go.Av
open Go

/-- A task comes to a result, in the model too; a pure call leaves memory alone. -/
def OK (Γ : Par) (t : Task) (r : Res) : Prop := TaskOK Γ t r ∧ ∀ f base args H, t = .call f base args H → pureCall Γ f = true → r.2 = H

structure Fit (Γ : Par) : Prop where
  sum : SumOK Γ
  fn : ∀ f y, Γ.fn f = some y → fnOf Γ.P f = some y
  mx : Γ.P.follows .mixedOrders = true
  pu : ∀ f base args H r, Γ.S f base args H = some r → pureCall Γ f = true → r.2 = H
  kp : ∀ f r, Γ.keep f r = none

theorem OK.step {Γ : Par} (hΓ : Fit Γ) {t : Task} {r : Res} (h : Q.Runs (OK Γ) (stepQ Γ t) r) : OK Γ t r :=
  have hp : PureT Γ (OK Γ) := fun _ _ _ _ _ h hp => h.2 _ _ _ _ rfl hp
  ⟨step_ok (T := OK Γ) (fun _ _ h => h.1) hp hΓ.sum hΓ.fn hΓ.mx t r h, fun f base args H e hpc => by subst e; exact pure_step hΓ.pu hpc h⟩

/-- A task comes to a result of which something holds. -/
def Wp (Γ : Par) (t : Task) (P : Res → Prop) : Prop := ∃ r, OK Γ t r ∧ P r

theorem Wp.mono {Γ : Par} {t : Task} {P Q : Res → Prop} (h : Wp Γ t P) (hPQ : ∀ r, P r → Q r) : Wp Γ t Q := let ⟨r, h1, h2⟩ := h; ⟨r, h1, hPQ r h2⟩

/-- The same for a tree of questions. -/
def Wq (Γ : Par) (q : Q) (P : Res → Prop) : Prop := ∃ r, Q.Runs (OK Γ) q r ∧ P r

theorem Wp.step {Γ : Par} (hΓ : Fit Γ) {t : Task} {P : Res → Prop} (h : Wq Γ (stepQ Γ t) P) : Wp Γ t P := let ⟨r, h1, h2⟩ := h; ⟨r, OK.step hΓ h1, h2⟩

theorem Wq.ask {Γ : Par} {t : Task} {k : Res → Q} {P : Res → Prop} (h : ∃ r1, OK Γ t r1 ∧ Wq Γ (k r1) P) : Wq Γ (.ask t k) P := let ⟨r1, h1, r, h2, h3⟩ := h; ⟨r, ⟨r1, h1, h2⟩, h3⟩
theorem Wq.go {Γ : Par} {t : Task} {P : Res → Prop} (h : Wp Γ t P) : Wq Γ (.go t) P := h
theorem Wq.ret {Γ : Par} {r : Res} {P : Res → Prop} (h : P r) : Wq Γ (.ret (some r)) P := ⟨r, rfl, h⟩

/-- A call, and what is then. -/
def WCall (Γ : Par) (t : Task) (K : Res → Prop) : Prop := ∃ r1, OK Γ t r1 ∧ K r1
theorem WCall.of {Γ : Par} {t : Task} {K : Res → Prop} {r : Res} (h : OK Γ t r) (hK : K r) : WCall Γ t K := ⟨r, h, hK⟩

def WCont (F : Env → List ADef → Heap → Prop) (nt : Nat) (env : Env) (dst : Option Tmp) (ds : List ADef) (r : Res) : Prop :=
  match eput nt env dst r.1 with
  | some env' => F env' ds r.2
  | none => False

/-- The operations of a region, one by one. -/
def WOps (Γ : Par) (G : Rc → (Res → Prop) → List Item → Env → List ADef → Heap → Prop) (dr : Bool) (x : Rc) (all : Array Oper) (k : List Item) (P : Res → Prop) : List Oper → Env → List ADef → Heap → Prop
  | [], env, ds, H => G x P k env ds H
  | o :: l, env, ds, H => match guardOf all env o with
    | none => False
    | some false => match eput x.nt env o.dst (.atom undef) with
      | some env' => WOps Γ G dr x all k P l env' ds H
      | none => False
    | some true => match aStep Γ.toCtx x.base env o H with
      | some (.val a H') => match eput x.nt env o.dst a with
        | some env' => WOps Γ G dr x all k P l env' ds H'
        | none => False
      | some (.call f args) => WCall Γ (.call f x.base args H) (WCont (WOps Γ G dr x all k P l) x.nt env o.dst ds)
      | some (.round b args) => WCall Γ (.round x.base b args H) (WCont (WOps Γ G dr x all k P l) x.nt env o.dst ds)
      | some (.dfr f args) => dr = false ∧ x.round = none ∧ match eput x.nt env o.dst (.atom undef) with
        | some env' => WOps Γ G dr x all k P l env' (.call f args :: ds) H
        | none => False
      | none => False

/-- A frame's end. -/
def WLeft (F : Heap → Prop) (r : Res) : Prop := F r.2
def WLeave (Γ : Par) (x : Rc) (P : Res → Prop) : List ADef → Env → Heap → Prop
  | [], env, H => match Γ.P.funcs[x.fid]? with
    | some fn => match aResults Γ.P env H fn.results.toList with
      | some as => P (oneOf as, H)
      | none => False
    | none => False
  | .mark b :: ds, env, H => hget H b matches some .dmark ∧ x.base ≤ b ∧ WLeave Γ x P ds env (hset H b .dead)
  | .call f args :: ds, env, H => WCall Γ (.call f x.base args H) (WLeft (WLeave Γ x P ds env))

def WEnd (Γ : Par) (x : Rc) (P : Res → Prop) (jump : Option Code) (env : Env) (ds : List ADef) (H : Heap) : Prop :=
  match x.round with
  | none => WLeave Γ x P ds env H
  | some l => match endRoundA x l jump ds H with
    | some r => P r
    | none => False

def WRange (G : Rc → (Res → Prop) → List Item → Env → List ADef → Heap → Prop) (x : Rc) (P : Res → Prop) (k : List Item) (env : Env) (ds : List ADef) (b : Nat) (r : Res) : Prop :=
  match hget r.2 b with
  | some (.loop st p fn nt e ps as body) => st ≠ .busy ∧ G x P ((p.map Item.code).toList ++ k) env ds (hset r.2 b (.loop .exhausted p fn nt e ps as body))
  | _ => False

/-- What is to be shown, that a piece of code comes to something of which P holds. Loops' heads are stops. -/
def W (Γ : Par) : Nat → Rc → (Res → Prop) → List Item → Env → List ADef → Heap → Prop
  | 0, x, P, todo, env, ds, H => Wp Γ (.run x todo env ds H) P
  | n + 1, x, P, todo, env, ds, H => match todo with
    | [] => WEnd Γ x P none env ds H
    | .code .ret :: _ => WEnd Γ x P (some .ret) env ds H
    | .code .skip :: k => W Γ n x P k env ds H
    | .code (.label _) :: k => W Γ n x P k env ds H
    | .inBlock _ :: k => W Γ n x P k env ds H
    | .inScope _ :: k => W Γ n x P k env ds H
    | .code (.seq a b) :: k => W Γ n x P (.code a :: .code b :: k) env ds H
    | .code (.cond c a b) :: k => match aeval Γ.G env c with
      | some (.atom (.bool t)) => (t = true → W Γ n x P (.code a :: k) env ds H) ∧ (t = false → W Γ n x P (.code b :: k) env ds H)
      | _ => False
    | .code (.block id b) :: k => W Γ n x P (.code b :: .inBlock id :: k) env ds H
    | .code (.loop b) :: k => Wp Γ (.run x (.code b :: .inLoop b :: k) env ds H) P
    | .inLoop b :: k => Wp Γ (.run x (.code b :: .inLoop b :: k) env ds H) P
    | .code (.scope b) :: k => W Γ n x P (.code b :: .inScope b :: k) env ds H
    | .code (.exit id) :: k => match exitTo id k with
      | some k' => W Γ n x P k' env ds H
      | none => match x.round with
        | none => False
        | some l => match endRoundA x l (some (.exit id)) ds H with
          | some r => P r
          | none => False
    | .code (.goto l) :: k => match gotoIn l k with
      | some k' => W Γ n x P k' env ds H
      | none => False
    | .code (.region id ops true) :: k => Wp Γ (.run x (.code (.region id ops true) :: k) env ds H) P
    | .code (.region _ ops false) :: k => WOps Γ (W Γ n) false x ops k P ops.toList env ds H
    | .beginRound :: k => match x.round with
      | some l => x.base ≤ l ∧ match hget H l with
        | some (.loop .ready p fn nt e ps as body) => W Γ n x P k env ds (hset H l (.loop .busy p fn nt e ps as body))
        | _ => False
      | none => False
    | .code (.rangeFunc f ps as body) :: k => match aeval Γ.G env f with
      | some (.fn (.func g) first cap) => (Γ.fn g).isSome = true ∧ match x.round with
        | none => WCall Γ (.call g x.base (first ++ [.yld (H.length + 1)] ++ cap) (.loop .ready none x.fid x.nt env ps as body :: .dmark :: H)) (WRange (W Γ n) x P k env (.mark H.length :: ds) (H.length + 1))
        | some l0 => isLoop (hget H l0) = true ∧ WCall Γ (.call g x.base (first ++ [.yld H.length] ++ cap) (.loop .ready none x.fid x.nt env ps as body :: H)) (WRange (W Γ n) x P k env ds H.length)
      | _ => False
    | _ => Wp Γ (.run x todo env ds H) P

section
variable {Γ : Par} {G : Rc → (Res → Prop) → List Item → Env → List ADef → Heap → Prop} {x : Rc} {P : Res → Prop}

theorem WOps.sound (hΓ : Fit Γ) {all : Array Oper} {k : List Item} (hG : ∀ env ds H, G x P k env ds H → Wp Γ (.run x k env ds H) P) : ∀ (l : List Oper) (i : Nat) (env : Env) (ds : List ADef) (H : Heap), all.toList.drop i = l →
    WOps Γ G false x all k P l env ds H → Wp Γ (.ops x all none (List.range' i l.length) k env ds H) P
  | [], i, env, ds, H, _, h => Wp.step hΓ (hG _ _ _ h)
  | o :: l, i, env, ds, H, hd, h => by
    have hi : all[i]? = some o := by
      have : (all.toList.drop i)[0]? = some o := by rw [hd]; rfl
      simpa using this
    have hl : all.toList.drop (i + 1) = l := by
      have : (all.toList.drop i).drop 1 = l := by rw [hd]; rfl
      simpa [List.drop_drop] using this
    have ih := fun env ds H => WOps.sound hΓ hG l (i + 1) env ds H hl
    refine Wp.step hΓ ?_
    unfold WOps at h
    simp only [List.length_cons, List.range'_succ, stepQ, opsQ, hi]
    split at h
    · exact h.elim
    · rename_i hg
      split at h
      · rename_i env' he; simp only [hg, he]; exact Wq.go (ih _ _ _ h)
      · exact h.elim
    · rename_i hg
      simp only [hg]
      split at h
      · rename_i a H' hs
        split at h
        · rename_i env' he; simp only [hs, he]; exact Wq.go (ih _ _ _ h)
        · exact h.elim
      · rename_i f args hs
        obtain ⟨r1, h1, h2⟩ := h
        simp only [hs]
        refine Wq.ask ⟨r1, h1, ?_⟩
        unfold WCont at h2
        split at h2
        · rename_i env' he; simp only [he]; exact Wq.go (ih _ _ _ h2)
        · exact h2.elim
      · rename_i f args hs
        obtain ⟨r1, h1, h2⟩ := h
        simp only [hs]
        refine Wq.ask ⟨r1, h1, ?_⟩
        unfold WCont at h2
        split at h2
        · rename_i env' he; simp only [he]; exact Wq.go (ih _ _ _ h2)
        · exact h2.elim
      · rename_i f args hs
        obtain ⟨_, hr, h2⟩ := h
        split at h2
        · rename_i env' he; simp only [hs, hr, he]; exact Wq.go (ih _ _ _ h2)
        · exact h2.elim
      · exact h.elim

theorem WOps.soundD {all : Array Oper} {k : List Item} (hG : ∀ env ds H, G x P k env ds H → Wp Γ (.run x k env ds H) P) : ∀ (l : List Oper) (i : Nat) (env : Env) (ds : List ADef) (H : Heap), all.toList.drop i = l →
    WOps Γ G true x all k P l env ds H → Wq Γ (seqQ Γ x all none k ds (List.range' i l.length) env H) P
  | [], i, env, ds, H, _, h => Wq.go (hG _ _ _ h)
  | o :: l, i, env, ds, H, hd, h => by
    have hi : all[i]? = some o := by
      have : (all.toList.drop i)[0]? = some o := by rw [hd]; rfl
      simpa using this
    have hl : all.toList.drop (i + 1) = l := by
      have : (all.toList.drop i).drop 1 = l := by rw [hd]; rfl
      simpa [List.drop_drop] using this
    have ih := fun env ds H => WOps.soundD hG l (i + 1) env ds H hl
    unfold WOps at h
    simp only [List.length_cons, List.range'_succ, seqQ, hi]
    split at h
    · exact h.elim
    · rename_i hg
      split at h
      · rename_i env' he; simp only [hg, he]; exact ih _ _ _ h
      · exact h.elim
    · rename_i hg
      simp only [hg]
      split at h
      · rename_i a H' hs
        split at h
        · rename_i env' he; simp only [hs, he]; exact ih _ _ _ h
        · exact h.elim
      · rename_i f args hs
        obtain ⟨r1, h1, h2⟩ := h
        simp only [hs]
        refine Wq.ask ⟨r1, h1, ?_⟩
        unfold WCont at h2
        split at h2
        · rename_i env' he; simp only [he]; exact ih _ _ _ h2
        · exact h2.elim
      · rename_i f args hs
        obtain ⟨r1, h1, h2⟩ := h
        simp only [hs]
        refine Wq.ask ⟨r1, h1, ?_⟩
        unfold WCont at h2
        split at h2
        · rename_i env' he; simp only [he]; exact ih _ _ _ h2
        · exact h2.elim
      · obtain ⟨hb, _⟩ := h; cases hb
      · exact h.elim

theorem WLeave.sound (hΓ : Fit Γ) : ∀ (ds : List ADef) (env : Env) (H : Heap), WLeave Γ x P ds env H → Wp Γ (.leave x ds env H) P
  | [], env, H, h => by
    refine Wp.step hΓ ?_
    unfold WLeave at h
    simp only [stepQ, leaveQ]
    split at h
    · rename_i fn hf
      split at h
      · rename_i as ha; simp only [hf, ha]; exact Wq.ret h
      · exact h.elim
    · exact h.elim
  | .mark b :: ds, env, H, h => by
    refine Wp.step hΓ ?_
    unfold WLeave at h
    obtain ⟨h1, h2, h3⟩ := h
    simp only [stepQ, leaveQ]
    split at h1
    · rename_i hb; simp only [hb, h2, if_true]; exact Wq.go (WLeave.sound hΓ ds env _ h3)
    · cases h1
  | .call f args :: ds, env, H, h => by
    refine Wp.step hΓ ?_
    unfold WLeave at h
    obtain ⟨r1, h1, h2⟩ := h
    exact Wq.ask ⟨r1, h1, Wq.go (WLeave.sound hΓ ds env _ h2)⟩

theorem WEnd.sound (hΓ : Fit Γ) {jump : Option Code} {env : Env} {ds : List ADef} {H : Heap} (h : WEnd Γ x P jump env ds H) {q : Q} (hq : q = match x.round with
    | none => goto (.leave x ds env H)
    | some l => .ret (endRoundA x l jump ds H)) : Wq Γ q P := by
  subst hq
  unfold WEnd at h
  cases hr : x.round with
  | none => rw [hr] at h; exact Wq.go (WLeave.sound hΓ _ _ _ h)
  | some l =>
    rw [hr] at h
    simp only at h ⊢
    split at h
    · rename_i r he; rw [he]; exact Wq.ret h
    · exact h.elim

theorem WRange.sound {k : List Item} {env : Env} {ds : List ADef} {b : Nat} (hG : ∀ todo H, G x P todo env ds H → Wp Γ (.run x todo env ds H) P) {r : Res} (h : WRange G x P k env ds b r) {q : Q} (hq : q = match hget r.2 b with
    | some (.loop st p fn nt e ps as body) => if st = .busy then .ret none else goto (.run x ((p.map Item.code).toList ++ k) env ds (hset r.2 b (.loop .exhausted p fn nt e ps as body)))
    | _ => .ret none) : Wq Γ q P := by
  subst hq
  unfold WRange at h
  split at h
  · rename_i st p fn nt e ps as body ho
    simp only [ho, if_neg h.1]
    exact Wq.go (hG _ _ h.2)
  · exact h.elim
end

theorem W.sound {Γ : Par} (hΓ : Fit Γ) : ∀ (n : Nat) (x : Rc) (P : Res → Prop) (todo : List Item) (env : Env) (ds : List ADef) (H : Heap), W Γ n x P todo env ds H → Wp Γ (.run x todo env ds H) P
  | 0, _, _, _, _, _, _, h => h
  | n + 1, x, P, todo, env, ds, H, h => by
    have ih := fun todo env ds H => W.sound hΓ n x P todo env ds H
    unfold W at h
    split at h
    · exact Wp.step hΓ (WEnd.sound hΓ h rfl)
    · exact Wp.step hΓ (WEnd.sound hΓ h rfl)
    · exact Wp.step hΓ (Wq.go (ih _ _ _ _ h))
    · exact Wp.step hΓ (Wq.go (ih _ _ _ _ h))
    · exact Wp.step hΓ (Wq.go (ih _ _ _ _ h))
    · exact Wp.step hΓ (Wq.go (ih _ _ _ _ h))
    · exact Wp.step hΓ (Wq.go (ih _ _ _ _ h))
    · split at h
      · rename_i t ht
        refine Wp.step hΓ ?_
        simp only [stepQ, runQ, ht]
        cases t with
        | true => exact Wq.go (ih _ _ _ _ (h.1 rfl))
        | false => exact Wq.go (ih _ _ _ _ (h.2 rfl))
      · exact h.elim
    · exact Wp.step hΓ (Wq.go (ih _ _ _ _ h))
    · exact Wp.step hΓ (Wq.go h)
    · exact Wp.step hΓ (Wq.go h)
    · exact Wp.step hΓ (Wq.go (ih _ _ _ _ h))
    · split at h
      · rename_i k' hk
        refine Wp.step hΓ ?_
        simp only [stepQ, runQ, hk]
        exact Wq.go (ih _ _ _ _ h)
      · rename_i hk
        split at h
        · exact h.elim
        · rename_i l hl
          split at h
          · rename_i r he
            refine Wp.step hΓ ?_
            simp only [stepQ, runQ, hk, hl, he]
            exact Wq.ret h
          · exact h.elim
    · split at h
      · rename_i k' hk
        refine Wp.step hΓ ?_
        simp only [stepQ, runQ, hk]
        exact Wq.go (ih _ _ _ _ h)
      · exact h.elim
    · exact h
    · rename_i id ops k
      refine Wp.step hΓ ?_
      simp only [stepQ, runQ, hΓ.kp]
      have := WOps.sound hΓ (fun env ds H h => ih _ _ _ _ h) ops.toList 0 env ds H rfl h
      rw [List.range_eq_range']
      exact Wq.go (by simpa using this)
    · split at h
      · rename_i l hl
        obtain ⟨hb, h⟩ := h
        split at h
        · rename_i ho
          refine Wp.step hΓ ?_
          simp only [stepQ, runQ, hl, hb, if_true, ho]
          exact Wq.go (ih _ _ _ _ h)
        · exact h.elim
      · exact h.elim
    · split at h
      · rename_i g first cap hf
        obtain ⟨hg, h⟩ := h
        refine Wp.step hΓ ?_
        simp only [stepQ, runQ, hf, hg]
        split at h
        · rename_i hr
          obtain ⟨r1, h1, h2⟩ := h
          simp only [hr]
          exact Wq.ask ⟨r1, h1, WRange.sound (fun _ _ h => ih _ _ _ _ h) h2 rfl⟩
        · rename_i l0 hr
          obtain ⟨hi, r1, h1, h2⟩ := h
          simp only [hr, hi]
          exact Wq.ask ⟨r1, h1, WRange.sound (fun _ _ h => ih _ _ _ _ h) h2 rfl⟩
      · exact h.elim
    · exact h

/-- A drawn region in which the order does not matter. -/
theorem Fit.calm {Γ : Par} (hΓ : Fit Γ) {n : Nat} {x : Rc} {k : List Item} {P : Res → Prop} {ds : List ADef} {env : Env} {H : Heap} {id : Nat} {ops : List Oper} (hc : calm Γ ops.toArray = true)
    (h : WOps Γ (W Γ n) true x ops.toArray k P ops env ds H) : Wp Γ (.run x (.code (.region id ops.toArray true) :: k) env ds H) P := by
  refine Wp.step hΓ ?_
  obtain ⟨r, h1, h2⟩ := WOps.soundD (fun env ds H h => W.sound hΓ _ _ _ _ _ _ _ h) ops 0 env ds H rfl h
  refine ⟨r, ?_, h2⟩
  simp only [stepQ, runQ, hΓ.kp]
  refine calm_draw (fun _ _ _ _ _ h hp => h.2 _ _ _ _ rfl hp) hc ?_
  rw [List.range_eq_range']
  simpa using h1

end Go.Av
