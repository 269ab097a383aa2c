/- A part of the proof: a verified reading of the model by values alone, and what is shown by it. It holds without conditions. -/
import Derived.Test.YtjmgcdbefkojjaaGreatDoorAvRun
namespace Go.Av
open Go

theorem vbeq_eq {a b : Value} (h : vbeq a b = true) : a = b := by
  unfold vbeq at h
  split at h <;> simp_all

theorem fnBeq_eq {a b : Fn} (h : fnBeq a b = true) : a = b := by
  unfold fnBeq at h
  split at h <;> simp_all

mutual
theorem AV.beq_eq : (a b : AV) → AV.beq a b = true → a = b
  | .atom a, b, h => by
    cases b <;> simp [AV.beq] at h
    rw [vbeq_eq h]
  | .ptr b g o, b', h => by cases b' <;> simp [AV.beq] at h; simp [h]
  | .cptr cs, b, h => by
    cases b <;> simp [AV.beq] at h
    rw [beqL_eq _ _ h]
  | .sl cs l t, b, h => by
    cases b <;> simp [AV.beq] at h
    rw [beqL_eq _ _ h.1.1, h.1.2, h.2]
  | .slr b g o l c e, b', h => by cases b' <;> simp [AV.beq] at h; simp [h]
  | .map b, b', h => by cases b' <;> simp [AV.beq] at h; simp [h]
  | .cmap ks vs, b, h => by
    cases b <;> simp [AV.beq] at h
    rw [beqL_eq _ _ h.1, beqL_eq _ _ h.2]
  | .fn f as bs, b, h => by
    cases b <;> simp [AV.beq] at h
    rw [fnBeq_eq h.1.1, beqL_eq _ _ h.1.2, beqL_eq _ _ h.2]
  | .iface t a, b, h => by
    cases b <;> simp [AV.beq] at h
    rw [h.1, AV.beq_eq _ _ h.2]
  | .agg cs, b, h => by
    cases b <;> simp [AV.beq] at h
    rw [beqL_eq _ _ h]
  | .tuple cs, b, h => by
    cases b <;> simp [AV.beq] at h
    rw [beqL_eq _ _ h]
  | .yld b, b', h => by cases b' <;> simp [AV.beq] at h; simp [h]
  | .tptr b g t n, b', h => by cases b' <;> simp [AV.beq] at h; simp [h]
  | .slt b g t n, b', h => by cases b' <;> simp [AV.beq] at h; simp [h]
  | .bptr _ _ _, b', h => by cases b' <;> simp [AV.beq] at h
  | .bnil, b', h => by cases b' <;> simp [AV.beq] at h
theorem beqL_eq : (a b : List AV) → beqL a b = true → a = b
  | [], [], _ => rfl
  | [], _ :: _, h => by simp [beqL] at h
  | _ :: _, [], h => by simp [beqL] at h
  | a :: as, b :: bs, h => by
    simp [beqL] at h
    rw [AV.beq_eq a b h.1, beqL_eq as bs h.2]
end

theorem optV_keep {r : Option AV} {H H' : Heap} {a : AV} (h : optV r H = some (.val a H')) : H' = H ∧ ∀ H2, optV r H2 = some (.val a H2) := by
  unfold optV at h
  split at h
  · cases h; exact ⟨rfl, fun _ => rfl⟩
  · cases h

theorem optVk {r : Option AV} {H H' : Heap} {a : AV} (h : optV r H = some (.val a H')) : H' = H := (optV_keep h).1

theorem callV_no {f : AV} {args : List AV} {a : AV} {H : Heap} : aCallV f args ≠ some (.val a H) := by
  unfold aCallV
  split <;> simp

theorem invoke_no {P : Program} {r : AV} {n : String} {args : List AV} {a : AV} {H : Heap} : aInvoke P r n args ≠ some (.val a H) := by
  unfold aInvoke
  split
  · split <;> simp
  · simp

theorem len_keep {P : Program} {base : Nat} {H H' : Heap} {ts : List TypeId} {type : TypeId} {args : List AV} {a : AV} (h : optVH (aBuiltin P base H .len ts type args) = some (.val a H')) : H' = H := by
  unfold optVH at h
  split at h
  · rename_i a1 H1 hb
    cases h
    unfold aBuiltin at hb
    split at hb <;> simp_all
    · split at hb <;> simp_all
  · cases h

theorem minmax_free {P : Program} {base : Nat} {H H' : Heap} {b : Builtin} (hb : b = .min ∨ b = .max) {ts : List TypeId} {type : TypeId} {args : List AV} {a : AV} (h : optVH (aBuiltin P base H b ts type args) = some (.val a H')) :
    H' = H ∧ ∀ H2, optVH (aBuiltin P base H2 b ts type args) = some (.val a H2) := by
  rcases hb with rfl | rfl
  · cases e : toVL args with
    | none => simp [optVH, aBuiltin, e] at h
    | some vs => cases e2 : pe P (Builtin.min_ ts.toArray type vs.toArray) with
      | none => simp [optVH, aBuiltin, e, e2] at h
      | some r => simp [optVH, aBuiltin, e, e2] at h ⊢; exact ⟨h.2.symm, h.1⟩
  · cases e : toVL args with
    | none => simp [optVH, aBuiltin, e] at h
    | some vs => cases e2 : pe P (Builtin.max_ ts.toArray type vs.toArray) with
      | none => simp [optVH, aBuiltin, e, e2] at h
      | some r => simp [optVH, aBuiltin, e, e2] at h ⊢; exact ⟨h.2.symm, h.1⟩

theorem convert_keep {P : Program} {H H' : Heap} {s d : TypeId} {a r : AV} (hk : (match P.underlying s, P.underlying d with
    | some .string, some (.slice _) => 2
    | _, _ => 1) = 1) (h : optVH (aConvert P H s d a) = some (.val r H')) : H' = H := by
  unfold optVH at h
  split at h
  · rename_i a1 H1 hb
    cases h
    unfold aConvert at hb
    split at hb
    · simp_all
    all_goals (repeat' split at hb) <;> first | (cases hb; done) | (cases hb; rfl) | (simp_all; done)
  · cases h

theorem aStep_keep {Γ : Ctx} {base : Nat} {env : Env} {o : Oper} {H H' : Heap} {a : AV} (hk : opKind Γ.P o.op = 0 ∨ opKind Γ.P o.op = 1) (h : aStep Γ base env o H = some (.val a H')) : H' = H := by
  unfold aStep at h
  cases hop : o.op <;> simp only [hop, opKind] at h hk <;> try (first | (exact optVk h) | (simp at hk; done))
  case call c =>
    obtain ⟨callee, args, argTypes⟩ := c
    cases callee with
    | builtin b =>
      cases b <;> simp [opKind] at hk <;> simp only at h <;> split at h <;> first | (exact len_keep h) | (exact (minmax_free (.inl rfl) h).1) | (exact (minmax_free (.inr rfl) h).1) | cases h
    | _ => simp at hk
  case convert s d x =>
    split at h
    · refine convert_keep (P := Γ.P) ?_ h
      rcases hk with hk | hk
      · split at hk <;> cases hk
      · exact hk
    · cases h
  all_goals (repeat' split at h) <;> first | (cases h; done) | (exact optVk h) | (cases h; rfl)

theorem aStep_free {Γ : Ctx} {base : Nat} {env : Env} {o : Oper} {H H' : Heap} {a : AV} (hk : opKind Γ.P o.op = 0) (h : aStep Γ base env o H = some (.val a H')) : ∀ H2, aStep Γ base env o H2 = some (.val a H2) := by
  intro H2
  unfold aStep at h ⊢
  cases hop : o.op <;> simp only [hop, opKind] at h hk ⊢ <;> try (first | (exact (optV_keep h).2 H2) | (simp at hk; done))
  case call c =>
    obtain ⟨callee, args, argTypes⟩ := c
    cases callee with
    | builtin b =>
      cases b <;> simp [opKind] at hk <;> simp only at h ⊢ <;> cases e : aevalL Γ.G env args.toList <;> simp only [e] at h ⊢ <;> first | (exact (minmax_free (.inl rfl) h).2 H2) | (exact (minmax_free (.inr rfl) h).2 H2) | cases h
    | _ => simp at hk
  case convert s d x => split at hk <;> cases hk
  all_goals (repeat' split at h) <;> first | (cases h; done) | skip
  all_goals first | (exact (optV_keep h).2 H2) | (cases h; simp_all; done) | (simp_all [optV]; done)

theorem optV_nocall {r : Option AV} {H : Heap} {f : FuncId} {args : List AV} : optV r H ≠ some (.call f args) := by
  unfold optV; split <;> simp
theorem optVH_nocall {r : Option (AV × Heap)} {f : FuncId} {args : List AV} : optVH r ≠ some (.call f args) := by
  unfold optVH; split <;> simp
theorem optH_nocall {r : Option Heap} {f : FuncId} {args : List AV} : optH r ≠ some (.call f args) := by
  unfold optH; split <;> simp

theorem aStep_call_any {Γ : Ctx} {base : Nat} {env : Env} {o : Oper} {H : Heap} {f : FuncId} {args : List AV} (h : aStep Γ base env o H = some (.call f args)) : ∀ H2, aStep Γ base env o H2 = some (.call f args) := by
  intro H2
  by_cases hc : ∃ c, o.op = .call c
  · obtain ⟨c, hop⟩ := hc
    unfold aStep at h ⊢
    simp only [hop] at h ⊢
    cases e : aevalL Γ.G env c.args.toList with
    | none => simp [e] at h
    | some as =>
      simp only [e] at h ⊢
      cases e2 : c.callee with
      | builtin b => simp only [e2] at h; exact (optVH_nocall h).elim
      | value f' => simp only [e2] at h ⊢; exact h
      | invoke r n => simp only [e2] at h ⊢; exact h
  · exfalso
    have hno : ∀ c, o.op ≠ .call c := fun c h => hc ⟨c, h⟩
    clear hc
    unfold aStep at h
    generalize o.op = op at h hno
    cases op with
    | call c => exact hno _ rfl
    | next it b =>
      cases b <;> simp only at h
      · cases h
      · split at h
        · exact optVH_nocall h
        · cases h
    | makeMap t r =>
      cases r <;> simp only at h <;> cases h
    | _ =>
      simp only at h
      first
        | exact optV_nocall h
        | ((repeat' split at h) <;> first
          | (exact optV_nocall h)
          | (exact optVH_nocall h)
          | (exact optH_nocall h)
          | (cases h; done))

end Go.Av
