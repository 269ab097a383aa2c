/- A part of the proof: a verified reading of the model by values alone, and what is shown by it. It holds without conditions. -/
import Derived.Test.YtjmgcdbefkojjaaGreatDoorAvLaw
namespace Go.Av
open Go

theorem Q.run_mono {E1 E2 : Task → Option Res} (h : ∀ t r, E1 t = some r → E2 t = some r) : ∀ (q : Q) (r : Res), q.run E1 = some r → q.run E2 = some r
  | .ret _, _, hr => hr
  | .go t, r, hr => h t r hr
  | .ask t k, r, hr => by
    simp only [Q.run] at hr ⊢
    cases e : E1 t with
    | none => rw [e] at hr; cases hr
    | some r1 =>
      rw [e] at hr
      rw [h t r1 e]
      exact Q.run_mono h (k r1) r hr

theorem E_succ {Γ : Par} : ∀ (n : Nat) (t : Task) (r : Res), E Γ n t = some r → E Γ (n + 1) t = some r
  | 0, t, r, h => by simp [E] at h
  | n + 1, t, r, h => by
    simp only [E] at h ⊢
    exact Q.run_mono (E_succ n) _ _ h

theorem E_mono {Γ : Par} {n m : Nat} (h : n ≤ m) {t : Task} {r : Res} (hr : E Γ n t = some r) : E Γ m t = some r := by
  induction h with
  | refl => exact hr
  | step _ ih => exact E_succ _ _ _ ih

open Classical in
/-- What a task comes to, however long it takes. -/
noncomputable def V (Γ : Par) (t : Task) : Option Res := if h : ∃ r, ∃ n, E Γ n t = some r then some h.choose else none

theorem V_iff {Γ : Par} {t : Task} {r : Res} : V Γ t = some r ↔ ∃ n, E Γ n t = some r := by
  unfold V
  constructor
  · intro h
    split at h
    · rename_i hx
      cases h
      exact hx.choose_spec
    · cases h
  · rintro ⟨n, hn⟩
    have hx : ∃ r, ∃ n, E Γ n t = some r := ⟨r, n, hn⟩
    rw [dif_pos hx]
    obtain ⟨m, hm⟩ := hx.choose_spec
    have h1 := E_mono (Nat.le_max_left n m) hn
    have h2 := E_mono (Nat.le_max_right n m) hm
    rw [h1] at h2
    exact h2.symm

theorem Q.run_V {Γ : Par} : ∀ (q : Q) (r : Res), q.run (V Γ) = some r ↔ ∃ n, q.run (E Γ n) = some r
  | .ret x, r => ⟨fun h => ⟨0, h⟩, fun ⟨_, h⟩ => h⟩
  | .go t, r => V_iff
  | .ask t k, r => by
    simp only [Q.run]
    constructor
    · intro h
      cases e : V Γ t with
      | none => rw [e] at h; cases h
      | some r1 =>
        rw [e] at h
        obtain ⟨n, hn⟩ := V_iff.1 e
        obtain ⟨m, hm⟩ := (Q.run_V (k r1) r).1 h
        refine ⟨max n m, ?_⟩
        rw [E_mono (Nat.le_max_left n m) hn]
        exact Q.run_mono (fun t r hr => E_mono (Nat.le_max_right n m) hr) _ _ hm
    · rintro ⟨n, h⟩
      cases e : E Γ n t with
      | none => rw [e] at h; cases h
      | some r1 =>
        rw [e] at h
        rw [V_iff.2 ⟨n, e⟩]
        exact (Q.run_V (k r1) r).2 ⟨n, h⟩

theorem V_unfold (Γ : Par) (t : Task) : V Γ t = (stepQ Γ t).run (V Γ) := by
  have key : ∀ r, V Γ t = some r ↔ (stepQ Γ t).run (V Γ) = some r := by
    intro r
    rw [V_iff, Q.run_V]
    constructor
    · rintro ⟨n, h⟩
      cases n with
      | zero => simp [E] at h
      | succ n => exact ⟨n, by simpa only [E] using h⟩
    · rintro ⟨n, h⟩
      exact ⟨n + 1, by simpa only [E] using h⟩
  cases e : V Γ t with
  | some r => exact ((key r).1 e).symm
  | none =>
    cases e2 : (stepQ Γ t).run (V Γ) with
    | none => rfl
    | some r => rw [(key r).2 e2] at e; cases e

section
variable {Γ : Par} {x : Rc} {k : List Item} {env : Env} {ds : List ADef} {H : Heap}

theorem V_end (h : x.round = none) : V Γ (.run x [] env ds H) = V Γ (.leave x ds env H) := by rw [V_unfold]; simp [stepQ, runQ, h, Q.run]
theorem V_ret (h : x.round = none) : V Γ (.run x (.code .ret :: k) env ds H) = V Γ (.leave x ds env H) := by rw [V_unfold]; simp [stepQ, runQ, h, Q.run]
theorem V_skip : V Γ (.run x (.code .skip :: k) env ds H) = V Γ (.run x k env ds H) := by rw [V_unfold]; rfl
theorem V_label {l : Nat} : V Γ (.run x (.code (.label l) :: k) env ds H) = V Γ (.run x k env ds H) := by rw [V_unfold]; rfl
theorem V_inBlock {l : Nat} : V Γ (.run x (.inBlock l :: k) env ds H) = V Γ (.run x k env ds H) := by rw [V_unfold]; rfl
theorem V_inScope {b : Code} : V Γ (.run x (.inScope b :: k) env ds H) = V Γ (.run x k env ds H) := by rw [V_unfold]; rfl
theorem V_seq {a b : Code} : V Γ (.run x (.code (.seq a b) :: k) env ds H) = V Γ (.run x (.code a :: .code b :: k) env ds H) := by rw [V_unfold]; rfl
theorem V_cond {c : Operand} {a b : Code} {t : Bool} (h : aeval Γ.G env c = some (.atom (.bool t))) : V Γ (.run x (.code (.cond c a b) :: k) env ds H) = V Γ (.run x (.code (if t then a else b) :: k) env ds H) := by
  rw [V_unfold]; simp [stepQ, runQ, h, Q.run]
theorem V_block {id : Nat} {b : Code} : V Γ (.run x (.code (.block id b) :: k) env ds H) = V Γ (.run x (.code b :: .inBlock id :: k) env ds H) := by rw [V_unfold]; rfl
theorem V_loop {b : Code} : V Γ (.run x (.code (.loop b) :: k) env ds H) = V Γ (.run x (.code b :: .inLoop b :: k) env ds H) := by rw [V_unfold]; rfl
theorem V_inLoop {b : Code} : V Γ (.run x (.inLoop b :: k) env ds H) = V Γ (.run x (.code b :: .inLoop b :: k) env ds H) := by rw [V_unfold]; rfl
theorem V_scope {b : Code} : V Γ (.run x (.code (.scope b) :: k) env ds H) = V Γ (.run x (.code b :: .inScope b :: k) env ds H) := by rw [V_unfold]; rfl
theorem V_region {id : Nat} {ops : Array Oper} : V Γ (.run x (.code (.region id ops false) :: k) env ds H) = V Γ (.ops x ops (Γ.keep x.fid id) (List.range ops.size) k env ds H) := by rw [V_unfold]; rfl
theorem V_ops_nil {all : Array Oper} {kp : Option (List Tmp)} : V Γ (.ops x all kp [] k env ds H) = V Γ (.run x k (kept kp env) ds H) := by rw [V_unfold]; rfl
theorem V_ops_val {all : Array Oper} {kp : Option (List Tmp)} {i : Nat} {rest : List Nat} {o : Oper} {a : AV} {H' : Heap} {env' : Env} (ho : all[i]? = some o) (hg : guardOf all env o = some true) (hs : aStep Γ.toCtx x.base env o H = some (.val a H'))
    (he : eput x.nt env o.dst a = some env') : V Γ (.ops x all kp (i :: rest) k env ds H) = V Γ (.ops x all kp rest k env' ds H') := by
  rw [V_unfold]; simp [stepQ, opsQ, ho, hg, hs, he, Q.run]
theorem V_ops_skip {all : Array Oper} {kp : Option (List Tmp)} {i : Nat} {rest : List Nat} {o : Oper} {env' : Env} (ho : all[i]? = some o) (hg : guardOf all env o = some false)
    (he : eput x.nt env o.dst (.atom undef) = some env') : V Γ (.ops x all kp (i :: rest) k env ds H) = V Γ (.ops x all kp rest k env' ds H) := by
  rw [V_unfold]; simp [stepQ, opsQ, ho, hg, he, Q.run]
theorem V_ops_call {all : Array Oper} {kp : Option (List Tmp)} {i : Nat} {rest : List Nat} {o : Oper} {f : FuncId} {args : List AV} {r : Res} {env' : Env} (ho : all[i]? = some o) (hg : guardOf all env o = some true)
    (hs : aStep Γ.toCtx x.base env o H = some (.call f args)) (hc : V Γ (.call f x.base args H) = some r) (he : eput x.nt env o.dst r.1 = some env') : V Γ (.ops x all kp (i :: rest) k env ds H) = V Γ (.ops x all kp rest k env' ds r.2) := by
  rw [V_unfold]; simp [stepQ, opsQ, ho, hg, hs, hc, he, Q.run]
theorem V_leave {fn : Func} {as : List AV} (hf : Γ.P.funcs[x.fid]? = some fn) (hr : aResults Γ.P env H fn.results.toList = some as) : V Γ (.leave x [] env H) = some (oneOf as, H) := by
  rw [V_unfold]; simp [stepQ, leaveQ, hf, hr, Q.run]
theorem V_call0 {f : FuncId} {base : Nat} {args : List AV} {fn : Func} {c : Code} (hS : Γ.S f base args H = none) (hf : Γ.fn f = some (fn, c)) (hl : args.length ≤ fn.ntmps ∧ base ≤ H.length) (hp : Γ.pol f = 0) :
    V Γ (.call f base args H) = V Γ (.run ⟨f, fn.ntmps, base, none⟩ [.code c] (argsEnv 0 args) [] H) := by
  rw [V_unfold]; simp [stepQ, callQ, hS, hf, hl, hp, Q.run]
theorem V_call1 {f : FuncId} {base : Nat} {args : List AV} {fn : Func} {c : Code} {r : Res} {a : AV} (hS : Γ.S f base args H = none) (hf : Γ.fn f = some (fn, c)) (hl : args.length ≤ fn.ntmps ∧ base ≤ H.length) (hp : Γ.pol f = 1)
    (hr : V Γ (.run ⟨f, fn.ntmps, H.length, none⟩ [.code c] (argsEnv 0 args) [] H) = some r) (hz : frz H.length r.2 r.1 = some a) : V Γ (.call f base args H) = some (a, H) := by
  rw [V_unfold]; simp [stepQ, callQ, hS, hf, hl, hp, Q.run, hr, hz]
end

theorem V_ok {Γ : Par} (hS : SumOK Γ) (hfn : ∀ f y, Γ.fn f = some y → fnOf Γ.P f = some y) (hmx : Γ.P.follows .mixedOrders = true)
    (hSP : ∀ f base args H r, Γ.S f base args H = some r → pureCall Γ f = true → r.2 = H) {t : Task} {r : Res} (h : V Γ t = some r) : TaskOK Γ t r := by
  obtain ⟨n, hn⟩ := V_iff.1 h
  exact all_ok hS hfn hmx hSP n t r hn

end Go.Av
