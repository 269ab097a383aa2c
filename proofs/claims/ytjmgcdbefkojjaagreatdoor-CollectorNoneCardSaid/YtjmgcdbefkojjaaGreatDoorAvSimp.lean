/- A part of the proof: a verified reading of the model by values alone, and what is shown by it. It holds without conditions. -/
import Derived.Test.YtjmgcdbefkojjaaGreatDoorAvWp
import Derived.Laws.Strings
namespace Go.Av
open Go

section W
variable {Γ : Par} {n : Nat} {x : Rc} {P : Res → Prop} {k : List Item} {env : Env} {ds : List ADef} {H : Heap}
@[simp] theorem W_nil : W Γ (n + 1) x P [] env ds H = WEnd Γ x P none env ds H := rfl
@[simp] theorem W_ret : W Γ (n + 1) x P (.code .ret :: k) env ds H = WEnd Γ x P (some .ret) env ds H := rfl
@[simp] theorem W_skip : W Γ (n + 1) x P (.code .skip :: k) env ds H = W Γ n x P k env ds H := rfl
@[simp] theorem W_label {l : Nat} : W Γ (n + 1) x P (.code (.label l) :: k) env ds H = W Γ n x P k env ds H := rfl
@[simp] theorem W_inBlock {l : Nat} : W Γ (n + 1) x P (.inBlock l :: k) env ds H = W Γ n x P k env ds H := rfl
@[simp] theorem W_inScope {b : Code} : W Γ (n + 1) x P (.inScope b :: k) env ds H = W Γ n x P k env ds H := rfl
@[simp] theorem W_seq {a b : Code} : W Γ (n + 1) x P (.code (.seq a b) :: k) env ds H = W Γ n x P (.code a :: .code b :: k) env ds H := rfl
@[simp] theorem W_cond {c : Operand} {a b : Code} : W Γ (n + 1) x P (.code (.cond c a b) :: k) env ds H = match aeval Γ.G env c with
      | some (.atom (.bool t)) => (t = true → W Γ n x P (.code a :: k) env ds H) ∧ (t = false → W Γ n x P (.code b :: k) env ds H)
      | _ => False := rfl
@[simp] theorem W_block {id : Nat} {b : Code} : W Γ (n + 1) x P (.code (.block id b) :: k) env ds H = W Γ n x P (.code b :: .inBlock id :: k) env ds H := rfl
@[simp] theorem W_loop {b : Code} : W Γ (n + 1) x P (.code (.loop b) :: k) env ds H = Wp Γ (.run x (.code b :: .inLoop b :: k) env ds H) P := rfl
@[simp] theorem W_inLoop {b : Code} : W Γ (n + 1) x P (.inLoop b :: k) env ds H = Wp Γ (.run x (.code b :: .inLoop b :: k) env ds H) P := rfl
@[simp] theorem W_scope {b : Code} : W Γ (n + 1) x P (.code (.scope b) :: k) env ds H = W Γ n x P (.code b :: .inScope b :: k) env ds H := rfl
@[simp] theorem W_exit {id : Nat} : W Γ (n + 1) x P (.code (.exit id) :: k) env ds H = match exitTo id k with
      | some k' => W Γ n x P k' env ds H
      | none => match x.round with
        | none => False
        | some l => match endRoundA x l (some (.exit id)) ds H with
          | some r => P r
          | none => False := rfl
@[simp] theorem W_goto {l : Nat} : W Γ (n + 1) x P (.code (.goto l) :: k) env ds H = match gotoIn l k with
      | some k' => W Γ n x P k' env ds H
      | none => False := rfl
@[simp] theorem W_region {id : Nat} {ops : List Oper} : W Γ (n + 1) x P (.code (.region id ops.toArray false) :: k) env ds H = WOps Γ (W Γ n) false x ops.toArray k P ops env ds H := rfl
@[simp] theorem W_draw {id : Nat} {ops : Array Oper} : W Γ (n + 1) x P (.code (.region id ops true) :: k) env ds H = Wp Γ (.run x (.code (.region id ops true) :: k) env ds H) P := rfl
@[simp] theorem W_begin : W Γ (n + 1) x P (.beginRound :: k) env ds H = match x.round with
      | some l => x.base ≤ l ∧ match hget H l with
        | some (.loop .ready p fn nt e ps as body) => W Γ n x P k env ds (hset H l (.loop .busy p fn nt e ps as body))
        | _ => False
      | none => False := rfl
@[simp] theorem W_range {f : Operand} {ps : Array Tmp} {as body : Code} : W Γ (n + 1) x P (.code (.rangeFunc f ps as body) :: k) env ds H = match aeval Γ.G env f with
      | some (.fn (.func g) first cap) => (Γ.fn g).isSome = true ∧ match x.round with
        | none => WCall Γ (.call g x.base (first ++ [.yld (H.length + 1)] ++ cap) (.loop .ready none x.fid x.nt env ps as body :: .dmark :: H)) (WRange (W Γ n) x P k env (.mark H.length :: ds) (H.length + 1))
        | some l0 => isLoop (hget H l0) = true ∧ WCall Γ (.call g x.base (first ++ [.yld H.length] ++ cap) (.loop .ready none x.fid x.nt env ps as body :: H)) (WRange (W Γ n) x P k env ds H.length)
      | _ => False := rfl
@[simp] theorem WEnd_none {f nt b : Nat} {j : Option Code} : WEnd Γ ⟨f, nt, b, none⟩ P j env ds H = WLeave Γ ⟨f, nt, b, none⟩ P ds env H := rfl
@[simp] theorem WEnd_some {f nt b l : Nat} {j : Option Code} : WEnd Γ ⟨f, nt, b, some l⟩ P j env ds H = match endRoundA ⟨f, nt, b, some l⟩ l j ds H with
    | some r => P r
    | none => False := rfl
@[simp] theorem WLeave_nil {f nt b : Nat} {rd : Option Nat} : WLeave Γ ⟨f, nt, b, rd⟩ P [] env H = match Γ.P.funcs[f]? with
    | some fn => match aResults Γ.P env H fn.results.toList with
      | some as => P (oneOf as, H)
      | none => False
    | none => False := rfl
@[simp] theorem WLeave_mark {b : Nat} : WLeave Γ x P (.mark b :: ds) env H = (hget H b matches some .dmark ∧ x.base ≤ b ∧ WLeave Γ x P ds env (hset H b .dead)) := rfl
@[simp] theorem WLeave_call {f : FuncId} {args : List AV} : WLeave Γ x P (.call f args :: ds) env H = WCall Γ (.call f x.base args H) (WLeft (WLeave Γ x P ds env)) := rfl
@[simp] theorem WLeft_mk {F : Heap → Prop} {a : AV} : WLeft F (a, H) = F H := rfl
@[simp] theorem WRange_mk {G : Rc → (Res → Prop) → List Item → Env → List ADef → Heap → Prop} {b : Nat} {a : AV} : WRange G x P k env ds b (a, H) = match hget H b with
  | some (.loop st p fn nt e ps as body) => st ≠ .busy ∧ G x P ((p.map Item.code).toList ++ k) env ds (hset H b (.loop .exhausted p fn nt e ps as body))
  | _ => False := rfl
@[simp] theorem WCont_mk {F : Env → List ADef → Heap → Prop} {nt d : Nat} {a : AV} : WCont F nt env (some d) ds (a, H) = if d < nt then F ((d, a) :: env) ds H else False := by
  by_cases h : d < nt <;> simp [WCont, eput, h]
@[simp] theorem WCont_none {F : Env → List ADef → Heap → Prop} {nt : Nat} {a : AV} : WCont F nt env none ds (a, H) = F env ds H := rfl
end W

section ops
variable {Γ : Par} {G : Rc → (Res → Prop) → List Item → Env → List ADef → Heap → Prop} {dr : Bool} {x : Rc} {all : Array Oper} {k : List Item} {P : Res → Prop} {l : List Oper} {env : Env} {ds : List ADef} {H : Heap}

/-- What comes of one step. -/
def WOut (Γ : Par) (G : Rc → (Res → Prop) → List Item → Env → List ADef → Heap → Prop) (dr : Bool) (x : Rc) (all : Array Oper) (k : List Item) (P : Res → Prop) (l : List Oper) (env : Env) (ds : List ADef) (H : Heap) (dst : Option Tmp) : Option Out → Prop
  | some (.val a H') => match eput x.nt env dst a with
    | some env' => WOps Γ G dr x all k P l env' ds H'
    | none => False
  | some (.call f args) => WCall Γ (.call f x.base args H) (WCont (WOps Γ G dr x all k P l) x.nt env dst ds)
  | some (.round b args) => WCall Γ (.round x.base b args H) (WCont (WOps Γ G dr x all k P l) x.nt env dst ds)
  | some (.dfr f args) => dr = false ∧ x.round = none ∧ match eput x.nt env dst (.atom undef) with
    | some env' => WOps Γ G dr x all k P l env' (.call f args :: ds) H
    | none => False
  | none => False

@[simp] theorem WOps_nil : WOps Γ G dr x all k P [] env ds H = G x P k env ds H := rfl
@[simp] theorem WOps_cons {dst : Option Tmp} {op : Op} {ty : TypeId} {pos : String} {after : Array Edge} :
    WOps Γ G dr x all k P (⟨dst, op, ty, pos, after, none⟩ :: l) env ds H = WOut Γ G dr x all k P l env ds H dst (aStep Γ.toCtx x.base env ⟨dst, op, ty, pos, after, none⟩ H) := by
  rw [WOps]
  simp only [guardOf]
  unfold WOut
  rfl
@[simp] theorem WOps_guard {dst : Option Tmp} {op : Op} {ty : TypeId} {pos : String} {after : Array Edge} {j : Nat} {b : Bool} :
    WOps Γ G dr x all k P (⟨dst, op, ty, pos, after, some (j, b)⟩ :: l) env ds H = match guardOf all env ⟨dst, op, ty, pos, after, some (j, b)⟩ with
      | none => False
      | some false => match eput x.nt env dst (.atom undef) with
        | some env' => WOps Γ G dr x all k P l env' ds H
        | none => False
      | some true => WOut Γ G dr x all k P l env ds H dst (aStep Γ.toCtx x.base env ⟨dst, op, ty, pos, after, some (j, b)⟩ H) := rfl
@[simp] theorem WOut_val {f nt b d : Nat} {rd : Option Nat} {a : AV} {H' : Heap} : WOut Γ G dr ⟨f, nt, b, rd⟩ all k P l env ds H (some d) (some (.val a H')) = if d < nt then WOps Γ G dr ⟨f, nt, b, rd⟩ all k P l ((d, a) :: env) ds H' else False := by
  by_cases h : d < nt <;> simp [WOut, eput, h]
@[simp] theorem WOut_val0 {a : AV} {H' : Heap} : WOut Γ G dr x all k P l env ds H none (some (.val a H')) = WOps Γ G dr x all k P l env ds H' := rfl
@[simp] theorem WOut_call {f nt b g : Nat} {rd : Option Nat} {dst : Option Tmp} {args : List AV} : WOut Γ G dr ⟨f, nt, b, rd⟩ all k P l env ds H dst (some (.call g args)) =
    WCall Γ (.call g b args H) (WCont (WOps Γ G dr ⟨f, nt, b, rd⟩ all k P l) nt env dst ds) := rfl
@[simp] theorem WOut_round {f nt b g : Nat} {rd : Option Nat} {dst : Option Tmp} {args : List AV} : WOut Γ G dr ⟨f, nt, b, rd⟩ all k P l env ds H dst (some (.round g args)) =
    WCall Γ (.round b g args H) (WCont (WOps Γ G dr ⟨f, nt, b, rd⟩ all k P l) nt env dst ds) := rfl
@[simp] theorem WOut_dfr {f nt b g d : Nat} {args : List AV} : WOut Γ G false ⟨f, nt, b, none⟩ all k P l env ds H (some d) (some (.dfr g args)) = if d < nt then WOps Γ G false ⟨f, nt, b, none⟩ all k P l ((d, .atom undef) :: env) (.call g args :: ds) H else False := by
  by_cases h : d < nt <;> simp [WOut, eput, h]
@[simp] theorem WOut_none {dst : Option Tmp} : WOut Γ G dr x all k P l env ds H dst none = False := rfl

@[simp] theorem guardOf_some {all : Array Oper} {env : Env} {dst : Option Tmp} {op : Op} {ty : TypeId} {pos : String} {after : Array Edge} {j : Nat} {b : Bool} :
    guardOf all env ⟨dst, op, ty, pos, after, some (j, b)⟩ = match (all[j]?).bind (·.dst) with
    | none => some false
    | some d => match eget env d with
      | some (.atom (.bool b')) => some (b' == b)
      | some (.atom (.tuple _)) => some false
      | _ => none := rfl

@[simp] theorem eget_cons {t t' : Nat} {a : AV} {env : Env} : eget ((t', a) :: env) t = if t' = t then some a else eget env t := rfl
@[simp] theorem eget_nil {t : Nat} : eget [] t = none := rfl
end ops

section call
variable {Γ : Par} {f base n : Nat} {args : List AV} {H : Heap} {fn : Func} {c : Code}

theorem Fit.call1 (hΓ : Fit Γ) (hS : Γ.S f base args H = none) (hf : Γ.fn f = some (fn, c)) (hl : args.length ≤ fn.ntmps ∧ base ≤ H.length) (hp : Γ.pol f = 1) {R : AV → Prop}
    (h : W Γ n ⟨f, fn.ntmps, H.length, none⟩ (fun r => ∃ a, frz H.length r.2 r.1 = some a ∧ R a) [.code c] (argsEnv 0 args) [] H) : ∃ a, OK Γ (.call f base args H) (a, H) ∧ R a := by
  obtain ⟨r, h1, a, h2, h3⟩ := W.sound hΓ _ _ _ _ _ _ _ h
  refine ⟨a, OK.step hΓ ?_, h3⟩
  simp only [stepQ, callQ, hS, hf, hl, hp, and_self, if_true]
  rw [if_neg (by omega)]
  refine ⟨r, h1, ?_⟩
  simp only [h2]
  rfl

theorem Fit.pure1 (hΓ : Fit Γ) (hS : Γ.S f base args H = none) (hf : Γ.fn f = some (fn, c)) (hl : args.length ≤ fn.ntmps ∧ base ≤ H.length) (hp : Γ.pol f = 1) {a : AV}
    (h : W Γ n ⟨f, fn.ntmps, H.length, none⟩ (fun r => frz H.length r.2 r.1 = some a) [.code c] (argsEnv 0 args) [] H) : OK Γ (.call f base args H) (a, H) := by
  obtain ⟨r, h1, h2⟩ := W.sound hΓ _ _ _ _ _ _ _ h
  refine OK.step hΓ ?_
  simp only [stepQ, callQ, hS, hf, hl, hp, and_self, if_true]
  rw [if_neg (by omega)]
  refine ⟨r, h1, ?_⟩
  simp only [h2]
  rfl

theorem Fit.call0 (hΓ : Fit Γ) (hS : Γ.S f base args H = none) (hf : Γ.fn f = some (fn, c)) (hl : args.length ≤ fn.ntmps ∧ base ≤ H.length) (hp : Γ.pol f = 0) {R : Res → Prop}
    (h : W Γ n ⟨f, fn.ntmps, base, none⟩ R [.code c] (argsEnv 0 args) [] H) : ∃ r, OK Γ (.call f base args H) r ∧ R r := by
  obtain ⟨r, h1, h2⟩ := W.sound hΓ _ _ _ _ _ _ _ h
  refine ⟨r, OK.step hΓ ?_, h2⟩
  simp only [stepQ, callQ, hS, hf, hl, hp, and_self, if_true]
  exact h1

theorem OK.frame {r : AV} (h : OK Γ (.call f 0 args []) (r, [])) (ha : byVL args = true) (hr : byV r = true) : OK Γ (.call f base args H) (r, H) :=
  ⟨task_frame h.1 ha hr base H, fun _ _ _ _ e _ => by cases e; rfl⟩
end call

/-- An operation on two values, one of which may be a constant. -/
def aBinC (P : Program) (op : BinOp) (t : TypeId) (x y : Operand) (a b : AV) : Option AV := match constOf y, toV a with
  | some v, some u => match pe P (do eqGuard op t x y u v; binOp op t u v) with
    | some r => some (lift r)
    | none => none
  | some v, none => aBin P op t x y a (.atom v)
  | _, _ => aBin P op t x y a b

section step
variable {Γ : Ctx} {base : Nat} {env : Env} {H : Heap} {dst : Option Tmp} {ty : TypeId} {pos : String} {after : Array Edge} {gd : Option (Nat × Bool)}
@[simp] theorem aStep_move {x : Operand} : aStep Γ base env ⟨dst, .move x, ty, pos, after, gd⟩ H = optV (aeval Γ.G env x) H := rfl
@[simp] theorem aStep_assign {x : Operand} : aStep Γ base env ⟨dst, .assign x, ty, pos, after, gd⟩ H = optV (aeval Γ.G env x) H := rfl
@[simp] theorem aStep_pick {c a b : Operand} : aStep Γ base env ⟨dst, .pick c a b, ty, pos, after, gd⟩ H = match aeval Γ.G env c with
    | some (.atom (.bool true)) => optV (aeval Γ.G env a) H
    | some (.atom (.bool false)) => optV (aeval Γ.G env b) H
    | _ => none := rfl
@[simp] theorem aStep_alloc {e : TypeId} : aStep Γ base env ⟨dst, .alloc e, ty, pos, after, gd⟩ H = if Γ.bld = some e then optVH (aAllocT Γ.P H e) else optVH (aAlloc Γ.P H e) := rfl
@[simp] theorem aStep_box {e : TypeId} {x : Operand} : aStep Γ base env ⟨dst, .box e x, ty, pos, after, gd⟩ H = match aeval Γ.G env x with
    | some a => optVH (aBox H a)
    | none => none := rfl
@[simp] theorem aStep_build {t : TypeId} {ps : List (Nat × Operand)} : aStep Γ base env ⟨dst, .build t ps.toArray, ty, pos, after, gd⟩ H = match aevalP Γ.G env ps with
    | some as => optV (aBuild Γ.P t as) H
    | none => none := rfl
@[simp] theorem aStep_buildSlice {t : TypeId} {n : Nat} {ps : List (Nat × Operand)} : aStep Γ base env ⟨dst, .buildSlice t n ps.toArray, ty, pos, after, gd⟩ H = match aevalP Γ.G env ps with
    | some as => optVH (aBuildSlice Γ.P H t n as)
    | none => none := rfl
@[simp] theorem aStep_load {t : TypeId} {a : Operand} : aStep Γ base env ⟨dst, .load t a, ty, pos, after, gd⟩ H = match aeval Γ.G env a with
    | some a => optV (aLoad Γ.P H t (untag a)) H
    | none => none := rfl
@[simp] theorem aStep_store {t : TypeId} {a x : Operand} : aStep Γ base env ⟨dst, .store t a x, ty, pos, after, gd⟩ H = match aeval Γ.G env a, aeval Γ.G env x with
    | some a, some x => optH (aStore Γ.P base H t (untag a) x)
    | _, _ => none := rfl
@[simp] theorem aStep_nilCheck {x : Operand} : aStep Γ base env ⟨dst, .nilCheck x, ty, pos, after, gd⟩ H = match aeval Γ.G env x with
    | some a => if nilOK a = true then some (.val a H) else none
    | none => none := rfl
@[simp] theorem aStep_binOp {op : BinOp} {t yt : TypeId} {x y : Operand} : aStep Γ base env ⟨dst, .binOp op t x y yt, ty, pos, after, gd⟩ H = match aeval Γ.G env x, aeval Γ.G env y with
    | some a, some b => optV (aBinC Γ.P op t x y a b) H
    | _, _ => none := by
  show (match aeval Γ.G env x, aeval Γ.G env y with
    | some a, some b => match constOf y, toV a with
      | some v, some u => optV (match pe Γ.P (do eqGuard op t x y u v; binOp op t u v) with
        | some r => some (lift r)
        | none => none) H
      | some v, none => optV (aBin Γ.P op t x y a (.atom v)) H
      | _, _ => optV (aBin Γ.P op t x y a b) H
    | _, _ => none) = _
  cases aeval Γ.G env x with
  | none => rfl
  | some a => cases aeval Γ.G env y with
    | none => rfl
    | some b =>
      simp only [aBinC]
      cases constOf y with
      | none => rfl
      | some v => cases toV a with
        | none => rfl
        | some u => rfl
@[simp] theorem aStep_unOp {op : UnOp} {t : TypeId} {x : Operand} : aStep Γ base env ⟨dst, .unOp op t x, ty, pos, after, gd⟩ H = match aeval Γ.G env x with
    | some a => optV (aUn op Γ.P a) H
    | none => none := rfl
@[simp] theorem aStep_convert {s d : TypeId} {x : Operand} : aStep Γ base env ⟨dst, .convert s d x, ty, pos, after, gd⟩ H = match aeval Γ.G env x with
    | some a => optVH (aConvert Γ.P H s d (untagS a))
    | none => none := rfl
@[simp] theorem aStep_makeInterface {t : TypeId} {x : Operand} : aStep Γ base env ⟨dst, .makeInterface t x, ty, pos, after, gd⟩ H = match aeval Γ.G env x with
    | some a => optV (aMakeInterface Γ.P t a) H
    | none => none := rfl
@[simp] theorem aStep_makeFunc {fn : Fn} {fs cs : List Operand} : aStep Γ base env ⟨dst, .makeFunc fn fs.toArray cs.toArray, ty, pos, after, gd⟩ H = match aevalL Γ.G env fs, aevalL Γ.G env cs with
    | some fs, some cs => if plainFn fn = true then some (.val (.fn fn fs cs) H) else none
    | _, _ => none := rfl
@[simp] theorem aStep_makeMap {t : TypeId} : aStep Γ base env ⟨dst, .makeMap t none, ty, pos, after, gd⟩ H = some (.val (aMakeMap H).1 (aMakeMap H).2) := rfl
@[simp] theorem aStep_makeSlice {t : TypeId} {l k : Operand} : aStep Γ base env ⟨dst, .makeSlice t l k, ty, pos, after, gd⟩ H = match aeval Γ.G env l, aeval Γ.G env k with
    | some l, some k => optVH (aMakeSlice Γ.P H t l k)
    | _, _ => none := rfl
@[simp] theorem aStep_slice {t : TypeId} {x : Operand} {lo hi mx : Option Operand} : aStep Γ base env ⟨dst, .slice t x lo hi mx, ty, pos, after, gd⟩ H = match aeval Γ.G env x, aevalO Γ.G env lo, aevalO Γ.G env hi, aevalO Γ.G env mx with
    | some a, some lo, some hi, some mx => optV (aSliceS Γ.P t (untagS a) lo hi mx) H
    | _, _, _, _ => none := rfl
@[simp] theorem aStep_fieldAddr {s : TypeId} {x : Operand} {f : Nat} : aStep Γ base env ⟨dst, .fieldAddr s x f, ty, pos, after, gd⟩ H = match aeval Γ.G env x with
    | some a => optV (aFieldAddr Γ.P s (untag a) f) H
    | none => none := rfl
@[simp] theorem aStep_field {s : TypeId} {x : Operand} {f : Nat} : aStep Γ base env ⟨dst, .field s x f, ty, pos, after, gd⟩ H = match aeval Γ.G env x with
    | some a => optV (aField Γ.P s a f) H
    | none => none := rfl
@[simp] theorem aStep_indexAddr {t : TypeId} {x i : Operand} : aStep Γ base env ⟨dst, .indexAddr t x i, ty, pos, after, gd⟩ H = match aeval Γ.G env x, aeval Γ.G env i with
    | some a, some i => optV (aIndexAddr Γ.P t (untagS a) i) H
    | _, _ => none := rfl
@[simp] theorem aStep_index {t : TypeId} {x i : Operand} : aStep Γ base env ⟨dst, .index t x i, ty, pos, after, gd⟩ H = match aeval Γ.G env x, aeval Γ.G env i with
    | some a, some i => optV (aIndex Γ.P t a i) H
    | _, _ => none := rfl
@[simp] theorem aStep_lookup {t : TypeId} {x i : Operand} {ok : Bool} : aStep Γ base env ⟨dst, .lookup t x i ok, ty, pos, after, gd⟩ H = match aeval Γ.G env x, aeval Γ.G env i with
    | some a, some k => optV (aLookup Γ.P H t a k ok) H
    | _, _ => none := rfl
@[simp] theorem aStep_mapUpdate {t : TypeId} {m i x : Operand} : aStep Γ base env ⟨dst, .mapUpdate t m i x, ty, pos, after, gd⟩ H = match aeval Γ.G env m, aeval Γ.G env i, aeval Γ.G env x with
    | some m, some k, some x => optH (aMapUpdate Γ.P base H t m k x)
    | _, _, _ => none := rfl
@[simp] theorem aStep_insert {t : TypeId} {m i x : Operand} : aStep Γ base env ⟨dst, .insert t m i x, ty, pos, after, gd⟩ H = match aeval Γ.G env m, aeval Γ.G env i, aeval Γ.G env x with
    | some m, some k, some x => optH (aMapUpdate Γ.P base H t m k x)
    | _, _, _ => none := rfl
@[simp] theorem aStep_range {t : TypeId} {x : Operand} : aStep Γ base env ⟨dst, .range t x, ty, pos, after, gd⟩ H = match aeval Γ.G env x with
    | some a => optVH (aRange Γ.P H t a)
    | none => none := rfl
@[simp] theorem aStep_next {x : Operand} : aStep Γ base env ⟨dst, .next x true, ty, pos, after, gd⟩ H = match aeval Γ.G env x with
    | some a => optVH (aNext base H a)
    | none => none := rfl
@[simp] theorem aStep_typeAssert {x : Operand} {u t : TypeId} {ok : Bool} : aStep Γ base env ⟨dst, .typeAssert x u t ok, ty, pos, after, gd⟩ H = match aeval Γ.G env x with
    | some a => optV (aTypeAssert Γ.P a t ok) H
    | none => none := rfl
@[simp] theorem aStep_extract {x : Operand} {i : Nat} : aStep Γ base env ⟨dst, .extract x i, ty, pos, after, gd⟩ H = match aeval Γ.G env x with
    | some a => optV (aExtract a i) H
    | none => none := rfl
@[simp] theorem aStep_callV {f : Operand} {as : List Operand} {ats : Array TypeId} : aStep Γ base env ⟨dst, .call ⟨.value f, as.toArray, ats⟩, ty, pos, after, gd⟩ H = match aevalL Γ.G env as with
    | some args => match aeval Γ.G env f with
        | some f => aCallV f args
        | none => none
    | none => none := rfl
@[simp] theorem aStep_callI {r : Operand} {name : String} {as : List Operand} {ats : Array TypeId} : aStep Γ base env ⟨dst, .call ⟨.invoke r name, as.toArray, ats⟩, ty, pos, after, gd⟩ H = match aevalL Γ.G env as with
    | some args => match aeval Γ.G env r with
        | some r => aInvoke Γ.P r name args
        | none => none
    | none => none := rfl
@[simp] theorem aStep_callB {b : Builtin} {as : List Operand} {ats : List TypeId} : aStep Γ base env ⟨dst, .call ⟨.builtin b, as.toArray, ats.toArray⟩, ty, pos, after, gd⟩ H = match aevalL Γ.G env as with
    | some args => optVH (aBuiltin Γ.P base H b ats ty args)
    | none => none := rfl
@[simp] theorem aStep_defer {f : Operand} {as : List Operand} {ats : Array TypeId} : aStep Γ base env ⟨dst, .defer ⟨.value f, as.toArray, ats⟩, ty, pos, after, gd⟩ H = match aevalL Γ.G env as with
    | some args => match aeval Γ.G env f with
        | some (.fn (.func g) first cap) => some (.dfr g (first ++ args ++ cap))
        | _ => none
    | none => none := rfl
end step

section small
variable {G : Nat → Option (List AV)} {env : Env} {H : Heap}
@[simp] theorem aeval_tmp {t : Nat} : aeval G env (.tmp t) = eget env t := rfl
@[simp] theorem aeval_const {v : Value} : aeval G env (.const v) = some (lift v) := rfl
@[simp] theorem aeval_func {f : Nat} : aeval G env (.func f) = some (.fn (.func f) [] []) := rfl
@[simp] theorem aevalL_nil : aevalL G env [] = some [] := rfl
@[simp] theorem aevalL_cons {x : Operand} {xs : List Operand} : aevalL G env (x :: xs) = match aeval G env x, aevalL G env xs with
    | some a, some as => some (a :: as)
    | _, _ => none := rfl
@[simp] theorem aevalO_none : aevalO G env none = some none := rfl
@[simp] theorem aevalO_some {x : Operand} : aevalO G env (some x) = match aeval G env x with
    | some a => some (some a)
    | none => none := rfl
@[simp] theorem aevalP_nil : aevalP G env [] = some [] := rfl
@[simp] theorem aevalP_cons {i : Nat} {x : Operand} {xs : List (Nat × Operand)} : aevalP G env ((i, x) :: xs) = match aeval G env x, aevalP G env xs with
    | some a, some as => some ((i, a) :: as)
    | _, _ => none := rfl
@[simp] theorem optV_some {a : AV} : optV (some a) H = some (.val a H) := rfl
@[simp] theorem optV_none : optV none H = none := rfl
@[simp] theorem optVH_some {a : AV} {H' : Heap} : optVH (some (a, H')) = some (.val a H') := rfl
@[simp] theorem optVH_none : optVH none = none := rfl
@[simp] theorem optH_some {H' : Heap} : optH (some H') = some (.val (.atom undef) H') := rfl
@[simp] theorem optH_none : optH none = none := rfl
@[simp] theorem lift_int {k : IntKind} {n : Int} : lift (.int k n) = .atom (.int k n) := rfl
@[simp] theorem lift_bool {b : Bool} : lift (.bool b) = .atom (.bool b) := rfl
@[simp] theorem lift_string {s : ByteArray} : lift (.string s) = .atom (.string s) := rfl
@[simp] theorem lift_nilIface : lift .nilIface = .atom .nilIface := rfl
@[simp] theorem lift_nilFunc : lift .nilFunc = .atom .nilFunc := rfl
@[simp] theorem lift_nilptr : lift (.pointer none) = .atom (.pointer none) := rfl
@[simp] theorem lift_nilmap : lift (.map none) = .atom (.map none) := rfl
@[simp] theorem lift_nilsl : lift (.slice none 0 0) = .sl [] 0 true := rfl
@[simp] theorem lift_agg {cs : List Value} : lift (.agg cs.toArray) = .agg (cs.map lift1) := rfl
@[simp] theorem lift1_int {k : IntKind} {n : Int} : lift1 (.int k n) = .atom (.int k n) := rfl
@[simp] theorem lift1_bool {b : Bool} : lift1 (.bool b) = .atom (.bool b) := rfl
@[simp] theorem lift1_string {s : ByteArray} : lift1 (.string s) = .atom (.string s) := rfl
@[simp] theorem lift1_nilIface : lift1 .nilIface = .atom .nilIface := rfl
@[simp] theorem lift1_nilFunc : lift1 .nilFunc = .atom .nilFunc := rfl
@[simp] theorem lift1_nilptr : lift1 (.pointer none) = .atom (.pointer none) := rfl
@[simp] theorem lift1_nilmap : lift1 (.map none) = .atom (.map none) := rfl
@[simp] theorem lift1_nilsl : lift1 (.slice none 0 0) = .sl [] 0 true := rfl
@[simp] theorem toV_atom {v : Value} : toV (.atom v) = some v := rfl
@[simp] theorem toV_iface {t : TypeId} {a : AV} : toV (.iface t a) = match toV a with
    | some v => some (.iface t v)
    | none => none := rfl
@[simp] theorem constOf_const {v : Value} : constOf (.const v) = some v := rfl
@[simp] theorem constOf_tmp {t : Nat} : constOf (.tmp t) = none := rfl
@[simp] theorem oneOf_one {a : AV} : oneOf [a] = a := rfl
@[simp] theorem oneOf_two {a b : AV} {l : List AV} : oneOf (a :: b :: l) = .tuple (a :: b :: l) := rfl
@[simp] theorem oneOf_nil : oneOf [] = .tuple [] := rfl
end small

/-- What an operation on integers comes to. -/
def intBin (op : BinOp) (k : IntKind) (a b : Int) : Option Value := match op with
  | .add => some (.int k (k.wrap (a + b)))
  | .sub => some (.int k (k.wrap (a - b)))
  | .mul => some (.int k (k.wrap (a * b)))
  | .quo => if b = 0 then none else some (.int k (k.wrap (a.tdiv b)))
  | .rem => if b = 0 then none else some (.int k (a.tmod b))
  | .and => some (.int k (k.wrap (BitVec.ofInt k.bits a &&& BitVec.ofInt k.bits b).toNat))
  | .or => some (.int k (k.wrap (BitVec.ofInt k.bits a ||| BitVec.ofInt k.bits b).toNat))
  | .xor => some (.int k (k.wrap (BitVec.ofInt k.bits a ^^^ BitVec.ofInt k.bits b).toNat))
  | .andNot => some (.int k (k.wrap (BitVec.ofInt k.bits a &&& ~~~ BitVec.ofInt k.bits b).toNat))
  | .eql => some (.bool (decide (a = b)))
  | .neq => some (.bool (!decide (a = b)))
  | .lss => some (.bool (decide (a < b)))
  | .leq => some (.bool (decide (a ≤ b)))
  | .gtr => some (.bool (decide (b < a)))
  | .geq => some (.bool (decide (b ≤ a)))
  | _ => none

@[simp] theorem pe_pure {α : Type} {P : Program} {a : α} : pe P (Pure.pure a) = some a := rfl

def shiftOp : BinOp → Bool
  | .shl | .shr => true
  | _ => false

@[simp] theorem shiftOp_add : shiftOp .add = false := rfl
@[simp] theorem shiftOp_sub : shiftOp .sub = false := rfl
@[simp] theorem shiftOp_mul : shiftOp .mul = false := rfl
@[simp] theorem shiftOp_quo : shiftOp .quo = false := rfl
@[simp] theorem shiftOp_rem : shiftOp .rem = false := rfl
@[simp] theorem shiftOp_and : shiftOp .and = false := rfl
@[simp] theorem shiftOp_or : shiftOp .or = false := rfl
@[simp] theorem shiftOp_xor : shiftOp .xor = false := rfl
@[simp] theorem shiftOp_andNot : shiftOp .andNot = false := rfl
@[simp] theorem shiftOp_eql : shiftOp .eql = false := rfl
@[simp] theorem shiftOp_neq : shiftOp .neq = false := rfl
@[simp] theorem shiftOp_lss : shiftOp .lss = false := rfl
@[simp] theorem shiftOp_leq : shiftOp .leq = false := rfl
@[simp] theorem shiftOp_gtr : shiftOp .gtr = false := rfl
@[simp] theorem shiftOp_geq : shiftOp .geq = false := rfl
theorem pe_bind {α β : Type} {P : Program} {s : Sem α} {f : α → Sem β} {a : α} (h : pe P s = some a) : pe P (s >>= f) = pe P (f a) := by
  induction s with
  | pure b => cases h; rfl
  | program k ih => exact ih P h
  | _ => cases h

theorem pe_bind_none {α β : Type} {P : Program} {s : Sem α} {f : α → Sem β} (h : pe P s = none) : pe P (s >>= f) = none := by
  induction s with
  | pure b => cases h
  | program k ih => exact ih P h
  | _ => rfl

theorem pe_eqGuard_int {P : Program} {op : BinOp} {t : TypeId} {xo yo : Operand} {k k' : IntKind} {a b : Int} : pe P (eqGuard op t xo yo (.int k a) (.int k' b)) = some () := by
  unfold eqGuard
  cases op <;> rfl

theorem pe_bin_int {P : Program} {op : BinOp} {t : TypeId} {xo yo : Operand} {k : IntKind} {a b : Int} (ho : shiftOp op = false) :
    pe P (do eqGuard op t xo yo (.int k a) (.int k b); binOp op t (.int k a) (.int k b)) = intBin op k a b := by
  rw [pe_bind pe_eqGuard_int]
  cases op <;> simp [shiftOp] at ho <;> simp [binOp, intBin, Op.intArith, Op.intDiv, Op.intBits, Op.intCmp]
  · split <;> rfl
  · split <;> rfl
  all_goals rfl
theorem pe_shl {P : Program} {t : TypeId} {xo yo : Operand} {k k' : IntKind} {a b : Int} :
    pe P (do eqGuard .shl t xo yo (.int k a) (.int k' b); binOp .shl t (.int k a) (.int k' b)) = if b < 0 then none else some (.int k (k.wrap (a * 2 ^ min b.toNat k.bits))) := by
  rw [pe_bind pe_eqGuard_int]
  simp only [binOp, Op.shift]
  split <;> rfl
theorem pe_shr {P : Program} {t : TypeId} {xo yo : Operand} {k k' : IntKind} {a b : Int} :
    pe P (do eqGuard .shr t xo yo (.int k a) (.int k' b); binOp .shr t (.int k a) (.int k' b)) = if b < 0 then none else some (.int k (a.fdiv (2 ^ min b.toNat k.bits))) := by
  rw [pe_bind pe_eqGuard_int]
  simp only [binOp, Op.shift]
  split <;> rfl
theorem aBin_atom {P : Program} {op : BinOp} {t : TypeId} {xo yo : Operand} {u v : Value} : aBin P op t xo yo (.atom u) (.atom v) = match pe P (do eqGuard op t xo yo u v; binOp op t u v) with
    | some r => some (lift r)
    | none => none := rfl

/-- A constant as an operand stands for itself. -/
def IsOf (y : Operand) (b : AV) : Prop := ∀ v, constOf y = some v → b = lift v

theorem aBinC_atom {P : Program} {op : BinOp} {t : TypeId} {xo yo : Operand} {u v : Value} (hc : constOf yo = none ∨ constOf yo = some v) : aBinC P op t xo yo (.atom u) (.atom v) = match pe P (do eqGuard op t xo yo u v; binOp op t u v) with
    | some r => some (lift r)
    | none => none := by
  unfold aBinC
  rcases hc with hc | hc <;> simp only [hc, toV_atom] <;> rfl

section ints
variable {P : Program} {t : TypeId} {xo : Operand} {k k' : IntKind} {a b : Int} {s : Nat}
/-- The result of an operation on integers, as a value here. -/
def intBinA (op : BinOp) (k : IntKind) (a b : Int) : Option AV := (intBin op k a b).map lift
theorem bin_int_t {op : BinOp} (ho : shiftOp op = false) : aBinC P op t xo (.tmp s) (.atom (.int k a)) (.atom (.int k b)) = intBinA op k a b := by
  rw [aBinC_atom (.inl rfl), pe_bin_int ho]
  unfold intBinA; cases intBin op k a b <;> rfl
theorem bin_int_c {op : BinOp} (ho : shiftOp op = false) : aBinC P op t xo (.const (.int k b)) (.atom (.int k a)) (.atom (.int k b)) = intBinA op k a b := by
  rw [aBinC_atom (.inr rfl), pe_bin_int ho]
  unfold intBinA; cases intBin op k a b <;> rfl
@[simp] theorem bin_add_t : aBinC P .add t xo (.tmp s) (.atom (.int k a)) (.atom (.int k b)) = intBinA .add k a b := bin_int_t rfl
@[simp] theorem bin_add_c : aBinC P .add t xo (.const (.int k b)) (.atom (.int k a)) (.atom (.int k b)) = intBinA .add k a b := bin_int_c rfl
@[simp] theorem bin_sub_t : aBinC P .sub t xo (.tmp s) (.atom (.int k a)) (.atom (.int k b)) = intBinA .sub k a b := bin_int_t rfl
@[simp] theorem bin_sub_c : aBinC P .sub t xo (.const (.int k b)) (.atom (.int k a)) (.atom (.int k b)) = intBinA .sub k a b := bin_int_c rfl
@[simp] theorem bin_mul_t : aBinC P .mul t xo (.tmp s) (.atom (.int k a)) (.atom (.int k b)) = intBinA .mul k a b := bin_int_t rfl
@[simp] theorem bin_mul_c : aBinC P .mul t xo (.const (.int k b)) (.atom (.int k a)) (.atom (.int k b)) = intBinA .mul k a b := bin_int_c rfl
@[simp] theorem bin_quo_t : aBinC P .quo t xo (.tmp s) (.atom (.int k a)) (.atom (.int k b)) = intBinA .quo k a b := bin_int_t rfl
@[simp] theorem bin_quo_c : aBinC P .quo t xo (.const (.int k b)) (.atom (.int k a)) (.atom (.int k b)) = intBinA .quo k a b := bin_int_c rfl
@[simp] theorem bin_rem_t : aBinC P .rem t xo (.tmp s) (.atom (.int k a)) (.atom (.int k b)) = intBinA .rem k a b := bin_int_t rfl
@[simp] theorem bin_rem_c : aBinC P .rem t xo (.const (.int k b)) (.atom (.int k a)) (.atom (.int k b)) = intBinA .rem k a b := bin_int_c rfl
@[simp] theorem bin_and_t : aBinC P .and t xo (.tmp s) (.atom (.int k a)) (.atom (.int k b)) = intBinA .and k a b := bin_int_t rfl
@[simp] theorem bin_and_c : aBinC P .and t xo (.const (.int k b)) (.atom (.int k a)) (.atom (.int k b)) = intBinA .and k a b := bin_int_c rfl
@[simp] theorem bin_or_t : aBinC P .or t xo (.tmp s) (.atom (.int k a)) (.atom (.int k b)) = intBinA .or k a b := bin_int_t rfl
@[simp] theorem bin_or_c : aBinC P .or t xo (.const (.int k b)) (.atom (.int k a)) (.atom (.int k b)) = intBinA .or k a b := bin_int_c rfl
@[simp] theorem bin_xor_t : aBinC P .xor t xo (.tmp s) (.atom (.int k a)) (.atom (.int k b)) = intBinA .xor k a b := bin_int_t rfl
@[simp] theorem bin_xor_c : aBinC P .xor t xo (.const (.int k b)) (.atom (.int k a)) (.atom (.int k b)) = intBinA .xor k a b := bin_int_c rfl
@[simp] theorem bin_andNot_t : aBinC P .andNot t xo (.tmp s) (.atom (.int k a)) (.atom (.int k b)) = intBinA .andNot k a b := bin_int_t rfl
@[simp] theorem bin_andNot_c : aBinC P .andNot t xo (.const (.int k b)) (.atom (.int k a)) (.atom (.int k b)) = intBinA .andNot k a b := bin_int_c rfl
@[simp] theorem bin_eql_t : aBinC P .eql t xo (.tmp s) (.atom (.int k a)) (.atom (.int k b)) = intBinA .eql k a b := bin_int_t rfl
@[simp] theorem bin_eql_c : aBinC P .eql t xo (.const (.int k b)) (.atom (.int k a)) (.atom (.int k b)) = intBinA .eql k a b := bin_int_c rfl
@[simp] theorem bin_neq_t : aBinC P .neq t xo (.tmp s) (.atom (.int k a)) (.atom (.int k b)) = intBinA .neq k a b := bin_int_t rfl
@[simp] theorem bin_neq_c : aBinC P .neq t xo (.const (.int k b)) (.atom (.int k a)) (.atom (.int k b)) = intBinA .neq k a b := bin_int_c rfl
@[simp] theorem bin_lss_t : aBinC P .lss t xo (.tmp s) (.atom (.int k a)) (.atom (.int k b)) = intBinA .lss k a b := bin_int_t rfl
@[simp] theorem bin_lss_c : aBinC P .lss t xo (.const (.int k b)) (.atom (.int k a)) (.atom (.int k b)) = intBinA .lss k a b := bin_int_c rfl
@[simp] theorem bin_leq_t : aBinC P .leq t xo (.tmp s) (.atom (.int k a)) (.atom (.int k b)) = intBinA .leq k a b := bin_int_t rfl
@[simp] theorem bin_leq_c : aBinC P .leq t xo (.const (.int k b)) (.atom (.int k a)) (.atom (.int k b)) = intBinA .leq k a b := bin_int_c rfl
@[simp] theorem bin_gtr_t : aBinC P .gtr t xo (.tmp s) (.atom (.int k a)) (.atom (.int k b)) = intBinA .gtr k a b := bin_int_t rfl
@[simp] theorem bin_gtr_c : aBinC P .gtr t xo (.const (.int k b)) (.atom (.int k a)) (.atom (.int k b)) = intBinA .gtr k a b := bin_int_c rfl
@[simp] theorem bin_geq_t : aBinC P .geq t xo (.tmp s) (.atom (.int k a)) (.atom (.int k b)) = intBinA .geq k a b := bin_int_t rfl
@[simp] theorem bin_geq_c : aBinC P .geq t xo (.const (.int k b)) (.atom (.int k a)) (.atom (.int k b)) = intBinA .geq k a b := bin_int_c rfl
@[simp] theorem bin_shl_t : aBinC P .shl t xo (.tmp s) (.atom (.int k a)) (.atom (.int k' b)) = if 0 ≤ b then some (.atom (.int k (k.wrap (a * 2 ^ min b.toNat k.bits)))) else none := by
  rw [aBinC_atom (.inl rfl), pe_shl]
  by_cases h : b < 0
  · rw [if_pos h, if_neg (by omega)]
  · rw [if_neg h, if_pos (by omega)]; rfl
@[simp] theorem bin_shl_c : aBinC P .shl t xo (.const (.int k' b)) (.atom (.int k a)) (.atom (.int k' b)) = if 0 ≤ b then some (.atom (.int k (k.wrap (a * 2 ^ min b.toNat k.bits)))) else none := by
  rw [aBinC_atom (.inr rfl), pe_shl]
  by_cases h : b < 0
  · rw [if_pos h, if_neg (by omega)]
  · rw [if_neg h, if_pos (by omega)]; rfl
@[simp] theorem bin_shr_t : aBinC P .shr t xo (.tmp s) (.atom (.int k a)) (.atom (.int k' b)) = if 0 ≤ b then some (.atom (.int k (a.fdiv (2 ^ min b.toNat k.bits)))) else none := by
  rw [aBinC_atom (.inl rfl), pe_shr]
  by_cases h : b < 0
  · rw [if_pos h, if_neg (by omega)]
  · rw [if_neg h, if_pos (by omega)]; rfl
@[simp] theorem bin_shr_c : aBinC P .shr t xo (.const (.int k' b)) (.atom (.int k a)) (.atom (.int k' b)) = if 0 ≤ b then some (.atom (.int k (a.fdiv (2 ^ min b.toNat k.bits)))) else none := by
  rw [aBinC_atom (.inr rfl), pe_shr]
  by_cases h : b < 0
  · rw [if_pos h, if_neg (by omega)]
  · rw [if_neg h, if_pos (by omega)]; rfl
@[simp] theorem intBinA_add : intBinA .add k a b = some (.atom (.int k (k.wrap (a + b)))) := rfl
@[simp] theorem intBinA_sub : intBinA .sub k a b = some (.atom (.int k (k.wrap (a - b)))) := rfl
@[simp] theorem intBinA_mul : intBinA .mul k a b = some (.atom (.int k (k.wrap (a * b)))) := rfl
@[simp] theorem intBinA_quo : intBinA .quo k a b = if b ≠ 0 then some (.atom (.int k (k.wrap (a.tdiv b)))) else none := by
  unfold intBinA intBin; by_cases h : b = 0 <;> simp [h]
@[simp] theorem intBinA_rem : intBinA .rem k a b = if b ≠ 0 then some (.atom (.int k (a.tmod b))) else none := by
  unfold intBinA intBin; by_cases h : b = 0 <;> simp [h]
/-- Operations on bits. -/
def bitsOp (op : BinOp) (k : IntKind) (a b : Int) : Int := k.wrap (match op with
  | .and => BitVec.ofInt k.bits a &&& BitVec.ofInt k.bits b
  | .or => BitVec.ofInt k.bits a ||| BitVec.ofInt k.bits b
  | .xor => BitVec.ofInt k.bits a ^^^ BitVec.ofInt k.bits b
  | _ => BitVec.ofInt k.bits a &&& ~~~ BitVec.ofInt k.bits b).toNat
@[simp] theorem intBinA_and : intBinA .and k a b = some (.atom (.int k (bitsOp .and k a b))) := rfl
@[simp] theorem intBinA_or : intBinA .or k a b = some (.atom (.int k (bitsOp .or k a b))) := rfl
@[simp] theorem intBinA_xor : intBinA .xor k a b = some (.atom (.int k (bitsOp .xor k a b))) := rfl
@[simp] theorem intBinA_andNot : intBinA .andNot k a b = some (.atom (.int k (bitsOp .andNot k a b))) := rfl
@[simp] theorem intBinA_eql : intBinA .eql k a b = some (.atom (.bool (decide (a = b)))) := rfl
@[simp] theorem intBinA_neq : intBinA .neq k a b = some (.atom (.bool (decide (a ≠ b)))) := by simp [intBinA, intBin]
@[simp] theorem intBinA_lss : intBinA .lss k a b = some (.atom (.bool (decide (a < b)))) := rfl
@[simp] theorem intBinA_leq : intBinA .leq k a b = some (.atom (.bool (decide (a ≤ b)))) := rfl
@[simp] theorem intBinA_gtr : intBinA .gtr k a b = some (.atom (.bool (decide (b < a)))) := rfl
@[simp] theorem intBinA_geq : intBinA .geq k a b = some (.atom (.bool (decide (b ≤ a)))) := rfl
end ints

section eqs
variable {P : Program} {t : TypeId} {xo : Operand} {s : Nat}
def isEq : BinOp → Bool
  | .eql => true
  | _ => false

theorem pe_map {α β : Type} {P : Program} {s : Sem α} {f : α → β} {a : α} (h : pe P s = some a) : pe P (do let x ← s; pure (f x)) = some (f a) := by
  rw [pe_bind h]; rfl

theorem pe_eq_val {op : BinOp} {yo : Operand} {u v : Value} {r : Bool} (ho : op = .eql ∨ op = .neq) (hg : ∀ op, (op = .eql ∨ op = .neq) → pe P (eqGuard op t xo yo u v) = some ()) (hb : binOp .eql t u v = (Op.equal t u v >>= fun b => pure (Value.bool b)))
    (hb' : binOp .neq t u v = (Op.equal t u v >>= fun b => pure (Value.bool (!b)))) (he : pe P (Op.equal t u v) = some r) : pe P (do eqGuard op t xo yo u v; binOp op t u v) = some (.bool (if isEq op then r else !r)) := by
  rw [pe_bind (hg _ ho)]
  rcases ho with rfl | rfl
  · rw [hb, pe_bind he]; rfl
  · rw [hb', pe_bind he]; rfl

theorem bin_nilptr {op : BinOp} {e : TypeId} (h : P.underlying t = some (.pointer e)) (ho : op = .eql ∨ op = .neq) : aBinC P op t xo (.const (.pointer none)) (.atom (.pointer none)) (.atom (.pointer none)) = some (.atom (.bool (isEq op))) := by
  rw [aBinC_atom (.inr rfl)]
  have hu : pe P (underlying t) = some (.pointer e) := by
    unfold underlying
    rw [pe_bind (a := P) rfl, h]; rfl
  have he : pe P (Op.equal t (.pointer none) (.pointer none)) = some true := by
    unfold Op.equal Op.maxDepth Op.equalIn
    rw [pe_bind hu]; rfl
  rw [pe_eq_val ho (by rintro op (rfl | rfl) <;> rfl) rfl rfl he]
  rcases ho with rfl | rfl <;> rfl
theorem bin_nilI {op : BinOp} {ms : Array (String × TypeId)} (h : P.underlying t = some (.interface ms)) (ho : op = .eql ∨ op = .neq) : aBinC P op t xo (.const .nilIface) (.atom .nilIface) (.atom .nilIface) = some (.atom (.bool (isEq op))) := by
  rw [aBinC_atom (.inr rfl)]
  have hu : pe P (underlying t) = some (.interface ms) := by
    unfold underlying
    rw [pe_bind (a := P) rfl, h]; rfl
  have he : pe P (Op.equal t .nilIface .nilIface) = some true := by
    unfold Op.equal Op.maxDepth Op.equalIn
    rw [pe_bind hu]; rfl
  have hg : ∀ op, (op = .eql ∨ op = .neq) → pe P (eqGuard op t xo (.const .nilIface) .nilIface .nilIface) = some () := by
    rintro op (rfl | rfl) <;> simp [eqGuard] <;> rfl
  rw [pe_eq_val ho hg rfl rfl he]
  rcases ho with rfl | rfl <;> rfl
theorem bin_ptr_nil {op : BinOp} {e b g o : Nat} (h : P.underlying t = some (.pointer e)) (ho : op = .eql ∨ op = .neq) : aBinC P op t xo (.const (.pointer none)) (.ptr b g o) (.atom (.pointer none)) = some (.atom (.bool (!isEq op))) := by
  have h0 : aBinC P op t xo (.const (.pointer none)) (.ptr b g o) (.atom (.pointer none)) = aBin P op t xo (.const (.pointer none)) (.ptr b g o) (.atom (.pointer none)) := rfl
  rw [h0]
  unfold aBin
  simp only [toV, h]
  rcases ho with rfl | rfl <;> rfl
theorem bin_cptr_nil {op : BinOp} {e : Nat} {cs : List AV} (h : P.underlying t = some (.pointer e)) (ho : op = .eql ∨ op = .neq) : aBinC P op t xo (.const (.pointer none)) (.cptr cs) (.atom (.pointer none)) = some (.atom (.bool (!isEq op))) := by
  have h0 : aBinC P op t xo (.const (.pointer none)) (.cptr cs) (.atom (.pointer none)) = aBin P op t xo (.const (.pointer none)) (.cptr cs) (.atom (.pointer none)) := rfl
  rw [h0]
  unfold aBin
  simp only [toV, h]
  rcases ho with rfl | rfl <;> rfl
theorem bin_iface_nil {op : BinOp} {u : TypeId} {b : AV} {ms : Array (String × TypeId)} (h : P.underlying t = some (.interface ms)) (ho : op = .eql ∨ op = .neq) : aBinC P op t xo (.const .nilIface) (.iface u b) (.atom .nilIface) = some (.atom (.bool (!isEq op))) := by
  have hu : pe P (underlying t) = some (.interface ms) := by
    unfold underlying
    rw [pe_bind (a := P) rfl, h]; rfl
  unfold aBinC
  simp only [constOf_const, toV_iface]
  cases hb : toV b with
  | none =>
    simp only
    unfold aBin
    simp only [toV, hb, h]
    rcases ho with rfl | rfl <;> rfl
  | some v =>
    simp only
    have he : pe P (Op.equal t (.iface u v) .nilIface) = some false := by
      unfold Op.equal Op.maxDepth Op.equalIn
      rw [pe_bind hu]; rfl
    rw [pe_eq_val ho (by rintro op (rfl | rfl) <;> rfl) rfl rfl he]
    rcases ho with rfl | rfl <;> rfl
@[simp] theorem nilptr_eql {e : TypeId} (h : P.underlying t = some (.pointer e)) : aBinC P .eql t xo (.const (.pointer none)) (.atom (.pointer none)) (.atom (.pointer none)) = some (.atom (.bool true)) := bin_nilptr h (.inl rfl)
@[simp] theorem nilptr_neq {e : TypeId} (h : P.underlying t = some (.pointer e)) : aBinC P .neq t xo (.const (.pointer none)) (.atom (.pointer none)) (.atom (.pointer none)) = some (.atom (.bool false)) := bin_nilptr h (.inr rfl)
@[simp] theorem nilI_eql {ms : Array (String × TypeId)} (h : P.underlying t = some (.interface ms)) : aBinC P .eql t xo (.const .nilIface) (.atom .nilIface) (.atom .nilIface) = some (.atom (.bool true)) := bin_nilI h (.inl rfl)
@[simp] theorem nilI_neq {ms : Array (String × TypeId)} (h : P.underlying t = some (.interface ms)) : aBinC P .neq t xo (.const .nilIface) (.atom .nilIface) (.atom .nilIface) = some (.atom (.bool false)) := bin_nilI h (.inr rfl)
@[simp] theorem ptr_eql {e b g o : Nat} (h : P.underlying t = some (.pointer e)) : aBinC P .eql t xo (.const (.pointer none)) (.ptr b g o) (.atom (.pointer none)) = some (.atom (.bool false)) := bin_ptr_nil h (.inl rfl)
@[simp] theorem ptr_neq {e b g o : Nat} (h : P.underlying t = some (.pointer e)) : aBinC P .neq t xo (.const (.pointer none)) (.ptr b g o) (.atom (.pointer none)) = some (.atom (.bool true)) := bin_ptr_nil h (.inr rfl)
@[simp] theorem cptr_eql {e : Nat} {cs : List AV} (h : P.underlying t = some (.pointer e)) : aBinC P .eql t xo (.const (.pointer none)) (.cptr cs) (.atom (.pointer none)) = some (.atom (.bool false)) := bin_cptr_nil h (.inl rfl)
@[simp] theorem cptr_neq {e : Nat} {cs : List AV} (h : P.underlying t = some (.pointer e)) : aBinC P .neq t xo (.const (.pointer none)) (.cptr cs) (.atom (.pointer none)) = some (.atom (.bool true)) := bin_cptr_nil h (.inr rfl)
@[simp] theorem iface_eql {u : TypeId} {b : AV} {ms : Array (String × TypeId)} (h : P.underlying t = some (.interface ms)) : aBinC P .eql t xo (.const .nilIface) (.iface u b) (.atom .nilIface) = some (.atom (.bool false)) := bin_iface_nil h (.inl rfl)
@[simp] theorem iface_neq {u : TypeId} {b : AV} {ms : Array (String × TypeId)} (h : P.underlying t = some (.interface ms)) : aBinC P .neq t xo (.const .nilIface) (.iface u b) (.atom .nilIface) = some (.atom (.bool true)) := bin_iface_nil h (.inr rfl)
@[simp] theorem isEq_eql : isEq .eql = true := rfl
@[simp] theorem isEq_neq : isEq .neq = false := rfl

theorem toList_beq {a b : ByteArray} : (a.toList == b.toList) = decide (a = b) := by
  have h : a.toList = b.toList ↔ a = b := by
    rw [ByteArray.toList_eq, ByteArray.toList_eq]
    constructor
    · intro h
      cases a; cases b
      simp only [ByteArray.mk.injEq]
      exact Array.toList_inj.1 h
    · rintro rfl; rfl
  by_cases e : a = b
  · simp [e]
  · have : a.toList ≠ b.toList := fun x => e (h.1 x)
    simp [e, this]

/-- Texts. -/
def strBin (op : BinOp) (a b : ByteArray) : Option AV := match op with
  | .add => if ((a.size + b.size : Nat) : Int) ≤ IntKind.i64.max then some (.atom (.string (a ++ b))) else none
  | .eql => some (.atom (.bool (a.toList == b.toList)))
  | .neq => some (.atom (.bool (!(a.toList == b.toList))))
  | .lss => some (.atom (.bool (Op.bytesLess a.toList b.toList)))
  | .leq => some (.atom (.bool (Op.bytesLess a.toList b.toList || a.toList == b.toList)))
  | .gtr => some (.atom (.bool (!(Op.bytesLess a.toList b.toList || a.toList == b.toList))))
  | .geq => some (.atom (.bool (!Op.bytesLess a.toList b.toList)))
  | _ => none
theorem pe_str {op : BinOp} {yo : Operand} {a b : ByteArray} (ho : op ∈ [BinOp.add, .eql, .neq, .lss, .leq, .gtr, .geq]) : (match pe P (do eqGuard op t xo yo (.string a) (.string b); binOp op t (.string a) (.string b)) with
    | some r => some (lift r)
    | none => none) = strBin op a b := by
  have hg : pe P (eqGuard op t xo yo (.string a) (.string b)) = some () := by
    unfold eqGuard; cases op <;> rfl
  rw [pe_bind hg]
  simp only [List.mem_cons, List.not_mem_nil, or_false] at ho
  rcases ho with rfl | rfl | rfl | rfl | rfl | rfl | rfl
  · simp only [binOp, Op.stringOp, strBin]
    by_cases h : ((a.size + b.size : Nat) : Int) ≤ IntKind.i64.max
    · rw [if_neg (by omega), if_pos h]; rfl
    · rw [if_pos (by omega), if_neg h]; rfl
  all_goals rfl
theorem bin_str_t {op : BinOp} {a b : ByteArray} (ho : op ∈ [BinOp.add, .eql, .neq, .lss, .leq, .gtr, .geq]) : aBinC P op t xo (.tmp s) (.atom (.string a)) (.atom (.string b)) = strBin op a b := by
  rw [aBinC_atom (.inl rfl), pe_str ho]
theorem bin_str_c {op : BinOp} {a b : ByteArray} (ho : op ∈ [BinOp.add, .eql, .neq, .lss, .leq, .gtr, .geq]) : aBinC P op t xo (.const (.string b)) (.atom (.string a)) (.atom (.string b)) = strBin op a b := by
  rw [aBinC_atom (.inr rfl), pe_str ho]
@[simp] theorem sbin_add_t {a b : ByteArray} : aBinC P .add t xo (.tmp s) (.atom (.string a)) (.atom (.string b)) = strBin .add a b := bin_str_t (by simp)
@[simp] theorem sbin_add_c {a b : ByteArray} : aBinC P .add t xo (.const (.string b)) (.atom (.string a)) (.atom (.string b)) = strBin .add a b := bin_str_c (by simp)
@[simp] theorem sbin_eql_t {a b : ByteArray} : aBinC P .eql t xo (.tmp s) (.atom (.string a)) (.atom (.string b)) = strBin .eql a b := bin_str_t (by simp)
@[simp] theorem sbin_eql_c {a b : ByteArray} : aBinC P .eql t xo (.const (.string b)) (.atom (.string a)) (.atom (.string b)) = strBin .eql a b := bin_str_c (by simp)
@[simp] theorem sbin_neq_t {a b : ByteArray} : aBinC P .neq t xo (.tmp s) (.atom (.string a)) (.atom (.string b)) = strBin .neq a b := bin_str_t (by simp)
@[simp] theorem sbin_neq_c {a b : ByteArray} : aBinC P .neq t xo (.const (.string b)) (.atom (.string a)) (.atom (.string b)) = strBin .neq a b := bin_str_c (by simp)
@[simp] theorem sbin_lss_t {a b : ByteArray} : aBinC P .lss t xo (.tmp s) (.atom (.string a)) (.atom (.string b)) = strBin .lss a b := bin_str_t (by simp)
@[simp] theorem sbin_lss_c {a b : ByteArray} : aBinC P .lss t xo (.const (.string b)) (.atom (.string a)) (.atom (.string b)) = strBin .lss a b := bin_str_c (by simp)
@[simp] theorem sbin_leq_t {a b : ByteArray} : aBinC P .leq t xo (.tmp s) (.atom (.string a)) (.atom (.string b)) = strBin .leq a b := bin_str_t (by simp)
@[simp] theorem sbin_leq_c {a b : ByteArray} : aBinC P .leq t xo (.const (.string b)) (.atom (.string a)) (.atom (.string b)) = strBin .leq a b := bin_str_c (by simp)
@[simp] theorem sbin_gtr_t {a b : ByteArray} : aBinC P .gtr t xo (.tmp s) (.atom (.string a)) (.atom (.string b)) = strBin .gtr a b := bin_str_t (by simp)
@[simp] theorem sbin_gtr_c {a b : ByteArray} : aBinC P .gtr t xo (.const (.string b)) (.atom (.string a)) (.atom (.string b)) = strBin .gtr a b := bin_str_c (by simp)
@[simp] theorem sbin_geq_t {a b : ByteArray} : aBinC P .geq t xo (.tmp s) (.atom (.string a)) (.atom (.string b)) = strBin .geq a b := bin_str_t (by simp)
@[simp] theorem sbin_geq_c {a b : ByteArray} : aBinC P .geq t xo (.const (.string b)) (.atom (.string a)) (.atom (.string b)) = strBin .geq a b := bin_str_c (by simp)
@[simp] theorem strBin_add {a b : ByteArray} : strBin .add a b = if ((a.size + b.size : Nat) : Int) ≤ 9223372036854775807 then some (.atom (.string (a ++ b))) else none := rfl
@[simp] theorem strBin_eql {a b : ByteArray} : strBin .eql a b = some (.atom (.bool (decide (a = b)))) := by
  have : (a.toList == b.toList) = decide (a = b) := toList_beq
  simp only [strBin, this]
@[simp] theorem strBin_neq {a b : ByteArray} : strBin .neq a b = some (.atom (.bool (decide (a ≠ b)))) := by
  have : (a.toList == b.toList) = decide (a = b) := toList_beq
  simp [strBin, this]
@[simp] theorem un_not {b : Bool} : aUn .not P (.atom (.bool b)) = some (.atom (.bool (!b))) := rfl
@[simp] theorem un_neg {k : IntKind} {a : Int} : aUn .neg P (.atom (.int k a)) = some (.atom (.int k (k.wrap (0 - a)))) := rfl
end eqs

end Go.Av
