/- A part of the proof: a verified reading of the model by values alone, and what is shown by it. It holds without conditions. -/
import Derived.Test.YtjmgcdbefkojjaaGreatDoorAvStr
namespace Go.Av
open Go

structure Ctx where
  P : Program
  G : Nat → Option (List AV)
  bld : Option TypeId

def GlobOK (G : Nat → Option (List AV)) (c : Cn) : Prop := ∀ g cs, G g = some cs → ∃ vs, c.F g ∧ CellsAt c.w g 0 vs ∧ RepL c.bare cs vs

theorem GlobOK.ext {G : Nat → Option (List AV)} {c c' : Cn} (h : Ext c c') (hg : GlobOK G c) : GlobOK G c' := by
  intro g cs hgs
  obtain ⟨vs, h1, h2, h3⟩ := hg g cs hgs
  exact ⟨vs, h.F _ h1, h2.keep (h.keep _ h1), RepL.ext h.bare _ _ h3⟩

def aeval (G : Nat → Option (List AV)) (env : Env) : Operand → Option AV
  | .tmp t => eget env t
  | .const v => some (lift v)
  | .global g => match G g with
    | some cs => some (.cptr cs)
    | none => none
  | .func f => some (.fn (.func f) [] [])

def aevalL (G : Nat → Option (List AV)) (env : Env) : List Operand → Option (List AV)
  | [] => some []
  | x :: xs => match aeval G env x, aevalL G env xs with
    | some a, some as => some (a :: as)
    | _, _ => none

def aevalO (G : Nat → Option (List AV)) (env : Env) : Option Operand → Option (Option AV)
  | none => some none
  | some x => match aeval G env x with
    | some a => some (some a)
    | none => none

def aevalP (G : Nat → Option (List AV)) (env : Env) : List (Nat × Operand) → Option (List (Nat × AV))
  | [] => some []
  | (i, x) :: xs => match aeval G env x, aevalP G env xs with
    | some a, some as => some ((i, a) :: as)
    | _, _ => none

section
variable {G : Nat → Option (List AV)} {c : Cn} {env : Env} {ρ : Operand → Value}

/-- What the operands stand for, in the model and here. -/
def RhoOK (G : Nat → Option (List AV)) (c : Cn) (env : Env) (ρ : Operand → Value) : Prop := ∀ x a, aeval G env x = some a → Rep c a (ρ x)

theorem rhoOK {a : Act} (hg : GlobOK G c) (he : EnvRep c env a.tmps) : RhoOK G c env a.eval := by
  intro x r h
  cases x with
  | tmp t =>
    obtain ⟨v, hv, hr⟩ := he t r h
    have : a.eval (.tmp t) = v := by simp [Act.eval, Array.getD_eq_getD_getElem?, hv]
    rw [this]; exact hr
  | const v => simp [aeval] at h; subst h; exact lift_rep c v
  | global g =>
    simp only [aeval] at h
    split at h
    · rename_i cs hcs
      cases h
      obtain ⟨vs, h1, h2, h3⟩ := hg g cs hcs
      exact ⟨g, 0, vs, h1, h2, rfl, h3⟩
    · cases h
  | func f => simp [aeval] at h; subst h; exact ⟨#[], #[], rfl, rfl, rfl⟩

theorem aevalL_ok (hρ : RhoOK G c env ρ) : ∀ {xs : List Operand} {as : List AV}, aevalL G env xs = some as → RepL c as (xs.map ρ)
  | [], as, h => by simp [aevalL] at h; subst h; rfl
  | x :: xs, as, h => by
    simp only [aevalL] at h
    split at h
    · rename_i a as' e1 e2
      cases h
      exact ⟨_, _, rfl, hρ x a e1, aevalL_ok hρ e2⟩
    · cases h

theorem aevalO_ok (hρ : RhoOK G c env ρ) {x : Option Operand} {a : Option AV} (h : aevalO G env x = some a) : OptRep c a (x.map ρ) := by
  cases x with
  | none => simp [aevalO] at h; subst h; rfl
  | some x =>
    simp only [aevalO] at h
    split at h
    · rename_i a' e
      cases h
      exact ⟨_, rfl, hρ x a' e⟩
    · cases h

theorem aevalP_ok (hρ : RhoOK G c env ρ) : ∀ {xs : List (Nat × Operand)} {as : List (Nat × AV)}, aevalP G env xs = some as → PartsRep c as (xs.map fun (i, x) => (i, ρ x))
  | [], as, h => by simp [aevalP] at h; subst h; rfl
  | (i, x) :: xs, as, h => by
    simp only [aevalP] at h
    split at h
    · rename_i a as' e1 e2
      cases h
      exact ⟨_, _, rfl, hρ x a e1, aevalP_ok hρ e2⟩
    · cases h
end

inductive Out where
  | val (a : AV) (H : Heap)
  | call (f : FuncId) (args : List AV)
  | round (l : Nat) (args : List AV)
  | dfr (f : FuncId) (args : List AV)

/-- A call of a function value. -/
def aCallV (f : AV) (args : List AV) : Option Out :=
  match f with
  | .fn (.func g) first cap => some (.call g (first ++ args ++ cap))
  | .yld l => some (.round l args)
  | _ => none

/-- The method of a value in an interface, where it stands in the type's own row. -/
def aMethod (P : Program) (t : TypeId) (name : String) : Option FuncId :=
  match P.info? t with
  | some i => match i.methods.find? (·.name == name) with
    | some m => if m.path.isEmpty = true then
        match m.func, P.underlying t with
        | some (f, true), some (.pointer _) => some f
        | some (_, false), some (.pointer _) => none
        | some (f, false), some _ => some f
        | _, _ => none
      else none
    | none => none
  | none => none

def aInvoke (P : Program) (recv : AV) (name : String) (args : List AV) : Option Out :=
  match recv with
  | .iface t v => match aMethod P t name with
    | some f => some (.call f (v :: args))
    | none => none
  | _ => none

def aBuiltin (P : Program) (base : Nat) (H : Heap) (b : Builtin) (argTypes : List TypeId) (type : TypeId) (args : List AV) : Option (AV × Heap) :=
  match b, argTypes, args with
  | .append, [sT, xT], [.slt b g len e, x] => aAppendB P base H sT xT b g len e (untagS x)
  | .append, [sT, xT], [s, x] => aAppend P base H sT xT s (untagS x)
  | .copy, [dT, _], [d, x] => aCopy P base H dT (untagS d) (untagS x)
  | .clear, [t], [x] => aClear P base H t (untagS x)
  | .unsafeSliceData, [_], [x] => match aSliceData x with
    | some r => some (r, H)
    | none => none
  | .unsafeString, [pt, _], [p, l] => aUStr P base H pt p l
  | .len, [t], [x] => match aLen P H t (untagS x) with
    | some r => some (r, H)
    | none => none
  | .min, _, args => match toVL args with
    | some vs => match pe P (Builtin.min_ argTypes.toArray type vs.toArray) with
      | some r => some (lift r, H)
      | none => none
    | none => none
  | .max, _, args => match toVL args with
    | some vs => match pe P (Builtin.max_ argTypes.toArray type vs.toArray) with
      | some r => some (lift r, H)
      | none => none
    | none => none
  | _, _, _ => none

def optV (r : Option AV) (H : Heap) : Option Out := match r with
  | some a => some (.val a H)
  | none => none
def optVH (r : Option (AV × Heap)) : Option Out := match r with
  | some (a, H) => some (.val a H)
  | none => none
def optH (r : Option Heap) : Option Out := match r with
  | some H => some (.val (.atom undef) H)
  | none => none

def aIndex (P : Program) (t : TypeId) (a i : AV) : Option AV :=
  match toV a, toV i with
  | some x, some y => match pe P (Instr.index t x y) with
    | some r => some (lift r)
    | none => none
  | _, _ => none

def aUn (op : UnOp) (P : Program) (a : AV) : Option AV :=
  match toV a with
  | some x => match pe P (Op.unary op x) with
    | some r => some (lift r)
    | none => none
  | none => none

def aSliceS (P : Program) (t : TypeId) (a : AV) (lo hi mx : Option AV) : Option AV :=
  match a with
  | .atom v =>
    match (match lo with | none => some none | some x => (toV x).map some : Option (Option Value)), (match hi with | none => some none | some x => (toV x).map some : Option (Option Value)), mx with
    | some l, some h, none => match pe P (Instr.sliceAt t v l h none) with
      | some r => some (lift r)
      | none => none
    | _, _, _ => none
  | a => aSlice P t a lo hi mx

def plainFn : Fn → Bool
  | .yield _ => false
  | _ => true

def constOf : Operand → Option Value
  | .const v => some v
  | _ => none

def aStep (Γ : Ctx) (base : Nat) (env : Env) (o : Oper) (H : Heap) : Option Out :=
  match o.op with
  | .move x | .assign x => optV (aeval Γ.G env x) H
  | .pick c a b => match aeval Γ.G env c with
    | some (.atom (.bool true)) => optV (aeval Γ.G env a) H
    | some (.atom (.bool false)) => optV (aeval Γ.G env b) H
    | _ => none
  | .alloc e => if Γ.bld = some e then optVH (aAllocT Γ.P H e) else optVH (aAlloc Γ.P H e)
  | .box _ x => match aeval Γ.G env x with
    | some a => optVH (aBox H a)
    | none => none
  | .build t ps => match aevalP Γ.G env ps.toList with
    | some as => optV (aBuild Γ.P t as) H
    | none => none
  | .buildSlice t n ps => match aevalP Γ.G env ps.toList with
    | some as => optVH (aBuildSlice Γ.P H t n as)
    | none => none
  | .load t a => match aeval Γ.G env a with
    | some a => optV (aLoad Γ.P H t (untag a)) H
    | none => none
  | .store t a x => match aeval Γ.G env a, aeval Γ.G env x with
    | some a, some x => optH (aStore Γ.P base H t (untag a) x)
    | _, _ => none
  | .nilCheck x => match aeval Γ.G env x with
    | some a => if nilOK a = true then some (.val a H) else none
    | none => none
  | .binOp op t x y _ => match aeval Γ.G env x, aeval Γ.G env y with
    | some a, some b => match constOf y, toV a with
      | some v, some u => optV (match pe Γ.P (do eqGuard op t x y u v; binOp op t u v) with
        | some r => some (lift r)
        | none => none) H
      | some v, none => optV (aBin Γ.P op t x y a (.atom v)) H
      | _, _ => optV (aBin Γ.P op t x y a b) H
    | _, _ => none
  | .unOp op _ x => match aeval Γ.G env x with
    | some a => optV (aUn op Γ.P a) H
    | none => none
  | .convert s d x => match aeval Γ.G env x with
    | some a => optVH (aConvert Γ.P H s d (untagS a))
    | none => none
  | .makeInterface t x => match aeval Γ.G env x with
    | some a => optV (aMakeInterface Γ.P t a) H
    | none => none
  | .makeFunc fn fs cs => match aevalL Γ.G env fs.toList, aevalL Γ.G env cs.toList with
    | some fs, some cs => if plainFn fn = true then some (.val (.fn fn fs cs) H) else none
    | _, _ => none
  | .makeMap _ none => some (.val (aMakeMap H).1 (aMakeMap H).2)
  | .makeSlice t l k => match aeval Γ.G env l, aeval Γ.G env k with
    | some l, some k => optVH (aMakeSlice Γ.P H t l k)
    | _, _ => none
  | .slice t x lo hi mx => match aeval Γ.G env x, aevalO Γ.G env lo, aevalO Γ.G env hi, aevalO Γ.G env mx with
    | some a, some lo, some hi, some mx => optV (aSliceS Γ.P t (untagS a) lo hi mx) H
    | _, _, _, _ => none
  | .fieldAddr s x f => match aeval Γ.G env x with
    | some a => optV (aFieldAddr Γ.P s (untag a) f) H
    | none => none
  | .field t x f => match aeval Γ.G env x with
    | some a => optV (aField Γ.P t a f) H
    | none => none
  | .indexAddr t x i => match aeval Γ.G env x, aeval Γ.G env i with
    | some a, some i => optV (aIndexAddr Γ.P t (untagS a) i) H
    | _, _ => none
  | .index t x i => match aeval Γ.G env x, aeval Γ.G env i with
    | some a, some i => optV (aIndex Γ.P t a i) H
    | _, _ => none
  | .lookup t x k ok => match aeval Γ.G env x, aeval Γ.G env k with
    | some a, some k => optV (aLookup Γ.P H t a k ok) H
    | _, _ => none
  | .mapUpdate t m k x | .insert t m k x => match aeval Γ.G env m, aeval Γ.G env k, aeval Γ.G env x with
    | some m, some k, some x => optH (aMapUpdate Γ.P base H t m k x)
    | _, _, _ => none
  | .range t x => match aeval Γ.G env x with
    | some a => optVH (aRange Γ.P H t a)
    | none => none
  | .next it true => match aeval Γ.G env it with
    | some a => optVH (aNext base H a)
    | none => none
  | .typeAssert x _ t ok => match aeval Γ.G env x with
    | some a => optV (aTypeAssert Γ.P a t ok) H
    | none => none
  | .extract x i => match aeval Γ.G env x with
    | some a => optV (aExtract a i) H
    | none => none
  | .call c => match aevalL Γ.G env c.args.toList with
    | some args => match c.callee with
      | .value f => match aeval Γ.G env f with
        | some f => aCallV f args
        | none => none
      | .invoke r name => match aeval Γ.G env r with
        | some r => aInvoke Γ.P r name args
        | none => none
      | .builtin b => optVH (aBuiltin Γ.P base H b c.argTypes.toList o.type args)
    | none => none
  | .defer c => match aevalL Γ.G env c.args.toList with
    | some args => match c.callee with
      | .value f => match aeval Γ.G env f with
        | some (.fn (.func g) first cap) => some (.dfr g (first ++ args ++ cap))
        | _ => none
      | _ => none
    | none => none
  | _ => none

def DefRep (c : Cn) (f : FuncId) (args : List AV) (d : Deferred) : Prop :=
  ∃ cap vs : Array Value, d = { target := .fn (.func f) cap, args := vs } ∧ RepL c args (vs ++ cap).toList

def StepOK (P : Program) (base : Nat) (c : Cn) (H : Heap) (s : Sem Next) : Out → Prop
  | .val a H' => ∃ v c', (s.run P c.w = .ok (.value v) c'.w ∨ (s.run P c.w = .ok .skip c'.w ∧ v = undef)) ∧ Post base c H c' H' ∧ Rep c' a v
  | .call f args => ∃ vs : Array Value, s.run P c.w = (callFunc f vs).run P c.w ∧ RepL c args vs.toList
  | .round l args => ∃ (B : Nat) (vs : Array Value), c.m l 0 = some (B, 0) ∧ s.run P c.w = (Instr.yield B vs).run P c.w ∧ RepL c args vs.toList
  | .dfr f args => ∃ d, s.run P c.w = .ok (.defer d) c.w ∧ DefRep c f args d

theorem optV_ok {P : Program} {base : Nat} {c : Cn} {H : Heap} {s : Sem Value} {r : Option AV} {out : Out} (h : optV r H = some out) (hk : ∀ a, r = some a → OpOK P base c H s a H) :
    StepOK P base c H (do pure (.value (← s))) out := by
  unfold optV at h
  split at h
  · rename_i a
    cases h
    obtain ⟨v, c', h1, h2, h3⟩ := hk a rfl
    exact ⟨v, c', .inl (by simp [h1]), h2, h3⟩
  · cases h

theorem optVH_ok {P : Program} {base : Nat} {c : Cn} {H : Heap} {s : Sem Value} {r : Option (AV × Heap)} {out : Out} (h : optVH r = some out) (hk : ∀ a H', r = some (a, H') → OpOK P base c H s a H') :
    StepOK P base c H (do pure (.value (← s))) out := by
  unfold optVH at h
  split at h
  · rename_i a H'
    cases h
    obtain ⟨v, c', h1, h2, h3⟩ := hk a H' rfl
    exact ⟨v, c', .inl (by simp [h1]), h2, h3⟩
  · cases h

theorem optH_ok {P : Program} {base : Nat} {c : Cn} {H : Heap} {s : Sem Unit} {r : Option Heap} {out : Out} (h : optH r = some out) (hk : ∀ H', r = some H' → ∃ c', s.run P c.w = .ok () c'.w ∧ Post base c H c' H') :
    StepOK P base c H (do s; pure .skip) out := by
  unfold optH at h
  split at h
  · rename_i H'
    cases h
    obtain ⟨c', h1, h2⟩ := hk H' rfl
    exact ⟨undef, c', .inr ⟨by simp [h1], rfl⟩, h2, rfl⟩
  · cases h

theorem toVL_ok {c : Cn} {as : List AV} {vs xs : List Value} (h : toVL as = some vs) (hr : RepL c as xs) : xs = vs := toVL_eq as vs xs h hr

theorem aMethod_ok {P : Program} {t : TypeId} {name : String} {f : FuncId} (h : aMethod P t name = some f) (v : Value) (n : Nat) (w : World) :
    (method (n + 1) t v name).run P w = .ok (f, v) w := by
  unfold aMethod at h
  split at h
  · rename_i i hi
    split at h
    · rename_i m hm
      split at h
      · rename_i hp
        have hpe : m.path.toList = [] := by simpa using hp
        split at h
        · rename_i f' e hf hu
          cases h
          simp [method, run_typeInfo' hi, hm, hpe, follow, hf, receiverAt, run_underlying' hu, Place.get]
        · cases h
        · rename_i f' d hne hf hu
          cases h
          have : ∀ e, d ≠ .pointer e := fun e he => hne e (by rw [he])
          cases d <;> first | exact absurd rfl (this _) | simp [method, run_typeInfo' hi, hm, hpe, follow, hf, receiverAt, run_underlying' hu, Place.get]
        · cases h
      · cases h
    · cases h
  · cases h

end Go.Av
