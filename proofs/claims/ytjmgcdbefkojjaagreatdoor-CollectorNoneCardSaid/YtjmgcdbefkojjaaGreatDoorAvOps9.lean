/- A part of the proof: a verified reading of the model by values alone, and what is shown by it. It holds without conditions. -/
import Derived.Lib.Builder
import Derived.Test.YtjmgcdbefkojjaaGreatDoorAvOps8
namespace Go.Av
open Go

def notIfaceT (P : Program) (t : TypeId) : Bool := match P.underlying t with
  | some (.interface _) => false
  | some _ => true
  | none => false

theorem notIfaceT_eq {P : Program} {t : TypeId} (h : notIfaceT P t = true) : ∃ d, P.underlying t = some d ∧ ∀ ms, d ≠ .interface ms := by
  unfold notIfaceT at h
  split at h
  · cases h
  · rename_i d hd hu
    exact ⟨d, hu, fun ms e => hd ms e⟩
  · cases h

def aMakeInterface (P : Program) (t : TypeId) (a : AV) : Option AV := if notIfaceT P t = true then some (.iface t a) else none

theorem aMakeInterface_ok {P : Program} {base : Nat} {c : Cn} {H : Heap} (hI : Inv c H) {t : TypeId} {a r : AV} {x : Value} (h : aMakeInterface P t a = some r) (hr : Rep c a x) :
    OpOK P base c H (Instr.makeInterface t x) r H := by
  unfold aMakeInterface at h
  split at h
  · rename_i hn
    cases h
    obtain ⟨d, hu, hd⟩ := notIfaceT_eq hn
    refine .same hI (v := .iface t x) ?_ ⟨x, rfl, hr⟩
    cases d <;> first | exact absurd rfl (hd _) | simp [Instr.makeInterface, run_underlying' hu]
  · cases h

def aTypeAssert (P : Program) (a : AV) (asserted : TypeId) (ok : Bool) : Option AV :=
  if notIfaceT P asserted = true then
    match a with
    | .iface t b => if t = asserted then some (if ok then .tuple [b, .atom (.bool true)] else b)
      else if ok then (match zeroT P asserted with | some z => some (.tuple [lift z, .atom (.bool false)]) | none => none) else none
    | .atom .nilIface => if ok then (match zeroT P asserted with | some z => some (.tuple [lift z, .atom (.bool false)]) | none => none) else none
    | _ => none
  else none

theorem aTypeAssert_ok {P : Program} {base : Nat} {c : Cn} {H : Heap} (hI : Inv c H) {xT asserted : TypeId} {ok : Bool} {a r : AV} {x : Value} (h : aTypeAssert P a asserted ok = some r) (hr : Rep c a x) :
    OpOK P base c H (Instr.typeAssert x xT asserted ok) r H := by
  unfold aTypeAssert at h
  split at h
  · rename_i hn
    obtain ⟨d, hu, hd⟩ := notIfaceT_eq hn
    have bad : ∀ z, zeroT P asserted = some z → (∃ s, (Instr.typeAssert x xT asserted true).run P c.w = .ok (.tuple #[z, .bool false]) s ∧ s = c.w) →
        OpOK P base c H (Instr.typeAssert x xT asserted true) (.tuple [lift z, .atom (.bool false)]) H := by
      rintro z hz ⟨s, hs, rfl⟩
      exact .same hI hs ⟨_, rfl, _, _, rfl, lift_rep c z, _, _, rfl, rfl, rfl⟩
    split at h
    · rename_i t b
      obtain ⟨v, rfl, hb⟩ := hr
      split at h
      · rename_i ht
        cases h; subst ht
        have hrun : (Instr.typeAssert (.iface t v) xT t ok).run P c.w = .ok (if ok then .tuple #[v, .bool true] else v) c.w := by
          cases d <;> first | exact absurd rfl (hd _) | simp [Instr.typeAssert, run_underlying' hu]
        refine .same hI hrun ?_
        cases ok
        · exact hb
        · exact ⟨_, rfl, _, _, rfl, hb, _, _, rfl, rfl, rfl⟩
      · rename_i ht
        split at h
        · rename_i hok
          subst hok
          split at h
          · rename_i z hz
            cases h
            refine bad z hz ⟨c.w, ?_, rfl⟩
            cases d <;> first | exact absurd rfl (hd _) | simp [Instr.typeAssert, run_underlying' hu, ht, run_zeroValue' hz]
          · cases h
        · cases h
    · cases hr
      split at h
      · rename_i hok
        subst hok
        split at h
        · rename_i z hz
          cases h
          refine bad z hz ⟨c.w, ?_, rfl⟩
          cases d <;> first | exact absurd rfl (hd _) | simp [Instr.typeAssert, run_underlying' hu, run_zeroValue' hz]
        · cases h
      · cases h
    · cases h
  · cases h

def aExtract (a : AV) (i : Nat) : Option AV := match a with
  | .tuple vs => vs[i]?
  | _ => none

theorem aExtract_ok {P : Program} {base : Nat} {c : Cn} {H : Heap} (hI : Inv c H) {i : Nat} {a r : AV} {x : Value} (h : aExtract a i = some r) (hr : Rep c a x) :
    OpOK P base c H (Instr.extract x i) r H := by
  unfold aExtract at h
  split at h
  · rename_i vs
    obtain ⟨us, rfl, hl⟩ := hr
    obtain ⟨v, hv, hrv⟩ := hl.get h
    have : us[i]? = some v := by simpa using hv
    exact .same hI (by simp [Instr.extract, this]) hrv
  · cases h

def nilOK : AV → Bool
  | .ptr .. | .cptr .. | .iface .. | .tptr .. => true
  | .fn (.method _) _ _ => false
  | .fn .. => true
  | _ => false

theorem nilOK_ok {P : Program} {c : Cn} {a : AV} {x : Value} (h : nilOK a = true) (hr : Rep c a x) (w : World) :
    (match x with
      | .pointer none | .nilIface | .nilFunc => (runtimePanic .nilDeref : Sem Next)
      | .func (.method name) first captured =>
        match (first[0]? : Option Value) with
        | some .nilIface => runtimePanic .nilDeref
        | some (.iface t w) => do
          if (← nilAhead ((← program).types.size + Made.depth) t w name) != some false then
            unsupported (.noEntry "op/nilCheck.the method's receiver behind this interface value is a nil pointer, or cannot be seen to be none, and the arguments act or may panic (ledger 612)")
          pure (.value (.func (.method name) first captured))
        | _ => pure (.value (.func (.method name) first captured))
      | x => pure (.value x)).run P w = .ok (.value x) w := by
  cases a with
  | ptr _ _ _ => obtain ⟨_, _, _, rfl⟩ := hr; rfl
  | cptr _ => obtain ⟨_, _, _, _, _, rfl, _⟩ := hr; rfl
  | iface _ _ => obtain ⟨_, rfl, _⟩ := hr; rfl
  | fn f _ _ => obtain ⟨_, _, rfl, _⟩ := hr; cases f <;> first | rfl | simp [nilOK] at h
  | atom _ => simp [nilOK] at h
  | sl _ _ _ => simp [nilOK] at h
  | slr _ _ _ _ _ _ => simp [nilOK] at h
  | map _ => simp [nilOK] at h
  | cmap _ _ => simp [nilOK] at h
  | agg _ => simp [nilOK] at h
  | tuple _ => simp [nilOK] at h
  | yld _ => simp [nilOK] at h
  | tptr _ _ _ _ => obtain ⟨_, _, _, rfl⟩ := hr; rfl
  | slt _ _ _ _ => simp [nilOK] at h
  | bptr _ _ _ => simp [nilOK] at h
  | bnil => simp [nilOK] at h

/-! ### comparisons with nil -/

def descIface : TypeDesc → Bool
  | .interface _ => true
  | _ => false
def descPtr : TypeDesc → Bool
  | .pointer _ => true
  | _ => false
def descFunc : TypeDesc → Bool
  | .func _ _ _ => true
  | _ => false

def descSlice : TypeDesc → Bool
  | .slice _ => true
  | _ => false

/-- Is neither of the two nil where the other one is? Then they differ. -/
def aDiffer (d : TypeDesc) : AV → AV → Bool
  | .iface _ _, .atom .nilIface => descIface d
  | .atom .nilIface, .iface _ _ => descIface d
  | .ptr .., .atom (.pointer none) => descPtr d
  | .cptr .., .atom (.pointer none) => descPtr d
  | .atom (.pointer none), .ptr .. => descPtr d
  | .atom (.pointer none), .cptr .. => descPtr d
  | .fn .., .atom .nilFunc => descFunc d
  | .atom .nilFunc, .fn .. => descFunc d
  | .slr .., .atom (.slice none 0 0) => descSlice d
  | .sl _ (_ + 1) _, .atom (.slice none 0 0) => descSlice d
  | _, _ => false

/-- Two values that are told apart without a look at memory, by a type's shape. -/
def Apart (d : TypeDesc) (x y : Value) : Prop :=
  (descIface d = true ∧ ((∃ t v, x = .iface t v ∧ y = .nilIface) ∨ (∃ t v, y = .iface t v ∧ x = .nilIface))) ∨
  (descPtr d = true ∧ ((∃ a, x = .pointer (some a) ∧ y = .pointer none) ∨ (∃ a, y = .pointer (some a) ∧ x = .pointer none))) ∨
  (descFunc d = true ∧ ((∃ f a b, x = .func f a b ∧ y = .nilFunc) ∨ (∃ f a b, y = .func f a b ∧ x = .nilFunc))) ∨
  (descSlice d = true ∧ ∃ a l k, x = .slice (some a) l k ∧ y = .slice none 0 0)

theorem aDiffer_apart {c : Cn} {d : TypeDesc} {a b : AV} {x y : Value} (h : aDiffer d a b = true) (hx : Rep c a x) (hy : Rep c b y) : Apart d x y := by
  unfold aDiffer at h
  split at h
  · obtain ⟨v, rfl, _⟩ := hx; cases hy; exact .inl ⟨h, .inl ⟨_, _, rfl, rfl⟩⟩
  · obtain ⟨v, rfl, _⟩ := hy; cases hx; exact .inl ⟨h, .inr ⟨_, _, rfl, rfl⟩⟩
  · obtain ⟨_, _, _, rfl⟩ := hx; cases hy; exact .inr (.inl ⟨h, .inl ⟨_, rfl, rfl⟩⟩)
  · obtain ⟨_, _, _, _, _, rfl, _⟩ := hx; cases hy; exact .inr (.inl ⟨h, .inl ⟨_, rfl, rfl⟩⟩)
  · obtain ⟨_, _, _, rfl⟩ := hy; cases hx; exact .inr (.inl ⟨h, .inr ⟨_, rfl, rfl⟩⟩)
  · obtain ⟨_, _, _, _, _, rfl, _⟩ := hy; cases hx; exact .inr (.inl ⟨h, .inr ⟨_, rfl, rfl⟩⟩)
  · obtain ⟨_, _, rfl, _⟩ := hx; cases hy; exact .inr (.inr (.inl ⟨h, .inl ⟨_, _, _, rfl, rfl⟩⟩))
  · obtain ⟨_, _, rfl, _⟩ := hy; cases hx; exact .inr (.inr (.inl ⟨h, .inr ⟨_, _, _, rfl, rfl⟩⟩))
  · obtain ⟨_, _, _, _, rfl, _⟩ := hx; cases hy; exact .inr (.inr (.inr ⟨h, _, _, _, rfl, rfl⟩))
  · rcases hx with ⟨_, h0, _⟩ | ⟨_, _, _, _, _, _, rfl, _⟩
    · cases h0
    · cases hy; exact .inr (.inr (.inr ⟨h, _, _, _, rfl, rfl⟩))
  · cases h

theorem apart_equalIn {P : Program} {t : TypeId} {d : TypeDesc} (hu : P.underlying t = some d) {x y : Value} (h : Apart d x y) (w : World) (n : Nat) : (Op.equalIn (n + 1) t x y).run P w = .ok false w := by
  rcases h with ⟨hd, h⟩ | ⟨hd, h⟩ | ⟨hd, h⟩ | ⟨hd, _, _, _, rfl, rfl⟩
  · cases d <;> simp [descIface] at hd
    rcases h with ⟨_, _, rfl, rfl⟩ | ⟨_, _, rfl, rfl⟩ <;> simp [Op.equalIn, run_underlying' hu]
  · cases d <;> simp [descPtr] at hd
    rcases h with ⟨_, rfl, rfl⟩ | ⟨_, rfl, rfl⟩ <;> simp [Op.equalIn, run_underlying' hu]
  · cases d <;> simp [descFunc] at hd
    rcases h with ⟨_, _, _, rfl, rfl⟩ | ⟨_, _, _, rfl, rfl⟩ <;> simp [Op.equalIn, run_underlying' hu]
  · cases d <;> simp [descSlice] at hd
    simp [Op.equalIn, run_underlying' hu]

theorem apart_binOp {P : Program} {t : TypeId} {d : TypeDesc} (hu : P.underlying t = some d) {x y : Value} (h : Apart d x y) (w : World) (op : BinOp) (hop : op = .eql ∨ op = .neq) (xo yo : Operand) :
    (do eqGuard op t xo yo x y; binOp op t x y : Sem Value).run P w = .ok (.bool (decide (op = .neq))) w := by
  have he : (Op.equal t x y).run P w = .ok false w := apart_equalIn hu h w 9999
  have hg : (eqGuard op t xo yo x y).run P w = .ok () w := by
    rcases h with ⟨_, h⟩ | ⟨_, h⟩ | ⟨_, h⟩ | ⟨_, _, _, _, rfl, rfl⟩
    · rcases h with ⟨_, _, rfl, rfl⟩ | ⟨_, _, rfl, rfl⟩ <;> rcases hop with rfl | rfl <;> simp [eqGuard]
    · rcases h with ⟨_, rfl, rfl⟩ | ⟨_, rfl, rfl⟩ <;> rcases hop with rfl | rfl <;> simp [eqGuard]
    · rcases h with ⟨_, _, _, rfl, rfl⟩ | ⟨_, _, _, rfl, rfl⟩ <;> rcases hop with rfl | rfl <;> simp [eqGuard]
    · rcases hop with rfl | rfl <;> simp [eqGuard]
  simp only [Sem.run_bind, hg, Result.andThen_ok]
  rcases h with ⟨_, h⟩ | ⟨_, h⟩ | ⟨_, h⟩ | ⟨_, _, _, _, rfl, rfl⟩
  · rcases h with ⟨_, _, rfl, rfl⟩ | ⟨_, _, rfl, rfl⟩ <;> rcases hop with rfl | rfl <;> simp [binOp, he]
  · rcases h with ⟨_, rfl, rfl⟩ | ⟨_, rfl, rfl⟩ <;> rcases hop with rfl | rfl <;> simp [binOp, he]
  · rcases h with ⟨_, _, _, rfl, rfl⟩ | ⟨_, _, _, rfl, rfl⟩ <;> rcases hop with rfl | rfl <;> simp [binOp, he]
  · rcases hop with rfl | rfl <;> simp [binOp, he]

/-- The same address, twice. -/
def aSame (P : Program) (t : TypeId) : AV → AV → Bool
  | .ptr b g o, .ptr b' g' o' => b == b' && g == g' && o == o' && (match P.underlying t with
    | some (.pointer u) => (P.info? u).isSome
    | _ => false)
  | _, _ => false

theorem aSame_ok {P : Program} {c : Cn} {t : TypeId} {a b : AV} {x y : Value} (h : aSame P t a b = true) (hx : Rep c a x) (hy : Rep c b y) :
    (do eqGuard .neq t (.const undef) (.const undef) x y; binOp .neq t x y : Sem Value).run P c.w = .ok (.bool false) c.w ∧ ∃ p, x = .pointer (some p) ∧ y = .pointer (some p) := by
  unfold aSame at h
  split at h
  · simp only [Bool.and_eq_true, beq_iff_eq] at h
    obtain ⟨⟨⟨rfl, rfl⟩, rfl⟩, h⟩ := h
    split at h
    · rename_i u hu
      obtain ⟨j, hj⟩ := Option.isSome_iff_exists.1 h
      obtain ⟨B, o, hm, rfl⟩ := hx
      obtain ⟨B2, o2, hm2, rfl⟩ := hy
      rw [hm] at hm2; cases hm2
      refine ⟨?_, _, rfl, rfl⟩
      simp [eqGuard, Lib.run_neq_ptr_same c.w _ hu hj]
    · cases h
  · cases h

def aBin (P : Program) (op : BinOp) (t : TypeId) (xo yo : Operand) (a b : AV) : Option AV :=
  match toV a, toV b with
  | some x, some y => match pe P (do eqGuard op t xo yo x y; binOp op t x y) with
    | some r => some (lift r)
    | none => none
  | _, _ => if aSame P t (untag a) (untag b) = true ∧ op = .neq then some (.atom (.bool false)) else match P.underlying t with
    | some d => if (op = .eql ∨ op = .neq) ∧ aDiffer d (untag a) (untag b) = true then some (.atom (.bool (decide (op = .neq)))) else none
    | none => none

theorem aBin_ok {P : Program} {base : Nat} {c : Cn} {H : Heap} (hI : Inv c H) {op : BinOp} {t : TypeId} {xo yo : Operand} {a b r : AV} {x y : Value}
    (h : aBin P op t xo yo a b = some r) (hx : Rep c a x) (hy : Rep c b y) : OpOK P base c H (do eqGuard op t xo yo x y; binOp op t x y) r H := by
  unfold aBin at h
  split at h
  · rename_i x' y' e1 e2
    have h1 := toV_eq a x' x e1 hx
    have h2 := toV_eq b y' y e2 hy
    subst h1; subst h2
    split at h
    · rename_i r' hr
      cases h
      exact .pure hI hr
    · cases h
  · split at h
    · rename_i hs
      cases h
      obtain ⟨h1, p, rfl, rfl⟩ := aSame_ok hs.1 (untag_rep hx) (untag_rep hy)
      obtain rfl := hs.2
      refine .same hI ?_ rfl
      simpa [eqGuard] using h1
    split at h
    · rename_i d hu
      split at h
      · rename_i hc
        cases h
        exact .same hI (apart_binOp hu (aDiffer_apart hc.2 (untag_rep hx) (untag_rep hy)) c.w op hc.1 xo yo) rfl
      · cases h
    · cases h

/-! ### len, and built-ins that look at no memory -/

def aLen (P : Program) (H : Heap) (t : TypeId) (a : AV) : Option AV :=
  match P.underlying t, a with
  | some (.slice _), .sl _ len _ => some (.atom (goInt len))
  | some (.slice _), .slr _ _ _ len _ _ => some (.atom (goInt len))
  | some (.slice _), .atom (.slice _ len _) => some (.atom (goInt len))
  | some .string, .atom (.string s) => some (.atom (goInt s.size))
  | some (.array n _), _ => some (.atom (goInt n))
  | some (.map _ _), a => match mapCells H a with
    | some (ks, _) => some (.atom (goInt ks.length))
    | none => none
  | _, _ => none

theorem aLen_ok {P : Program} {base : Nat} {c : Cn} {H : Heap} (hI : Inv c H) {t ty : TypeId} {a r : AV} {x : Value} (h : aLen P H t a = some r) (hr : Rep c a x) :
    OpOK P base c H (Builtin.len_ #[t] ty #[x]) r H := by
  unfold aLen at h
  split at h
  · rename_i hu
    cases h
    rcases hr with ⟨_, rfl, ad, cp, rfl, _⟩ | ⟨B, o, cp, vs, _, _, rfl, _⟩
    · exact .same hI (v := goInt 0) (by simp [Builtin.len_, run_underlying' hu]) rfl
    · exact .same hI (by simp [Builtin.len_, run_underlying' hu]) rfl
  · rename_i hu
    cases h
    obtain ⟨B, o, cp, _, rfl, _⟩ := hr
    exact .same hI (by simp [Builtin.len_, run_underlying' hu]) rfl
  · rename_i hu
    cases h; cases hr
    exact .same hI (by simp [Builtin.len_, run_underlying' hu]) rfl
  · rename_i hu
    cases h; cases hr
    exact .same hI (by simp [Builtin.len_, run_underlying' hu]) rfl
  · rename_i hu
    cases h
    exact .same hI (by simp [Builtin.len_, run_underlying' hu]) rfl
  · rename_i hu
    split at h
    · rename_i ks vs hm
      cases h
      rcases mapCells_ok hI hm hr with ⟨rfl, rfl, rfl⟩ | ⟨B, es, cl, rfl, hb, h1, _⟩
      · exact .same hI (v := goInt 0) (by simp [Builtin.len_, run_underlying' hu]) rfl
      · have hl := h1.length
        simp at hl
        have hgo : (getObj B).run P c.w = .ok (.map es cl) c.w := by simp [getObj, Sem.run, hb]
        exact .same hI (v := goInt ks.length) (by simp [Builtin.len_, run_underlying' hu, hgo, hl]) rfl
    · cases h
  · cases h

end Go.Av
