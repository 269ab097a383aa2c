/- A part of the proof: a verified reading of the model by values alone, and what is shown by it. It holds without conditions. -/
import Derived.Test.YtjmgcdbefkojjaaGreatDoorAvSimp
namespace Go.Av
open Go

/-- Where a field lies. -/
def foff (P : Program) (s : TypeId) (i : Nat) : Option Nat := match fieldsT P s with
  | some fs => match fs[i]? with
    | some f => match szOf P f.type with
      | some n => if n = 0 then none else some f.offset
      | none => none
    | none => none
  | none => none
def fput (P : Program) (s : TypeId) (i : Nat) : Option (Nat × TypeId) := match fieldsT P s with
  | some fs => match fs[i]? with
    | some f => some (f.offset, f.type)
    | none => none
  | none => none
@[simp] theorem aFieldAddr_eq {P : Program} {s : TypeId} {a : AV} {i : Nat} : aFieldAddr P s a i = match foff P s i with
  | some o => addrPlus a o
  | none => none := by
  unfold aFieldAddr foff
  cases fieldsT P s with
  | none => rfl
  | some fs =>
    simp only
    cases fs[i]? with
    | none => rfl
    | some f =>
      simp only
      cases szOf P f.type with
      | none => rfl
      | some n => simp only; split <;> rfl
@[simp] theorem aField_eq {P : Program} {t : TypeId} {cs : List AV} {i : Nat} : aField P t (.agg cs) i = match fput P t i with
  | some (o, ty) => apart P ty (cs.drop o)
  | none => none := by
  unfold aField fput
  cases fieldsT P t with
  | none => rfl
  | some fs =>
    simp only
    cases fs[i]? with
    | none => rfl
    | some f => rfl
@[simp] theorem apart_eq {P : Program} {t : TypeId} {cs : List AV} : apart P t cs = match aggT P t with
  | some true => match szOf P t with
    | some n => if n ≤ cs.length then some (.agg (cs.take n)) else none
    | none => none
  | some false => cs[0]?
  | none => none := rfl
@[simp] theorem addrPlus_ptr {b g o n : Nat} : addrPlus (.ptr b g o) n = some (.ptr b g (o + n)) := rfl
@[simp] theorem addrPlus_cptr {cs : List AV} {n : Nat} : addrPlus (.cptr cs) n = some (.cptr (cs.drop n)) := rfl
@[simp] theorem aLoad_eq {P : Program} {H : Heap} {t : TypeId} {a : AV} : aLoad P H t a = match srcCells H a with
  | some cs => apart P t cs
  | none => none := rfl
@[simp] theorem srcCells_ptr {H : Heap} {b g off : Nat} : srcCells H (.ptr b g off) = match hget H b with
    | some (.cells g' cs) => if g' = g then some (cs.drop off) else none
    | _ => none := rfl
@[simp] theorem srcCells_cptr {H : Heap} {cs : List AV} : srcCells H (.cptr cs) = some cs := rfl
@[simp] theorem untag_ptr {b g o : Nat} : untag (.ptr b g o) = .ptr b g o := rfl
@[simp] theorem untag_cptr {cs : List AV} : untag (.cptr cs) = .cptr cs := rfl
@[simp] theorem untag_atom {v : Value} : untag (.atom v) = .atom v := rfl
@[simp] theorem untag_agg {v : List AV} : untag (.agg v) = .agg v := rfl
@[simp] theorem untag_iface {t : TypeId} {v : AV} : untag (.iface t v) = .iface t v := rfl
@[simp] theorem untag_sl {cs : List AV} {n : Nat} {t : Bool} : untag (.sl cs n t) = .sl cs n t := rfl
@[simp] theorem untag_slr {b g o l e : Nat} {c : Option Nat} : untag (.slr b g o l c e) = .slr b g o l c e := rfl
@[simp] theorem untag_fn {f : Fn} {a b : List AV} : untag (.fn f a b) = .fn f a b := rfl
@[simp] theorem untagS_ptr {b g o : Nat} : untagS (.ptr b g o) = .ptr b g o := rfl
@[simp] theorem untagS_cptr {cs : List AV} : untagS (.cptr cs) = .cptr cs := rfl
@[simp] theorem untagS_atom {v : Value} : untagS (.atom v) = .atom v := rfl
@[simp] theorem untagS_agg {v : List AV} : untagS (.agg v) = .agg v := rfl
@[simp] theorem untagS_iface {t : TypeId} {v : AV} : untagS (.iface t v) = .iface t v := rfl
@[simp] theorem untagS_sl {cs : List AV} {n : Nat} {t : Bool} : untagS (.sl cs n t) = .sl cs n t := rfl
@[simp] theorem untagS_slr {b g o l e : Nat} {c : Option Nat} : untagS (.slr b g o l c e) = .slr b g o l c e := rfl
@[simp] theorem untagS_map {b : Nat} : untagS (.map b) = .map b := rfl
@[simp] theorem untagS_cmap {a b : List AV} : untagS (.cmap a b) = .cmap a b := rfl
@[simp] theorem hget_cons {o : AObj} {H : Heap} {b : Nat} : hget (o :: H) b = if b = H.length then some o else hget H b := rfl
@[simp] theorem hset_cons {o x : AObj} {H : Heap} {b : Nat} : hset (o :: H) b x = if b = H.length then x :: H else o :: hset H b x := rfl
@[simp] theorem aStore_eq {P : Program} {base : Nat} {H : Heap} {t : TypeId} {b g off : Nat} {v : AV} : aStore P base H t (.ptr b g off) v = if base ≤ b then
      match hget H b, szOf P t, avCells v with
      | some (.cells g' cs), some n, some vs =>
        if g' = g ∧ vs.length = n ∧ off + n ≤ cs.length ∧ allCells vs = true then some (hset H b (.cells g (splice cs off vs))) else none
      | _, _, _ => none
    else none := rfl
@[simp] theorem avCells_agg {cs : List AV} : avCells (.agg cs) = some cs := rfl
@[simp] theorem avCells_int {k : IntKind} {n : Int} : avCells (.atom (.int k n)) = some [.atom (.int k n)] := rfl
@[simp] theorem avCells_bool {n : Bool} : avCells (.atom (.bool n)) = some [.atom (.bool n)] := rfl
@[simp] theorem avCells_str {n : ByteArray} : avCells (.atom (.string n)) = some [.atom (.string n)] := rfl
@[simp] theorem avCells_ptr0 {a : Option Addr} : avCells (.atom (.pointer a)) = some [.atom (.pointer a)] := rfl
@[simp] theorem avCells_sl0 {a : Option Addr} {l c : Nat} : avCells (.atom (.slice a l c)) = some [.atom (.slice a l c)] := rfl
@[simp] theorem avCells_map0 {a : Option Nat} : avCells (.atom (.map a)) = some [.atom (.map a)] := rfl
@[simp] theorem avCells_nilI : avCells (.atom .nilIface) = some [.atom .nilIface] := rfl
@[simp] theorem avCells_nilF : avCells (.atom .nilFunc) = some [.atom .nilFunc] := rfl
@[simp] theorem avCells_ptr {b g o : Nat} : avCells (.ptr b g o) = some [.ptr b g o] := rfl
@[simp] theorem avCells_cptr {cs : List AV} : avCells (.cptr cs) = some [.cptr cs] := rfl
@[simp] theorem avCells_iface {t : TypeId} {a : AV} : avCells (.iface t a) = some [.iface t a] := rfl
@[simp] theorem avCells_sl {cs : List AV} {n : Nat} {t : Bool} : avCells (.sl cs n t) = some [.sl cs n t] := rfl
@[simp] theorem avCells_slr {b g o l e : Nat} {c : Option Nat} : avCells (.slr b g o l c e) = some [.slr b g o l c e] := rfl
@[simp] theorem avCells_fn {f : Fn} {a b : List AV} : avCells (.fn f a b) = some [.fn f a b] := rfl
@[simp] theorem avCells_map {b : Nat} : avCells (.map b) = some [.map b] := rfl
@[simp] theorem avCells_cmap {a b : List AV} : avCells (.cmap a b) = some [.cmap a b] := rfl
@[simp] theorem allCells_nil : allCells [] = true := rfl
@[simp] theorem allCells_cons {a : AV} {as : List AV} : allCells (a :: as) = (isCell a && allCells as) := rfl
@[simp] theorem isCell_int {k : IntKind} {n : Int} : isCell (.atom (.int k n)) = true := rfl
@[simp] theorem isCell_bool {n : Bool} : isCell (.atom (.bool n)) = true := rfl
@[simp] theorem isCell_str {n : ByteArray} : isCell (.atom (.string n)) = true := rfl
@[simp] theorem isCell_ptr0 {a : Option Addr} : isCell (.atom (.pointer a)) = true := rfl
@[simp] theorem isCell_sl0 {a : Option Addr} {l c : Nat} : isCell (.atom (.slice a l c)) = true := rfl
@[simp] theorem isCell_map0 {a : Option Nat} : isCell (.atom (.map a)) = true := rfl
@[simp] theorem isCell_nilI : isCell (.atom .nilIface) = true := rfl
@[simp] theorem isCell_nilF : isCell (.atom .nilFunc) = true := rfl
@[simp] theorem isCell_ptr {b g o : Nat} : isCell (.ptr b g o) = true := rfl
@[simp] theorem isCell_cptr {cs : List AV} : isCell (.cptr cs) = true := rfl
@[simp] theorem isCell_iface {t : TypeId} {a : AV} : isCell (.iface t a) = true := rfl
@[simp] theorem isCell_sl {cs : List AV} {n : Nat} {t : Bool} : isCell (.sl cs n t) = true := rfl
@[simp] theorem isCell_slr {b g o l e : Nat} {c : Option Nat} : isCell (.slr b g o l c e) = true := rfl
@[simp] theorem isCell_fn {f : Fn} {a b : List AV} : isCell (.fn f a b) = true := rfl
@[simp] theorem isCell_map {b : Nat} : isCell (.map b) = true := rfl
@[simp] theorem isCell_cmap {a b : List AV} : isCell (.cmap a b) = true := rfl
@[simp] theorem splice_nil {α : Type} {cs : List α} {n : Nat} : splice cs n [] = cs := by cases cs <;> rfl
@[simp] theorem splice_cons {α : Type} {cs vs : List α} {n : Nat} {v : α} : splice cs n (v :: vs) = splice (cs.set n v) (n + 1) vs := by cases cs <;> rfl
@[simp] theorem aBox_eq {H : Heap} {v : AV} : aBox H v = match avCells v with
  | some cs => some (.ptr H.length 0 0, .cells 0 cs :: H)
  | none => none := rfl
@[simp] theorem aAlloc_eq {P : Program} {H : Heap} {t : TypeId} : aAlloc P H t = match zeroT P t with
  | some z => aBox H (lift z)
  | none => none := rfl
@[simp] theorem aAllocT_eq {P : Program} {H : Heap} {t : TypeId} : aAllocT P H t = match zeroT P t with
  | some z => match avCells (lift z) with
    | some cs => some (.tptr H.length 0 t cs.length, .cells 0 cs :: H)
    | none => none
  | none => none := rfl
@[simp] theorem aFill_nil {ps : List (Nat × Nat)} {cs : List AV} : aFill ps cs [] = some cs := rfl
@[simp] theorem aFill_cons {ps : List (Nat × Nat)} {cs : List AV} {i : Nat} {v : AV} {rest : List (Nat × AV)} : aFill ps cs ((i, v) :: rest) = match ps[i]?, avCells v with
    | some (off, size), some vs => if vs.length = size ∧ off + size ≤ cs.length then aFill ps (splice cs off vs) rest else none
    | _, _ => none := rfl
@[simp] theorem aBuild_eq {P : Program} {t : TypeId} {ps : List (Nat × AV)} : aBuild P t ps = match buildInfo P t with
  | some (cs, qs) => (aFill qs cs ps).map .agg
  | none => none := rfl
@[simp] theorem aCallV_fn {g : FuncId} {fs cs args : List AV} : aCallV (.fn (.func g) fs cs) args = some (.call g (fs ++ args ++ cs)) := rfl
@[simp] theorem aCallV_yld {l : Nat} {args : List AV} : aCallV (.yld l) args = some (.round l args) := rfl
@[simp] theorem aInvoke_iface {P : Program} {t : TypeId} {v : AV} {name : String} {args : List AV} : aInvoke P (.iface t v) name args = match aMethod P t name with
    | some f => some (.call f (v :: args))
    | none => none := rfl
@[simp] theorem aExtract_tuple {vs : List AV} {i : Nat} : aExtract (.tuple vs) i = vs[i]? := rfl
@[simp] theorem aMakeInterface_eq {P : Program} {t : TypeId} {a : AV} : aMakeInterface P t a = if notIfaceT P t = true then some (.iface t a) else none := rfl
@[simp] theorem aTypeAssert_iface {P : Program} {t u : TypeId} {b : AV} {ok : Bool} (h : notIfaceT P u = true) : aTypeAssert P (.iface t b) u ok = if t = u then some (if ok then .tuple [b, .atom (.bool true)] else b)
      else if ok then (match zeroT P u with | some z => some (.tuple [lift z, .atom (.bool false)]) | none => none) else none := by
  unfold aTypeAssert; rw [if_pos h]; rfl
@[simp] theorem aTypeAssert_nil {P : Program} {u : TypeId} {ok : Bool} (h : notIfaceT P u = true) : aTypeAssert P (.atom .nilIface) u ok = if ok then (match zeroT P u with | some z => some (.tuple [lift z, .atom (.bool false)]) | none => none) else none := by
  unfold aTypeAssert; rw [if_pos h]; rfl
@[simp] theorem nilOK_ptr {b g o : Nat} : nilOK (.ptr b g o) = true := rfl
@[simp] theorem nilOK_cptr {cs : List AV} : nilOK (.cptr cs) = true := rfl
@[simp] theorem nilOK_iface {t : TypeId} {a : AV} : nilOK (.iface t a) = true := rfl
@[simp] theorem nilOK_func {f : FuncId} {a b : List AV} : nilOK (.fn (.func f) a b) = true := rfl
@[simp] theorem nilOK_tptr {b g t n : Nat} : nilOK (.tptr b g t n) = true := rfl

/-- Lengths. -/
@[simp] theorem len_str {P : Program} {H : Heap} {base t ty : Nat} {s : ByteArray} (h : P.underlying t = some .string) : aBuiltin P base H .len [t] ty [.atom (.string s)] = some (.atom (.int .i64 s.size), H) := by
  simp only [aBuiltin, untagS, aLen, h]; rfl
@[simp] theorem len_sl {P : Program} {H : Heap} {base t ty e : Nat} {cs : List AV} {n : Nat} {b : Bool} (h : P.underlying t = some (.slice e)) : aBuiltin P base H .len [t] ty [.sl cs n b] = some (.atom (.int .i64 n), H) := by
  simp only [aBuiltin, untagS, aLen, h]; rfl
@[simp] theorem len_slr {P : Program} {H : Heap} {base t ty e : Nat} {b g o n s : Nat} {c : Option Nat} (h : P.underlying t = some (.slice e)) : aBuiltin P base H .len [t] ty [.slr b g o n c s] = some (.atom (.int .i64 n), H) := by
  simp only [aBuiltin, untagS, aLen, h]; rfl
@[simp] theorem len_slice {P : Program} {H : Heap} {base t ty e : Nat} {a : Option Addr} {n c : Nat} (h : P.underlying t = some (.slice e)) : aBuiltin P base H .len [t] ty [.atom (.slice a n c)] = some (.atom (.int .i64 n), H) := by
  simp only [aBuiltin, untagS, aLen, h]; rfl
@[simp] theorem min_int {P : Program} {H : Heap} {base ty : Nat} {ts : List TypeId} {k : IntKind} {a b : Int} : aBuiltin P base H .min ts ty [.atom (.int k a), .atom (.int k b)] = some (.atom (.int k (min a b)), H) := by
  have h : pe P (Builtin.min_ ts.toArray ty [Value.int k a, .int k b].toArray) = some (.int k (min a b)) := by
    show some (Value.int k (if b < a then b else a)) = _
    congr 2
    rw [Int.min_def]; split <;> split <;> omega
  show (match pe P (Builtin.min_ ts.toArray ty [Value.int k a, .int k b].toArray) with | some r => some (lift r, H) | none => none) = _
  rw [h]; rfl
@[simp] theorem max_int {P : Program} {H : Heap} {base ty : Nat} {ts : List TypeId} {k : IntKind} {a b : Int} : aBuiltin P base H .max ts ty [.atom (.int k a), .atom (.int k b)] = some (.atom (.int k (max a b)), H) := by
  have h : pe P (Builtin.max_ ts.toArray ty [Value.int k a, .int k b].toArray) = some (.int k (max a b)) := by
    show some (Value.int k (if b > a then b else a)) = _
    congr 2
    rw [Int.max_def]; split <;> split <;> omega
  show (match pe P (Builtin.max_ ts.toArray ty [Value.int k a, .int k b].toArray) with | some r => some (lift r, H) | none => none) = _
  rw [h]; rfl

theorem pe_underlying {P : Program} {t : TypeId} {d : TypeDesc} (h : P.underlying t = some d) : pe P (underlying t) = some d := by
  unfold underlying
  rw [pe_bind (a := P) rfl, h]; rfl

theorem pe_boundsPanic {P : Program} {α : Type} {k : IntKind} {i y : Int} {code : BoundsCode} : pe P (boundsPanic k i y code : Sem α) = none := by
  unfold boundsPanic
  dsimp only []
  split <;> rfl

theorem pe_bound {P : Program} {k : IntKind} {i : Int} {y : Nat} {code : BoundsCode} : pe P (Instr.sliceBound (.int k i) y code) = if 0 ≤ i ∧ i ≤ y then some i.toNat else none := by
  unfold Instr.sliceBound
  show pe P (if 0 ≤ i ∧ i ≤ (y : Int) then pure i.toNat else _) = _
  split
  · rfl
  · exact pe_boundsPanic

/-- Parts of a string. -/
theorem pe_slice_str {P : Program} {t : TypeId} {s : ByteArray} {lo hi : Option Value} (hu : P.underlying t = some .string) : pe P (Instr.sliceAt t (.string s) lo hi none) =
    match pe P (Instr.sliceBounds false s.size s.size lo hi none) with
    | some (l, h, _) => some (.string (s.extract l h))
    | none => none := by
  unfold Instr.sliceAt
  rw [pe_bind (pe_underlying hu)]
  show pe P (Instr.slice t (.string s) lo hi none) = _
  unfold Instr.slice
  rw [pe_bind (pe_underlying hu)]
  show pe P ((Instr.sliceBounds false s.size s.size lo hi none) >>= _) = _
  cases e : pe P (Instr.sliceBounds false s.size s.size lo hi none) with
  | none => rw [pe_bind_none e]
  | some p => rw [pe_bind e]; rfl

@[simp] theorem slice_str_hi {P : Program} {t : TypeId} {s : ByteArray} {k : IntKind} {h : Int} (hu : P.underlying t = some .string) :
    aSliceS P t (.atom (.string s)) none (some (.atom (.int k h))) none = if 0 ≤ h ∧ h ≤ s.size then some (.atom (.string (s.extract 0 h.toNat))) else none := by
  show (match pe P (Instr.sliceAt t (.string s) none (some (.int k h)) none) with | some r => some (lift r) | none => none) = _
  rw [pe_slice_str hu]
  unfold Instr.sliceBounds
  rw [pe_bind (a := s.size) rfl]
  dsimp only []
  have hb : ∀ code, pe P (Instr.sliceBound (.int k h) s.size code) = _ := fun code => pe_bound
  by_cases c : 0 ≤ h ∧ h ≤ (s.size : Int)
  · simp only [if_pos c] at hb ⊢
    rw [pe_bind (hb _)]; rfl
  · simp only [if_neg c] at hb ⊢
    rw [pe_bind_none (hb _)]
@[simp] theorem slice_str_lo {P : Program} {t : TypeId} {s : ByteArray} {k : IntKind} {l : Int} (hu : P.underlying t = some .string) :
    aSliceS P t (.atom (.string s)) (some (.atom (.int k l))) none none = if 0 ≤ l ∧ l ≤ s.size then some (.atom (.string (s.extract l.toNat s.size))) else none := by
  show (match pe P (Instr.sliceAt t (.string s) (some (.int k l)) none none) with | some r => some (lift r) | none => none) = _
  rw [pe_slice_str hu]
  unfold Instr.sliceBounds
  rw [pe_bind (a := s.size) rfl]
  dsimp only []
  rw [pe_bind (a := s.size) rfl]
  have hb : ∀ code, pe P (Instr.sliceBound (.int k l) s.size code) = _ := fun code => pe_bound
  by_cases c : 0 ≤ l ∧ l ≤ (s.size : Int)
  · simp only [if_pos c] at hb ⊢
    rw [pe_bind (hb _)]; rfl
  · simp only [if_neg c] at hb ⊢
    rw [pe_bind_none (hb _)]
@[simp] theorem slice_str_both {P : Program} {t : TypeId} {s : ByteArray} {k k' : IntKind} {l h : Int} (hu : P.underlying t = some .string) :
    aSliceS P t (.atom (.string s)) (some (.atom (.int k l))) (some (.atom (.int k' h))) none = if 0 ≤ l ∧ l ≤ h ∧ h ≤ s.size then some (.atom (.string (s.extract l.toNat h.toNat))) else none := by
  show (match pe P (Instr.sliceAt t (.string s) (some (.int k l)) (some (.int k' h)) none) with | some r => some (lift r) | none => none) = _
  rw [pe_slice_str hu]
  unfold Instr.sliceBounds
  rw [pe_bind (a := s.size) rfl]
  dsimp only []
  have hb : ∀ code, pe P (Instr.sliceBound (.int k' h) s.size code) = _ := fun code => pe_bound
  have hb2 : ∀ code, pe P (Instr.sliceBound (.int k l) h.toNat code) = _ := fun code => pe_bound
  by_cases c : 0 ≤ h ∧ h ≤ (s.size : Int)
  · simp only [if_pos c] at hb
    rw [pe_bind (hb _)]
    by_cases c2 : 0 ≤ l ∧ l ≤ (h.toNat : Int)
    · simp only [if_pos c2] at hb2
      rw [if_pos (show 0 ≤ l ∧ l ≤ h ∧ h ≤ (s.size : Int) by omega), pe_bind (hb2 _)]; rfl
    · simp only [if_neg c2] at hb2
      rw [if_neg (show ¬ (0 ≤ l ∧ l ≤ h ∧ h ≤ (s.size : Int)) by omega), pe_bind_none (hb2 _)]
  · simp only [if_neg c] at hb
    rw [pe_bind_none (hb _), if_neg (by omega)]
@[simp] theorem optV_ite {c : Prop} [Decidable c] {a : AV} {H : Heap} : optV (if c then some a else none) H = if c then some (.val a H) else none := by split <;> rfl
@[simp] theorem optVH_ite {c : Prop} [Decidable c] {a : AV} {H : Heap} : optVH (if c then some (a, H) else none) = if c then some (.val a H) else none := by split <;> rfl
@[simp] theorem optH_ite {c : Prop} [Decidable c] {H : Heap} : optH (if c then some H else none) = if c then some (.val (.atom undef) H) else none := by split <;> rfl
@[simp] theorem WOut_ite {Γ : Par} {G : Rc → (Res → Prop) → List Item → Env → List ADef → Heap → Prop} {dr : Bool} {x : Rc} {all : Array Oper} {k : List Item} {P : Res → Prop} {l : List Oper} {env : Env} {ds : List ADef} {H : Heap} {dst : Option Tmp}
    {c : Prop} [Decidable c] {o : Out} : WOut Γ G dr x all k P l env ds H dst (if c then some o else none) = (c ∧ WOut Γ G dr x all k P l env ds H dst (some o)) := by
  split <;> simp_all
@[simp] theorem aResults_nil {P : Program} {env : Env} {H : Heap} : aResults P env H [] = some [] := rfl
@[simp] theorem aResults_tmp {P : Program} {env : Env} {H : Heap} {t : Nat} {rs : List ResultVar} : aResults P env H (.tmp t :: rs) = match eget env t, aResults P env H rs with
    | some a, some l => some (a :: l)
    | _, _ => none := rfl
@[simp] theorem aResults_cell {P : Program} {env : Env} {H : Heap} {t ty : Nat} {rs : List ResultVar} : aResults P env H (.cell t ty :: rs) = match eget env t with
    | some p => match aLoad P H ty p, aResults P env H rs with
      | some a, some l => some (a :: l)
      | _, _ => none
    | none => none := rfl
@[simp] theorem frz_atom {base : Nat} {H : Heap} {v : Value} : frz base H (.atom v) = some (.atom v) := rfl
@[simp] theorem frz_cptr {base : Nat} {H : Heap} {cs : List AV} : frz base H (.cptr cs) = some (.cptr cs) := rfl
@[simp] theorem frz_sl {base : Nat} {H : Heap} {cs : List AV} {n : Nat} {t : Bool} : frz base H (.sl cs n t) = some (.sl cs n t) := rfl
@[simp] theorem frz_cmap {base : Nat} {H : Heap} {a b : List AV} : frz base H (.cmap a b) = some (.cmap a b) := rfl
/-- Values out of memory, one by one. -/
def frzL (base : Nat) (H : Heap) (l : List AV) : Option (List AV) := frzWL (frzC base H 4) true base H l
@[simp] theorem frzL_nil {base : Nat} {H : Heap} : frzL base H [] = some [] := rfl
@[simp] theorem frzL_cons {base : Nat} {H : Heap} {a : AV} {l : List AV} : frzL base H (a :: l) = match frz base H a, frzL base H l with
    | some a', some l' => some (a' :: l')
    | _, _ => none := by
  show frzWL _ _ _ _ _ = _
  simp only [frzWL, frzL, frz]; rfl
@[simp] theorem frz_agg {base : Nat} {H : Heap} {cs : List AV} : frz base H (.agg cs) = match frzL base H cs with
    | some l => some (.agg l)
    | none => none := by
  show frzW _ _ _ _ _ = _
  simp only [frzW, frzL]; rfl
@[simp] theorem frz_tuple {base : Nat} {H : Heap} {cs : List AV} : frz base H (.tuple cs) = match frzL base H cs with
    | some l => some (.tuple l)
    | none => none := by
  show frzW _ _ _ _ _ = _
  simp only [frzW, frzL]; rfl
@[simp] theorem frz_iface {base : Nat} {H : Heap} {t : TypeId} {a : AV} : frz base H (.iface t a) = match frz base H a with
    | some b => some (.iface t b)
    | none => none := by
  show frzW _ _ _ _ _ = _
  simp only [frzW, frz]; rfl
@[simp] theorem byVL_nil : byVL [] = true := rfl
@[simp] theorem byVL_cons {a : AV} {l : List AV} : byVL (a :: l) = (byV a && byVL l) := rfl
@[simp] theorem byV_atom {v : Value} : byV (.atom v) = true := rfl
@[simp] theorem byV_sl {cs : List AV} {n : Nat} {t : Bool} : byV (.sl cs n t) = true := rfl
@[simp] theorem byV_cptr {cs : List AV} : byV (.cptr cs) = true := rfl
@[simp] theorem byV_cmap {a b : List AV} : byV (.cmap a b) = true := rfl
@[simp] theorem byV_agg {cs : List AV} : byV (.agg cs) = byVL cs := rfl
@[simp] theorem byV_tuple {cs : List AV} : byV (.tuple cs) = byVL cs := rfl
@[simp] theorem byV_iface {t : TypeId} {a : AV} : byV (.iface t a) = byV a := rfl
@[simp] theorem byV_fn {f : Fn} {a b : List AV} : byV (.fn f a b) = (byVL a && byVL b) := rfl

/-- A part of a slice of which only the place is known. -/
theorem pe_slice_slice {P : Program} {t e sz : Nat} {a : Option Addr} {len cap : Nat} {lo hi : Option Value} (hu : P.underlying t = some (.slice e)) (hz : szOf P e = some sz) : pe P (Instr.sliceAt t (.slice a len cap) lo hi none) =
    match pe P (Instr.sliceBounds true len cap lo hi none) with
    | some (l, h, m) => some (.slice (if m = l then a else a.map (·.add (l * sz))) (h - l) (m - l))
    | none => none := by
  unfold Instr.sliceAt
  rw [pe_bind (pe_underlying hu)]
  show pe P (Instr.slice t (.slice a len cap) lo hi none) = _
  unfold Instr.slice
  rw [pe_bind (pe_underlying hu)]
  show pe P ((Instr.sliceBounds true len cap lo hi none) >>= _) = _
  cases h0 : pe P (Instr.sliceBounds true len cap lo hi none) with
  | none => rw [pe_bind_none h0]
  | some p =>
    rw [pe_bind h0]
    obtain ⟨l, h, m⟩ := p
    have : pe P (sizeOf e) = some sz := by
      unfold szOf at hz
      cases hi : P.info? e with
      | none => simp [hi] at hz
      | some i =>
        simp [hi] at hz
        unfold sizeOf typeInfo
        show pe P ((program >>= _) >>= _) = _
        rw [pe_bind (a := i) (by rw [pe_bind (a := P) rfl]; simp [hi]), hz]
        rfl
    dsimp only []
    rw [pe_bind this]
    rfl
@[simp] theorem slice_slice_hi {P : Program} {t e sz : Nat} {a : Option Addr} {len cap : Nat} {k : IntKind} {h : Int} (hu : P.underlying t = some (.slice e)) (hz : szOf P e = some sz) :
    aSliceS P t (.atom (.slice a len cap)) none (some (.atom (.int k h))) none = if 0 ≤ h ∧ h ≤ cap then some (lift (.slice (if cap = 0 then a else a.map (·.add 0)) h.toNat cap)) else none := by
  show (match pe P (Instr.sliceAt t (.slice a len cap) none (some (.int k h)) none) with | some r => some (lift r) | none => none) = _
  rw [pe_slice_slice hu hz]
  unfold Instr.sliceBounds
  rw [pe_bind (a := cap) rfl]
  dsimp only []
  have hb : ∀ code, pe P (Instr.sliceBound (.int k h) cap code) = _ := fun code => pe_bound
  by_cases c : 0 ≤ h ∧ h ≤ (cap : Int)
  · simp only [if_pos c] at hb ⊢
    rw [pe_bind (hb _)]
    simp
  · simp only [if_neg c] at hb ⊢
    rw [pe_bind_none (hb _)]

@[simp] theorem asIntA_int {k : IntKind} {n : Int} : asIntA (.atom (.int k n)) = some n := rfl
theorem bnds_none {len : Nat} : bnds none none none len = some (0, len, none) := rfl
theorem bnds_hi {len : Nat} {k : IntKind} {h : Int} : bnds none (some (.atom (.int k h))) none len = if 0 ≤ h ∧ h ≤ len then some (0, h.toNat, none) else none := by
  simp only [bnds, bnd, asIntA_int]
  by_cases c : 0 ≤ h ∧ h ≤ (len : Int)
  · simp only [if_pos c]
  · simp only [if_neg c]
theorem bnds_lo {len : Nat} {k : IntKind} {l : Int} : bnds (some (.atom (.int k l))) none none len = if 0 ≤ l ∧ l ≤ len then some (l.toNat, len, none) else none := by
  simp only [bnds, bnd, asIntA_int]
  by_cases c : 0 ≤ l ∧ l ≤ (len : Int)
  · simp only [if_pos c]
  · simp only [if_neg c]
theorem bnds_both {len : Nat} {k k' : IntKind} {l h : Int} : bnds (some (.atom (.int k l))) (some (.atom (.int k' h))) none len = if 0 ≤ l ∧ l ≤ h ∧ h ≤ len then some (l.toNat, h.toNat, none) else none := by
  simp only [bnds, bnd, asIntA_int]
  by_cases c : 0 ≤ h ∧ h ≤ (len : Int)
  · simp only [if_pos c]
    by_cases c2 : 0 ≤ l ∧ l ≤ (h.toNat : Int)
    · rw [if_pos c2, if_pos (by omega)]
    · rw [if_neg c2, if_neg (by omega)]
  · rw [if_neg c, if_neg (by omega)]
theorem bnds_max {len : Nat} {k k' : IntKind} {h m : Int} : bnds none (some (.atom (.int k h))) (some (.atom (.int k' m))) len = if 0 ≤ h ∧ h ≤ m ∧ m ≤ len then some (0, h.toNat, some m.toNat) else none := by
  simp only [bnds, bnd, asIntA_int]
  by_cases c : 0 ≤ m ∧ m ≤ (len : Int)
  · simp only [if_pos c]
    by_cases c2 : 0 ≤ h ∧ h ≤ (m.toNat : Int)
    · rw [if_pos c2, if_pos (by omega)]
    · rw [if_neg c2, if_neg (by omega)]
  · rw [if_neg c, if_neg (by omega)]

section slices
variable {P : Program} {t e sz : Nat} {cs : List AV} {n : Nat} {tt : Bool} {k k' : IntKind} {l h m : Int}
@[simp] theorem slice_sl_none (ha : arrayOf P t = none) (he : sliceElem P t = some e) (hz : szOf P e = some sz) : aSliceS P t (.sl cs n tt) none none none = some (.sl (cs.take (n * sz)) n tt) := by
  simp [aSliceS, aSlice, ha, he, hz, bnds_none]
@[simp] theorem slice_sl_hi (ha : arrayOf P t = none) (he : sliceElem P t = some e) (hz : szOf P e = some sz) : aSliceS P t (.sl cs n tt) none (some (.atom (.int k h))) none = if 0 ≤ h ∧ h ≤ n then some (.sl (cs.take (h.toNat * sz)) h.toNat (tt && decide (h.toNat = n))) else none := by
  simp only [aSliceS, aSlice, ha, he, hz, bnds_hi]
  by_cases c : 0 ≤ h ∧ h ≤ (n : Int)
  · simp only [if_pos c]; simp
  · simp only [if_neg c]
@[simp] theorem slice_sl_lo (ha : arrayOf P t = none) (he : sliceElem P t = some e) (hz : szOf P e = some sz) : aSliceS P t (.sl cs n tt) (some (.atom (.int k l))) none none = if 0 ≤ l ∧ l ≤ n then some (.sl ((cs.drop (l.toNat * sz)).take ((n - l.toNat) * sz)) (n - l.toNat) tt) else none := by
  simp only [aSliceS, aSlice, ha, he, hz, bnds_lo]
  by_cases c : 0 ≤ l ∧ l ≤ (n : Int)
  · simp only [if_pos c]; simp
  · simp only [if_neg c]
@[simp] theorem slice_sl_both (ha : arrayOf P t = none) (he : sliceElem P t = some e) (hz : szOf P e = some sz) : aSliceS P t (.sl cs n tt) (some (.atom (.int k l))) (some (.atom (.int k' h))) none = if 0 ≤ l ∧ l ≤ h ∧ h ≤ n then some (.sl ((cs.drop (l.toNat * sz)).take ((h.toNat - l.toNat) * sz)) (h.toNat - l.toNat) (tt && decide (h.toNat = n))) else none := by
  simp only [aSliceS, aSlice, ha, he, hz, bnds_both]
  by_cases c : 0 ≤ l ∧ l ≤ h ∧ h ≤ (n : Int)
  · simp only [if_pos c]
  · simp only [if_neg c]
@[simp] theorem slice_sl_max (ha : arrayOf P t = none) (he : sliceElem P t = some e) (hz : szOf P e = some sz) : aSliceS P t (.sl cs n tt) none (some (.atom (.int k h))) (some (.atom (.int k' m))) = if 0 ≤ h ∧ h ≤ m ∧ m ≤ n then some (.sl (cs.take (h.toNat * sz)) h.toNat (decide (m.toNat = h.toNat))) else none := by
  simp only [aSliceS, aSlice, ha, he, hz, bnds_max]
  by_cases c : 0 ≤ h ∧ h ≤ m ∧ m ≤ (n : Int)
  · simp only [if_pos c, Nat.zero_mul, List.drop_zero, Nat.sub_zero]
  · simp only [if_neg c]
variable {b g off : Nat} {cap : Option Nat}
@[simp] theorem slice_slr_none (ha : arrayOf P t = none) (he : sliceElem P t = some e) (hz : szOf P e = some sz) : aSliceS P t (.slr b g off n cap sz) none none none = some (if n = 0 then .sl [] 0 false else .slr b g off n cap sz) := by
  simp only [aSliceS, aSlice, ha, he, hz, bnds_none]
  by_cases c : n = 0 <;> simp [c]
@[simp] theorem slice_slr_hi (ha : arrayOf P t = none) (he : sliceElem P t = some e) (hz : szOf P e = some sz) : aSliceS P t (.slr b g off n cap sz) none (some (.atom (.int k h))) none = if 0 ≤ h ∧ h ≤ n then some (if h.toNat = 0 then .sl [] 0 false else .slr b g off h.toNat cap sz) else none := by
  simp only [aSliceS, aSlice, ha, he, hz, bnds_hi]
  by_cases c : 0 ≤ h ∧ h ≤ (n : Int)
  · simp only [if_pos c]
    by_cases c2 : h.toNat = 0 <;> simp [c2]
  · simp only [if_neg c]
@[simp] theorem slice_slr_lo (ha : arrayOf P t = none) (he : sliceElem P t = some e) (hz : szOf P e = some sz) : aSliceS P t (.slr b g off n cap sz) (some (.atom (.int k l))) none none = if 0 ≤ l ∧ l ≤ n then some (if n = l.toNat then .sl [] 0 false else .slr b g (off + l.toNat * sz) (n - l.toNat) (cap.map (· - l.toNat)) sz) else none := by
  simp only [aSliceS, aSlice, ha, he, hz, bnds_lo]
  by_cases c : 0 ≤ l ∧ l ≤ (n : Int)
  · simp only [if_pos c]
    by_cases c2 : n = l.toNat
    · simp [c2]
    · simp [c2]
  · simp only [if_neg c]
@[simp] theorem slice_slr_both (ha : arrayOf P t = none) (he : sliceElem P t = some e) (hz : szOf P e = some sz) : aSliceS P t (.slr b g off n cap sz) (some (.atom (.int k l))) (some (.atom (.int k' h))) none = if 0 ≤ l ∧ l ≤ h ∧ h ≤ n then some (if h.toNat = l.toNat then .sl [] 0 false else .slr b g (off + l.toNat * sz) (h.toNat - l.toNat) (cap.map (· - l.toNat)) sz) else none := by
  simp only [aSliceS, aSlice, ha, he, hz, bnds_both]
  by_cases c : 0 ≤ l ∧ l ≤ h ∧ h ≤ (n : Int)
  · simp only [if_pos c]
    by_cases c2 : h.toNat = l.toNat
    · simp [c2]
    · simp [c2]
  · simp only [if_neg c]
end slices
end Go.Av
