/- A part of the proof: a verified reading of the model by values alone, and what is shown by it. It holds without conditions. -/
import Derived.Test.YtjmgcdbefkojjaaGreatDoorAvPops
import Derived.Laws.CopyRow
namespace Go.Av
open Go

/-- What a piece of the model's text yields without looking at memory. -/
def pe {α : Type} (P : Program) : Sem α → Option α
  | .pure a => some a
  | .program k => pe P (k P)
  | _ => none

theorem pe_run {α : Type} {P : Program} {s : Sem α} {a : α} (h : pe P s = some a) (w : World) : s.run P w = .ok a w := by
  induction s with
  | pure b => simp [pe] at h; subst h; rfl
  | program k ih => simp only [pe] at h; exact ih P h
  | _ => simp [pe] at h

def lift1 : Value → AV
  | .slice none 0 0 => .sl [] 0 true
  | .func f ws us => if ws.isEmpty && us.isEmpty then .fn f [] [] else .atom (.func f ws us)
  | v => .atom v

def lift : Value → AV
  | .agg cs => .agg (cs.toList.map lift1)
  | .tuple cs => .tuple (cs.toList.map lift1)
  | .iface t v => .iface t (lift1 v)
  | v => lift1 v

theorem lift1_rep (c : Cn) (v : Value) : Rep c (lift1 v) v := by
  unfold lift1
  split
  · exact .inl ⟨rfl, rfl, none, 0, rfl, fun _ => rfl⟩
  · rename_i f ws us
    split
    · rename_i h
      simp at h
      exact ⟨ws, us, rfl, by simp [RepL, h.1], by simp [RepL, h.2]⟩
    · rfl
  · rfl

theorem lift1L_rep (c : Cn) (vs : List Value) : RepL c (vs.map lift1) vs := by
  induction vs with
  | nil => rfl
  | cons v vs ih => exact ⟨v, vs, rfl, lift1_rep c v, ih⟩

theorem lift_rep (c : Cn) (v : Value) : Rep c (lift v) v := by
  unfold lift
  split
  · exact ⟨_, rfl, lift1L_rep c _⟩
  · exact ⟨_, rfl, lift1L_rep c _⟩
  · exact ⟨_, rfl, lift1_rep c _⟩
  · exact lift1_rep c v

mutual
/-- The value itself, where it names no memory. -/
def toV : AV → Option Value
  | .atom v => some v
  | .agg cs => match toVL cs with
    | some vs => some (.agg vs.toArray)
    | none => none
  | .tuple cs => match toVL cs with
    | some vs => some (.tuple vs.toArray)
    | none => none
  | .iface t a => match toV a with
    | some v => some (.iface t v)
    | none => none
  | _ => none
def toVL : List AV → Option (List Value)
  | [] => some []
  | a :: as => match toV a, toVL as with
    | some v, some vs => some (v :: vs)
    | _, _ => none
end

mutual
theorem toV_eq {c : Cn} : (a : AV) → (v x : Value) → toV a = some v → Rep c a x → x = v
  | .atom u, v, x, h, hr => by simp [toV] at h; subst h; exact hr
  | .agg cs, v, x, h, hr => by
    simp only [toV] at h
    split at h
    · rename_i vs e; cases h
      obtain ⟨us, rfl, hl⟩ := hr
      rw [← toVL_eq cs vs _ e hl]
    · cases h
  | .tuple cs, v, x, h, hr => by
    simp only [toV] at h
    split at h
    · rename_i vs e; cases h
      obtain ⟨us, rfl, hl⟩ := hr
      rw [← toVL_eq cs vs _ e hl]
    · cases h
  | .iface t a, v, x, h, hr => by
    simp only [toV] at h
    split at h
    · rename_i u e; cases h
      obtain ⟨us, rfl, hl⟩ := hr
      rw [toV_eq a u _ e hl]
    · cases h
  | .ptr .., v, x, h, hr => by simp [toV] at h
  | .cptr .., v, x, h, hr => by simp [toV] at h
  | .sl .., v, x, h, hr => by simp [toV] at h
  | .slr .., v, x, h, hr => by simp [toV] at h
  | .map .., v, x, h, hr => by simp [toV] at h
  | .cmap .., v, x, h, hr => by simp [toV] at h
  | .fn .., v, x, h, hr => by simp [toV] at h
  | .yld .., v, x, h, hr => by simp [toV] at h
  | .tptr .., v, x, h, hr => by simp [toV] at h
  | .slt .., v, x, h, hr => by simp [toV] at h
  | .bptr .., v, x, h, hr => by simp [toV] at h
  | .bnil, v, x, h, hr => by simp [toV] at h
theorem toVL_eq {c : Cn} : (as : List AV) → (vs xs : List Value) → toVL as = some vs → RepL c as xs → xs = vs
  | [], vs, xs, h, hr => by simp [toVL] at h; subst h; exact hr
  | a :: as, vs, xs, h, hr => by
    simp only [toVL] at h
    split at h
    · rename_i v us e1 e2; cases h
      obtain ⟨y, ys, rfl, h1, h2⟩ := hr
      rw [toV_eq a v _ e1 h1, toVL_eq as us _ e2 h2]
    · cases h
end

def szOf (P : Program) (t : TypeId) : Option Nat := (P.info? t).map (·.size)
def aggT (P : Program) (t : TypeId) : Option Bool := (P.underlying t).map fun | .struct _ | .array _ _ => true | _ => false
def zeroT (P : Program) (t : TypeId) : Option Value := (P.info? t).bind (·.zero)

section
variable {P : Program} {w : World}

theorem run_underlying' {t : TypeId} {d : TypeDesc} (h : P.underlying t = some d) : (underlying t).run P w = .ok d w := run_underlying h w

theorem run_typeInfo' {t : TypeId} {i : TypeInfo} (h : P.info? t = some i) : (typeInfo t).run P w = .ok i w := by
  simp [typeInfo, h]

theorem run_sizeOf' {t : TypeId} {n : Nat} (h : szOf P t = some n) : (sizeOf t).run P w = .ok n w := by
  unfold szOf at h
  cases e : P.info? t with
  | none => simp [e] at h
  | some i => simp [e] at h; simp [sizeOf, run_typeInfo' e, h]

theorem run_zeroValue' {t : TypeId} {v : Value} (h : zeroT P t = some v) : (zeroValue t).run P w = .ok v w := by
  unfold zeroT at h
  cases e : P.info? t with
  | none => simp [e] at h
  | some i => simp [e] at h; simp [zeroValue, run_typeInfo' e, h]

theorem run_isAgg' {t : TypeId} {b : Bool} (h : aggT P t = some b) : (isAgg t).run P w = .ok b w := by
  unfold aggT at h
  cases e : P.underlying t with
  | none => simp [e] at h
  | some d =>
    simp [e] at h
    cases d <;> simp_all [isAgg, run_underlying' e]

theorem addr_add (B o n : Nat) : (⟨B, o, none⟩ : Addr).add n = ⟨B, o + n, none⟩ := by unfold Addr.add; split <;> simp_all

theorem run_loadCells_at {B o : Nat} {vs : List Value} (h : CellsAt w B o vs) : (loadCells ⟨B, o, none⟩ vs.length).run P w = .ok vs.toArray w := by
  refine run_loadCells_list w _ vs fun j v hj => ?_
  rw [addr_add, h j (List.getElem?_eq_some_iff.1 hj).1, hj]

theorem run_loadVar_agg {t : TypeId} {B o n : Nat} {vs : List Value} (h : CellsAt w B o vs) (ha : aggT P t = some true) (hn : szOf P t = some n) (hl : vs.length = n) :
    (loadVar t ⟨B, o, none⟩).run P w = .ok (.agg vs.toArray) w := by
  subst hl
  simp [loadVar, run_isAgg' ha, run_sizeOf' hn, run_loadCells_at h]

theorem run_loadVar_one {t : TypeId} {B o : Nat} {v : Value} (h : w.cell? ⟨B, o, none⟩ = some v) (ha : aggT P t = some false) :
    (loadVar t ⟨B, o, none⟩).run P w = .ok v w := by
  simp [loadVar, run_isAgg' ha, h]
end

/-- A part of cells, as a value of a type. -/
def apart (P : Program) (t : TypeId) (cs : List AV) : Option AV :=
  match aggT P t with
  | some true => match szOf P t with
    | some n => if n ≤ cs.length then some (.agg (cs.take n)) else none
    | none => none
  | some false => cs[0]?
  | none => none

def srcCells (H : Heap) : AV → Option (List AV)
  | .ptr b g off => match hget H b with
    | some (.cells g' cs) => if g' = g then some (cs.drop off) else none
    | _ => none
  | .cptr cs => some cs
  | _ => none

theorem srcCells_ok {c : Cn} {H : Heap} (hI : Inv c H) {a : AV} {cs : List AV} {x : Value} (h : srcCells H a = some cs) (hr : Rep c a x) :
    ∃ B o vs, x = .pointer (some ⟨B, o, none⟩) ∧ CellsAt c.w B o vs ∧ RepL c cs vs := by
  unfold srcCells at h
  split at h
  · rename_i b g off
    split at h
    · rename_i g' cs' ho
      split at h
      · rename_i hg; subst hg; cases h
        obtain ⟨B, o, hm, rfl⟩ := hr
        obtain ⟨B2, o2, vs, cells, elem, fz, hm2, hb, h1, h2, h3, hrl⟩ := hI.ok b _ ho
        rw [hm] at hm2; cases hm2
        exact ⟨B, o + off, vs.drop off, rfl, (cellsAt_of hb h2).drop off, hrl.drop off⟩
      · cases h
    · cases h
  · cases h
    obtain ⟨B, o, vs, hF, hc, rfl, hl⟩ := hr
    exact ⟨B, o, vs, rfl, hc, RepL.ext (Ext.of_bare c) _ _ hl⟩
  · cases h

theorem apart_load {P : Program} {c : Cn} {t : TypeId} {cs : List AV} {r : AV} (h : apart P t cs = some r) {B o : Nat} {vs : List Value} (hc : CellsAt c.w B o vs) (hl : RepL c cs vs) :
    ∃ v, (loadVar t ⟨B, o, none⟩).run P c.w = .ok v c.w ∧ Rep c r v := by
  unfold apart at h
  split at h
  · rename_i ha
    split at h
    · rename_i n hn
      split at h
      · rename_i hle; cases h
        refine ⟨_, run_loadVar_agg (hc.take n) ha hn (by simp [hl.length]; omega), ⟨_, rfl, by simpa using hl.take n⟩⟩
      · cases h
    · cases h
  · rename_i ha
    obtain ⟨v, hv, hr⟩ := hl.get h
    refine ⟨v, run_loadVar_one ?_ ha, hr⟩
    have := hc 0 (List.getElem?_eq_some_iff.1 hv).1
    simpa [hv] using this
  · cases h

theorem apart_part {P : Program} {c : Cn} {t : TypeId} {cs : List AV} {off : Nat} {r : AV} (h : apart P t (cs.drop off) = some r) {vs : Array Value} {w : World} (hl : RepL c cs vs.toList) :
    ∃ v, (part t vs off).run P w = .ok v w ∧ Rep c r v := by
  unfold apart at h
  split at h
  · rename_i ha
    split at h
    · rename_i n hn
      split at h
      · rename_i hle; cases h
        refine ⟨.agg (vs.extract off (off + n)), by simp [part, run_isAgg' ha, run_sizeOf' hn], ⟨_, rfl, ?_⟩⟩
        have := (hl.drop off).take n
        simpa [List.extract_eq_take_drop] using this
      · cases h
    · cases h
  · rename_i ha
    obtain ⟨v, hv, hr⟩ := (hl.drop off).get h
    refine ⟨v, ?_, hr⟩
    have : vs[off]? = some v := by simpa using hv
    simp [part, run_isAgg' ha, this]
  · cases h

/-- An operation's outcome, in the model and here. -/
def OpOK (P : Program) (base : Nat) (c : Cn) (H : Heap) (s : Sem Value) (r : AV) (H' : Heap) : Prop :=
  ∃ v c', s.run P c.w = .ok v c'.w ∧ Post base c H c' H' ∧ Rep c' r v

theorem OpOK.same {P : Program} {base : Nat} {c : Cn} {H : Heap} (hI : Inv c H) {s : Sem Value} {r : AV} {v : Value} (h : s.run P c.w = .ok v c.w) (hr : Rep c r v) :
    OpOK P base c H s r H := ⟨v, c, h, Post.refl hI, hr⟩

theorem OpOK.pure {P : Program} {base : Nat} {c : Cn} {H : Heap} (hI : Inv c H) {s : Sem Value} {v : Value} (h : pe P s = some v) : OpOK P base c H s (lift v) H :=
  .same hI (pe_run h _) (lift_rep c v)

def aLoad (P : Program) (H : Heap) (t : TypeId) (a : AV) : Option AV :=
  match srcCells H a with
  | some cs => apart P t cs
  | none => none

theorem aLoad_ok {P : Program} {base : Nat} {c : Cn} {H : Heap} (hI : Inv c H) {t : TypeId} {a r : AV} {x : Value} (h : aLoad P H t a = some r) (hr : Rep c a x) :
    OpOK P base c H (Instr.loadAt t x) r H := by
  unfold aLoad at h
  split at h
  · rename_i cs e
    obtain ⟨B, o, vs, rfl, hc, hl⟩ := srcCells_ok hI e hr
    obtain ⟨v, hv, hrv⟩ := apart_load h hc hl
    exact .same hI (by simp [Instr.loadAt, Instr.sureAddr, hv]) hrv
  · cases h

def addrPlus : AV → Nat → Option AV
  | .ptr b g off, n => some (.ptr b g (off + n))
  | .cptr cs, n => some (.cptr (cs.drop n))
  | _, _ => none

theorem addrPlus_ok {c : Cn} {a r : AV} {n : Nat} {x : Value} (h : addrPlus a n = some r) (hr : Rep c a x) :
    ∃ B o, x = .pointer (some ⟨B, o, none⟩) ∧ Rep c r (.pointer (some ⟨B, o + n, none⟩)) := by
  unfold addrPlus at h
  split at h
  · cases h
    obtain ⟨B, o, hm, rfl⟩ := hr
    exact ⟨B, _, rfl, B, o, hm, by simp [Nat.add_assoc]⟩
  · cases h
    obtain ⟨B, o, vs, hF, hc, rfl, hl⟩ := hr
    exact ⟨B, o, rfl, B, o + n, vs.drop n, hF, hc.drop n, rfl, hl.drop n⟩
  · cases h

def fieldsT (P : Program) (t : TypeId) : Option (Array Field) := match P.underlying t with
  | some (.struct fs) => some fs
  | _ => none

theorem fieldsT_eq {P : Program} {t : TypeId} {fs : Array Field} (h : fieldsT P t = some fs) : P.underlying t = some (.struct fs) := by
  unfold fieldsT at h
  split at h
  · cases h; assumption
  · cases h

def aFieldAddr (P : Program) (s : TypeId) (a : AV) (i : Nat) : Option AV :=
  match fieldsT P s with
  | some fs => match fs[i]? with
    | some f => match szOf P f.type with
      | some n => if n = 0 then none else addrPlus a f.offset
      | none => none
    | none => none
  | none => none

theorem aFieldAddr_ok {P : Program} {base : Nat} {c : Cn} {H : Heap} (hI : Inv c H) {s : TypeId} {i : Nat} {a r : AV} {x : Value} (h : aFieldAddr P s a i = some r) (hr : Rep c a x) :
    OpOK P base c H (Instr.fieldAt s x i) r H := by
  unfold aFieldAddr at h
  split at h
  · rename_i fs hfs
    split at h
    · rename_i f hf
      split at h
      · rename_i n hn
        split at h
        · cases h
        · rename_i hn0
          obtain ⟨B, o, rfl, hrr⟩ := addrPlus_ok h hr
          refine .same hI ?_ hrr
          simp [Instr.fieldAt, run_underlying' (fieldsT_eq hfs), hf, Instr.sureAddr, fieldPlace, run_sizeOf' hn, hn0, addr_add]
      · cases h
    · cases h
  · cases h

def aField (P : Program) (t : TypeId) (a : AV) (i : Nat) : Option AV :=
  match fieldsT P t, a with
  | some fs, .agg cs => match fs[i]? with
    | some f => apart P f.type (cs.drop f.offset)
    | none => none
  | _, _ => none

theorem aField_ok {P : Program} {base : Nat} {c : Cn} {H : Heap} (hI : Inv c H) {t : TypeId} {i : Nat} {a r : AV} {x : Value} (h : aField P t a i = some r) (hr : Rep c a x) :
    OpOK P base c H (Instr.field t x i) r H := by
  unfold aField at h
  split at h
  · rename_i fs cs hfs
    split at h
    · rename_i f hf
      obtain ⟨vs, rfl, hl⟩ := hr
      obtain ⟨v, hv, hrv⟩ := apart_part (P := P) (w := c.w) h hl
      exact .same hI (by simp [Instr.field, run_underlying' (fieldsT_eq hfs), hf, asAgg, hv]) hrv
    · cases h
  · cases h

end Go.Av
