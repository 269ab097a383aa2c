/- A part of the proof: a verified reading of the model by values alone, and what is shown by it. It holds without conditions. -/
import Derived.Test.YtjmgcdbefkojjaaGreatDoorAvOps5
import Derived.Laws.BytesString
namespace Go.Av
open Go

def aCopy (P : Program) (base : Nat) (H : Heap) (dT : TypeId) (a x : AV) : Option (AV × Heap) :=
  match sliceElem P dT with
  | some e => match szOf P e with
    | some sz => match appSrc H sz x with
      | some (xs, n) =>
        if n = 0 then (match a with | .sl .. | .slr .. => some (.atom (goInt 0), H) | _ => none) else
        match a with
        | .slr b g off len _ _ => match hget H b with
          | some (.cells g' cs) => if g' = g ∧ base ≤ b ∧ n ≤ len ∧ off + n * sz ≤ cs.length ∧ allCells xs = true then
              some (.atom (goInt n), hset H b (.cells g (splice cs off xs))) else none
          | _ => none
        | _ => none
      | none => none
    | none => none
  | none => none

theorem aCopy_ok {P : Program} {base : Nat} {c : Cn} {H H' : Heap} (hI : Inv c H) {dT xT ty : TypeId} {a x r : AV} {y v : Value}
    (h : aCopy P base H dT a x = some (r, H')) (ha : Rep c a y) (hx : Rep c x v) : OpOK P base c H (Builtin.copy_ #[dT, xT] ty #[y, v]) r H' := by
  unfold aCopy at h
  split at h
  · rename_i e he
    split at h
    · rename_i sz hsz
      split at h
      · rename_i xs n hsrc
        obtain ⟨hlen, hxl, _, us, hus, hnew⟩ := appSrc_ok (P := P) hI hsrc hx
        have husl := hus.length
        have hf := hnew c.w rfl
        split at h
        · rename_i h0
          subst h0
          have hu : us = [] := List.eq_nil_of_length_eq_zero (by omega)
          subst hu
          have key : ∀ (ad : Option Addr) (l cp : Nat), (Builtin.copy_ #[dT, xT] ty #[.slice ad l cp, v]).run P c.w = .ok (goInt 0) c.w := by
            intro ad l cp
            have hn0 : Nat.min 0 l = 0 := Nat.zero_min l
            cases ad with
            | none => simp [Builtin.copy_, run_underlying' (sliceElem_eq he), run_sizeOf' hsz, hlen, hn0, hf]
            | some ad => simp [Builtin.copy_, run_underlying' (sliceElem_eq he), run_sizeOf' hsz, hlen, hn0, hf, storeCells]
          split at h
          · cases h
            rcases ha with ⟨rfl, rfl, ad, cp, rfl, _⟩ | ⟨B, o, cp, vs, _, _, rfl, _⟩ <;> exact .same hI (key _ _ _) rfl
          · cases h
            obtain ⟨B, o, cp, _, rfl, _⟩ := ha
            exact .same hI (key _ _ _) rfl
          · cases h
        · rename_i h0
          split at h
          · rename_i b g off len cap es
            split at h
            · rename_i g' cs ho
              split at h
              · rename_i hc
                obtain ⟨rfl, hbb, hnl, hfit, hcells⟩ := hc
                cases h
                obtain ⟨B, o, cp, hm, rfl, hle, _⟩ := ha
                obtain ⟨w', hw', hp⟩ := Post.write (off := off) hI ho hbb hm hus (by omega) (allCells_ok hcells hus) P
                refine ⟨goInt n, _, ?_, hp, rfl⟩
                have hmin : Nat.min n len = n := Nat.min_eq_left hnl
                simp [Builtin.copy_, run_underlying' (sliceElem_eq he), run_sizeOf' hsz, hlen, hmin, hf, hw']
              · cases h
            · cases h
          · cases h
      · cases h
    · cases h
  · cases h

theorem zeroCells_rep {c : Cn} {zc : List AV} {zs : Array Value} (h : RepL c zc zs.toList) (n : Nat) : RepL c (zrep (n * zc.length) zc) (Builtin.zeroCells zs n).toList := by
  have hl := h.length
  simp at hl
  have := zrep_rep (n := n * zc.length) h (by by_cases e : zc.length = 0; exact .inl (by rw [e, Nat.mul_zero]); exact .inr (by omega))
  unfold Builtin.zeroCells
  rw [hl]
  rw [hl] at this
  exact this

def aClear (P : Program) (base : Nat) (H : Heap) (t : TypeId) (a : AV) : Option (AV × Heap) :=
  match sliceElem P t with
  | some e => match zeroT P e with
    | some z => match avCells (lift z) with
      | some zc => match a with
        | .sl _ len _ => if len = 0 then some (.atom (.tuple #[]), H) else none
        | .slr b g off len _ _ => if len = 0 then some (.atom (.tuple #[]), H) else
          match hget H b with
          | some (.cells g' cs) => if g' = g ∧ base ≤ b ∧ off + len * zc.length ≤ cs.length ∧ allCells (zrep (len * zc.length) zc) = true then
              some (.atom (.tuple #[]), hset H b (.cells g (splice cs off (zrep (len * zc.length) zc)))) else none
          | _ => none
        | _ => none
      | none => none
    | none => none
  | none => none

theorem aClear_ok {P : Program} {base : Nat} {c : Cn} {H H' : Heap} (hI : Inv c H) {t ty : TypeId} {a r : AV} {y : Value}
    (h : aClear P base H t a = some (r, H')) (ha : Rep c a y) : OpOK P base c H (Builtin.clear_ #[t] ty #[y]) r H' := by
  unfold aClear at h
  split at h
  · rename_i e he
    split at h
    · rename_i z hz
      split at h
      · rename_i zc hzc
        have hzr := avCells_ok hzc (lift_rep c z)
        have empty : ∀ (ad : Option Addr) (cp : Nat), (Builtin.clear_ #[t] ty #[.slice ad 0 cp]).run P c.w = .ok (.tuple #[]) c.w := by
          intro ad cp
          cases ad <;> simp [Builtin.clear_, run_underlying' (sliceElem_eq he)]
        split at h
        · split at h
          · rename_i h0
            cases h; subst h0
            rcases ha with ⟨_, _, ad, cp, rfl, _⟩ | ⟨B, o, cp, vs, _, _, rfl, _⟩ <;> exact .same hI (empty _ _) rfl
          · cases h
        · rename_i b g off len cap es
          split at h
          · rename_i h0
            cases h; subst h0
            obtain ⟨B, o, cp, _, rfl, _⟩ := ha
            exact .same hI (empty _ _) rfl
          · rename_i h0
            split at h
            · rename_i g' cs ho
              split at h
              · rename_i hc
                obtain ⟨rfl, hbb, hfit, hcells⟩ := hc
                cases h
                obtain ⟨B, o, cp, hm, rfl, hle, _⟩ := ha
                have hzl := zeroCells_rep hzr
                obtain ⟨w', hw', hp⟩ := Post.write (off := off) hI ho hbb hm (hzl len) (by simp [zrep]; omega) (allCells_ok hcells (hzl len)) P
                refine ⟨.tuple #[], _, ?_, hp, rfl⟩
                have h0' : len ≠ 0 := h0
                obtain ⟨len, rfl⟩ : ∃ k, len = k + 1 := ⟨len - 1, by omega⟩
                simp [Builtin.clear_, run_underlying' (sliceElem_eq he), run_zeroValue' hz, hw']
              · cases h
            · cases h
        · cases h
      · cases h
    · cases h
  · cases h

def aMakeSlice (P : Program) (H : Heap) (t : TypeId) (l k : AV) : Option (AV × Heap) :=
  match sliceElem P t, asIntA l, asIntA k with
  | some e, some n, some m => match szOf P e, bytesT P e, zeroT P e with
    | some sz, some b, some z => match avCells (lift z) with
      | some zc => if 0 ≤ n ∧ n ≤ m ∧ m ≤ 2 ^ 30 ∧ b ≤ 2 ^ 16 ∧ 0 < zc.length then
          some (.slr H.length 0 0 n.toNat none sz, .cells 0 (zrep (n.toNat * sz) zc) :: H) else none
      | none => none
    | _, _, _ => none
  | _, _, _ => none

theorem wrap_small {n : Int} (h0 : 0 ≤ n) (h : n ≤ 2 ^ 30) : IntKind.i64.wrap n = n := by
  simp [IntKind.wrap, IntKind.bits, IntKind.signed]
  omega

theorem aMakeSlice_ok {P : Program} {base : Nat} {c : Cn} {H H' : Heap} (hI : Inv c H) (hbase : base ≤ H.length) {t : TypeId} {l k r : AV} {x y : Value}
    (h : aMakeSlice P H t l k = some (r, H')) (hl : Rep c l x) (hk : Rep c k y) : OpOK P base c H (Instr.makeSlice t x y) r H' := by
  unfold aMakeSlice at h
  split at h
  · rename_i e n m he hn hm
    obtain ⟨kn, rfl⟩ := asIntA_eq hn
    obtain ⟨km, rfl⟩ := asIntA_eq hm
    cases hl; cases hk
    split at h
    · rename_i sz b z hsz hb hz
      split at h
      · rename_i zc hzc
        split at h
        · rename_i hc
          obtain ⟨h0, hnm, hm30, hb16, hzl⟩ := hc
          cases h
          have hzr := avCells_ok hzc (lift_rep c z)
          obtain ⟨_, i, hi, hib⟩ := run_bytes (w := c.w) hb
          have hwn := wrap_small h0 (by omega : n ≤ 2 ^ 30)
          have hwm := wrap_small (by omega : 0 ≤ m) hm30
          let row : Array Value := (Array.range (m.toNat * sz)).map fun k => (if m.toNat * sz = 0 then (#[] : Array Value) else z.cells)[k % (if m.toNat * sz = 0 then (#[] : Array Value) else z.cells).size]!
          have hrs : row.size = m.toNat * sz := by simp [row]
          have hle : n.toNat * sz ≤ m.toNat * sz := Nat.mul_le_mul_right _ (by omega)
          have hrep : RepL c (zrep (n.toNat * sz) zc) (row.toList.take (zrep (n.toNat * sz) zc).length) := by
            by_cases e0 : m.toNat * sz = 0
            · have : n.toNat * sz = 0 := by omega
              rw [this]; simp [zrep, RepL]
            · have hz2 := zrep_rep (n := m.toNat * sz) hzr (.inr hzl)
              have h3 : zrep (n.toNat * sz) zc = (zrep (m.toNat * sz) zc).take (n.toNat * sz) := by
                simp only [zrep, ← List.map_take]
                rw [List.take_range, Nat.min_eq_left hle]
              have h4 : (zrep (n.toNat * sz) zc).length = n.toNat * sz := by simp [zrep]
              rw [h4, h3]
              have : row = (Array.range (m.toNat * sz)).map fun k => z.cells[k % z.cells.size]! := by simp [row, e0]
              rw [this]
              exact hz2.take _
          obtain ⟨hp, hm'⟩ := Post.newCells (base := base) hI hbase (cs := zrep (n.toNat * sz) zc) (vs := row) (elem := e) (fz := (0, 0)) (w' := { c.w with heap := c.w.heap.push (.cells row e) }) hrep
            (by simp [zrep, hrs]; exact hle) rfl unfrozen0
          refine ⟨.slice (some ⟨c.w.heap.size, 0, none⟩) n.toNat m.toNat, _, ?_, hp, c.w.heap.size, 0, m.toNat, hm', by simp, by omega, e, m.toNat * sz, ?_, by simp⟩
          · have t1 : ¬ (2 ^ 48 < (i.bytes : Int) * m) := by
              rw [hib]
              have h5 : (b : Int) * m ≤ 2 ^ 16 * 2 ^ 30 := Int.mul_le_mul (by omega) (by omega) (by omega) (by omega)
              omega
            have t2 : ¬ (m < 0) := by omega
            have t3 : ¬ (n < 0) := by omega
            have t4 : ¬ (m < n) := by omega
            have t1' : ¬ (281474976710656 < (i.bytes : Int) * m) := by simpa using t1
            by_cases e0 : m.toNat * sz = 0
            · simp [Instr.makeSlice, run_underlying' (sliceElem_eq he), asInt, asIntOf, run_typeInfo' hi, hwn, hwm, t1', t2, t3, t4, run_sizeOf' hsz, e0, newRow, Cn.new, row]
            · simp [Instr.makeSlice, run_underlying' (sliceElem_eq he), asInt, asIntOf, run_typeInfo' hi, hwn, hwm, t1', t2, t3, t4, run_sizeOf' hsz, e0, newRow, Cn.new, row, run_zeroValue' hz]
          · rw [← hrs]; exact shape_push c.w row e (0, 0)
        · cases h
      · cases h
    · cases h
  · cases h

end Go.Av
