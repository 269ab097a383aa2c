/- A part of the proof: a verified reading of the model by values alone, and what is shown by it. It holds without conditions. -/
import Derived.Test.YtjmgcdbefkojjaaGreatDoorAvOps
namespace Go.Av
open Go

def avCells : AV → Option (List AV)
  | .agg cs => some cs
  | .atom (.agg _) => none
  | a => some [a]

def isCell : AV → Bool
  | .agg _ | .tuple _ | .atom (.agg _) | .atom (.tuple _) => false
  | _ => true

theorem cells_one {x : Value} (h : ∀ ws, x ≠ .agg ws) : x.cells = #[x] := by
  cases x <;> first | rfl | exact absurd rfl (h _)

theorem avCells_ok {c : Cn} {a : AV} {cs : List AV} {x : Value} (h : avCells a = some cs) (hr : Rep c a x) : RepL c cs x.cells.toList := by
  have one : (∀ ws, x ≠ .agg ws) → cs = [a] → RepL c cs x.cells.toList := by
    rintro h1 rfl
    rw [cells_one h1]
    exact ⟨x, [], rfl, hr, rfl⟩
  cases a with
  | agg cs' =>
    simp [avCells] at h; subst h
    obtain ⟨vs, rfl, hl⟩ := hr
    exact hl
  | atom v =>
    cases hr
    cases x <;> simp [avCells] at h <;> exact one (fun _ => by simp) h.symm
  | ptr _ _ _ => simp [avCells] at h; refine one ?_ h.symm; obtain ⟨_, _, _, rfl⟩ := hr; simp
  | cptr _ => simp [avCells] at h; refine one ?_ h.symm; obtain ⟨_, _, _, _, _, rfl, _⟩ := hr; simp
  | sl _ _ _ => simp [avCells] at h; refine one ?_ h.symm; rcases hr with ⟨_, _, _, _, rfl, _⟩ | ⟨_, _, _, _, _, _, rfl, _⟩ <;> simp
  | slr _ _ _ _ _ _ => simp [avCells] at h; refine one ?_ h.symm; obtain ⟨_, _, _, _, rfl, _⟩ := hr; simp
  | map _ => simp [avCells] at h; refine one ?_ h.symm; obtain ⟨_, _, rfl⟩ := hr; simp
  | cmap _ _ => simp [avCells] at h; refine one ?_ h.symm; obtain ⟨_, _, _, _, _, rfl, _⟩ := hr; simp
  | fn _ _ _ => simp [avCells] at h; refine one ?_ h.symm; obtain ⟨_, _, rfl, _⟩ := hr; simp
  | iface _ _ => simp [avCells] at h; refine one ?_ h.symm; obtain ⟨_, rfl, _⟩ := hr; simp
  | tuple _ => simp [avCells] at h; refine one ?_ h.symm; obtain ⟨_, rfl, _⟩ := hr; simp
  | yld _ => simp [avCells] at h; refine one ?_ h.symm; obtain ⟨_, _, rfl⟩ := hr; simp
  | tptr _ _ _ _ => simp [avCells] at h; refine one ?_ h.symm; obtain ⟨_, _, _, rfl⟩ := hr; simp
  | slt _ _ _ _ => simp [avCells] at h; refine one ?_ h.symm; obtain ⟨_, _, _, _, rfl, _⟩ := hr; simp
  | bptr _ _ _ => simp [avCells] at h; refine one ?_ h.symm; obtain ⟨_, _, _, _, rfl⟩ := hr; simp
  | bnil => simp [avCells] at h; refine one ?_ h.symm; obtain ⟨_, rfl⟩ := hr; simp

theorem isCell_ok {c : Cn} {a : AV} {x : Value} (h : isCell a = true) (hr : Rep c a x) : x.oneCell' = true := by
  cases a with
  | agg cs => simp [isCell] at h
  | tuple cs => simp [isCell] at h
  | atom v => cases hr; cases x <;> simp_all [isCell, Value.oneCell']
  | ptr _ _ _ => obtain ⟨_, _, _, rfl⟩ := hr; rfl
  | cptr _ => obtain ⟨_, _, _, _, _, rfl, _⟩ := hr; rfl
  | sl _ _ _ => rcases hr with ⟨_, _, _, _, rfl, _⟩ | ⟨_, _, _, _, _, _, rfl, _⟩ <;> rfl
  | slr _ _ _ _ _ _ => obtain ⟨_, _, _, _, rfl, _⟩ := hr; rfl
  | map _ => obtain ⟨_, _, rfl⟩ := hr; rfl
  | cmap _ _ => obtain ⟨_, _, _, _, _, rfl, _⟩ := hr; rfl
  | fn _ _ _ => obtain ⟨_, _, rfl, _⟩ := hr; rfl
  | iface _ _ => obtain ⟨_, rfl, _⟩ := hr; rfl
  | yld _ => obtain ⟨_, _, rfl⟩ := hr; rfl
  | tptr _ _ _ _ => obtain ⟨_, _, _, rfl⟩ := hr; rfl
  | slt _ _ _ _ => obtain ⟨_, _, _, _, rfl, _⟩ := hr; rfl
  | bptr _ _ _ => obtain ⟨_, _, _, _, rfl⟩ := hr; rfl
  | bnil => obtain ⟨_, rfl⟩ := hr; rfl

def allCells : List AV → Bool
  | [] => true
  | a :: as => isCell a && allCells as

theorem allCells_ok {c : Cn} {as : List AV} {vs : List Value} (h : allCells as = true) (hr : RepL c as vs) : ∀ v ∈ vs, v.oneCell' = true := by
  induction as generalizing vs with
  | nil => simp [RepL] at hr; simp [hr]
  | cons a as ih =>
    obtain ⟨v, us, rfl, h1, h2⟩ := hr
    simp only [allCells, Bool.and_eq_true] at h
    intro u hu
    rcases List.mem_cons.1 hu with rfl | hu
    · exact isCell_ok h.1 h1
    · exact ih h.2 h2 u hu

/-- A list with others laid over it from a place on. -/
def splice {α : Type} : List α → Nat → List α → List α
  | cs, _, [] => cs
  | cs, off, v :: vs => splice (cs.set off v) (off + 1) vs

def spliceA {α : Type} : Array α → Nat → List α → Array α
  | cs, _, [] => cs
  | cs, off, v :: vs => spliceA (cs.setIfInBounds off v) (off + 1) vs

@[simp] theorem splice_length {α : Type} (cs : List α) (off : Nat) (vs : List α) : (splice cs off vs).length = cs.length := by
  induction vs generalizing cs off with
  | nil => rfl
  | cons v vs ih => simp [splice, ih]

@[simp] theorem spliceA_size {α : Type} (cs : Array α) (off : Nat) (vs : List α) : (spliceA cs off vs).size = cs.size := by
  induction vs generalizing cs off with
  | nil => rfl
  | cons v vs ih => simp [spliceA, ih]

theorem spliceA_toList {α : Type} (cs : Array α) (off : Nat) (vs : List α) : (spliceA cs off vs).toList = splice cs.toList off vs := by
  induction vs generalizing cs off with
  | nil => rfl
  | cons v vs ih => simp [spliceA, splice, ih]

theorem splice_get {α : Type} (cells : Array α) (cs : List α) (o off : Nat) (vs : List α) (h : ∀ i, i < cs.length → cells[o + i]? = cs[i]?) (hs : o + cs.length ≤ cells.size) :
    ∀ i, i < cs.length → (spliceA cells (o + off) vs)[o + i]? = (splice cs off vs)[i]? := by
  induction vs generalizing cells cs off with
  | nil => exact h
  | cons v vs ih =>
    intro i hi
    have := ih (cells.setIfInBounds (o + off) v) (cs.set off v) (off + 1) (by
      intro j hj
      simp only [List.length_set] at hj
      by_cases e : j = off
      · subst e; simp [hj, Array.getElem?_setIfInBounds]; omega
      · have : o + off ≠ o + j := by omega
        rw [Array.getElem?_setIfInBounds_ne this, List.getElem?_set_ne (by omega)]
        exact h j hj) (by simpa using hs) i (by simpa using hi)
    simpa [spliceA, splice, Nat.add_assoc] using this

theorem RepL.splice {c : Cn} {cs as : List AV} {vs us : List Value} (h : RepL c cs vs) (h' : RepL c as us) (off : Nat) : RepL c (splice cs off as) (Av.splice vs off us) := by
  induction as generalizing cs vs us off with
  | nil => simp [RepL] at h'; subst h'; exact h
  | cons a as ih =>
    obtain ⟨v, ws, rfl, h1, h2⟩ := h'
    exact ih (h.set off h1) h2 (off + 1)

theorem run_storeCells_fz {P : Program} (B o : Nat) (t : TypeId) (fz : Nat × Nat) : ∀ (vs : List Value) (i : Nat) (cur : Array Value) (w : World), w.heap[B]? = some (.cells cur t fz) →
    o + i + vs.length ≤ cur.size → (∀ v ∈ vs, v.oneCell' = true) → (∀ j, j < cur.size → ¬ (fz.1 ≤ j ∧ j < fz.2)) →
    (storeCells ⟨B, o, none⟩ vs i).run P w = .ok () (w.setRow B (spliceA cur (o + i) vs))
  | [], i, cur, w, hg, _, _, _ => by
    simp only [storeCells, spliceA]
    rw [setRow_self w B cur t fz hg]
    rfl
  | v :: rest, i, cur, w, hg, hl, h1, hz => by
    have hi : o + i < cur.size := by simp at hl; omega
    have hcell : w.cell? ⟨B, o + i, none⟩ = some cur[o + i] := by simp [World.cell?, hg, hi]
    have hfro : w.frozen? ⟨B, o + i, none⟩ = false := by
      have := hz (o + i) hi
      obtain ⟨lo, hi'⟩ := fz
      simp only [World.frozen?, hg]
      simpa using this
    have hst : (store ((⟨B, o, none⟩ : Addr).add i) v).run P w = .ok () (w.setRow B (cur.setIfInBounds (o + i) v)) := by
      rw [addr_add, run_store P w _ v _ (h1 v (by simp)), hcell]
      simp [hfro, setCell_eq_setRow w B (o + i) cur t fz v hg]
    have ih := run_storeCells_fz (P := P) B o t fz rest (i + 1) (cur.setIfInBounds (o + i) v) (w.setRow B (cur.setIfInBounds (o + i) v)) (setRow_heap w B cur _ t _ hg) (by simp at hl ⊢; omega)
      (fun x hx => h1 x (by simp [hx])) (by simpa using hz)
    simp only [storeCells, Sem.run_bind, hst, Result.andThen_ok, ih, setRow_setRow, spliceA, Nat.add_assoc]

theorem setRow_shape {w : World} {B : Nat} {cur new : Array Value} {t : TypeId} {fz : Nat × Nat} (hg : w.heap[B]? = some (.cells cur t fz)) (hs : new.size = cur.size) (B' : Nat) :
    (w.setRow B new).shape? B' = w.shape? B' := by
  by_cases e : B' = B
  · subst e
    simp [World.shape?, setRow_heap w B' cur new t fz hg, hg, hs]
  · simp [World.shape?, setRow_other w B B' new e]

/-- Cells of ours are written over. -/
theorem Post.write {base : Nat} {c : Cn} {H : Heap} (hI : Inv c H) {b g off B o : Nat} {cs as : List AV} {us : List Value} (ho : hget H b = some (.cells g cs)) (hbase : base ≤ b)
    (hm : c.m b g = some (B, o)) (hl : RepL c as us) (hfit : off + as.length ≤ cs.length) (h1 : ∀ v ∈ us, v.oneCell' = true) (P : Program) :
    ∃ w', (storeCells ⟨B, o + off, none⟩ us).run P c.w = .ok () w' ∧ Post base c H { c with w := w' } (hset H b (.cells g (splice cs off as))) := by
  obtain ⟨B2, o2, vs, cells, elem, fz, hm2, hb, h2, h3, h4, hrl⟩ := hI.ok b _ ho
  rw [hm] at hm2; cases hm2
  have hlen := hrl.length
  have hulen := hl.length
  refine ⟨c.w.setRow B (spliceA cells (o + off) us), ?_, ?_⟩
  · have := run_storeCells_fz (P := P) B (o + off) elem fz us 0 cells c.w hb (by omega) h1 h4
    simpa using this
  · refine Post.upd (o := .cells g cs) (o' := .cells g (splice cs off as)) hI ho rfl hm hbase (by simp) (fun B' hB' => setRow_other _ _ _ _ hB') ?_ rfl rfl ?_
    · intro p hp
      rw [setRow_shape hb (by simp)]; exact hp
    · intro he
      refine ⟨B, o, Av.splice vs off us, spliceA cells (o + off) us, elem, fz, hm, setRow_heap c.w B cells _ elem fz hb, by simpa using h2, ?_, by simpa using h4, RepL.ext he _ _ (hrl.splice hl off)⟩
      intro i hi
      exact splice_get cells vs o off us h3 h2 i (by simpa using hi)

def aStore (P : Program) (base : Nat) (H : Heap) (t : TypeId) (a v : AV) : Option Heap :=
  match a with
  | .ptr b g off =>
    if base ≤ b then
      match hget H b, szOf P t, avCells v with
      | some (.cells g' cs), some n, some vs =>
        if g' = g ∧ vs.length = n ∧ off + n ≤ cs.length ∧ allCells vs = true then some (hset H b (.cells g (splice cs off vs))) else none
      | _, _, _ => none
    else none
  | _ => none

theorem aStore_ok {P : Program} {base : Nat} {c : Cn} {H H' : Heap} (hI : Inv c H) {t : TypeId} {a v : AV} {x y : Value} (h : aStore P base H t a v = some H') (hr : Rep c a x) (hv : Rep c v y) :
    ∃ c', (Instr.storeAt t x y).run P c.w = .ok () c'.w ∧ Post base c H c' H' := by
  unfold aStore at h
  split at h
  · rename_i b g off
    split at h
    · rename_i hbase
      split at h
      · rename_i g' cs n vs ho hn hvs
        split at h
        · rename_i hc
          obtain ⟨rfl, hlen, hfit, hcell⟩ := hc
          cases h
          obtain ⟨B, o, hm, rfl⟩ := hr
          have hl := avCells_ok hvs hv
          have hsz : y.cells.size = n := by have := hl.length; simp at this; omega
          obtain ⟨w', hw', hp⟩ := Post.write (off := off) hI ho hbase hm hl (by omega) (allCells_ok hcell hl) P
          refine ⟨{ c with w := w' }, ?_, hp⟩
          simp [Instr.storeAt, Instr.sureAddr, storeVar, run_sizeOf' hn, hsz, hw']
        · cases h
      · cases h
    · cases h
  · cases h

theorem cells_new {c : Cn} {H : Heap} (hI : Inv c H) {cs : List AV} {vs : Array Value} {elem : TypeId} {fz : Nat × Nat} {w' : World} (hl : RepL c cs (vs.toList.take cs.length))
    (hlen : cs.length ≤ vs.size) (hw : w'.heap = c.w.heap.push (.cells vs elem fz)) (hz : ∀ i, i < vs.size → ¬ (fz.1 ≤ i ∧ i < fz.2)) :
    ObjOK (c.new H.length w') H.length (.cells 0 cs) := by
  have e := Cn.new_ext hI (w' := w') (fun B hB => by rw [hw, Array.getElem?_push_lt hB, Array.getElem?_eq_getElem hB])
  refine ⟨c.w.heap.size, 0, vs.toList.take cs.length, vs, elem, fz, by simp [Cn.new], ?_, by simp; omega, ?_, hz, RepL.ext e _ _ hl⟩
  · show w'.heap[c.w.heap.size]? = _
    rw [hw]; simp
  · intro i hi
    have hi' : i < cs.length := by simp at hi; omega
    rw [List.getElem?_take_of_lt hi']
    simp

/-- New cells. -/
theorem Post.newCells {base : Nat} {c : Cn} {H : Heap} (hI : Inv c H) (hbase : base ≤ H.length) {cs : List AV} {vs : Array Value} {elem : TypeId} {fz : Nat × Nat} {w' : World} (hl : RepL c cs (vs.toList.take cs.length))
    (hlen : cs.length ≤ vs.size) (hw : w'.heap = c.w.heap.push (.cells vs elem fz)) (hz : ∀ i, i < vs.size → ¬ (fz.1 ≤ i ∧ i < fz.2)) (hout : Same c.w w' := by exact ⟨rfl, rfl, rfl⟩) :
    Post base c H (c.new H.length w') (.cells 0 cs :: H) ∧ (c.new H.length w').m H.length 0 = some (c.w.heap.size, 0) :=
  ⟨Post.new hI _ (by rw [hw]; simp) (fun B hB => by rw [hw, Array.getElem?_push_lt hB, Array.getElem?_eq_getElem hB]) rfl hbase (cells_new hI hl hlen hw hz) hout, by simp [Cn.new]⟩

theorem unfrozen0 {n : Nat} : ∀ i, i < n → ¬ ((0, 0).1 ≤ i ∧ i < (0, 0).2) := fun i _ h => by simp at h

theorem Post.newAll {base : Nat} {c : Cn} {H : Heap} (hI : Inv c H) (hbase : base ≤ H.length) {cs : List AV} {vs : Array Value} {elem : TypeId} (hl : RepL c cs vs.toList) :
    let w' : World := { c.w with heap := c.w.heap.push (.cells vs elem) }
    Post base c H (c.new H.length w') (.cells 0 cs :: H) ∧ (c.new H.length w').m H.length 0 = some (c.w.heap.size, 0) := by
  have hlen := hl.length
  simp at hlen
  exact Post.newCells hI hbase (vs := vs) (elem := elem) (fz := (0, 0)) (by rw [List.take_of_length_le (by simp; omega)]; exact hl) (by omega) rfl unfrozen0

def aBox (H : Heap) (v : AV) : Option (AV × Heap) :=
  match avCells v with
  | some cs => some (.ptr H.length 0 0, .cells 0 cs :: H)
  | none => none

theorem aBox_ok {P : Program} {base : Nat} {c : Cn} {H H' : Heap} (hI : Inv c H) (hbase : base ≤ H.length) {t : TypeId} {v r : AV} {x : Value} (h : aBox H v = some (r, H')) (hr : Rep c v x) :
    OpOK P base c H (Instr.box t x) r H' := by
  unfold aBox at h
  split at h
  · rename_i cs e
    cases h
    obtain ⟨hp, hm⟩ := Post.newAll (elem := t) hI hbase (avCells_ok e hr)
    refine ⟨.pointer (some ⟨c.w.heap.size, 0, none⟩), _, ?_, hp, ⟨c.w.heap.size, 0, hm, rfl⟩⟩
    simp [Instr.box, newVar, newRow, Cn.new]
  · cases h

/-- A new variable of a type, of which that is known. -/
def aAllocT (P : Program) (H : Heap) (t : TypeId) : Option (AV × Heap) :=
  match zeroT P t with
  | some z => match avCells (lift z) with
    | some cs => some (.tptr H.length 0 t cs.length, .cells 0 cs :: H)
    | none => none
  | none => none

theorem aAllocT_ok {P : Program} {base : Nat} {c : Cn} {H H' : Heap} (hI : Inv c H) (hbase : base ≤ H.length) {t : TypeId} {r : AV} (h : aAllocT P H t = some (r, H')) :
    OpOK P base c H (Instr.alloc t true (.tuple #[])) r H' := by
  unfold aAllocT at h
  split at h
  · rename_i z hz
    split at h
    · rename_i cs e
      cases h
      have hcs := avCells_ok e (lift_rep c z)
      obtain ⟨hp, hm⟩ := Post.newAll (elem := t) hI hbase hcs
      have hl := hcs.length
      refine ⟨.pointer (some ⟨c.w.heap.size, 0, none⟩), _, ?_, hp, c.w.heap.size, hm, ?_, rfl⟩
      · simp [Instr.alloc, run_zeroValue' hz, newVar, newRow, Cn.new]
      · simp at hl
        show (match (c.w.heap.push (.cells z.cells t))[c.w.heap.size]? with
          | some (.cells c elem _) => some (elem, c.size)
          | _ => none) = _
        rw [Array.getElem?_push_size]
        simp [hl]
    · cases h
  · cases h

def aAlloc (P : Program) (H : Heap) (t : TypeId) : Option (AV × Heap) :=
  match zeroT P t with
  | some z => aBox H (lift z)
  | none => none

theorem aAlloc_ok {P : Program} {base : Nat} {c : Cn} {H H' : Heap} (hI : Inv c H) (hbase : base ≤ H.length) {t : TypeId} {r : AV} (h : aAlloc P H t = some (r, H')) :
    OpOK P base c H (Instr.alloc t true (.tuple #[])) r H' := by
  unfold aAlloc at h
  split at h
  · rename_i z hz
    have := aBox_ok (P := P) (t := t) hI hbase h (lift_rep c z)
    obtain ⟨v, c', h1, h2, h3⟩ := this
    refine ⟨v, c', ?_, h2, h3⟩
    simp [Instr.box] at h1
    simp [Instr.alloc, run_zeroValue' hz, h1]
  · cases h

end Go.Av
