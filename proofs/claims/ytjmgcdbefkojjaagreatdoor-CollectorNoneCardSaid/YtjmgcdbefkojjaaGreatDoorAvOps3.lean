/- A part of the proof: a verified reading of the model by values alone, and what is shown by it. It holds without conditions. -/
import Derived.Test.YtjmgcdbefkojjaaGreatDoorAvOps2
namespace Go.Av
open Go

theorem range_map_get {α : Type} {n i : Nat} {f : Nat → α} {p : α} (h : ((List.range n).map f)[i]? = some p) : i < n ∧ f i = p := by
  obtain ⟨h1, h2⟩ := List.getElem?_eq_some_iff.1 h
  simp at h1 h2
  exact ⟨h1, h2⟩

theorem shape_push (w : World) (o : Array Value) (e : TypeId) (fz : Nat × Nat) : ({ w with heap := w.heap.push (.cells o e fz) } : World).shape? w.heap.size = some (e, o.size) := by
  simp only [World.shape?, Array.getElem?_push_size]

theorem foldl_splice {α : Type} (off : Nat) : ∀ (vs : List α) (k : Nat) (cells : Array α),
    (vs.zipIdx k).foldl (fun cs (p : α × Nat) => cs.setIfInBounds (off + p.2) p.1) cells = spliceA cells (off + k) vs
  | [], k, cells => rfl
  | v :: vs, k, cells => by
    simp only [List.zipIdx_cons, List.foldl_cons, spliceA]
    rw [foldl_splice off vs (k + 1)]
    rfl

theorem fill_step (off : Nat) (us cells : Array Value) : us.zipIdx.foldl (fun cs (p : Value × Nat) => cs.setIfInBounds (off + p.2) p.1) cells = spliceA cells off us.toList := by
  have := foldl_splice off us.toList 0 cells
  rw [← Array.foldl_toList, Array.toList_zipIdx]
  simpa using this

def aFill (places : List (Nat × Nat)) : List AV → List (Nat × AV) → Option (List AV)
  | cells, [] => some cells
  | cells, (i, v) :: rest => match places[i]?, avCells v with
    | some (off, size), some vs => if vs.length = size ∧ off + size ≤ cells.length then aFill places (splice cells off vs) rest else none
    | _, _ => none

def PartsRep (c : Cn) : List (Nat × AV) → List (Nat × Value) → Prop
  | [], ps => ps = []
  | (i, a) :: as, ps => ∃ v us, ps = (i, v) :: us ∧ Rep c a v ∧ PartsRep c as us

theorem aFill_ok {c : Cn} {places : List (Nat × Nat)} {place : Nat → Option (Nat × Nat)} (hpl : ∀ i p, places[i]? = some p → place i = some p) :
    ∀ (parts : List (Nat × AV)) (ps : List (Nat × Value)) (cells r : List AV) (vs : Array Value), PartsRep c parts ps → RepL c cells vs.toList → aFill places cells parts = some r →
      ∃ out, Instr.fill place vs ps = some out ∧ RepL c r out.toList
  | [], ps, cells, r, vs, hp, hl, h => by
    simp only [PartsRep] at hp; subst hp
    simp [aFill] at h; subst h
    exact ⟨vs, rfl, hl⟩
  | (i, a) :: parts, ps, cells, r, vs, hp, hl, h => by
    obtain ⟨v, us, rfl, hv, hp'⟩ := hp
    simp only [aFill] at h
    split at h
    · rename_i off size cs hpi hcs
      split at h
      · rename_i hc
        have hlv := avCells_ok hcs hv
        have hsz : v.cells.size = size := by have := hlv.length; simp at this; omega
        have hle := hl.length
        simp at hle
        have hnot : ¬ (v.cells.size ≠ size ∨ off + v.cells.size > vs.size) := by omega
        obtain ⟨out, h1, h2⟩ := aFill_ok hpl parts us (splice cells off cs) r (spliceA vs off v.cells.toList) hp' (by rw [spliceA_toList]; exact hl.splice hlv off) h
        refine ⟨out, ?_, h2⟩
        simp only [Instr.fill, hpl i _ hpi]
        have : (decide (v.cells.size ≠ size) || decide (off + v.cells.size > vs.size)) = false := by simp; omega
        simp only [this, Bool.false_eq_true, if_false]
        rw [fill_step]
        exact h1
      · cases h
    · cases h

def structPlaces (P : Program) (fs : Array Field) : Option (Array (Nat × Nat)) := pe P (fs.mapM fun f => do pure (f.offset, ← sizeOf f.type))

/-- A struct's or an array's zero cells, and where its parts lie. -/
def buildInfo (P : Program) (t : TypeId) : Option (List AV × List (Nat × Nat)) :=
  match zeroT P t, P.underlying t with
  | some z, some (.struct fs) => match avCells (lift z), structPlaces P fs with
    | some cs, some ps => some (cs, ps.toList)
    | _, _ => none
  | some z, some (.array n elem) => match avCells (lift z), szOf P elem with
    | some cs, some sz => some (cs, (List.range n).map fun i => (i * sz, sz))
    | _, _ => none
  | _, _ => none

def aBuild (P : Program) (t : TypeId) (parts : List (Nat × AV)) : Option AV :=
  match buildInfo P t with
  | some (cs, ps) => (aFill ps cs parts).map .agg
  | none => none

theorem aBuild_ok {P : Program} {base : Nat} {c : Cn} {H : Heap} (hI : Inv c H) {t : TypeId} {parts : List (Nat × AV)} {ps : Array (Nat × Value)} {r : AV}
    (h : aBuild P t parts = some r) (hp : PartsRep c parts ps.toList) : OpOK P base c H (Instr.build t ps) r H := by
  unfold aBuild at h
  split at h
  · rename_i cs pl hb
    obtain ⟨out, ho, rfl⟩ := Option.map_eq_some_iff.1 h
    unfold buildInfo at hb
    split at hb
    · rename_i z fs hz hu
      split at hb
      · rename_i cs' pl' hcs hpl
        cases hb
        obtain ⟨o, h1, h2⟩ := aFill_ok (place := (pl'[·]?)) (by intro i p hi; simpa using hi) parts ps.toList cs out z.cells hp (avCells_ok hcs (lift_rep c z)) ho
        refine .same hI (v := .agg o) ?_ ⟨o, rfl, h2⟩
        unfold structPlaces at hpl
        simp [Instr.build, run_zeroValue' hz, run_underlying' hu]
        erw [pe_run hpl]
        simp [h1]
      · cases hb
    · rename_i z n elem hz hu
      split at hb
      · rename_i cs' sz hcs hsz
        cases hb
        obtain ⟨o, h1, h2⟩ := aFill_ok (place := fun i => some (i * sz, sz)) (by intro i p hi; rw [← (range_map_get hi).2]) parts ps.toList cs out z.cells hp (avCells_ok hcs (lift_rep c z)) ho
        refine .same hI (v := .agg o) ?_ ⟨o, rfl, h2⟩
        simp [Instr.build, run_zeroValue' hz, run_underlying' hu, run_sizeOf' hsz, h1]
      · cases hb
    · cases hb
  · cases h

def sliceElem (P : Program) (t : TypeId) : Option TypeId := match P.underlying t with
  | some (.slice e) => some e
  | _ => none

theorem sliceElem_eq {P : Program} {t e : TypeId} (h : sliceElem P t = some e) : P.underlying t = some (.slice e) := by
  unfold sliceElem at h
  split at h
  · cases h; assumption
  · cases h

def arrayOf (P : Program) (t : TypeId) : Option (Nat × TypeId) := match P.underlying t with
  | some (.array n e) => some (n, e)
  | _ => none

theorem arrayOf_eq {P : Program} {t : TypeId} {n : Nat} {e : TypeId} (h : arrayOf P t = some (n, e)) : P.underlying t = some (.array n e) := by
  unfold arrayOf at h
  split at h
  · cases h; assumption
  · cases h

/-- So many cells of so many zero values. -/
def zrep (n : Nat) (zc : List AV) : List AV := (List.range n).map fun k => zc.getD (k % zc.length) (.atom undef)

theorem zrep_one (n : Nat) (z : AV) : zrep n [z] = List.replicate n z := by
  unfold zrep
  rw [List.eq_replicate_iff]
  simp [Nat.mod_one]

theorem zrep_rep {c : Cn} {n : Nat} {zc : List AV} {zs : Array Value} (h : RepL c zc zs.toList) (hn : n = 0 ∨ 0 < zc.length) :
    RepL c (zrep n zc) ((Array.range n).map fun k => zs[k % zs.size]!).toList := by
  refine RepL.of_get (by simp [zrep]) ?_
  intro i a v ha hv
  have hl := h.length
  simp at hl
  obtain ⟨h1, h2⟩ := range_map_get ha
  have h4 : zs[i % zs.size]! = v := by
    rw [Array.toList_map, Array.toList_range] at hv
    exact (range_map_get hv).2
  have hpos : 0 < zc.length := by omega
  have hlt : i % zc.length < zc.length := Nat.mod_lt _ hpos
  obtain ⟨v', hv', hr⟩ := h.get (i := i % zc.length) (List.getElem?_eq_getElem hlt)
  have e1 : zc[i % zc.length] = a := by rw [← h2]; simp [List.getD, List.getElem?_eq_getElem hlt]
  rw [e1] at hr
  have e2 : v' = v := by
    rw [← h4, hl]
    have h5 : zs[i % zc.length]? = some v' := by simpa using hv'
    rw [getElem!_def, h5]
  exact e2 ▸ hr

def aBuildSlice (P : Program) (H : Heap) (t : TypeId) (len : Nat) (parts : List (Nat × AV)) : Option (AV × Heap) :=
  match sliceElem P t with
  | some e => match szOf P e, zeroT P e with
    | some sz, some z => match avCells (lift z) with
      | some zc => if 0 < zc.length ∧ len * sz ≤ 2 ^ 24 then
          match aFill ((List.range len).map fun i => (i * sz, sz)) (zrep (len * sz) zc) parts with
          | some cs => some (if len = 0 then .sl [] 0 true else .slr H.length 0 0 len none sz, .cells 0 cs :: H)
          | none => none
        else none
      | none => none
    | _, _ => none
  | none => none

theorem aFill_length {places : List (Nat × Nat)} : ∀ {parts : List (Nat × AV)} {cells r : List AV}, aFill places cells parts = some r → r.length = cells.length
  | [], cells, r, h => by simp [aFill] at h; simp [h]
  | (i, a) :: parts, cells, r, h => by
    simp only [aFill] at h
    split at h
    · split at h
      · have := aFill_length h; simpa using this
      · cases h
    · cases h

theorem aBuildSlice_ok {P : Program} {base : Nat} {c : Cn} {H H' : Heap} (hI : Inv c H) (hbase : base ≤ H.length) {t : TypeId} {len : Nat} {parts : List (Nat × AV)} {ps : Array (Nat × Value)} {r : AV}
    (h : aBuildSlice P H t len parts = some (r, H')) (hp : PartsRep c parts ps.toList) : OpOK P base c H (Instr.buildSlice t len ps) r H' := by
  unfold aBuildSlice at h
  split at h
  · rename_i e he
    split at h
    · rename_i sz z hsz hz
      split at h
      · rename_i zc hzc
        split at h
        · rename_i hc
          split at h
          · rename_i cs hfill
            cases h
            have hzr := avCells_ok hzc (lift_rep c z)
            obtain ⟨o, h1, h2⟩ := aFill_ok (c := c) (place := fun i => some (i * sz, sz)) (by intro i p hi; rw [← (range_map_get hi).2]) parts ps.toList _ cs _ hp
              (zrep_rep (n := len * sz) hzr (.inr hc.1)) hfill
            obtain ⟨hpost, hm⟩ := Post.newAll (elem := e) hI hbase h2
            have hlen : cs.length = len * sz := by rw [aFill_length hfill]; simp [zrep]
            have hosz : o.size = len * sz := by have := h2.length; simp at this; omega
            have hrep : Rep (c.new H.length { c.w with heap := c.w.heap.push (.cells o e) }) (if len = 0 then .sl [] 0 true else .slr H.length 0 0 len none sz) (.slice (some ⟨c.w.heap.size, 0, none⟩) len len) := by
              split
              · rename_i h0
                subst h0
                exact .inl ⟨rfl, rfl, _, 0, rfl, fun _ => rfl⟩
              · refine ⟨c.w.heap.size, 0, len, hm, rfl, Nat.le_refl _, e, len * sz, ?_, by simp⟩
                rw [← hosz]; exact shape_push c.w o e (0, 0)
            refine ⟨.slice (some ⟨c.w.heap.size, 0, none⟩) len len, _, ?_, hpost, hrep⟩
            · have h24 : ¬ (len * sz > 2 ^ 24) := by omega
              by_cases h0 : len * sz = 0
              · rw [h0] at h1
                have e0 : Array.range 0 = #[] := rfl
                rw [e0, Array.map_empty] at h1
                simp [Instr.buildSlice, run_underlying' (sliceElem_eq he), run_sizeOf' hsz, h0, newRow, Cn.new, e0, h1]
              · simp only [Instr.buildSlice, Sem.run_bind, run_underlying' (sliceElem_eq he), Result.andThen_ok, run_sizeOf' hsz, h24, if_false, h0, Sem.run_pure]
                simp [run_zeroValue' hz, h1, newRow, Cn.new]
          · cases h
        · cases h
      · cases h
    · cases h
  · cases h

def asIntA : AV → Option Int
  | .atom (.int _ n) => some n
  | _ => none

theorem asIntA_eq {a : AV} {n : Int} (h : asIntA a = some n) : ∃ k, a = .atom (.int k n) := by
  unfold asIntA at h
  split at h
  · cases h; exact ⟨_, rfl⟩
  · cases h

def aIndexAddr (P : Program) (t : TypeId) (a i : AV) : Option AV :=
  match asIntA i with
  | some n =>
    match arrayOf P t with
    | some (len, e) => match szOf P e with
      | some sz => if 0 ≤ n ∧ n < len then addrPlus a (n.toNat * sz) else none
      | none => none
    | none => match sliceElem P t with
      | some e => match szOf P e, a with
        | some sz, .sl cs len _ => if 0 ≤ n ∧ n < len then some (.cptr (cs.drop (n.toNat * sz))) else none
        | some sz, .slr b g off len _ _ => if 0 ≤ n ∧ n < len then some (.ptr b g (off + n.toNat * sz)) else none
        | _, _ => none
      | none => none
  | none => none

theorem aIndexAddr_ok {P : Program} {base : Nat} {c : Cn} {H : Heap} (hI : Inv c H) {t : TypeId} {a i r : AV} {x y : Value} (h : aIndexAddr P t a i = some r) (hr : Rep c a x) (hi : Rep c i y) :
    OpOK P base c H (Instr.indexAt t x y) r H := by
  unfold aIndexAddr at h
  split at h
  · rename_i n hn
    obtain ⟨k, rfl⟩ := asIntA_eq hn
    cases hi
    split at h
    · rename_i len e ha
      split at h
      · rename_i sz hsz
        split at h
        · rename_i hc
          obtain ⟨B, o, rfl, hrr⟩ := addrPlus_ok h hr
          refine .same hI ?_ hrr
          simp [Instr.indexAt, asIntOf, run_underlying' (arrayOf_eq ha), Instr.sureAddr, run_sizeOf' hsz, hc, addr_add]
        · cases h
      · cases h
    · rename_i hna
      split at h
      · rename_i e he
        split at h
        · rename_i sz cs len t' hsz
          split at h
          · rename_i hc
            cases h
            rcases hr with ⟨_, h0, _⟩ | ⟨B, o, cap, vs, hF, hcl, rfl, hle, ht, hl⟩
            · omega
            · refine .same hI (v := .pointer (some ⟨B, o + n.toNat * sz, none⟩)) ?_ ⟨B, _, vs.drop (n.toNat * sz), hF, hcl.drop _, rfl, hl.drop _⟩
              simp [Instr.indexAt, asIntOf, run_underlying' (sliceElem_eq he), run_sizeOf' hsz, hc, addr_add]
          · cases h
        · rename_i sz b g off len cap esz hsz
          split at h
          · rename_i hc
            cases h
            obtain ⟨B, o, cp, hm, rfl, hle, hcap⟩ := hr
            refine .same hI (v := .pointer (some ⟨B, o + off + n.toNat * sz, none⟩)) ?_ ⟨B, o, hm, by simp [Nat.add_assoc]⟩
            simp [Instr.indexAt, asIntOf, run_underlying' (sliceElem_eq he), run_sizeOf' hsz, hc, addr_add]
          · cases h
        · cases h
      · cases h
  · cases h

end Go.Av
