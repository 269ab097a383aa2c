/- A part of the proof: a verified reading of the model by values alone, and what is shown by it. It holds without conditions. -/
import Derived.Lib.UnsafeStr
import Derived.Test.YtjmgcdbefkojjaaGreatDoorAvOps9
namespace Go.Av
open Go

/-- An append to a slice of bytes that begins its block. -/
def aAppendB (P : Program) (base : Nat) (H : Heap) (sT xT : TypeId) (b g len : Nat) (e' : TypeId) (x : AV) : Option (AV × Heap) :=
  match appT P sT xT with
  | some (e, sz, _) => match appSrc H sz x with
    | some (xs, n) => if allCells xs = true then
        if n = 0 then some (.slt b g len e', H) else
        match hget H b with
        | some (.cells g' cs) => if g' = g ∧ sz = 1 ∧ e' = e ∧ len + n ≤ 2 ^ 30 ∧ base ≤ b ∧ cs.length = len then some (.slt b (g + 1) (len + n) e, hset H b (.cells (g + 1) (cs ++ xs))) else none
        | _ => none
      else none
    | none => none
  | none => none

theorem spliceA_get (us : List Value) : ∀ (cells : Array Value) (p : Nat), p + us.length ≤ cells.size → ∀ i, (spliceA cells p us)[i]? = if p ≤ i ∧ i < p + us.length then us[i - p]? else cells[i]? := by
  induction us with
  | nil => intro cells p _ i; simp [spliceA]; intro h1 h2; omega
  | cons u us ih =>
    intro cells p hp i
    simp only [spliceA]
    rw [ih _ _ (by simp at hp ⊢; omega)]
    simp at hp
    by_cases e1 : i = p
    · subst e1
      have hlt : i < cells.size := by omega
      rw [if_neg (by omega), if_pos (by simp), Array.getElem?_setIfInBounds_self_of_lt hlt]
      simp
    · by_cases e2 : p + 1 ≤ i ∧ i < p + 1 + us.length
      · have e3 : p ≤ i ∧ i < p + (us.length + 1) := by omega
        have e4 : i - p = (i - (p + 1)) + 1 := by omega
        simp [e2, e3, e4]
      · have e3 : ¬ (p ≤ i ∧ i < p + (us.length + 1)) := by omega
        rw [if_neg e2, List.length_cons, if_neg e3, Array.getElem?_setIfInBounds_ne (by omega)]

theorem aAppendB_ok {P : Program} {base : Nat} {c : Cn} {H H' : Heap} (hI : Inv c H) {sT xT ty e' : TypeId} {b g len : Nat} {x r : AV} {y v : Value}
    (h : aAppendB P base H sT xT b g len e' x = some (r, H')) (ha : Rep c (.slt b g len e') y) (hx : Rep c x v) : OpOK P base c H (Builtin.append_ #[sT, xT] ty #[y, v]) r H' := by
  unfold aAppendB at h
  split at h
  · rename_i e sz z hT
    obtain ⟨by_, T, hby, hzs⟩ := appT_ok hT
    split at h
    · rename_i xs n hsrc
      obtain ⟨hlen, hxl, _, us, hus, hnew⟩ := appSrc_ok (P := P) hI hsrc hx
      have husl := hus.length
      split at h
      · rename_i hcells
        have hone := allCells_ok hcells hus
        have ha0 := ha
        obtain ⟨B, cp, hm, hsh, rfl, hle⟩ := ha
        split at h
        · rename_i h0
          cases h
          subst h0
          have hu : us = [] := List.eq_nil_of_length_eq_zero (by omega)
          subst hu
          have := run_append_in (P := P) (w := c.w) (ty := ty) T (base := some ⟨B, 0, none⟩) (sLen := len) (sCap := cp) (n := 0) (x := v) (us := []) (hlen _) (hnew _ rfl) (by omega) (w' := c.w) (fun a _ => rfl) (fun _ => rfl)
          exact .same hI (by simpa using this) ha0
        · rename_i h0
          split at h
          · rename_i g' cs ho
            split at h
            · rename_i hc
              obtain ⟨rfl, rfl, rfl, hnd, hbb, hcl⟩ := hc
              cases h
              obtain ⟨B2, o2, vs, cells, elem, fz, hm2, hb, h2, h3, h4, hrl⟩ := hI.ok b _ ho
              rw [hm] at hm2; cases hm2
              have hvl := hrl.length
              have hs2' : c.w.shape? B = some (elem, cells.size) := by simp [World.shape?, hb]
              rw [hs2'] at hsh
              obtain ⟨rfl, rfl⟩ : elem = e' ∧ cells.size = cp := by simpa using hsh
              simp only [Nat.mul_one] at hxl
              by_cases hin : len + n ≤ cells.size
              · have hst := run_storeCells_fz (P := P) B len elem fz us 0 cells c.w hb (by omega) hone h4
                rw [Nat.add_zero] at hst
                have hrun := run_append_in (P := P) (w := c.w) (ty := ty) T (base := some ⟨B, 0, none⟩) (sLen := len) (sCap := cells.size) (hlen _) (hnew _ rfl) hin
                  (w' := c.w.setRow B (spliceA cells len us)) (fun a ha => by cases ha; rw [addr_add, Nat.mul_one, Nat.zero_add]; exact hst) (fun h => by cases h)
                have hpost := Post.move (base := base) (cs' := cs ++ xs) (l := (B, 0)) (w' := c.w.setRow B (spliceA cells len us)) hI ho hm hbb
                  (.inl ⟨rfl, by simp⟩) (fun B' _ hne => setRow_other _ _ _ _ hne) (fun p hp => by rw [setRow_shape hb (by simp)]; exact hp) ?_
                · refine ⟨_, _, hrun, hpost, B, cells.size, by simp [Cn.move], ?_, by simp, hin⟩
                  show (c.w.setRow B _).shape? B = _
                  rw [setRow_shape hb (by simp)]; exact hs2'
                · intro he
                  refine ⟨B, 0, vs ++ us, spliceA cells len us, elem, fz, by simp [Cn.move], setRow_heap c.w B cells _ elem fz hb, by simp; omega, ?_, by simpa using h4, RepL.ext he _ _ (hrl.append hus)⟩
                  intro i hi
                  rw [spliceA_get us cells len (by omega)]
                  simp only [List.length_append] at hi
                  by_cases e1 : i < len
                  · rw [if_neg (by omega), List.getElem?_append_left (by omega), Nat.zero_add, ← h3 i (by omega), Nat.zero_add]
                  · rw [if_pos (by omega), List.getElem?_append_right (by omega)]
                    congr 1; omega
              · have hfirst : ∀ w', w'.heap = c.w.heap → (Builtin.firstCells 1 len (.slice (some ⟨B, 0, none⟩) len cells.size)).run P w' = .ok vs.toArray w' := by
                  intro w' hw
                  have := run_loadCells_at (P := P) ((cellsAt_of hb h3).world hw)
                  simp only [Builtin.firstCells, Nat.mul_one]
                  rw [show len = vs.length by omega]
                  exact this
                obtain ⟨k, w', hk, ⟨hw', hout⟩, hrun⟩ := run_append_new (P := P) (w := c.w) (ty := ty) T (hlen _) hnew hfirst (by omega) hnd hby
                have hBs := lt_of_heap hb
                have hrs : ∀ zc : Array Value, zc.size = 1 → (vs.toArray ++ us.toArray ++ Builtin.zeroCells zc (k - (len + n))).size = k := by
                  intro zc hz
                  simp [zeroCells_size, hz]; omega
                have hpost := Post.move (base := base) (cs' := cs ++ xs) (l := (c.w.heap.size, 0)) (w' := w') hI ho hm hbb
                  (.inr ⟨rfl, by simp [hw'], by rw [hw', Array.getElem?_push_lt hBs, Array.getElem?_eq_getElem hBs]⟩) (fun B'' hB'' _ => by rw [hw', Array.getElem?_push_lt hB'', Array.getElem?_eq_getElem hB''])
                  (fun p hp => by rw [shape_of_heap (w := c.w)]; exact hp; rw [hw', Array.getElem?_push_lt hBs, Array.getElem?_eq_getElem hBs]) ?_ hout
                · refine ⟨_, _, hrun, hpost, c.w.heap.size, k, by simp [Cn.move], ?_, by simp, hk⟩
                  show w'.shape? _ = _
                  simp only [World.shape?, hw', Array.getElem?_push_size]
                  rw [hrs _ hzs]
                · intro he
                  refine ⟨c.w.heap.size, 0, vs ++ us, vs.toArray ++ us.toArray ++ Builtin.zeroCells z.cells (k - (len + n)), elem, (0, 0), by simp [Cn.move], by show w'.heap[_]? = _; simp only [hw', Array.getElem?_push_size], by rw [hrs _ hzs]; simp; omega, ?_, unfrozen0, RepL.ext he _ _ (hrl.append hus)⟩
                  intro i hi
                  rw [Nat.zero_add, Array.getElem?_append_left (by simpa using hi), ← Array.getElem?_toList]
                  simp
            · cases h
          · cases h
      · cases h
    · cases h
  · cases h

/-- unsafe.SliceData, of a slice of bytes that begins its block, or of none. -/
def aSliceData : AV → Option AV
  | .slt b g (_ + 1) e => some (.bptr b g e)
  | _ => none

theorem aSliceData_ok {P : Program} {base : Nat} {c : Cn} {H : Heap} (hI : Inv c H) {t ty : TypeId} {a r : AV} {x : Value} (h : aSliceData a = some r) (hr : Rep c a x) :
    OpOK P base c H (Builtin.unsafeSliceData_ #[t] ty #[x]) r H := by
  unfold aSliceData at h
  split at h
  · cases h
    obtain ⟨B, cp, hm, hs, rfl, hle⟩ := hr
    exact .same hI (Lib.run_unsafeSliceData_row c.w _ _ _ _ _ (by omega)) ⟨B, cp, hm, hs, rfl⟩
  · cases h

def okBytes (ns : List Int) : Bool := ns.all fun n => decide (0 ≤ n) && decide (n < 256)

def aUStr (P : Program) (base : Nat) (H : Heap) (pt : TypeId) (p l : AV) : Option (AV × Heap) :=
  match p, l with
  | .bptr b g e, .atom (.int .i64 n) => match P.underlying pt, hget H b with
    | some (.pointer e2), some (.cells g' cs) =>
      if e2 = e ∧ P.cellsOf e = 1 ∧ g' = g ∧ base ≤ b ∧ 0 < n ∧ n.toNat ≤ cs.length ∧ n ≤ 2 ^ 40 then
        match bytesOf (cs.take n.toNat) with
        | some ns => if okBytes ns = true then some (.atom (.string (strOf ns)), hset H b .dead) else none
        | none => none
      else none
    | _, _ => none
  | _, _ => none

theorem freeze_other {w : World} {B n B' : Nat} (h : B' ≠ B) : (w.freeze ⟨B, 0, none⟩ n).heap[B']? = w.heap[B']? := by
  unfold World.freeze
  split
  · rfl
  · simp [Array.getElem?_modify, Ne.symm h]

theorem freeze_size {w : World} {B n : Nat} : (w.freeze ⟨B, 0, none⟩ n).heap.size = w.heap.size := by
  unfold World.freeze
  split
  · rfl
  · simp

theorem freeze_shape {w : World} {B n : Nat} {p : TypeId × Nat} (h : w.shape? B = some p) : (w.freeze ⟨B, 0, none⟩ n).shape? B = some p := by
  unfold World.freeze
  split
  · exact h
  · unfold World.shape? at h ⊢
    simp only [Array.getElem?_modify, if_true]
    cases e : w.heap[B]? with
    | none => simp [e] at h
    | some o =>
      rw [e] at h
      cases o <;> simp at h ⊢
      exact h

theorem aUStr_ok {P : Program} {base : Nat} {c : Cn} {H H' : Heap} (hI : Inv c H) {pt it ty : TypeId} {p l r : AV} {x y : Value} (h : aUStr P base H pt p l = some (r, H')) (hx : Rep c p x) (hy : Rep c l y) :
    OpOK P base c H (Builtin.unsafeString_ #[pt, it] ty #[x, y]) r H' := by
  unfold aUStr at h
  split at h
  · rename_i b g e n
    cases hy
    split at h
    · rename_i e2 g' cs hu ho
      split at h
      · rename_i hc
        obtain ⟨rfl, hc1, rfl, hbb, hn0, hn, hn40⟩ := hc
        split at h
        · rename_i ns hns
          split at h
          · rename_i hok
            cases h
            obtain ⟨B, cp, hm, hsh, rfl⟩ := hx
            obtain ⟨B2, o2, vs, cells, elem, fz, hm2, hb, h2, h3, h4, hrl⟩ := hI.ok b _ ho
            rw [hm] at hm2; cases hm2
            have hvl := hrl.length
            have hvs := bytesOf_ok hns (hrl.take n.toNat)
            have hnl : ns.length = n.toNat := by
              have := congrArg List.length hvs
              simp at this; omega
            have hs2' : c.w.shape? B = some (elem, cells.size) := by simp [World.shape?, hb]
            rw [hs2'] at hsh; cases hsh
            let l : List UInt8 := ns.map fun n => UInt8.ofNat n.toNat
            have hll : l.length = n.toNat := by simp [l, hnl]
            have hcell : ∀ j x, l[j]? = some x → c.w.cell? ((⟨B, 0, none⟩ : Addr).add j) = some (.int .u8 x.toNat) := by
              intro j x hj
              have hjl : j < l.length := by
                rcases Nat.lt_or_ge j l.length with h | h
                · exact h
                · rw [List.getElem?_eq_none h] at hj; cases hj
              have hjn : j < ns.length := by omega
              have h1 : vs[j]? = (ns.map (Value.int .u8))[j]? := by rw [← hvs, List.getElem?_take_of_lt (by omega)]
              rw [show (⟨B, 0, none⟩ : Addr).add j = ⟨B, 0 + j, none⟩ from addr_add _ _ _]
              have h5 : c.w.cell? ⟨B, 0 + j, none⟩ = vs[j]? := cellsAt_of hb h3 j (by omega)
              rw [h5, h1]
              simp only [l, List.getElem?_map, List.getElem?_eq_getElem hjn, Option.map_some, Option.some.injEq] at hj ⊢
              subst hj
              have hb8 := (List.all_eq_true.1 hok) ns[j] (List.getElem_mem hjn)
              simp only [Bool.and_eq_true, decide_eq_true_eq] at hb8
              have : (UInt8.ofNat (ns[j]).toNat).toNat = (ns[j]).toNat := by
                simp; omega
              rw [this]
              congr 1; omega
            have hl0 : l ≠ [] := fun h => by rw [h] at hll; simp at hll; omega
            have hrun := Lib.run_unsafeString_row (P := P) c.w pt it ty _ hu hc1 B cells.size hs2' l hl0 (by omega) (by omega) hcell
            have hlen : (l.length : Int) = n := by omega
            rw [hlen] at hrun
            have hp := Post.updDead (base := base) (o := .cells g' cs) (w' := c.w.freeze ⟨B, 0, none⟩ l.length) hI ho rfl hm hbb freeze_size (fun B' hne => freeze_other hne) (fun p hp => freeze_shape hp) (by unfold World.freeze; split <;> exact ⟨rfl, rfl, rfl⟩)
            exact ⟨_, _, hrun, hp, rfl⟩
          · cases h
        · cases h
      · cases h
    · cases h
  · cases h

end Go.Av
