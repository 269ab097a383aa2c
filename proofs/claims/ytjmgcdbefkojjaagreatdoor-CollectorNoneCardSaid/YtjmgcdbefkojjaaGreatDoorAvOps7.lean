/- A part of the proof: a verified reading of the model by values alone, and what is shown by it. It holds without conditions. -/
import Derived.Lib.Builder
import Derived.Test.YtjmgcdbefkojjaaGreatDoorAvOps6
namespace Go.Av
open Go

def bytesOf : List AV → Option (List Int)
  | [] => some []
  | .atom (.int .u8 n) :: as => match bytesOf as with
    | some ns => some (n :: ns)
    | none => none
  | _ => none

theorem bytesOf_ok {c : Cn} : ∀ {as : List AV} {ns : List Int} {vs : List Value}, bytesOf as = some ns → RepL c as vs → vs = ns.map (Value.int .u8)
  | [], ns, vs, h, hr => by simp [bytesOf] at h; subst h; exact hr
  | .atom (.int .u8 n) :: as, ns, vs, h, hr => by
    simp only [bytesOf] at h
    split at h
    · rename_i ns' e
      cases h
      obtain ⟨v, us, rfl, h1, h2⟩ := hr
      cases h1
      rw [bytesOf_ok e h2]; rfl
    · cases h
  | .atom (.int .i8 _) :: _, _, _, h, _ => by simp [bytesOf] at h
  | .atom (.int .i16 _) :: _, _, _, h, _ => by simp [bytesOf] at h
  | .atom (.int .i32 _) :: _, _, _, h, _ => by simp [bytesOf] at h
  | .atom (.int .i64 _) :: _, _, _, h, _ => by simp [bytesOf] at h
  | .atom (.int .u16 _) :: _, _, _, h, _ => by simp [bytesOf] at h
  | .atom (.int .u32 _) :: _, _, _, h, _ => by simp [bytesOf] at h
  | .atom (.int .u64 _) :: _, _, _, h, _ => by simp [bytesOf] at h
  | .atom (.bool _) :: _, _, _, h, _ => by simp [bytesOf] at h
  | .atom (.float _ _) :: _, _, _, h, _ => by simp [bytesOf] at h
  | .atom (.complex _ _ _) :: _, _, _, h, _ => by simp [bytesOf] at h
  | .atom (.string _) :: _, _, _, h, _ => by simp [bytesOf] at h
  | .atom (.pointer _) :: _, _, _, h, _ => by simp [bytesOf] at h
  | .atom (.slice _ _ _) :: _, _, _, h, _ => by simp [bytesOf] at h
  | .atom (.map _) :: _, _, _, h, _ => by simp [bytesOf] at h
  | .atom (.chan _) :: _, _, _, h, _ => by simp [bytesOf] at h
  | .atom (.func _ _ _) :: _, _, _, h, _ => by simp [bytesOf] at h
  | .atom .nilFunc :: _, _, _, h, _ => by simp [bytesOf] at h
  | .atom (.iface _ _) :: _, _, _, h, _ => by simp [bytesOf] at h
  | .atom .nilIface :: _, _, _, h, _ => by simp [bytesOf] at h
  | .atom (.agg _) :: _, _, _, h, _ => by simp [bytesOf] at h
  | .atom (.tuple _) :: _, _, _, h, _ => by simp [bytesOf] at h
  | .ptr .. :: _, _, _, h, _ => by simp [bytesOf] at h
  | .cptr .. :: _, _, _, h, _ => by simp [bytesOf] at h
  | .sl .. :: _, _, _, h, _ => by simp [bytesOf] at h
  | .slr .. :: _, _, _, h, _ => by simp [bytesOf] at h
  | .map .. :: _, _, _, h, _ => by simp [bytesOf] at h
  | .cmap .. :: _, _, _, h, _ => by simp [bytesOf] at h
  | .fn .. :: _, _, _, h, _ => by simp [bytesOf] at h
  | .iface .. :: _, _, _, h, _ => by simp [bytesOf] at h
  | .agg .. :: _, _, _, h, _ => by simp [bytesOf] at h
  | .tuple .. :: _, _, _, h, _ => by simp [bytesOf] at h
  | .yld .. :: _, _, _, h, _ => by simp [bytesOf] at h
  | .tptr .. :: _, _, _, h, _ => by simp [bytesOf] at h
  | .slt .. :: _, _, _, h, _ => by simp [bytesOf] at h
  | .bptr .. :: _, _, _, h, _ => by simp [bytesOf] at h
  | .bnil :: _, _, _, h, _ => by simp [bytesOf] at h

def isByteT (P : Program) (e : TypeId) : Bool := match P.underlying e with
  | some (.int .u8) => true
  | _ => false

theorem isByteT_eq {P : Program} {e : TypeId} (h : isByteT P e = true) : P.underlying e = some (.int .u8) := by
  unfold isByteT at h
  split at h
  · assumption
  · cases h

def strOf (ns : List Int) : ByteArray := ⟨(ns.map fun n => UInt8.ofNat n.toNat).toArray⟩

theorem foldl_push (ns : List Int) : ∀ s : ByteArray, ns.foldl (fun r n => r.push (UInt8.ofNat n.toNat)) s = ⟨s.data ++ (ns.map fun n => UInt8.ofNat n.toNat).toArray⟩ := by
  induction ns with
  | nil => intro s; simp
  | cons n ns ih =>
    intro s
    rw [List.foldl_cons, ih]
    congr 1
    apply Array.ext'
    simp [ByteArray.push]

theorem freeze_push {w0 w : World} {row : Array Value} {e : TypeId} (hw : w.heap = w0.heap.push (.cells row e)) :
    (w.freeze ⟨w0.heap.size, row.size, none⟩ 1).heap = w0.heap.push (.cells row e (row.size, row.size + 1)) := by
  unfold World.freeze
  simp only [Nat.one_ne_zero, if_false, hw]
  apply Array.ext
  · simp
  · intro k h1 h2
    simp only [Array.getElem_modify]
    by_cases hk : w0.heap.size = k
    · subst hk
      simp
    · have : k < w0.heap.size := by simp at h2; omega
      simp [hk, Array.getElem_push_lt this]

theorem run_stringToBytes {P : Program} (w : World) (e : TypeId) (s : ByteArray) : ∃ cap w', s.size ≤ cap ∧
    (Conv.stringToBytes e s).run P w = .ok (.slice (some ⟨w.heap.size, 0, none⟩) s.size cap) w' ∧
    (w'.heap = w.heap.push (.cells ((s.data.map fun b => Value.int .u8 b.toNat) ++ Array.replicate (cap - s.size) (.int .u8 0)) e (cap, cap + 1)) ∧ Same w w') := by
  have hq : (Question.appendCap s.size 0 e).forced = false := rfl
  let cap := s.size + w.tape w.drawn (.appendCap s.size 0 e) % (2 ^ 63 - s.size)
  have hcut : (Question.appendCap s.size 0 e).cut (w.tape w.drawn (.appendCap s.size 0 e)) = cap := rfl
  let row : Array Value := (s.data.map fun b => Value.int .u8 b.toNat) ++ Array.replicate (cap - s.size) (.int .u8 0)
  have hle : s.size ≤ cap := Nat.le_add_right _ _
  have hrs : row.size = cap := by
    have : s.data.size = s.size := rfl
    simp [row, this]; omega
  let w1 : World := { w with drawn := w.drawn + 1, heap := w.heap.push (.cells row e) }
  refine ⟨cap, w1.freeze ⟨w.heap.size, row.size, none⟩ 1, hle, ?_, ?_, by unfold World.freeze; split <;> exact ⟨rfl, rfl, rfl⟩⟩
  · have hsh : w1.shape? w.heap.size = some (e, row.size) := by simp [World.shape?, w1]
    simp only [Conv.stringToBytes, Sem.run_bind, run_choose, hq, Bool.false_eq_true, if_false, Result.andThen_ok, hcut, newRow, run_newObj, Sem.run_pure, markStringish, run_shape]
    rw [show (World.shape? _ _ : Option (TypeId × Nat)) = some (e, row.size) from hsh]
    rfl
  · rw [freeze_push (w0 := w) (w := w1) rfl, hrs]

def slSrc (H : Heap) (esz : Nat) (a : AV) : Option (List AV × Nat) :=
  match a with
  | .sl .. | .slr .. => appSrc H esz a
  | _ => none

def sizedT (P : Program) (u : TypeId) : Bool := match P.info? u with
  | some j => decide (j.size ≠ 0)
  | none => false

def aConvert (P : Program) (H : Heap) (src dst : TypeId) (a : AV) : Option (AV × Heap) :=
  match P.underlying src, P.underlying dst with
  | some .string, some (.slice e) => match a with
    | .atom (.string s) => if isByteT P e = true then some (.slr H.length 0 0 s.size none 1, .cells 0 (bytesA s) :: H) else none
    | _ => none
  | some (.slice e), some .string => if isByteT P e = true then
      match slSrc H 1 a with
      | some (xs, _) => match bytesOf xs with
        | some ns => some (.atom (.string (strOf ns)), H)
        | none => none
      | none => none
    else none
  | some (.pointer u), some .unsafePointer => match a with
    | .tptr b g t n => if sizedT P u = true ∧ 0 < n then some (.tptr b g t n, H) else none
    | _ => none
  | some .unsafePointer, some (.pointer u) => match a with
    | .tptr b g t n => if sizedT P u = true ∧ liesAt P P.depth t (n / P.cellsOf t) 0 u 1 = true then some (.tptr b g t n, H) else none
    | _ => none
  | _, _ => match toV a with
    | some v => match pe P (convert src dst v) with
      | some r => some (lift r, H)
      | none => none
    | none => none

theorem sizedT_eq {P : Program} {u : TypeId} (h : sizedT P u = true) : ∃ j, P.info? u = some j ∧ j.size ≠ 0 := by
  unfold sizedT at h
  split at h
  · rename_i j hj; exact ⟨j, hj, by simpa using h⟩
  · cases h

theorem aConvert_ok {P : Program} {base : Nat} {c : Cn} {H H' : Heap} (hI : Inv c H) (hbase : base ≤ H.length) {src dst : TypeId} {a r : AV} {x : Value}
    (h : aConvert P H src dst a = some (r, H')) (hr : Rep c a x) : OpOK P base c H (convert src dst x) r H' := by
  unfold aConvert at h
  split at h
  · rename_i e hs hd
    split at h
    · rename_i s
      split at h
      · rename_i hb
        cases h; cases hr
        have he := isByteT_eq hb
        obtain ⟨cap, w', hle, hrun, hw', hout⟩ := run_stringToBytes (P := P) c.w e s
        have hds : s.data.size = s.size := rfl
        obtain ⟨hp, hm⟩ := Post.newCells (base := base) hI hbase (cs := bytesA s) (fz := (cap, cap + 1)) (w' := w') (hout := hout) (by
            have h1 : (bytesA s).length = (s.data.toList.map fun b => Value.int .u8 b.toNat).length := by simp [bytesA]
            simp only [Array.toList_append, Array.toList_map]
            rw [h1, List.take_left']
            · exact bytesA_rep c s
            · rfl)
          (by simp [bytesA]) hw' (fun i hi h => by simp [hds] at hi h; omega)
        refine ⟨.slice (some ⟨c.w.heap.size, 0, none⟩) s.size cap, _, ?_, hp, c.w.heap.size, 0, cap, hm, by simp, hle, e, cap, ?_, by simp⟩
        · simp [convert, run_underlying' hs, run_underlying' hd, run_underlying' he, hrun, Cn.new]
        · show w'.shape? _ = _
          simp [World.shape?, hw', hds]; omega
      · cases h
    · cases h
  · rename_i e hs hd
    split at h
    · rename_i hb
      have he := isByteT_eq hb
      split at h
      · rename_i xs n hsrc
        split at h
        · rename_i ns hns
          cases h
          have hsrc' : appSrc H 1 a = some (xs, n) := by unfold slSrc at hsrc; split at hsrc <;> first | exact hsrc | cases hsrc
          obtain ⟨_, hxl, _, us, hus, hnew⟩ := appSrc_ok (P := P) hI hsrc' hr
          have hu := bytesOf_ok hns hus
          subst hu
          have hf := hnew c.w rfl
          have fin : ∀ (ad : Option Addr) (cp : Nat), x = .slice ad n cp → OpOK P base c H (convert src dst x) (.atom (.string (strOf ns))) H := by
            rintro ad cp rfl
            refine .same hI (v := .string (strOf ns)) ?_ rfl
            rw [run_convert_bytes_string c.w src dst e ad n cp hs he hd]
            cases ad with
            | none =>
              simp [Builtin.firstCells] at hf
              have : ns = [] := by cases ns with
                | nil => rfl
                | cons a b => simp at hf
              subst this
              rfl
            | some ad =>
              simp only [Builtin.firstCells, Nat.mul_one] at hf
              rw [run_bytesToString c.w ad n cp ns hf, foldl_push]
              simp [strOf]
          unfold slSrc at hsrc
          split at hsrc
          · unfold appSrc at hsrc
            simp only at hsrc
            split at hsrc
            · cases hsrc
              rcases hr with ⟨_, rfl, ad, cp, rfl, _⟩ | ⟨B, o, cp, vs, _, _, rfl, _⟩ <;> exact fin _ _ rfl
            · cases hsrc
          · unfold appSrc at hsrc
            simp only at hsrc
            split at hsrc
            · split at hsrc
              · cases hsrc
                obtain ⟨B, o, cp, _, rfl, _⟩ := hr
                exact fin _ _ rfl
              · cases hsrc
            · cases hsrc
          · cases hsrc
        · cases h
      · cases h
    · cases h
  · rename_i u hs hd
    split at h
    · split at h
      · rename_i hc
        cases h
        obtain ⟨j, hj, hjs⟩ := sizedT_eq hc.1
        have hr0 := hr
        obtain ⟨B, hm, hsh, rfl⟩ := hr0
        exact .same hI (Lib.run_to_unsafe c.w _ hs hd hj hjs hsh hc.2) hr
      · cases h
    · cases h
  · rename_i u hs hd
    split at h
    · split at h
      · rename_i hc
        cases h
        obtain ⟨j, hj, hjs⟩ := sizedT_eq hc.1
        have hr0 := hr
        obtain ⟨B, hm, hsh, rfl⟩ := hr0
        exact .same hI (Lib.run_from_unsafe c.w _ hs hd hj hsh hc.2) hr
      · cases h
    · cases h
  · split at h
    · rename_i v hv
      split at h
      · rename_i r' hr'
        cases h
        have := toV_eq a v x hv hr
        subst this
        exact .pure hI hr'
      · cases h
    · cases h

end Go.Av
