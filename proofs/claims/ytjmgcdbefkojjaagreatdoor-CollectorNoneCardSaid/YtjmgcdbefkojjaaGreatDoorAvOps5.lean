/- A part of the proof: a verified reading of the model by values alone, and what is shown by it. It holds without conditions. -/
import Derived.Test.YtjmgcdbefkojjaaGreatDoorAvOps4
namespace Go.Av
open Go

def bytesT (P : Program) (t : TypeId) : Option Nat := (P.info? t).map (·.bytes)

def bytesA (s : ByteArray) : List AV := s.data.toList.map fun b => .atom (.int .u8 b.toNat)

def appSrc (H : Heap) (esz : Nat) : AV → Option (List AV × Nat)
  | .sl cs len _ => if cs.length = len * esz then some (cs, len) else none
  | .slr b g off len _ e => match hget H b with
    | some (.cells g' cs) => if g' = g ∧ e = esz ∧ off + len * esz ≤ cs.length then some ((cs.drop off).take (len * esz), len) else none
    | _ => none
  | .atom (.string s) => if esz = 1 then some (bytesA s, s.size) else none
  | .atom (.slice _ 0 _) => some ([], 0)
  | _ => none

theorem CellsAt.world {w w' : World} {B o : Nat} {vs : List Value} (h : CellsAt w B o vs) (hw : w'.heap = w.heap) : CellsAt w' B o vs :=
  h.keep (by rw [hw])

theorem bytesA_rep (c : Cn) (s : ByteArray) : RepL c (bytesA s) (s.data.toList.map fun b => Value.int .u8 b.toNat) := by
  unfold bytesA
  generalize s.data.toList = l
  induction l with
  | nil => rfl
  | cons b l ih => exact ⟨_, _, rfl, rfl, ih⟩

theorem extract_all (s : ByteArray) : s.extract 0 s.size = s := by
  simp

theorem appSrc_ok {P : Program} {c : Cn} {H : Heap} (hI : Inv c H) {esz n : Nat} {a : AV} {xs : List AV} {x : Value} (h : appSrc H esz a = some (xs, n)) (hr : Rep c a x) :
    (∀ w, (Builtin.lenOf x).run P w = .ok n w) ∧ xs.length = n * esz ∧ (∀ T, (P.underlying T).isSome → True) ∧
    ∃ us : List Value, RepL c xs us ∧ ∀ w', w'.heap = c.w.heap → (Builtin.firstCells esz n x).run P w' = .ok us.toArray w' := by
  unfold appSrc at h
  split at h
  · rename_i cs len tt
    split at h
    · rename_i hlen
      cases h
      rcases hr with ⟨rfl, rfl, ad, cap, rfl, ht⟩ | ⟨B, o, cap, vs, hF, hc, rfl, hle, ht, hl⟩
      · refine ⟨fun w => rfl, by simp, fun _ _ => trivial, [], rfl, fun w' _ => ?_⟩
        cases ad with
        | none => rfl
        | some ad => simp [Builtin.firstCells, loadCells, loadCellsFrom]
      · refine ⟨fun w => rfl, hlen, fun _ _ => trivial, vs, RepL.ext (Ext.of_bare c) _ _ hl, fun w' hw => ?_⟩
        have hvl : vs.length = n * esz := by rw [hl.length, hlen]
        simp only [Builtin.firstCells]
        rw [← hvl]
        exact run_loadCells_at (hc.world hw)
    · cases h
  · rename_i b g off len cap e
    split at h
    · rename_i g' cs ho
      split at h
      · rename_i hcnd
        obtain ⟨rfl, rfl, hfit⟩ := hcnd
        cases h
        obtain ⟨B, o, cp, hm, rfl, hle, hcap⟩ := hr
        obtain ⟨B2, o2, vs, cells, elem, fz, hm2, hb, h2, h3, h4, hrl⟩ := hI.ok b _ ho
        rw [hm] at hm2; cases hm2
        have hlen := hrl.length
        refine ⟨fun w => rfl, by simp; omega, fun _ _ => trivial, (vs.drop off).take (n * e), (hrl.drop _).take _, fun w' hw => ?_⟩
        have hvl : ((vs.drop off).take (n * e)).length = n * e := by simp; omega
        simp only [Builtin.firstCells]
        have := run_loadCells_at (P := P) ((((cellsAt_of hb h3).drop off).take (n * e)).world hw)
        rwa [hvl] at this
      · cases h
    · cases h
  · rename_i s
    split at h
    · rename_i he
      cases h
      cases hr
      refine ⟨fun w => rfl, by simp only [bytesA, he, List.length_map, Nat.mul_one, Array.length_toList]; rfl, fun _ _ => trivial, _, bytesA_rep c s, fun w' _ => ?_⟩
      simp only [Builtin.firstCells, Sem.run_pure]
      rw [extract_all]
      congr 1
      apply Array.ext'
      simp
    · cases h
  · rename_i ad cap
    cases h
    cases hr
    refine ⟨fun w => rfl, by simp, fun _ _ => trivial, [], rfl, fun w' _ => ?_⟩
    cases ad with
    | none => rfl
    | some ad => simp [Builtin.firstCells, loadCells, loadCellsFrom]
  · cases h

theorem nextslicecap_le {need sCap : Nat} (h : sCap < need) : Builtin.nextslicecap need sCap ≤ 2 * need + 192 := by
  have grow : ∀ r c, c < need → Builtin.growBy need r c ≤ 2 * need + 192 := by
    intro r
    induction r with
    | zero => intro c hc; simp [Builtin.growBy]; omega
    | succ r ih =>
      intro c hc
      simp only [Builtin.growBy]
      split
      · omega
      · by_cases e : c + (c + 768) / 4 < need
        · exact ih _ e
        · cases r with
          | zero => simp [Builtin.growBy]; omega
          | succ r => simp only [Builtin.growBy]; split <;> omega
  unfold Builtin.nextslicecap
  split
  · omega
  · split
    · omega
    · exact grow 4 sCap h

/-- What an append needs to know of its types. -/
structure AppT (P : Program) (sT xT e : TypeId) (sz by_ : Nat) (z : Value) : Prop where
  hs : P.underlying sT = some (.slice e)
  hx : ∃ d, P.underlying xT = some d ∧ ∀ k, d ≠ .int k
  hsz : szOf P e = some sz
  hb : bytesT P e = some by_
  hz : zeroT P e = some z

theorem run_bytes {P : Program} {w : World} {e : TypeId} {b : Nat} (h : bytesT P e = some b) : (typeInfo e).run P w = (match P.info? e with | some i => .ok i w | none => .halt (.stuck "no such type") w) ∧ ∃ i, P.info? e = some i ∧ i.bytes = b := by
  unfold bytesT at h
  cases hi : P.info? e with
  | none => simp [hi] at h
  | some i => simp [hi] at h; exact ⟨by simp [typeInfo, hi], i, rfl, h⟩

theorem run_append_in {P : Program} {w : World} {sT xT ty e : TypeId} {sz by_ : Nat} {z : Value} (T : AppT P sT xT e sz by_ z) {base : Option Addr} {sLen sCap n : Nat} {x : Value} {us : List Value}
    (hlen : (Builtin.lenOf x).run P w = .ok n w) (hnew : (Builtin.firstCells sz n x).run P w = .ok us.toArray w) (hn : sLen + n ≤ sCap) {w' : World}
    (hst : ∀ a, base = some a → (storeCells (a.add (sLen * sz)) us).run P w = .ok () w') (hno : base = none → w' = w) :
    (Builtin.append_ #[sT, xT] ty #[.slice base sLen sCap, x]).run P w = .ok (.slice base (sLen + n) sCap) w' := by
  obtain ⟨d, hd, hdk⟩ := T.hx
  cases base with
  | none =>
    have := hno rfl; subst this
    simp [Builtin.append_, run_underlying' T.hs, run_sizeOf' T.hsz, run_underlying' hd, hlen, hnew, hn]
  | some a =>
    have := hst a rfl
    simp [Builtin.append_, run_underlying' T.hs, run_sizeOf' T.hsz, run_underlying' hd, hlen, hnew, hn, this]

theorem run_append_new {P : Program} {w : World} {sT xT ty e : TypeId} {sz by_ : Nat} {z : Value} (T : AppT P sT xT e sz by_ z) {base : Option Addr} {sLen sCap n : Nat} {x : Value} {us olds : List Value}
    (hlen : (Builtin.lenOf x).run P w = .ok n w) (hnew : ∀ w', w'.heap = w.heap → (Builtin.firstCells sz n x).run P w' = .ok us.toArray w')
    (hold : ∀ w', w'.heap = w.heap → (Builtin.firstCells sz sLen (.slice base sLen sCap)).run P w' = .ok olds.toArray w')
    (hn : sCap < sLen + n) (hneed : sLen + n ≤ 2 ^ 30) (hby : by_ ≤ 2 ^ 16) :
    ∃ k w', sLen + n ≤ k ∧ (w'.heap = w.heap.push (.cells (olds.toArray ++ us.toArray ++ Builtin.zeroCells z.cells (k - (sLen + n))) e) ∧ Same w w') ∧
      (Builtin.append_ #[sT, xT] ty #[.slice base sLen sCap, x]).run P w = .ok (.slice (some ⟨w.heap.size, 0, none⟩) (sLen + n) k) w' := by
  obtain ⟨d, hd, hdk⟩ := T.hx
  obtain ⟨_, i, hi, hib⟩ := run_bytes (w := w) T.hb
  let k := (sLen + n) + w.tape w.drawn (.appendCap (sLen + n) sCap e) % (2 ^ 63 - (sLen + n))
  let w1 : World := w.drew
  refine ⟨k, { w1 with heap := w1.heap.push (.cells (olds.toArray ++ us.toArray ++ Builtin.zeroCells z.cells (k - (sLen + n))) e) }, by simp only [k]; omega, ⟨rfl, rfl, rfl, rfl⟩, ?_⟩
  have h1 : ¬ (sLen + n ≤ sCap) := by omega
  have h2 : ¬ (((sLen + n : Nat) : Int) > IntKind.i64.max) := by
    have : IntKind.i64.max = 9223372036854775807 := by decide
    rw [this]; omega
  have h3 : ¬ (Builtin.nextslicecap (sLen + n) sCap * i.bytes > 2 ^ 48) := by
    have a := nextslicecap_le (by omega : sCap < sLen + n)
    rw [hib]
    have : Builtin.nextslicecap (sLen + n) sCap * by_ ≤ (2 * 2 ^ 30 + 192) * 2 ^ 16 := Nat.mul_le_mul (by omega) hby
    omega
  have h2' : ¬ ((9223372036854775807 : Int) < (sLen : Int) + (n : Int)) := by omega
  have hq : (Question.appendCap (sLen + n) sCap e).forced = false := rfl
  have hnew' := hnew w1 rfl
  have hold' := hold w1 rfl
  have hcut : (Question.appendCap (sLen + n) sCap e).cut (w.tape w.drawn (.appendCap (sLen + n) sCap e)) = k := rfl
  simp [Builtin.append_, run_underlying' T.hs, run_sizeOf' T.hsz, run_underlying' hd, hlen, h1, h2', h3, run_typeInfo' hi, hq, hcut]
  rw [show w.drew = w1 from rfl, hold']
  simp only [Result.andThen_ok, hnew']
  simp [w1, run_zeroValue' T.hz, newRow]
  congr 2
  apply Array.ext'
  simp

def appT (P : Program) (sT xT : TypeId) : Option (TypeId × Nat × Value) :=
  match sliceElem P sT, P.underlying xT with
  | some _, some (.int _) => none
  | some e, some _ => match szOf P e, bytesT P e, zeroT P e with
    | some sz, some b, some z => if b ≤ 2 ^ 16 ∧ z.cells.size = sz then some (e, sz, z) else none
    | _, _, _ => none
  | _, _ => none

theorem appT_ok {P : Program} {sT xT e : TypeId} {sz : Nat} {z : Value} (h : appT P sT xT = some (e, sz, z)) : ∃ b, AppT P sT xT e sz b z ∧ b ≤ 2 ^ 16 ∧ z.cells.size = sz := by
  unfold appT at h
  split at h
  · cases h
  · rename_i e' d hx hd he
    split at h
    · rename_i sz' b z' hsz hb hz
      split at h
      · rename_i hc
        cases h
        exact ⟨b, ⟨sliceElem_eq hd, ⟨d, he, fun k hk => hx k (by rw [hk])⟩, hsz, hb, hz⟩, hc.1, hc.2⟩
      · cases h
    · cases h
  · cases h

def byteB (P : Program) (e : TypeId) : Bool := match P.underlying e with
  | some (.int .u8) => true
  | _ => false

def aAppend (P : Program) (base : Nat) (H : Heap) (sT xT : TypeId) (a x : AV) : Option (AV × Heap) :=
  match appT P sT xT with
  | some (el, sz, _) => match appSrc H sz x with
    | some (xs, n) => if allCells xs = true then
        match a with
        | .sl cs len tt =>
          if n = 0 then some (.sl cs len tt, H)
          else if tt = true ∧ cs.length = len * sz ∧ len + n ≤ 2 ^ 30 then some (if sz = 1 ∧ byteB P el = true then .slt H.length 0 (len + n) el else .slr H.length 0 0 (len + n) none sz, .cells 0 (cs ++ xs) :: H)
          else none
        | .slr b g off len cap e =>
          if n = 0 then some (.slr b g off len cap e, H) else
          match hget H b with
          | some (.cells g' cs) =>
            if g' = g ∧ e = sz ∧ len + n ≤ 2 ^ 30 then
              match cap with
              | none => if base ≤ b ∧ cs.length = off + len * sz then some (.slr b (g + 1) 0 (len + n) none sz, hset H b (.cells (g + 1) (cs.drop off ++ xs))) else none
              | some k =>
                if len + n ≤ k then
                  if base ≤ b ∧ off + (len + n) * sz ≤ cs.length then some (.slr b g off (len + n) (some k) sz, hset H b (.cells g (splice cs (off + len * sz) xs))) else none
                else if off + len * sz ≤ cs.length then some (.slr H.length 0 0 (len + n) none sz, .cells 0 ((cs.drop off).take (len * sz) ++ xs) :: H) else none
            else none
          | _ => none
        | _ => none
      else none
    | none => none
  | none => none

theorem zeroCells_size (zc : Array Value) (n : Nat) : (Builtin.zeroCells zc n).size = n * zc.size := by simp [Builtin.zeroCells]

theorem aAppend_ok {P : Program} {base : Nat} {c : Cn} {H H' : Heap} (hI : Inv c H) (hbase : base ≤ H.length) {sT xT ty : TypeId} {a x r : AV} {y v : Value}
    (h : aAppend P base H sT xT a x = some (r, H')) (ha : Rep c a y) (hx : Rep c x v) : OpOK P base c H (Builtin.append_ #[sT, xT] ty #[y, v]) r H' := by
  unfold aAppend at h
  split at h
  · rename_i e sz z hT
    obtain ⟨by_, T, hby, hzs⟩ := appT_ok hT
    split at h
    · rename_i xs n hsrc
      obtain ⟨hlen, hxl, _, us, hus, hnew⟩ := appSrc_ok (P := P) hI hsrc hx
      have husl := hus.length
      split at h
      · rename_i hcells
        have hone := allCells_ok hcells hus
        -- nothing to append
        have zero : n = 0 → ∀ (ad : Option Addr) (l cp : Nat), l ≤ cp → (Builtin.append_ #[sT, xT] ty #[.slice ad l cp, v]).run P c.w = .ok (.slice ad l cp) c.w := by
          rintro rfl ad l cp hle
          have hu : us = [] := List.eq_nil_of_length_eq_zero (by omega)
          subst hu
          have := run_append_in (P := P) (w := c.w) (ty := ty) T (base := ad) (sLen := l) (sCap := cp) (n := 0) (x := v) (us := []) (hlen _) (hnew _ rfl) (by omega) (w' := c.w) (fun a _ => rfl) (fun _ => rfl)
          simpa using this
        -- all anew
        have anew : ∀ (ad : Option Addr) (l cp : Nat) (cs : List AV) (olds : List Value), RepL c cs olds → cs.length = l * sz → cp < l + n → l + n ≤ 2 ^ 30 →
            (∀ w', w'.heap = c.w.heap → (Builtin.firstCells sz l (.slice ad l cp)).run P w' = .ok olds.toArray w') →
            ∃ c1 v1 B k, (Builtin.append_ #[sT, xT] ty #[.slice ad l cp, v]).run P c.w = .ok v1 c1 ∧ l + n ≤ k ∧ B = c.w.heap.size ∧ v1 = .slice (some ⟨B, 0, none⟩) (l + n) k ∧
              ∃ row : Array Value, (c1.heap = c.w.heap.push (.cells row e) ∧ Same c.w c1) ∧ row.size = k * sz ∧ RepL c (cs ++ xs) (row.toList.take (cs ++ xs).length) ∧ (cs ++ xs).length = (l + n) * sz := by
          intro ad l cp cs olds hold hcl hcp hnd hof
          obtain ⟨k, w', hk, ⟨hw', hout⟩, hrun⟩ := run_append_new (P := P) (w := c.w) (ty := ty) T (hlen _) hnew hof hcp hnd hby
          have hol := hold.length
          have hcx : (cs ++ xs).length = (l + n) * sz := by simp [hcl, hxl, Nat.add_mul]
          refine ⟨w', _, _, k, hrun, hk, rfl, rfl, _, ⟨hw', hout⟩, ?_, ?_, hcx⟩
          · simp [zeroCells_size, hzs, hol, hcl, husl, hxl]
            rw [← Nat.add_mul, ← Nat.add_mul]
            congr 1; omega
          · have : (olds ++ us).length = (cs ++ xs).length := by simp [hol, husl]
            simp only [Array.toList_append, ← this]
            rw [List.take_left']
            · exact hold.append hus
            · simp
        split at h
        · rename_i cs len tt
          split at h
          · rename_i h0
            cases h
            refine .same hI (v := y) ?_ ha
            rcases ha with ⟨_, rfl, ad, cp, rfl, _⟩ | ⟨B, o, cp, vs, _, _, rfl, hle, _⟩
            · exact zero h0 ad 0 cp (by omega)
            · exact zero h0 _ _ _ hle
          · rename_i h0
            split at h
            · rename_i hc
              obtain ⟨htt, hcl, hnd⟩ := hc
              cases h
              have mk : ∀ (ad : Option Addr) (cp : Nat) (olds : List Value), y = .slice ad len cp → cp = len → RepL c cs olds → (∀ w', w'.heap = c.w.heap → (Builtin.firstCells sz len (.slice ad len cp)).run P w' = .ok olds.toArray w') →
                  OpOK P base c H (Builtin.append_ #[sT, xT] ty #[y, v]) (if sz = 1 ∧ byteB P e = true then .slt H.length 0 (len + n) e else .slr H.length 0 0 (len + n) none sz) (.cells 0 (cs ++ xs) :: H) := by
                rintro ad cp olds rfl rfl hold hof
                obtain ⟨w', v1, B, k, hrun, hk, rfl, rfl, row, ⟨hw', hout⟩, hrs, hrl, hcx⟩ := anew ad cp cp cs olds hold hcl (by omega) hnd hof
                obtain ⟨hp, hm⟩ := Post.newCells (base := base) hI hbase (cs := cs ++ xs) (vs := row) (elem := e) (fz := (0, 0)) (w' := w') hrl (by rw [hrs, hcx]; exact Nat.mul_le_mul_right _ hk) hw' unfrozen0 hout
                have hsh : w'.shape? c.w.heap.size = some (e, k * sz) := by simp [World.shape?, hw', hrs]
                refine ⟨_, _, hrun, hp, ?_⟩
                split
                · rename_i h1
                  rw [h1.1, Nat.mul_one] at hsh
                  exact ⟨c.w.heap.size, k, hm, hsh, by simp, hk⟩
                · exact ⟨c.w.heap.size, 0, k, hm, by simp, hk, e, k * sz, hsh, by simp⟩
              rcases ha with ⟨rfl, rfl, ad, cp, rfl, ht⟩ | ⟨B, o, cp, vs, hF, hcl', rfl, hle, ht, hl⟩
              · refine mk ad cp [] rfl (ht htt) rfl fun w' hw => ?_
                cases ad with
                | none => rfl
                | some ad => simp [Builtin.firstCells, loadCells, loadCellsFrom]
              · refine mk _ cp vs rfl (ht htt) (RepL.ext (Ext.of_bare c) _ _ hl) fun w' hw => ?_
                have hvl : vs.length = len * sz := by rw [hl.length, hcl]
                simp only [Builtin.firstCells]
                rw [← hvl]
                exact run_loadCells_at (hcl'.world hw)
            · cases h
        · rename_i b g off len cap e'
          split at h
          · rename_i h0
            cases h
            refine .same hI (v := y) ?_ ha
            obtain ⟨B, o, cp, hm, rfl, hle, _⟩ := ha
            exact zero h0 _ _ _ hle
          · rename_i h0
            split at h
            · rename_i g' cs ho
              split at h
              · rename_i hc
                obtain ⟨rfl, rfl, hnd⟩ := hc
                obtain ⟨B, o, cp, hm, rfl, hle, hcap⟩ := ha
                obtain ⟨B2, o2, vs, cells, elem, fz, hm2, hb, h2, h3, h4, hrl⟩ := hI.ok b _ ho
                rw [hm] at hm2; cases hm2
                have hvl := hrl.length
                have hfirst : off + len * e' ≤ cs.length → ∀ w', w'.heap = c.w.heap → (Builtin.firstCells e' len (.slice (some ⟨B, o + off, none⟩) len cp)).run P w' = .ok ((vs.drop off).take (len * e')).toArray w' := by
                  intro hfit w' hw
                  have hvl2 : ((vs.drop off).take (len * e')).length = len * e' := by simp; omega
                  have := run_loadCells_at (P := P) ((((cellsAt_of hb h3).drop off).take (len * e')).world hw)
                  rw [hvl2] at this
                  exact this
                split at h
                · split at h
                  · rename_i hc2
                    obtain ⟨hbb, hcl⟩ := hc2
                    cases h
                    obtain ⟨e2, n2, hs2, hn2⟩ := hcap
                    have hs2' : c.w.shape? B = some (elem, cells.size) := by simp [World.shape?, hb]
                    rw [hs2'] at hs2; cases hs2
                    have hdl : cs.drop off = (cs.drop off).take (len * e') := by rw [List.take_of_length_le]; simp; omega
                    by_cases hin : len + n ≤ cp
                    · -- in its own block
                      have hfit : o + off + len * e' + us.length ≤ cells.size := by
                        have : (len + n) * e' ≤ cp * e' := Nat.mul_le_mul_right _ hin
                        rw [Nat.add_mul] at this
                        rw [husl, hxl]; omega
                      have hst := run_storeCells_fz (P := P) B (o + off + len * e') elem fz us 0 cells c.w hb (by omega) hone h4
                      rw [Nat.add_zero] at hst
                      have hrun := run_append_in (P := P) (w := c.w) (ty := ty) T (base := some ⟨B, o + off, none⟩) (sLen := len) (sCap := cp) (hlen _) (hnew _ rfl) hin
                        (w' := c.w.setRow B (spliceA cells (o + off + len * e') us)) (fun a ha => by cases ha; rw [addr_add]; exact hst) (fun h => by cases h)
                      have hpost := Post.move (base := base) (cs' := cs.drop off ++ xs) (l := (B, o + off)) (w' := c.w.setRow B (spliceA cells (o + off + len * e') us)) hI ho hm hbb
                        (.inl ⟨rfl, by simp⟩) (fun B' _ hne => setRow_other _ _ _ _ hne) (fun p hp => by rw [setRow_shape hb (by simp)]; exact hp) ?_
                      · refine ⟨_, _, hrun, hpost, B, o + off, cp, by simp [Cn.move], by simp, hin, elem, cells.size, ?_, by simpa using hn2⟩
                        show (c.w.setRow B _).shape? B = _
                        rw [setRow_shape hb (by simp)]; exact hs2'
                      · intro he
                        refine ⟨B, o + off, vs.drop off ++ us, spliceA cells (o + off + len * e') us, elem, fz, by simp [Cn.move], setRow_heap c.w B cells _ elem fz hb, by simp; omega, ?_, by simpa using h4,
                          RepL.ext he _ _ ((hrl.drop off).append hus)⟩
                        have hd : (vs.drop off).length = len * e' := by simp; omega
                        have hsp : ∀ (us : List Value) (cells : Array Value) (p : Nat), p + us.length ≤ cells.size → ∀ i, (spliceA cells p us)[i]? = if p ≤ i ∧ i < p + us.length then us[i - p]? else cells[i]? := by
                          intro us
                          induction us with
                          | nil => intro cells p _ i; simp [spliceA]; intro h1 h2; omega
                          | cons u us ih =>
                            intro cells p hp i
                            simp only [spliceA]
                            rw [ih _ _ (by simp at hp ⊢; omega)]
                            simp at hp
                            by_cases e1 : i = p
                            · subst e1
                              have hlt : i < cells.size := by omega
                              rw [if_neg (by omega), if_pos (by simp), Array.getElem?_setIfInBounds_self_of_lt hlt]
                              simp
                            · by_cases e2 : p + 1 ≤ i ∧ i < p + 1 + us.length
                              · have e3 : p ≤ i ∧ i < p + (us.length + 1) := by omega
                                have e4 : i - p = (i - (p + 1)) + 1 := by omega
                                simp [e2, e3, e4]
                              · have e3 : ¬ (p ≤ i ∧ i < p + (us.length + 1)) := by omega
                                rw [if_neg e2, List.length_cons, if_neg e3, Array.getElem?_setIfInBounds_ne (by omega)]
                        intro i hi
                        rw [hsp us cells (o + off + len * e') hfit]
                        simp only [List.length_append] at hi
                        by_cases e1 : i < len * e'
                        · rw [if_neg (by omega), List.getElem?_append_left (by omega), List.getElem?_drop, ← h3 (off + i) (by simp at hd; omega), Nat.add_assoc]
                        · rw [if_pos (by omega), List.getElem?_append_right (by omega), hd]
                          congr 1; omega
                    · obtain ⟨w', v1, B', k, hrun, hk, rfl, rfl, row, ⟨hw', hout⟩, hrs, hrl', hcx⟩ := anew _ len cp (cs.drop off) ((vs.drop off).take (len * e')) (by rw [hdl]; exact (hrl.drop off).take _) (by simp; omega) (by omega) hnd (hfirst (by omega))
                      have hBs := lt_of_heap hb
                      have hpost := Post.move (base := base) (cs' := cs.drop off ++ xs) (l := (c.w.heap.size, 0)) (w' := w') hI ho hm hbb
                        (.inr ⟨rfl, by simp [hw'], by rw [hw', Array.getElem?_push_lt hBs, Array.getElem?_eq_getElem hBs]⟩) (fun B'' hB'' _ => by rw [hw', Array.getElem?_push_lt hB'', Array.getElem?_eq_getElem hB''])
                        (fun p hp => by rw [shape_of_heap (w := c.w)]; exact hp; rw [hw', Array.getElem?_push_lt hBs, Array.getElem?_eq_getElem hBs]) ?_ hout
                      · refine ⟨_, _, hrun, hpost, c.w.heap.size, 0, k, by simp [Cn.move], by simp, hk, e, k * e', ?_, by simp⟩
                        show w'.shape? _ = _
                        simp [World.shape?, hw', hrs]
                      · intro he
                        refine ⟨c.w.heap.size, 0, row.toList.take (cs.drop off ++ xs).length, row, e, (0, 0), by simp [Cn.move], by show w'.heap[_]? = _; simp [hw'], by simp; omega, ?_, unfrozen0, RepL.ext he _ _ hrl'⟩
                        intro i hi
                        have hi' : i < (cs.drop off ++ xs).length := by simp at hi ⊢; omega
                        rw [List.getElem?_take_of_lt hi']
                        simp
                  · cases h
                · rename_i k
                  have hcpk : cp = k := hcap
                  subst hcpk
                  split at h
                  · rename_i hin
                    split at h
                    · rename_i hc2
                      obtain ⟨hbb, hfit⟩ := hc2
                      cases h
                      obtain ⟨w', hw', hp⟩ := Post.write (off := off + len * e') hI ho hbb hm hus (by rw [hxl, Nat.add_assoc, ← Nat.add_mul]; exact hfit) hone P
                      have hrun := run_append_in (P := P) (w := c.w) (ty := ty) T (base := some ⟨B, o + off, none⟩) (sLen := len) (sCap := cp) (hlen _) (hnew _ rfl) hin
                        (w' := w') (fun a ha => by cases ha; rw [addr_add, Nat.add_assoc]; exact hw') (fun h => by cases h)
                      exact ⟨_, _, hrun, hp, B, o, cp, hm, rfl, hin, rfl⟩
                    · cases h
                  · rename_i hin
                    split at h
                    · rename_i hfit
                      cases h
                      obtain ⟨w', v1, B', k, hrun, hk, rfl, rfl, row, ⟨hw', hout⟩, hrs, hrl', hcx⟩ := anew _ len cp ((cs.drop off).take (len * e')) ((vs.drop off).take (len * e')) ((hrl.drop off).take _) (by simp; omega) (by omega) hnd (hfirst hfit)
                      obtain ⟨hp, hm'⟩ := Post.newCells (base := base) hI hbase (cs := (cs.drop off).take (len * e') ++ xs) (vs := row) (elem := e) (fz := (0, 0)) (w' := w') hrl' (by rw [hrs, hcx]; exact Nat.mul_le_mul_right _ hk) hw' unfrozen0 hout
                      refine ⟨_, _, hrun, hp, c.w.heap.size, 0, k, hm', by simp, hk, e, k * e', ?_, by simp⟩
                      show w'.shape? _ = _
                      simp [World.shape?, hw', hrs]
                    · cases h
              · cases h
            · cases h
        · cases h
      · cases h
    · cases h
  · cases h

end Go.Av
