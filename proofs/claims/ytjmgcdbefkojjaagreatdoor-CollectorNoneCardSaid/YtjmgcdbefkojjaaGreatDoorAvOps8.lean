/- A part of the proof: a verified reading of the model by values alone, and what is shown by it. It holds without conditions. -/
import Derived.Test.YtjmgcdbefkojjaaGreatDoorAvOps7
namespace Go.Av
open Go

/-! ### iterators over strings -/

def aRange (P : Program) (H : Heap) (t : TypeId) (a : AV) : Option (AV × Heap) :=
  match P.underlying t, a with
  | some .string, .atom (.string s) => some (.ptr H.length 0 0, .siter s 0 :: H)
  | _, _ => none

theorem aRange_ok {P : Program} {base : Nat} {c : Cn} {H H' : Heap} (hI : Inv c H) (hbase : base ≤ H.length) {t : TypeId} {a r : AV} {x : Value}
    (h : aRange P H t a = some (r, H')) (hr : Rep c a x) : OpOK P base c H (Instr.range t x) r H' := by
  unfold aRange at h
  split at h
  · rename_i s hu
    cases h; cases hr
    let w' : World := { c.w with heap := c.w.heap.push (.stringIter s 0) }
    have hp := Post.new (base := base) hI (.siter s 0) (w' := w') (by simp [w']) (fun B hB => by simp only [w']; rw [Array.getElem?_push_lt hB, Array.getElem?_eq_getElem hB]) rfl hbase
      ⟨c.w.heap.size, by simp [Cn.new], Array.getElem?_push_size⟩
    refine ⟨.pointer (some ⟨c.w.heap.size, 0, none⟩), _, ?_, hp, c.w.heap.size, 0, by simp [Cn.new], rfl⟩
    simp [Instr.range, run_underlying' hu, Cn.new, w']
  · cases h

def aNext (base : Nat) (H : Heap) (a : AV) : Option (AV × Heap) :=
  match a with
  | .ptr b 0 0 => if base ≤ b then
      match hget H b with
      | some (.siter s pos) =>
        if pos < s.size then some (.tuple [.atom (.bool true), .atom (goInt pos), .atom (.int .i32 (Utf8.decode s pos).1)], hset H b (.siter s (pos + (Utf8.decode s pos).2)))
        else some (.tuple [.atom (.bool false)], H)
      | _ => none
    else none
  | _ => none

theorem aNext_ok {P : Program} {base : Nat} {c : Cn} {H H' : Heap} (hI : Inv c H) {t : TypeId} {a r : AV} {x : Value}
    (h : aNext base H a = some (r, H')) (hr : Rep c a x) : OpOK P base c H (Instr.next x true t) r H' := by
  unfold aNext at h
  split at h
  · rename_i b
    split at h
    · rename_i hbb
      split at h
      · rename_i s pos ho
        obtain ⟨B, o, hm, rfl⟩ := hr
        obtain ⟨B2, hm2, hb⟩ := hI.ok b _ ho
        rw [hm] at hm2; cases hm2
        have hget : (getObj B).run P c.w = .ok (.stringIter s pos) c.w := by simp [getObj, Sem.run, hb]
        split at h
        · rename_i hlt
          cases h
          let w' : World := { c.w with heap := c.w.heap.setIfInBounds B (.stringIter s (pos + (Utf8.decode s pos).2)) }
          have hB := lt_of_heap hb
          have hp := Post.upd (base := base) (o := .siter s pos) (o' := .siter s (pos + (Utf8.decode s pos).2)) (w' := w') hI ho rfl hm hbb (by simp [w'])
            (fun B' hne => by simp [w', Array.getElem?_setIfInBounds_ne (Ne.symm hne)]) (fun p hp => by simp [World.shape?, hb] at hp) rfl rfl
            (fun _ => ⟨B, hm, by simp [w', hB]⟩)
          have hset : (setObj B (.stringIter s (pos + (Utf8.decode s pos).2))).run P c.w = .ok () w' := by simp [setObj, Sem.run, hb, w']
          refine ⟨_, _, ?_, hp, ⟨_, rfl, _, _, rfl, rfl, _, _, rfl, rfl, _, _, rfl, rfl, rfl⟩⟩
          simp [Instr.next, hget, hlt, hset]
        · rename_i hlt
          cases h
          refine .same hI (v := .tuple #[.bool false]) ?_ ⟨_, rfl, _, _, rfl, rfl, rfl⟩
          simp [Instr.next, hget, hlt]
      · cases h
    · cases h
  · cases h

/-! ### maps whose keys are numbers, strings or bools -/

def mapOf (P : Program) (t : TypeId) : Option (TypeId × TypeId) := match P.underlying t with
  | some (.map k e) => some (k, e)
  | _ => none

theorem mapOf_eq {P : Program} {t k e : TypeId} (h : mapOf P t = some (k, e)) : P.underlying t = some (.map k e) := by
  unfold mapOf at h
  split at h
  · cases h; assumption
  · cases h

def findKA (d : TypeDesc) (k : Value) : List AV → Nat → Option (Option Nat)
  | [], _ => some none
  | a :: as, i => match toV a with
    | some v => match Instr.sameNow d k v with
      | some true => some (some i)
      | some false => findKA d k as (i + 1)
      | none => none
    | none => none

theorem findKA_ok {c : Cn} {d : TypeDesc} {k : Value} : ∀ (as : List AV) (es : List MapEntry) (i : Nat) (r : Option Nat), findKA d k as i = some r → RepL c as (es.map (·.key)) →
    (r = none → Instr.findNow d k es i = some none) ∧
    (∀ j, r = some j → ∃ e, i ≤ j ∧ es[j - i]? = some e ∧ Instr.sameNow d k e.key = some true ∧ Instr.findNow d k es i = some (some (j, e.val)))
  | [], es, i, r, h, hr => by
    simp [findKA] at h; subst h
    simp [RepL] at hr
    subst hr
    exact ⟨fun _ => rfl, fun j h => by cases h⟩
  | a :: as, es, i, r, h, hr => by
    cases es with
    | nil => obtain ⟨v, us, h, _⟩ := hr; cases h
    | cons e es =>
      obtain ⟨v, us, hv, h1, h2⟩ := hr
      simp only [List.map_cons, List.cons.injEq] at hv
      obtain ⟨rfl, rfl⟩ := hv
      simp only [findKA] at h
      split at h
      · rename_i v hv
        have := toV_eq a v _ hv h1
        split at h
        · rename_i hs
          cases h
          rw [← this] at hs
          exact ⟨fun h => (by cases h), fun j hj => by cases hj; exact ⟨e, Nat.le_refl _, by simp, hs, by simp [Instr.findNow, hs]⟩⟩
        · rename_i hs
          rw [← this] at hs
          obtain ⟨h3, h4⟩ := findKA_ok as es (i + 1) r h h2
          refine ⟨fun hn => by simp [Instr.findNow, hs, h3 hn], fun j hj => ?_⟩
          obtain ⟨e', hle, he, hse, hf⟩ := h4 j hj
          refine ⟨e', by omega, ?_, hse, by simp [Instr.findNow, hs, hf]⟩
          have : j - i = (j - (i + 1)) + 1 := by omega
          rw [this]; simpa using he
        · cases h
      · cases h

theorem sameNow_bits {q : IntKind} {a b : Value} (h : Instr.sameNow (.int q) a b = some true) : b = a ∧ ∀ n, Instr.sameBits n b a = true := by
  unfold Instr.sameNow at h
  split at h
  · split at h
    · rename_i hk; subst hk; simp at h; subst h; exact ⟨rfl, fun n => by simp [Instr.sameBits]⟩
    · cases h
  · rename_i hd; cases hd
  · rename_i hd; cases hd
  · cases h

/-- A key that can be asked for by looking. -/
def keyOK (P : Program) (kT : TypeId) (k : Value) : Option IntKind :=
  match P.underlying kT, k with
  | some (.int q), .int q' _ => if q = q' then some q else none
  | _, _ => none

theorem checkKey_int {P : Program} {kT : TypeId} {q q' : IntKind} (hu : P.underlying kT = some (.int q)) (b : Bool) (n : Nat) (m : Int) (w : World) : (Instr.checkKey b (n + 1) kT (.int q' m)).run P w = .ok () w := by
  simp [Instr.checkKey, run_underlying' hu]

theorem keyOK_run {P : Program} {kT : TypeId} {k : Value} {q : IntKind} (h : keyOK P kT k = some q) : P.underlying kT = some (.int q) ∧
    (∀ (b : Bool) (w : World), (Instr.checkKey b 10000 kT k).run P w = .ok () w) := by
  unfold keyOK at h
  split at h
  · rename_i q1 q2 n hu
    split at h
    · cases h
      exact ⟨hu, fun b w => checkKey_int hu b 9999 n w⟩
    · cases h
  · cases h

def mapCells (H : Heap) : AV → Option (List AV × List AV)
  | .map b => match hget H b with
    | some (.map ks vs) => some (ks, vs)
    | _ => none
  | .cmap ks vs => some (ks, vs)
  | .atom (.map none) => some ([], [])
  | _ => none

theorem mapCells_ok {c : Cn} {H : Heap} (hI : Inv c H) {a : AV} {ks vs : List AV} {x : Value} (h : mapCells H a = some (ks, vs)) (hr : Rep c a x) :
    (x = .map none ∧ ks = [] ∧ vs = []) ∨ ∃ B es cl, x = .map (some B) ∧ c.w.heap[B]? = some (.map es cl) ∧ RepL c ks (es.toList.map (·.key)) ∧ RepL c vs (es.toList.map (·.val)) := by
  unfold mapCells at h
  split at h
  · rename_i b
    split at h
    · rename_i ks' vs' ho
      cases h
      obtain ⟨B, hm, rfl⟩ := hr
      obtain ⟨B2, es, cl, hm2, hb, h1, h2⟩ := hI.ok b _ ho
      rw [hm] at hm2; cases hm2
      exact .inr ⟨B, es, cl, rfl, hb, h1, h2⟩
    · cases h
  · cases h
    obtain ⟨B, es, cl, hF, hb, rfl, h1, h2⟩ := hr
    exact .inr ⟨B, es, cl, rfl, hb, RepL.ext (Ext.of_bare c) _ _ h1, RepL.ext (Ext.of_bare c) _ _ h2⟩
  · cases h; cases hr
    exact .inl ⟨rfl, rfl, rfl⟩
  · cases h

def aLookup (P : Program) (H : Heap) (t : TypeId) (a k : AV) (ok : Bool) : Option AV :=
  match mapOf P t, mapCells H a, toV k with
  | some (kT, e), some (ks, vs), some kv => match keyOK P kT kv with
    | some d => match findKA (.int d) kv ks 0 with
      | some (some i) => match vs[i]? with
        | some v => some (if ok then .tuple [v, .atom (.bool true)] else v)
        | none => none
      | some none => match zeroT P e with
        | some z => some (if ok then .tuple [lift z, .atom (.bool false)] else lift z)
        | none => none
      | none => none
    | none => none
  | _, _, _ => none

theorem aLookup_ok {P : Program} {base : Nat} {c : Cn} {H : Heap} (hI : Inv c H) {t : TypeId} {a k r : AV} {ok : Bool} {x y : Value}
    (h : aLookup P H t a k ok = some r) (hr : Rep c a x) (hk : Rep c k y) : OpOK P base c H (Instr.lookup t x y ok) r H := by
  unfold aLookup at h
  split at h
  · rename_i kT e ks vs kv hmap hcells hkv
    have := toV_eq k kv y hkv hk
    subst this
    split at h
    · rename_i d hd
      obtain ⟨hu, hck⟩ := keyOK_run hd
      have huM := mapOf_eq hmap
      split at h
      · rename_i i hf
        split at h
        · rename_i v hv
          rcases mapCells_ok hI hcells hr with ⟨rfl, rfl, rfl⟩ | ⟨B, es, cl, rfl, hb, h1, h2⟩
          · simp at hv
          · obtain ⟨_, hj⟩ := findKA_ok ks es.toList 0 _ hf h1
            obtain ⟨en, _, he, _, hfn⟩ := hj i rfl
            simp only [Nat.sub_zero] at he
            obtain ⟨u, hu1, hu2⟩ := h2.get hv
            have hval : u = en.val := by
              rw [List.getElem?_map, he] at hu1
              simp at hu1; exact hu1.symm
            subst hval
            cases h
            have hgo : (getObj B).run P c.w = .ok (.map es cl) c.w := by simp [getObj, Sem.run, hb]
            have hrun : (Instr.lookup t (.map (some B)) y ok).run P c.w = .ok (if ok then .tuple #[en.val, .bool true] else en.val) c.w := by
              simp [Instr.lookup, run_underlying' huM, hgo, hck, Instr.findKey, run_underlying' hu, hfn]
            refine .same hI hrun ?_
            cases ok
            · exact hu2
            · exact ⟨_, rfl, _, _, rfl, hu2, _, _, rfl, rfl, rfl⟩
        · cases h
      · rename_i hf
        split at h
        · rename_i z hz
          cases h
          have fin : (Instr.lookup t x y ok).run P c.w = .ok (if ok then .tuple #[z, .bool false] else z) c.w →
              OpOK P base c H (Instr.lookup t x y ok) (if ok then .tuple [lift z, .atom (.bool false)] else lift z) H := by
            intro hrun
            refine .same hI hrun ?_
            cases ok
            · exact lift_rep c z
            · exact ⟨_, rfl, _, _, rfl, lift_rep c z, _, _, rfl, rfl, rfl⟩
          rcases mapCells_ok hI hcells hr with ⟨rfl, rfl, rfl⟩ | ⟨B, es, cl, rfl, hb, h1, h2⟩
          · refine fin ?_
            simp [Instr.lookup, run_underlying' huM, hck, Instr.findKey, run_underlying' hu, Instr.findNow, run_zeroValue' hz]
          · obtain ⟨hn, _⟩ := findKA_ok ks es.toList 0 _ hf h1
            refine fin ?_
            have hgo : (getObj B).run P c.w = .ok (.map es cl) c.w := by simp [getObj, Sem.run, hb]
            simp [Instr.lookup, run_underlying' huM, hgo, hck, Instr.findKey, run_underlying' hu, hn rfl, run_zeroValue' hz]
        · cases h
      · cases h
    · cases h
  · cases h

def aMakeMap (H : Heap) : AV × Heap := (.map H.length, .map [] [] :: H)

theorem aMakeMap_ok {P : Program} {base : Nat} {c : Cn} {H : Heap} (hI : Inv c H) (hbase : base ≤ H.length) {t : TypeId} :
    OpOK P base c H (Instr.makeMap t none) (aMakeMap H).1 (aMakeMap H).2 := by
  let w' : World := { c.w with heap := c.w.heap.push (.map #[] 0) }
  have hp := Post.new (base := base) hI (.map [] []) (w' := w') (by simp [w']) (fun B hB => by simp only [w']; rw [Array.getElem?_push_lt hB, Array.getElem?_eq_getElem hB]) rfl hbase
    ⟨c.w.heap.size, #[], 0, by simp [Cn.new], Array.getElem?_push_size, rfl, rfl⟩
  refine ⟨.map (some c.w.heap.size), _, ?_, hp, c.w.heap.size, by simp [Cn.new], rfl⟩
  simp [Instr.makeMap, Cn.new, w']

def aMapUpdate (P : Program) (base : Nat) (H : Heap) (t : TypeId) (a k v : AV) : Option Heap :=
  match a with
  | .map b => if base ≤ b then
    match mapOf P t, hget H b, toV k with
    | some (kT, _), some (.map ks vs), some kv => match keyOK P kT kv with
      | some d => match findKA (.int d) kv ks 0 with
        | some (some i) => some (hset H b (.map ks (vs.set i v)))
        | some none => some (hset H b (.map (ks ++ [k]) (vs ++ [v])))
        | none => none
      | none => none
    | _, _, _ => none
    else none
  | _ => none

theorem modify_key {es : Array MapEntry} {i : Nat} {e : MapEntry} (he : es.toList[i]? = some e) {key val : Value} (hk : key = e.key) :
    (es.modify i fun e => { e with key := key, val := val }).toList.map (·.key) = es.toList.map (·.key) ∧
    (es.modify i fun e => { e with key := key, val := val }).toList.map (·.val) = (es.toList.map (·.val)).set i val := by
  rw [Array.toList_modify]
  constructor
  · apply List.ext_getElem?
    intro j
    simp only [List.getElem?_map, List.getElem?_modify]
    by_cases h : i = j
    · subst h; simp [he, hk]
    · simp [h]
  · apply List.ext_getElem?
    intro j
    simp only [List.getElem?_map, List.getElem?_modify, List.getElem?_set]
    by_cases h : i = j
    · subst h
      have : i < es.toList.length := (List.getElem?_eq_some_iff.1 he).1
      simp [he]
      simpa using this
    · simp [h]

theorem aMapUpdate_ok {P : Program} {base : Nat} {c : Cn} {H H' : Heap} (hI : Inv c H) {t : TypeId} {a k v : AV} {x y z : Value}
    (h : aMapUpdate P base H t a k v = some H') (hr : Rep c a x) (hk : Rep c k y) (hv : Rep c v z) :
    ∃ c', (Instr.mapUpdate t x y z).run P c.w = .ok () c'.w ∧ Post base c H c' H' := by
  unfold aMapUpdate at h
  split at h
  · rename_i b
    split at h
    · rename_i hbb
      split at h
      · rename_i kT e ks vs kv hmap ho hkv
        have := toV_eq k kv y hkv hk
        subst this
        split at h
        · rename_i d hd
          obtain ⟨hu, hck⟩ := keyOK_run hd
          have huM := mapOf_eq hmap
          obtain ⟨B, hm, rfl⟩ := hr
          obtain ⟨B2, es, cl, hm2, hb, h1, h2⟩ := hI.ok b _ ho
          rw [hm] at hm2; cases hm2
          have hB := lt_of_heap hb
          have hgo : (getObj B).run P c.w = .ok (.map es cl) c.w := by simp [getObj, Sem.run, hb]
          have put : ∀ (es' : Array MapEntry) (cl' : Nat) (ks' vs' : List AV), RepL c ks' (es'.toList.map (·.key)) → RepL c vs' (es'.toList.map (·.val)) →
              Post base c H { c with w := { c.w with heap := c.w.heap.setIfInBounds B (.map es' cl') } } (hset H b (.map ks' vs')) := by
            intro es' cl' ks' vs' hk' hv'
            exact Post.upd (base := base) (o := .map ks vs) (o' := .map ks' vs') hI ho rfl hm hbb (by simp)
              (fun B' hne => by simp [Array.getElem?_setIfInBounds_ne (Ne.symm hne)]) (fun p hp => by simp [World.shape?, hb] at hp) rfl rfl
              (fun he => ⟨B, es', cl', hm, by simp [hB], RepL.ext he _ _ hk', RepL.ext he _ _ hv'⟩)
          have hset : ∀ (o : Obj), (setObj B o).run P c.w = .ok () { c.w with heap := c.w.heap.setIfInBounds B o } := fun o => by simp [setObj, Sem.run, hb]
          split at h
          · rename_i i hf
            cases h
            obtain ⟨_, hj⟩ := findKA_ok ks es.toList 0 _ hf h1
            obtain ⟨en, _, he, hs, hfn⟩ := hj i rfl
            simp only [Nat.sub_zero] at he
            have hbits := (sameNow_bits hs).2 10000
            have hkey' : y = en.key := (sameNow_bits hs).1.symm
            obtain ⟨m1, m2⟩ := modify_key (es := es) (i := i) he (val := z) hkey'
            refine ⟨_, ?_, put (es.modify i fun e => { e with key := y, val := z }) cl ks (vs.set i v) (by rw [m1]; exact h1) (by rw [m2]; exact h2.set i hv)⟩
            have he' : es[i]? = some en := by simpa using he
            simp [Instr.mapUpdate, run_underlying' huM, hgo, hck, Instr.findKey, run_underlying' hu, hfn, he', Instr.keyThatStays, hbits, hset]
          · rename_i hf
            cases h
            obtain ⟨hn, _⟩ := findKA_ok ks es.toList 0 _ hf h1
            refine ⟨_, ?_, put (es.push { key := y, val := z, born := cl }) (cl + 1) (ks ++ [k]) (vs ++ [v])
              (by simp; exact h1.append ⟨y, [], rfl, hk, rfl⟩) (by simp; exact h2.append ⟨z, [], rfl, hv, rfl⟩)⟩
            simp [Instr.mapUpdate, run_underlying' huM, hgo, hck, Instr.findKey, run_underlying' hu, hn rfl, hset]
          · cases h
        · cases h
      · cases h
    · cases h
  · cases h

end Go.Av
