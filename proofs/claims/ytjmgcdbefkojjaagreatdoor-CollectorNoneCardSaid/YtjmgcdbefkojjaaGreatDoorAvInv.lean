/- A part of the proof: a verified reading of the model by values alone, and what is shown by it. It holds without conditions. -/
import Derived.Test.YtjmgcdbefkojjaaGreatDoorAvCore
namespace Go.Av
open Go

def eget : Env → Nat → Option AV
  | [], _ => none
  | (t', a) :: e, t => if t' = t then some a else eget e t

def EnvRep (c : Cn) (e : Env) (tmps : Array Value) : Prop := ∀ t a, eget e t = some a → ∃ v, tmps[t]? = some v ∧ Rep c a v

theorem EnvRep.ext {c c' : Cn} (h : Ext c c') {e : Env} {tmps : Array Value} (hr : EnvRep c e tmps) : EnvRep c' e tmps :=
  fun t a ha => let ⟨v, hv, hr⟩ := hr t a ha; ⟨v, hv, Rep.ext h a v hr⟩

def AObj.gen : AObj → Nat
  | .cells g _ => g
  | _ => 0

def AObj.live : AObj → Bool
  | .dead => false
  | _ => true

def ObjOK (c : Cn) (b : Nat) : AObj → Prop
  | .cells g cs => ∃ B o vs cells elem fz, c.m b g = some (B, o) ∧ c.w.heap[B]? = some (.cells cells elem fz) ∧ o + vs.length ≤ cells.size ∧
      (∀ i, i < vs.length → cells[o + i]? = vs[i]?) ∧ (∀ i, i < cells.size → ¬ (fz.1 ≤ i ∧ i < fz.2)) ∧ RepL c cs vs
  | .map ks us => ∃ B es cl, c.m b 0 = some (B, 0) ∧ c.w.heap[B]? = some (.map es cl) ∧ RepL c ks (es.toList.map (·.key)) ∧ RepL c us (es.toList.map (·.val))
  | .siter s p => ∃ B, c.m b 0 = some (B, 0) ∧ c.w.heap[B]? = some (.stringIter s p)
  | .loop st pend fn nt env params assign body => ∃ B tmps defers, c.m b 0 = some (B, 0) ∧
      c.w.heap[B]? = some (.loop { state := st, pending := pend, fn, tmps, params, assign, body, defers }) ∧ EnvRep c env tmps ∧ tmps.size = nt
  | .dmark => ∃ B, c.m b 0 = some (B, 0) ∧ c.w.heap[B]? = some (.deferred (some []))
  | .dead => True

def LiveAt (c : Cn) (H : Heap) (b B : Nat) : Prop := ∃ o off, hget H b = some o ∧ o.live = true ∧ c.m b o.gen = some (B, off)

structure Inv (c : Cn) (H : Heap) : Prop where
  dom : ∀ b g l, c.m b g = some l → b < H.length
  gen : ∀ b o g l, hget H b = some o → o.live = true → c.m b g = some l → g ≤ o.gen
  ok : ∀ b o, hget H b = some o → ObjOK c b o
  inj : ∀ b b' B, LiveAt c H b B → LiveAt c H b' B → b = b'
  notF : ∀ b B, LiveAt c H b B → ¬ c.F B
  inF : ∀ B, c.F B → B < c.w.heap.size

theorem lt_of_heap {w : World} {B : Nat} {o : Obj} (h : w.heap[B]? = some o) : B < w.heap.size :=
  (Array.getElem?_eq_some_iff.1 h).1

theorem ObjOK.inHeap {c : Cn} {b : Nat} {o : AObj} (h : ObjOK c b o) {B off : Nat} (hm : c.m b o.gen = some (B, off)) (hl : o.live = true) : B < c.w.heap.size := by
  cases o with
  | cells g cs =>
    obtain ⟨B', o', vs, cells, elem, fz, hm', hb, _⟩ := h
    rw [show (AObj.cells g cs).gen = g from rfl] at hm
    rw [hm'] at hm; cases hm; exact lt_of_heap hb
  | map ks us =>
    obtain ⟨B', es, cl, hm', hb, _⟩ := h
    rw [show (AObj.map ks us).gen = 0 from rfl, hm'] at hm; cases hm; exact lt_of_heap hb
  | siter s p =>
    obtain ⟨B', hm', hb⟩ := h
    rw [show (AObj.siter s p).gen = 0 from rfl, hm'] at hm; cases hm; exact lt_of_heap hb
  | loop st pend fn nt env params assign body =>
    obtain ⟨B', tmps, defers, hm', hb, _⟩ := h
    rw [show (AObj.loop st pend fn nt env params assign body).gen = 0 from rfl, hm'] at hm; cases hm; exact lt_of_heap hb
  | dmark =>
    obtain ⟨B', hm', hb⟩ := h
    rw [show (AObj.dmark).gen = 0 from rfl, hm'] at hm; cases hm; exact lt_of_heap hb
  | dead => simp [AObj.live] at hl

theorem Inv.inHeap {c : Cn} {H : Heap} (h : Inv c H) {b B : Nat} (hl : LiveAt c H b B) : B < c.w.heap.size := by
  obtain ⟨o, off, ho, hlive, hm⟩ := hl
  exact (h.ok b o ho).inHeap hm hlive

/-- An object that is kept: its block is as it was, and what is known goes over. -/
theorem ObjOK.ext {c c' : Cn} (h : Ext c c') {b : Nat} {o : AObj} (hk : ∀ B off, c.m b o.gen = some (B, off) → c'.w.heap[B]? = c.w.heap[B]?) (hok : ObjOK c b o) : ObjOK c' b o := by
  cases o with
  | cells g cs =>
    obtain ⟨B, o, vs, cells, elem, fz, hm, hb, h1, h2, h3, hr⟩ := hok
    exact ⟨B, o, vs, cells, elem, fz, h.m _ _ _ hm, (hk _ _ hm).trans hb, h1, h2, h3, RepL.ext h _ _ hr⟩
  | map ks us =>
    obtain ⟨B, es, cl, hm, hb, h1, h2⟩ := hok
    exact ⟨B, es, cl, h.m _ _ _ hm, (hk _ _ hm).trans hb, RepL.ext h _ _ h1, RepL.ext h _ _ h2⟩
  | siter s p =>
    obtain ⟨B, hm, hb⟩ := hok
    exact ⟨B, h.m _ _ _ hm, (hk _ _ hm).trans hb⟩
  | loop st pend fn nt env params assign body =>
    obtain ⟨B, tmps, defers, hm, hb, h1, h2⟩ := hok
    exact ⟨B, tmps, defers, h.m _ _ _ hm, (hk _ _ hm).trans hb, h1.ext h, h2⟩
  | dmark =>
    obtain ⟨B, hm, hb⟩ := hok
    exact ⟨B, h.m _ _ _ hm, (hk _ _ hm).trans hb⟩
  | dead => trivial

/-- The outside is as it was. -/
def Same (w w' : World) : Prop := w'.os = w.os ∧ w'.output = w.output ∧ w'.tape = w.tape
theorem Same.refl (w : World) : Same w w := ⟨rfl, rfl, rfl⟩
theorem Same.trans {a b c : World} (h : Same a b) (h' : Same b c) : Same a c := ⟨h'.1.trans h.1, h'.2.1.trans h.2.1, h'.2.2.trans h.2.2⟩

structure Post (base : Nat) (c : Cn) (H : Heap) (c' : Cn) (H' : Heap) : Prop where
  ext : Ext c c'
  inv : Inv c' H'
  size : c.w.heap.size ≤ c'.w.heap.size
  frame : ∀ B, B < c.w.heap.size → (∀ b, base ≤ b → ¬ LiveAt c H b B) → c'.w.heap[B]? = c.w.heap[B]?
  own : ∀ B b, B < c.w.heap.size → LiveAt c' H' b B → ∃ b0, LiveAt c H b0 B
  ownF : ∀ B, B < c.w.heap.size → c'.F B → c.F B ∨ ∃ b, base ≤ b ∧ LiveAt c H b B
  keepH : ∀ b, b < base → hget H' b = hget H b
  len : H.length ≤ H'.length
  out : Same c.w c'.w

theorem Post.refl {base : Nat} {c : Cn} {H : Heap} (h : Inv c H) : Post base c H c H :=
  ⟨Ext.refl c, h, Nat.le_refl _, fun _ _ _ => rfl, fun _ b _ h => ⟨b, h⟩, fun _ _ h => .inl h, fun _ _ => rfl, Nat.le_refl _, Same.refl _⟩

theorem LiveAt.keep {c c' : Cn} {H H' : Heap} (h : Ext c c') {b B : Nat} (hk : hget H' b = hget H b) (hl : LiveAt c H b B) : LiveAt c' H' b B := by
  obtain ⟨o, off, ho, hlive, hm⟩ := hl
  exact ⟨o, off, hk.trans ho, hlive, h.m _ _ _ hm⟩

theorem Post.trans {base : Nat} {c c1 c2 : Cn} {H H1 H2 : Heap} (h : Post base c H c1 H1) (h' : Post base c1 H1 c2 H2) : Post base c H c2 H2 := by
  have key : ∀ B, B < c.w.heap.size → (∀ b, base ≤ b → ¬ LiveAt c H b B) → ∀ b, base ≤ b → ¬ LiveAt c1 H1 b B := by
    intro B hB hn b hb hl
    obtain ⟨b0, hl0⟩ := h.own B b hB hl
    by_cases hb0 : base ≤ b0
    · exact hn b0 hb0 hl0
    · have := h.inv.inj b b0 B hl (hl0.keep h.ext (h.keepH b0 (by omega)))
      omega
  refine ⟨h.ext.trans h'.ext, h'.inv, Nat.le_trans h.size h'.size, ?_, ?_, ?_, ?_, Nat.le_trans h.len h'.len, h.out.trans h'.out⟩
  · intro B hB hn
    exact (h'.frame B (Nat.lt_of_lt_of_le hB h.size) (key B hB hn)).trans (h.frame B hB hn)
  · intro B b hB hl
    obtain ⟨b1, hl1⟩ := h'.own B b (Nat.lt_of_lt_of_le hB h.size) hl
    exact h.own B b1 hB hl1
  · intro B hB hF
    rcases h'.ownF B (Nat.lt_of_lt_of_le hB h.size) hF with hF | ⟨b, hb, hl⟩
    · exact h.ownF B hB hF
    · obtain ⟨b0, hl0⟩ := h.own B b hB hl
      by_cases hb0 : base ≤ b0
      · exact .inr ⟨b0, hb0, hl0⟩
      · have := h.inv.inj b b0 B hl (hl0.keep h.ext (h.keepH b0 (by omega)))
        omega
  · intro b hb
    exact (h'.keepH b hb).trans (h.keepH b hb)

theorem Post.mono {base base' : Nat} {c c' : Cn} {H H' : Heap} (h : Post base c H c' H') (hb : base' ≤ base) : Post base' c H c' H' :=
  ⟨h.ext, h.inv, h.size, fun B hB hn => h.frame B hB fun b hb' => hn b (by omega), h.own,
    fun B hB hF => (h.ownF B hB hF).imp id fun ⟨b, hb', hl⟩ => ⟨b, by omega, hl⟩, fun b hb' => h.keepH b (by omega), h.len, h.out⟩

/-- Nothing of memory turns (a draw). -/
theorem Post.same {base : Nat} {c : Cn} {H : Heap} (h : Inv c H) {w' : World} (hw : w'.heap = c.w.heap) (hout : Same c.w w' := by exact ⟨rfl, rfl, rfl⟩) : Post base c H { c with w := w' } H := by
  have e : Ext c { c with w := w' } := ⟨fun _ _ _ h => h, fun _ h => h, fun B _ => by simp [hw], fun B p h => by simpa [World.shape?, hw] using h⟩
  have hl : ∀ b B, LiveAt { c with w := w' } H b B ↔ LiveAt c H b B := fun _ _ => Iff.rfl
  refine ⟨e, ⟨h.dom, h.gen, fun b o ho => (h.ok b o ho).ext e fun _ _ _ => by simp [hw], h.inj, h.notF, fun B hF => by simpa [hw] using h.inF B hF⟩, by simp [hw], fun _ _ _ => by simp [hw],
    fun B b _ h => ⟨b, h⟩, fun _ _ h => .inl h, fun _ _ => rfl, Nat.le_refl _, hout⟩

def Cn.new (c : Cn) (id : Nat) (w' : World) : Cn :=
  { m := fun b g => if b = id then (if g = 0 then some (c.w.heap.size, 0) else none) else c.m b g, F := c.F, w := w' }

theorem Cn.new_ext {c : Cn} {H : Heap} (h : Inv c H) {w' : World} (hw : ∀ B, B < c.w.heap.size → w'.heap[B]? = c.w.heap[B]?) : Ext c (c.new H.length w') := by
  refine ⟨fun b g l hm => ?_, fun _ h => h, fun B hF => hw B (h.inF B hF), fun B p hs => ?_⟩
  · have := h.dom b g l hm
    have hne : b ≠ H.length := by omega
    simp [Cn.new, hne, hm]
  · have hB : B < c.w.heap.size := by
      unfold World.shape? at hs
      cases e : c.w.heap[B]? with
      | none => simp [e] at hs
      | some o => exact lt_of_heap e
    simpa [World.shape?, Cn.new, hw B hB] using hs

/-- A new block. -/
theorem Post.new {base : Nat} {c : Cn} {H : Heap} (h : Inv c H) (o : AObj) {w' : World} (hs : w'.heap.size = c.w.heap.size + 1)
    (hw : ∀ B, B < c.w.heap.size → w'.heap[B]? = c.w.heap[B]?) (hg : o.gen = 0) (hb : base ≤ H.length) (hok : ObjOK (c.new H.length w') H.length o) (hout : Same c.w w' := by exact ⟨rfl, rfl, rfl⟩) :
    Post base c H (c.new H.length w') (o :: H) := by
  have e := Cn.new_ext h hw
  have hold : ∀ b, b < H.length → hget (o :: H) b = hget H b := fun b hb => hget_cons_lt hb
  have hm_old : ∀ b g, b < H.length → (c.new H.length w').m b g = c.m b g := fun b g hb => by
    have : b ≠ H.length := by omega
    simp [Cn.new, this]
  have hliveOld : ∀ b B, b < H.length → (LiveAt (c.new H.length w') (o :: H) b B ↔ LiveAt c H b B) := by
    intro b B hb
    unfold LiveAt
    simp only [hold b hb, hm_old b _ hb]
  have hliveNew : ∀ B, LiveAt (c.new H.length w') (o :: H) H.length B → B = c.w.heap.size := by
    rintro B ⟨o', off, ho, hl, hm⟩
    rw [hget_cons_same] at ho; cases ho
    simp [Cn.new, hg] at hm; exact hm.1.symm
  have hlt : ∀ b B, LiveAt (c.new H.length w') (o :: H) b B → b < H.length ∨ b = H.length := by
    rintro b B ⟨o', off, ho, _⟩
    have := hget_lt ho; simp at this; omega
  refine ⟨e, ⟨?_, ?_, ?_, ?_, ?_, ?_⟩, by simp [Cn.new, hs], fun B hB _ => hw B hB, ?_, fun B _ hF => .inl hF, fun b hb' => hold b (by omega), by simp, hout⟩
  · intro b g l hm
    by_cases hb : b = H.length
    · simp [hb]
    · simp [Cn.new, hb] at hm
      have := h.dom b g l hm; simp; omega
  · intro b o' g l ho hl hm
    by_cases hb : b = H.length
    · subst hb; rw [hget_cons_same] at ho; cases ho
      by_cases hg0 : g = 0
      · omega
      · simp [Cn.new, hg0] at hm
    · have hb' : b < H.length := by have := hget_lt ho; simp at this; omega
      rw [hold b hb'] at ho; rw [hm_old b g hb'] at hm
      exact h.gen b o' g l ho hl hm
  · intro b o' ho
    by_cases hb : b = H.length
    · subst hb; rw [hget_cons_same] at ho; cases ho; exact hok
    · have hb' : b < H.length := by have := hget_lt ho; simp at this; omega
      rw [hold b hb'] at ho
      by_cases hl : o'.live = true
      · refine (h.ok b o' ho).ext e fun B off hm => hw B ?_
        exact (h.ok b o' ho).inHeap hm hl
      · cases o' <;> simp [AObj.live] at hl
        trivial
  · intro b b' B hl hl'
    rcases hlt b B hl with hb | rfl
    · rcases hlt b' B hl' with hb' | rfl
      · exact h.inj b b' B ((hliveOld b B hb).1 hl) ((hliveOld b' B hb').1 hl')
      · have := hliveNew B hl'
        have := h.inHeap ((hliveOld b B hb).1 hl)
        omega
    · rcases hlt b' B hl' with hb' | rfl
      · have := hliveNew B hl
        have := h.inHeap ((hliveOld b' B hb').1 hl')
        omega
      · rfl
  · intro b B hl hF
    rcases hlt b B hl with hb | rfl
    · exact h.notF b B ((hliveOld b B hb).1 hl) hF
    · have := hliveNew B hl
      have := h.inF B hF
      omega
  · intro B hF
    have := h.inF B hF
    simp [Cn.new, hs]; omega
  · intro B b hB hl
    rcases hlt b B hl with hb | rfl
    · exact ⟨b, (hliveOld b B hb).1 hl⟩
    · have := hliveNew B hl
      omega

/-- A live block of ours turns; it stays where it is. -/
theorem Post.upd {base : Nat} {c : Cn} {H : Heap} (h : Inv c H) {b B off : Nat} {o o' : AObj} (ho : hget H b = some o) (hlive : o.live = true)
    (hm : c.m b o.gen = some (B, off)) (hbase : base ≤ b) {w' : World} (hs : w'.heap.size = c.w.heap.size)
    (hw : ∀ B', B' ≠ B → w'.heap[B']? = c.w.heap[B']?) (hsh : ∀ p, c.w.shape? B = some p → w'.shape? B = some p) (hg : o'.gen = o.gen) (hl' : o'.live = true)
    (hok : Ext c { c with w := w' } → ObjOK { c with w := w' } b o') (hout : Same c.w w' := by exact ⟨rfl, rfl, rfl⟩) : Post base c H { c with w := w' } (hset H b o') := by
  have hbl := hget_lt ho
  have hB : LiveAt c H b B := ⟨o, off, ho, hlive, hm⟩
  have e : Ext c { c with w := w' } := by
    refine ⟨fun _ _ _ h => h, fun _ h => h, fun B' hF => ?_, fun B' p hp => ?_⟩
    · exact hw B' fun e => h.notF b B hB (e ▸ hF)
    · by_cases e : B' = B
      · subst e; exact hsh p hp
      · simpa [World.shape?, hw B' e] using hp
  have hlv : ∀ b' B', LiveAt { c with w := w' } (hset H b o') b' B' ↔ LiveAt c H b' B' := by
    intro b' B'
    by_cases hbb : b' = b
    · subst hbb
      constructor
      · rintro ⟨o1, off1, h1, h2, h3⟩
        rw [hget_hset_same hbl] at h1; cases h1
        exact ⟨o, off1, ho, hlive, by rw [← hg]; exact h3⟩
      · rintro ⟨o1, off1, h1, h2, h3⟩
        rw [ho] at h1; cases h1
        exact ⟨o', off1, hget_hset_same hbl, hl', by rw [hg]; exact h3⟩
    · unfold LiveAt
      rw [hget_hset_ne hbb]
  refine ⟨e, ⟨?_, ?_, ?_, ?_, ?_, ?_⟩, by simp [hs], ?_, ?_, fun _ _ hF => .inl hF, fun b' hb' => hget_hset_ne (by omega), by simp, hout⟩
  · intro b' g l hm'; simpa using h.dom b' g l hm'
  · intro b' o1 g l h1 h2 h3
    by_cases hbb : b' = b
    · subst hbb; rw [hget_hset_same hbl] at h1; cases h1; rw [hg]; exact h.gen _ o g l ho hlive h3
    · rw [hget_hset_ne hbb] at h1; exact h.gen b' o1 g l h1 h2 h3
  · intro b' o1 h1
    by_cases hbb : b' = b
    · subst hbb; rw [hget_hset_same hbl] at h1; cases h1; exact hok e
    · rw [hget_hset_ne hbb] at h1
      by_cases hl1 : o1.live = true
      · refine (h.ok b' o1 h1).ext e fun B1 off1 hm1 => hw B1 fun eB => ?_
        exact hbb (h.inj b' b B ⟨o1, off1, h1, hl1, eB ▸ hm1⟩ hB)
      · cases o1 <;> simp [AObj.live] at hl1
        trivial
  · intro b1 b2 B' h1 h2; exact h.inj b1 b2 B' ((hlv _ _).1 h1) ((hlv _ _).1 h2)
  · intro b1 B' h1; exact h.notF b1 B' ((hlv _ _).1 h1)
  · intro B' hF; simpa [hs] using h.inF B' hF
  · intro B' _ hn; exact hw B' fun eB => hn b hbase (eB ▸ hB)
  · intro B' b' _ hl; exact ⟨b', (hlv _ _).1 hl⟩

/-- A live block of ours turns, and is given up. -/
theorem Post.updDead {base : Nat} {c : Cn} {H : Heap} (h : Inv c H) {b B off : Nat} {o : AObj} (ho : hget H b = some o) (hlive : o.live = true)
    (hm : c.m b o.gen = some (B, off)) (hbase : base ≤ b) {w' : World} (hs : w'.heap.size = c.w.heap.size)
    (hw : ∀ B', B' ≠ B → w'.heap[B']? = c.w.heap[B']?) (hsh : ∀ p, c.w.shape? B = some p → w'.shape? B = some p) (hout : Same c.w w' := by exact ⟨rfl, rfl, rfl⟩) : Post base c H { c with w := w' } (hset H b .dead) := by
  have hbl := hget_lt ho
  have hB : LiveAt c H b B := ⟨o, off, ho, hlive, hm⟩
  have e : Ext c { c with w := w' } := by
    refine ⟨fun _ _ _ h => h, fun _ h => h, fun B' hF => ?_, fun B' p hp => ?_⟩
    · exact hw B' fun e => h.notF b B hB (e ▸ hF)
    · by_cases e : B' = B
      · subst e; exact hsh p hp
      · simpa [World.shape?, hw B' e] using hp
  have hlv : ∀ b' B', LiveAt { c with w := w' } (hset H b .dead) b' B' → b' ≠ b ∧ LiveAt c H b' B' := by
    rintro b' B' ⟨o1, off1, h1, h2, h3⟩
    by_cases hb : b' = b
    · subst hb; rw [hget_hset_same hbl] at h1; cases h1; simp [AObj.live] at h2
    · rw [hget_hset_ne hb] at h1; exact ⟨hb, o1, off1, h1, h2, h3⟩
  refine ⟨e, ⟨?_, ?_, ?_, ?_, ?_, ?_⟩, by simp [hs], ?_, ?_, fun _ _ hF => .inl hF, fun b' hb' => hget_hset_ne (by omega), by simp, hout⟩
  · intro b' g l hm'; simpa using h.dom b' g l hm'
  · intro b' o1 g l h1 h2 h3
    by_cases hb : b' = b
    · subst hb; rw [hget_hset_same hbl] at h1; cases h1; simp [AObj.live] at h2
    · rw [hget_hset_ne hb] at h1; exact h.gen b' o1 g l h1 h2 h3
  · intro b' o1 h1
    by_cases hbb : b' = b
    · subst hbb; rw [hget_hset_same hbl] at h1; cases h1; trivial
    · rw [hget_hset_ne hbb] at h1
      by_cases hl1 : o1.live = true
      · refine (h.ok b' o1 h1).ext e fun B1 off1 hm1 => hw B1 fun eB => ?_
        exact hbb (h.inj b' b B ⟨o1, off1, h1, hl1, eB ▸ hm1⟩ hB)
      · cases o1 <;> simp [AObj.live] at hl1
        trivial
  · intro b1 b2 B' h1 h2; exact h.inj b1 b2 B' (hlv _ _ h1).2 (hlv _ _ h2).2
  · intro b1 B' h1; exact h.notF b1 B' (hlv _ _ h1).2
  · intro B' hF; simpa [hs] using h.inF B' hF
  · intro B' _ hn; exact hw B' fun eB => hn b hbase (eB ▸ hB)
  · intro B' b' _ hl; exact ⟨b', (hlv _ _ hl).2⟩

end Go.Av
