/- A part of the proof: a verified reading of the model by values alone, and what is shown by it. It holds without conditions. -/
import Derived.Test.YtjmgcdbefkojjaaGreatDoorAvInv
namespace Go.Av
open Go

def Cn.move (c : Cn) (id g : Nat) (l : Nat × Nat) (w' : World) : Cn :=
  { m := fun b g' => if b = id ∧ g' = g then some l else c.m b g', F := c.F, w := w' }

/-- A live block of ours turns, and goes elsewhere (or stays): a new generation. -/
theorem Post.move {base : Nat} {c : Cn} {H : Heap} (h : Inv c H) {b B off g : Nat} {cs cs' : List AV} {l : Nat × Nat} (ho : hget H b = some (.cells g cs))
    (hm : c.m b g = some (B, off)) (hbase : base ≤ b) {w' : World}
    (hs : l.1 = B ∧ w'.heap.size = c.w.heap.size ∨ l.1 = c.w.heap.size ∧ w'.heap.size = c.w.heap.size + 1 ∧ w'.heap[B]? = c.w.heap[B]?)
    (hw : ∀ B', B' < c.w.heap.size → B' ≠ B → w'.heap[B']? = c.w.heap[B']?) (hsh : ∀ p, c.w.shape? B = some p → w'.shape? B = some p)
    (hok : Ext c (c.move b (g + 1) l w') → ObjOK (c.move b (g + 1) l w') b (.cells (g + 1) cs')) (hout : Same c.w w' := by exact ⟨rfl, rfl, rfl⟩) :
    Post base c H (c.move b (g + 1) l w') (hset H b (.cells (g + 1) cs')) := by
  have hbl := hget_lt ho
  have hB : LiveAt c H b B := ⟨_, off, ho, rfl, hm⟩
  have hBs := h.inHeap hB
  have hnone : c.m b (g + 1) = none := by
    cases e : c.m b (g + 1) with
    | none => rfl
    | some l => have := h.gen b _ _ _ ho rfl e; simp [AObj.gen] at this; omega
  have hsz : c.w.heap.size ≤ w'.heap.size := by omega
  have hlB : l.1 = B ∨ l.1 = c.w.heap.size := hs.imp (·.1) (·.1)
  have e : Ext c (c.move b (g + 1) l w') := by
    refine ⟨fun b' g' l' hm' => ?_, fun _ h => h, fun B' hF => ?_, fun B' p hp => ?_⟩
    · by_cases e : b' = b ∧ g' = g + 1
      · obtain ⟨rfl, rfl⟩ := e; rw [hnone] at hm'; cases hm'
      · simp [Cn.move, e, hm']
    · exact hw B' (h.inF B' hF) fun e => h.notF b B hB (e ▸ hF)
    · by_cases e : B' = B
      · subst e; exact hsh p hp
      · have hlt : B' < c.w.heap.size := by
          unfold World.shape? at hp
          cases e1 : c.w.heap[B']? with
          | none => simp [e1] at hp
          | some o => exact lt_of_heap e1
        simpa [World.shape?, Cn.move, hw B' hlt e] using hp
  have hne : ∀ b' g', b' ≠ b → (c.move b (g + 1) l w').m b' g' = c.m b' g' := fun b' g' hb => by simp [Cn.move, hb]
  have hlvNe : ∀ b' B', b' ≠ b → (LiveAt (c.move b (g + 1) l w') (hset H b (.cells (g + 1) cs')) b' B' ↔ LiveAt c H b' B') := by
    intro b' B' hb
    unfold LiveAt
    simp only [hget_hset_ne hb, hne b' _ hb]
  have hlvEq : ∀ B', LiveAt (c.move b (g + 1) l w') (hset H b (.cells (g + 1) cs')) b B' → B' = l.1 := by
    rintro B' ⟨o1, off1, h1, h2, h3⟩
    rw [hget_hset_same hbl] at h1; cases h1
    simp [Cn.move, AObj.gen] at h3; rw [h3]
  have hnotB : ∀ b' B', b' ≠ b → LiveAt c H b' B' → B' ≠ l.1 := by
    intro b' B' hb hl e1
    rcases hlB with h1 | h1
    · exact hb (h.inj b' b B' hl (by rw [e1, h1]; exact hB))
    · have := h.inHeap hl; omega
  refine ⟨e, ⟨?_, ?_, ?_, ?_, ?_, ?_⟩, hsz, ?_, ?_, fun _ _ hF => .inl hF, fun b' hb' => hget_hset_ne (by omega), by simp, hout⟩
  · intro b' g' l' hm'
    by_cases hb : b' = b
    · subst hb; simpa using hbl
    · rw [hne b' g' hb] at hm'; simpa using h.dom b' g' l' hm'
  · intro b' o1 g' l' h1 h2 h3
    by_cases hb : b' = b
    · subst hb; rw [hget_hset_same hbl] at h1; cases h1
      by_cases hg : g' = g + 1
      · simp [AObj.gen, hg]
      · simp [Cn.move, hg] at h3
        have := h.gen _ _ _ _ ho rfl h3
        simp [AObj.gen] at this ⊢; omega
    · rw [hget_hset_ne hb] at h1; rw [hne b' g' hb] at h3; exact h.gen b' o1 g' l' h1 h2 h3
  · intro b' o1 h1
    by_cases hb : b' = b
    · subst hb; rw [hget_hset_same hbl] at h1; cases h1; exact hok e
    · rw [hget_hset_ne hb] at h1
      by_cases hl1 : o1.live = true
      · refine (h.ok b' o1 h1).ext e fun B1 off1 hm1 => hw B1 ((h.ok b' o1 h1).inHeap hm1 hl1) fun eB => ?_
        exact hb (h.inj b' b B ⟨o1, off1, h1, hl1, eB ▸ hm1⟩ hB)
      · cases o1 <;> simp [AObj.live] at hl1
        trivial
  · intro b1 b2 B' h1 h2
    by_cases hb1 : b1 = b
    · subst hb1
      by_cases hb2 : b2 = b1
      · exact hb2.symm
      · have := hlvEq B' h1
        exact absurd this (hnotB b2 B' hb2 ((hlvNe _ _ hb2).1 h2))
    · by_cases hb2 : b2 = b
      · subst hb2
        have := hlvEq B' h2
        exact absurd this (hnotB b1 B' hb1 ((hlvNe _ _ hb1).1 h1))
      · exact h.inj b1 b2 B' ((hlvNe _ _ hb1).1 h1) ((hlvNe _ _ hb2).1 h2)
  · intro b1 B' h1 hF
    by_cases hb1 : b1 = b
    · subst hb1
      have := hlvEq B' h1
      subst this
      rcases hlB with h1 | h1
      · exact h.notF _ B hB (h1 ▸ hF)
      · have := h.inF _ hF; omega
    · exact h.notF b1 B' ((hlvNe _ _ hb1).1 h1) hF
  · intro B' hF; have := h.inF B' hF; show B' < w'.heap.size; omega
  · intro B' hB' hn; exact hw B' hB' fun eB => hn b hbase (eB ▸ hB)
  · intro B' b' hB' hl
    by_cases hb : b' = b
    · subst hb
      have := hlvEq B' hl
      rcases hlB with h1 | h1
      · exact ⟨b', by rw [this, h1]; exact hB⟩
      · omega
    · exact ⟨b', (hlvNe _ _ hb).1 hl⟩

/-- A block is given up: nobody writes it any more, nor reads it by its number. -/
theorem Post.kill {base : Nat} {c : Cn} {H : Heap} (h : Inv c H) {b : Nat} (hbase : base ≤ b) : Post base c H c (hset H b .dead) := by
  by_cases hbl : b < H.length
  · have hlv : ∀ b' B', LiveAt c (hset H b .dead) b' B' → b' ≠ b ∧ LiveAt c H b' B' := by
      rintro b' B' ⟨o1, off1, h1, h2, h3⟩
      by_cases hb : b' = b
      · subst hb; rw [hget_hset_same hbl] at h1; cases h1; simp [AObj.live] at h2
      · rw [hget_hset_ne hb] at h1; exact ⟨hb, o1, off1, h1, h2, h3⟩
    refine ⟨Ext.refl c, ⟨fun b' g l hm => by simpa using h.dom b' g l hm, ?_, ?_, fun b1 b2 B h1 h2 => h.inj b1 b2 B (hlv _ _ h1).2 (hlv _ _ h2).2,
      fun b1 B h1 => h.notF b1 B (hlv _ _ h1).2, h.inF⟩, Nat.le_refl _, fun _ _ _ => rfl, fun B b' _ hl => ⟨b', (hlv _ _ hl).2⟩, fun _ _ hF => .inl hF, fun b' hb' => hget_hset_ne (by omega), by simp, Same.refl _⟩
    · intro b' o1 g l h1 h2 h3
      by_cases hb : b' = b
      · subst hb; rw [hget_hset_same hbl] at h1; cases h1; simp [AObj.live] at h2
      · rw [hget_hset_ne hb] at h1; exact h.gen b' o1 g l h1 h2 h3
    · intro b' o1 h1
      by_cases hb : b' = b
      · subst hb; rw [hget_hset_same hbl] at h1; cases h1; trivial
      · rw [hget_hset_ne hb] at h1; exact h.ok b' o1 h1
  · have : hset H b .dead = H := by
      have : ∀ H : Heap, H.length ≤ b → hset H b .dead = H := by
        intro H
        induction H with
        | nil => intro _; rfl
        | cons o H ih => intro hl; simp at hl; have : b ≠ H.length := by omega
                         simp [hset, this, ih (by omega)]
      exact this H (by omega)
    rw [this]; exact Post.refl h

/-- Blocks that are lent: they can be read as values while nobody writes them. -/
theorem Inv.lend {c : Cn} {H : Heap} (h : Inv c H) {b B : Nat} (hl : LiveAt c H b B) :
    Inv { c with F := fun B' => c.F B' ∨ B' = B } (hset H b .dead) := by
  obtain ⟨o, off, ho, hlive, hm⟩ := hl
  have hbl := hget_lt ho
  have hlv : ∀ b' B', LiveAt { c with F := fun B' => c.F B' ∨ B' = B } (hset H b .dead) b' B' → b' ≠ b ∧ LiveAt c H b' B' := by
    rintro b' B' ⟨o1, off1, h1, h2, h3⟩
    by_cases hb : b' = b
    · subst hb; rw [hget_hset_same hbl] at h1; cases h1; simp [AObj.live] at h2
    · rw [hget_hset_ne hb] at h1; exact ⟨hb, o1, off1, h1, h2, h3⟩
  have e : Ext c { c with F := fun B' => c.F B' ∨ B' = B } := ⟨fun _ _ _ h => h, fun _ h => .inl h, fun _ _ => rfl, fun _ _ h => h⟩
  refine ⟨fun b' g l hm => by simpa using h.dom b' g l hm, ?_, ?_, fun b1 b2 B h1 h2 => h.inj b1 b2 B (hlv _ _ h1).2 (hlv _ _ h2).2, ?_, ?_⟩
  · intro b' o1 g l h1 h2 h3
    by_cases hb : b' = b
    · subst hb; rw [hget_hset_same hbl] at h1; cases h1; simp [AObj.live] at h2
    · rw [hget_hset_ne hb] at h1; exact h.gen b' o1 g l h1 h2 h3
  · intro b' o1 h1
    by_cases hb : b' = b
    · subst hb; rw [hget_hset_same hbl] at h1; cases h1; trivial
    · rw [hget_hset_ne hb] at h1; exact (h.ok b' o1 h1).ext e fun _ _ _ => rfl
  · intro b1 B1 h1 hF
    obtain ⟨hb, h2⟩ := hlv _ _ h1
    rcases hF with hF | rfl
    · exact h.notF b1 B1 h2 hF
    · exact hb (h.inj b1 b _ h2 ⟨o, off, ho, hlive, hm⟩)
  · rintro B1 (hF | rfl)
    · exact h.inF B1 hF
    · exact (h.ok b o ho).inHeap hm hlive

def mapO (d : AV → Option AV) : List AV → Option (List AV)
  | [] => some []
  | a :: as => match d a, mapO d as with
    | some a', some as' => some (a' :: as')
    | _, _ => none

mutual
/-- A value without what is not kept: blocks from base on are taken by value (their contents by d). -/
def frzW (d : AV → Option AV) (kp : Bool) (base : Nat) (H : Heap) : AV → Option AV
  | .atom v => some (.atom v)
  | .ptr b g off =>
    match hget H b with
    | some o => if b < base then (if kp = true ∧ o.live = true ∧ o.gen = g then some (.ptr b g off) else none) else
      match o with
      | .cells g' cs => if g' = g then (mapO d (cs.drop off)).map .cptr else none
      | _ => none
    | none => none
  | .cptr cs => some (.cptr cs)
  | .sl cs len t => some (.sl cs len t)
  | .slr b g off len cap esz =>
    match hget H b with
    | some o => if b < base then (if kp = true ∧ o.live = true ∧ o.gen = g then some (.slr b g off len cap esz) else none) else
      match o with
      | .cells g' cs => if g' = g then (mapO d ((cs.drop off).take (len * esz))).map fun xs => .sl xs len false else none
      | _ => none
    | none => none
  | .map b =>
    match hget H b with
    | some o => if b < base then (if kp = true ∧ o.live = true ∧ o.gen = 0 then some (.map b) else none) else
      match o with
      | .map ks vs => match mapO d ks, mapO d vs with
        | some ks', some vs' => some (.cmap ks' vs')
        | _, _ => none
      | _ => none
    | none => none
  | .cmap ks vs => some (.cmap ks vs)
  | .fn f fs cs => match frzWL d kp base H fs, frzWL d kp base H cs with
    | some fs', some cs' => some (.fn f fs' cs')
    | _, _ => none
  | .iface t a => match frzW d kp base H a with
    | some a' => some (.iface t a')
    | none => none
  | .agg cs => match frzWL d kp base H cs with
    | some cs' => some (.agg cs')
    | none => none
  | .tuple cs => match frzWL d kp base H cs with
    | some cs' => some (.tuple cs')
    | none => none
  | .yld _ => none
  | .tptr b g t n => match hget H b with
    | some o => if b < base ∧ kp = true ∧ o.live = true ∧ o.gen = g then some (.tptr b g t n) else none
    | none => none
  | .slt b g len e =>
    match hget H b with
    | some o => if b < base then (if kp = true ∧ o.live = true ∧ o.gen = g then some (.slt b g len e) else none) else
      match o with
      | .cells g' cs => if g' = g then (mapO d (cs.take len)).map fun xs => .sl xs len false else none
      | _ => none
    | none => none
  | .bptr _ _ _ => none
  | .bnil => some .bnil
def frzWL (d : AV → Option AV) (kp : Bool) (base : Nat) (H : Heap) : List AV → Option (List AV)
  | [] => some []
  | a :: as => match frzW d kp base H a, frzWL d kp base H as with
    | some a', some as' => some (a' :: as')
    | _, _ => none
end

def frzC (base : Nat) (H : Heap) : Nat → AV → Option AV
  | 0 => fun _ => none
  | n + 1 => frzW (frzC base H n) false base H

/-- The result of a call that gives up all blocks from base on. -/
def frz (base : Nat) (H : Heap) : AV → Option AV := frzW (frzC base H 4) true base H

theorem mapO_sound {c c' : Cn} {d : AV → Option AV} (hd : ∀ a a' x, d a = some a' → Rep c a x → Rep c' a' x) : ∀ (as : List AV) (as' : List AV) (xs : List Value),
    mapO d as = some as' → RepL c as xs → RepL c' as' xs := by
  intro as
  induction as with
  | nil => intro as' xs h hr; simp [mapO] at h; subst h; exact hr
  | cons a as ih =>
    intro as' xs h hr
    obtain ⟨v, us, rfl, h1, h2⟩ := hr
    simp only [mapO] at h
    split at h
    · rename_i a' as2 e1 e2
      cases h
      exact ⟨v, us, rfl, hd _ _ _ e1 h1, ih _ _ e2 h2⟩
    · cases h

section
variable {c c' : Cn} {H : Heap} {base : Nat} {d : AV → Option AV} {kp : Bool}

theorem cellsAt_of {w : World} {B o : Nat} {vs : List Value} {cells : Array Value} {elem : TypeId} {fz : Nat × Nat} (hb : w.heap[B]? = some (.cells cells elem fz))
    (h : ∀ i, i < vs.length → cells[o + i]? = vs[i]?) : CellsAt w B o vs := by
  intro i hi
  simp [World.cell?, hb, h i hi]

theorem CellsAt.drop {w : World} {B o : Nat} {vs : List Value} (h : CellsAt w B o vs) (n : Nat) : CellsAt w B (o + n) (vs.drop n) := by
  intro i hi
  have := h (n + i) (by simp at hi; omega)
  rw [List.getElem?_drop, ← this, Nat.add_assoc]

theorem CellsAt.take {w : World} {B o : Nat} {vs : List Value} (h : CellsAt w B o vs) (n : Nat) : CellsAt w B o (vs.take n) := by
  intro i hi
  have hi' : i < n ∧ i < vs.length := by simp at hi; omega
  rw [h i hi'.2, List.getElem?_take_of_lt hi'.1]

theorem bareExt {c c' : Cn} (hF : ∀ B, c.F B → c'.F B) (hw : c'.w = c.w) : Ext c.bare c'.bare :=
  ⟨fun _ _ _ h => by simp [Cn.bare] at h, fun B h => hF B h, fun _ _ => by simp [Cn.bare, hw], fun _ _ h => by simpa [Cn.bare, hw] using h⟩

mutual
theorem frzW_sound (hI : Inv c H) (hd : ∀ a a' x, d a = some a' → Rep c a x → Rep c'.bare a' x) (hF : ∀ B, c.F B → c'.F B)
    (hL : ∀ b B, base ≤ b → LiveAt c H b B → c'.F B) (hm : kp = true → ∀ b o l, b < base → hget H b = some o → o.live = true → c.m b o.gen = some l → c'.m b o.gen = some l)
    (hw : c'.w = c.w) : (a : AV) → (a' : AV) → (x : Value) → frzW d kp base H a = some a' → Rep c a x → Rep c' a' x
  | .atom v, a', x, h, hr => by simp [frzW] at h; subst h; exact hr
  | .ptr b g off, a', x, h, hr => by
    simp only [frzW] at h
    split at h
    · rename_i o ho
      obtain ⟨B, of, hmb, rfl⟩ := hr
      split at h
      · rename_i hlt
        split at h
        · rename_i hc; cases h; exact ⟨B, of, by rw [← hc.2.2] at hmb ⊢; exact hm hc.1 b o _ hlt ho hc.2.1 hmb, rfl⟩
        · cases h
      · rename_i hge
        split at h
        · rename_i g' cs
          split at h
          · rename_i hg; subst hg
            obtain ⟨cs', hcs, rfl⟩ := Option.map_eq_some_iff.1 h
            obtain ⟨B2, o2, vs, cells, elem, fz, hm2, hb, h1, h2, h3, hrl⟩ := hI.ok b _ ho
            rw [hmb] at hm2; cases hm2
            exact ⟨B, of + off, vs.drop off, hL b B (by omega) ⟨_, of, ho, rfl, hmb⟩, hw ▸ (cellsAt_of hb h2).drop off, rfl, mapO_sound hd _ _ _ hcs (hrl.drop off)⟩
          · cases h
        · cases h
    · cases h
  | .cptr cs, a', x, h, hr => by
    simp [frzW] at h; subst h
    obtain ⟨B, o, vs, h1, h2, rfl, h3⟩ := hr
    exact ⟨B, o, vs, hF _ h1, hw ▸ h2, rfl, RepL.ext (bareExt hF hw) _ _ h3⟩
  | .sl cs len t, a', x, h, hr => by
    simp [frzW] at h; subst h
    rcases hr with hr | ⟨B, o, cap, vs, h1, h2, rfl, h3, h4, h5⟩
    · exact .inl hr
    · exact .inr ⟨B, o, cap, vs, hF _ h1, hw ▸ h2, rfl, h3, h4, RepL.ext (bareExt hF hw) _ _ h5⟩
  | .slr b g off len cap esz, a', x, h, hr => by
    simp only [frzW] at h
    split at h
    · rename_i o ho
      obtain ⟨B, of, cp, hmb, rfl, hlen, hcap⟩ := hr
      split at h
      · rename_i hlt
        split at h
        · rename_i hc; cases h
          refine ⟨B, of, cp, by rw [← hc.2.2] at hmb ⊢; exact hm hc.1 b o _ hlt ho hc.2.1 hmb, rfl, hlen, ?_⟩
          cases cap with
          | some k => exact hcap
          | none => simpa [hw] using hcap
        · cases h
      · rename_i hge
        split at h
        · rename_i g' cs
          split at h
          · rename_i hg; subst hg
            obtain ⟨cs', hcs, rfl⟩ := Option.map_eq_some_iff.1 h
            obtain ⟨B2, o2, vs, cells, elem, fz, hm2, hb, h1, h2, h3, hrl⟩ := hI.ok b _ ho
            rw [hmb] at hm2; cases hm2
            exact .inr ⟨B, of + off, cp, (vs.drop off).take (len * esz), hL b B (by omega) ⟨_, of, ho, rfl, hmb⟩, hw ▸ ((cellsAt_of hb h2).drop off).take _, rfl, hlen, by simp,
              mapO_sound hd _ _ _ hcs ((hrl.drop off).take _)⟩
          · cases h
        · cases h
    · cases h
  | .map b, a', x, h, hr => by
    simp only [frzW] at h
    split at h
    · rename_i o ho
      obtain ⟨B, hmb, rfl⟩ := hr
      split at h
      · rename_i hlt
        split at h
        · rename_i hc; cases h
          refine ⟨B, ?_, rfl⟩
          have := hm hc.1 b o (B, 0) hlt ho hc.2.1 (by rw [hc.2.2]; exact hmb)
          rwa [hc.2.2] at this
        · cases h
      · rename_i hge
        split at h
        · rename_i ks vs
          split at h
          · rename_i ks' vs' e1 e2; cases h
            obtain ⟨B2, es, cl, hm2, hb, h1, h2⟩ := hI.ok b _ ho
            rw [hmb] at hm2; cases hm2
            exact ⟨B, es, cl, hL b B (by omega) ⟨_, 0, ho, rfl, hmb⟩, by rw [hw]; exact hb, rfl, mapO_sound hd _ _ _ e1 h1, mapO_sound hd _ _ _ e2 h2⟩
          · cases h
        · cases h
    · cases h
  | .cmap ks vs, a', x, h, hr => by
    simp [frzW] at h; subst h
    obtain ⟨B, es, cl, h1, h2, rfl, h3, h4⟩ := hr
    have e := bareExt hF hw
    exact ⟨B, es, cl, hF _ h1, by rw [hw]; exact h2, rfl, RepL.ext e _ _ h3, RepL.ext e _ _ h4⟩
  | .fn f fs cs, a', x, h, hr => by
    simp only [frzW] at h
    split at h
    · rename_i fs' cs' e1 e2; cases h
      obtain ⟨ws, us, rfl, h1, h2⟩ := hr
      exact ⟨ws, us, rfl, frzWL_sound hI hd hF hL hm hw fs _ _ e1 h1, frzWL_sound hI hd hF hL hm hw cs _ _ e2 h2⟩
    · cases h
  | .iface t a, a', x, h, hr => by
    simp only [frzW] at h
    split at h
    · rename_i a1 e1; cases h
      obtain ⟨v, rfl, h1⟩ := hr
      exact ⟨v, rfl, frzW_sound hI hd hF hL hm hw a _ _ e1 h1⟩
    · cases h
  | .agg cs, a', x, h, hr => by
    simp only [frzW] at h
    split at h
    · rename_i cs1 e1; cases h
      obtain ⟨vs, rfl, h1⟩ := hr
      exact ⟨vs, rfl, frzWL_sound hI hd hF hL hm hw cs _ _ e1 h1⟩
    · cases h
  | .tuple cs, a', x, h, hr => by
    simp only [frzW] at h
    split at h
    · rename_i cs1 e1; cases h
      obtain ⟨vs, rfl, h1⟩ := hr
      exact ⟨vs, rfl, frzWL_sound hI hd hF hL hm hw cs _ _ e1 h1⟩
    · cases h
  | .yld b, a', x, h, hr => by simp [frzW] at h
  | .tptr b g t n, a', x, h, hr => by
    simp only [frzW] at h
    split at h
    · rename_i o ho
      obtain ⟨B, hmb, hsh, rfl⟩ := hr
      split at h
      · rename_i hc; cases h
        exact ⟨B, by rw [← hc.2.2.2] at hmb ⊢; exact hm hc.2.1 b o _ hc.1 ho hc.2.2.1 hmb, by rw [hw]; exact hsh, rfl⟩
      · cases h
    · cases h
  | .bptr b g e, a', x, h, hr => by simp [frzW] at h
  | .bnil, a', x, h, hr => by simp [frzW] at h; subst h; exact hr
  | .slt b g len e, a', x, h, hr => by
    simp only [frzW] at h
    split at h
    · rename_i o ho
      obtain ⟨B, cp, hmb, hsh, rfl, hlen⟩ := hr
      split at h
      · rename_i hlt
        split at h
        · rename_i hc; cases h
          exact ⟨B, cp, by rw [← hc.2.2] at hmb ⊢; exact hm hc.1 b o _ hlt ho hc.2.1 hmb, by rw [hw]; exact hsh, rfl, hlen⟩
        · cases h
      · rename_i hge
        split at h
        · rename_i g' cs
          split at h
          · rename_i hg; subst hg
            obtain ⟨cs', hcs, rfl⟩ := Option.map_eq_some_iff.1 h
            obtain ⟨B2, o2, vs, cells, elem, fz, hm2, hb, h1, h2, h3, hrl⟩ := hI.ok b _ ho
            rw [hmb] at hm2; cases hm2
            exact .inr ⟨B, 0, cp, vs.take len, hL b B (by omega) ⟨_, 0, ho, rfl, hmb⟩, hw ▸ (cellsAt_of hb h2).take _, rfl, hlen, by simp,
              mapO_sound hd _ _ _ hcs (hrl.take _)⟩
          · cases h
        · cases h
    · cases h
theorem frzWL_sound (hI : Inv c H) (hd : ∀ a a' x, d a = some a' → Rep c a x → Rep c'.bare a' x) (hF : ∀ B, c.F B → c'.F B)
    (hL : ∀ b B, base ≤ b → LiveAt c H b B → c'.F B) (hm : kp = true → ∀ b o l, b < base → hget H b = some o → o.live = true → c.m b o.gen = some l → c'.m b o.gen = some l)
    (hw : c'.w = c.w) : (as : List AV) → (as' : List AV) → (xs : List Value) → frzWL d kp base H as = some as' → RepL c as xs → RepL c' as' xs
  | [], as', xs, h, hr => by simp [frzWL] at h; subst h; exact hr
  | a :: as, as', xs, h, hr => by
    simp only [frzWL] at h
    split at h
    · rename_i a1 as1 e1 e2; cases h
      obtain ⟨v, us, rfl, h1, h2⟩ := hr
      exact ⟨v, us, rfl, frzW_sound hI hd hF hL hm hw a _ _ e1 h1, frzWL_sound hI hd hF hL hm hw as _ _ e2 h2⟩
    · cases h
end
end

theorem frz_sound {c c' : Cn} {H : Heap} {base : Nat} (hI : Inv c H) (hF : ∀ B, c.F B → c'.F B) (hw : c'.w = c.w) (hL : ∀ b B, base ≤ b → LiveAt c H b B → c'.F B)
    (hm : ∀ b o l, b < base → hget H b = some o → o.live = true → c.m b o.gen = some l → c'.m b o.gen = some l)
    {a a' : AV} {x : Value} (h : frz base H a = some a') (hr : Rep c a x) : Rep c' a' x := by
  have deep : ∀ n a a' x, frzC base H n a = some a' → Rep c a x → Rep c'.bare a' x := by
    intro n
    induction n with
    | zero => intro a a' x h; cases h
    | succ n ih => intro a a' x h hr; exact frzW_sound (c' := c'.bare) hI ih hF hL (fun h => by cases h) hw a a' x h hr
  exact frzW_sound hI (deep 4) hF hL (fun _ => hm) hw a a' x h hr

end Go.Av
