/- A part of the proof: a verified reading of the model by values alone, and what is shown by it. It holds without conditions. -/
import Derived.Test.YtjmgcdbefkojjaaGreatDoorAvOps3
namespace Go.Av
open Go

def bnd (a : Option AV) (dflt bound : Nat) : Option Nat :=
  match a with
  | none => some dflt
  | some a => match asIntA a with
    | some n => if 0 ≤ n ∧ n ≤ bound then some n.toNat else none
    | none => none

/-- Optional operands, in the model and here. -/
def OptRep (c : Cn) : Option AV → Option Value → Prop
  | none, y => y = none
  | some a, y => ∃ v, y = some v ∧ Rep c a v

theorem bnd_none {d b n : Nat} (h : bnd none d b = some n) : n = d := by simp [bnd] at h; exact h.symm

theorem bnd_some {P : Program} {w : World} {c : Cn} {a : AV} {v : Value} {d b b' n : Nat} (h : bnd (some a) d b = some n) (hr : Rep c a v) (hb : b ≤ b') (code : BoundsCode) :
    (Instr.sliceBound v b' code).run P w = .ok n w ∧ n ≤ b := by
  simp only [bnd] at h
  split at h
  · rename_i i hi
    obtain ⟨k, rfl⟩ := asIntA_eq hi
    cases hr
    split at h
    · rename_i hc
      cases h
      have : 0 ≤ i ∧ i ≤ (b' : Int) := by omega
      exact ⟨by simp [Instr.sliceBound, asIntOf, this], by omega⟩
    · cases h
  · cases h

/-- The bounds of a slice expression whose upper ones lie within a known length: low, high, the bound on capacity if it is given. -/
def bnds (lo hi mx : Option AV) (len : Nat) : Option (Nat × Nat × Option Nat) :=
  match mx with
  | none => match bnd hi len len with
    | some h => match bnd lo 0 h with
      | some l => some (l, h, none)
      | none => none
    | none => none
  | some m => match bnd (some m) 0 len with
    | some m' => match hi with
      | some hh => match bnd (some hh) 0 m' with
        | some h => match bnd lo 0 h with
          | some l => some (l, h, some m')
          | none => none
        | none => none
      | none => none
    | none => none

theorem bnds_ok {P : Program} {w : World} {c : Cn} {lo hi mx : Option AV} {lo' hi' mx' : Option Value} {len cap l h : Nat} {m : Option Nat} (hb : bnds lo hi mx len = some (l, h, m))
    (h1 : OptRep c lo lo') (h2 : OptRep c hi hi') (h3 : OptRep c mx mx') (hc : len ≤ cap) (isS : Bool) :
    (Instr.sliceBounds isS len cap lo' hi' mx').run P w = .ok (l, h, m.getD cap) w ∧ l ≤ h ∧ h ≤ len ∧ (∀ m', m = some m' → h ≤ m' ∧ m' ≤ len) := by
  unfold bnds at hb
  have low : ∀ {h l : Nat} {b : Nat} (_ : bnd lo 0 h = some l) (code : BoundsCode), (match lo' with | some v => Instr.sliceBound v h code | none => pure 0 : Sem Nat).run P w = .ok l w ∧ l ≤ h := by
    intro h l b hl code
    cases lo with
    | none => simp only [OptRep] at h1; subst h1; rw [bnd_none hl]; exact ⟨rfl, Nat.zero_le _⟩
    | some a => obtain ⟨v, rfl, hr⟩ := h1; exact bnd_some hl hr (Nat.le_refl _) code
  split at hb
  · simp only [OptRep] at h3; subst h3
    split at hb
    · rename_i h' hh
      split at hb
      · rename_i l' hl
        cases hb
        have hlow := low (b := 0) hl .sliceB
        cases hi with
        | none =>
          simp only [OptRep] at h2; subst h2
          have := bnd_none hh; subst this
          refine ⟨?_, hlow.2, Nat.le_refl _, fun _ h => by cases h⟩
          cases lo' with
          | none => simp only [Sem.run_pure] at hlow; simp [Instr.sliceBounds]; injection hlow.1
          | some v => simp only at hlow; simp [Instr.sliceBounds, hlow.1]
        | some a =>
          obtain ⟨v, rfl, hr⟩ := h2
          have hhi := bnd_some (P := P) (w := w) hh hr hc (if isS then .sliceAcap else .sliceAlen)
          refine ⟨?_, hlow.2, hhi.2, fun _ h => by cases h⟩
          cases lo' with
          | none => simp only [Sem.run_pure] at hlow; simp [Instr.sliceBounds, hhi.1]; injection hlow.1
          | some v => simp only at hlow; simp [Instr.sliceBounds, hlow.1, hhi.1]
      · cases hb
    · cases hb
  · rename_i m0
    obtain ⟨vm, rfl, hrm⟩ := h3
    split at hb
    · rename_i m' hm
      split at hb
      · rename_i hh0
        obtain ⟨vh, rfl, hrh⟩ := h2
        split at hb
        · rename_i h' hh
          split at hb
          · rename_i l' hl
            cases hb
            have hlow := low (b := 0) hl .slice3C
            have hmx := bnd_some (P := P) (w := w) hm hrm hc (if isS then .slice3Acap else .slice3Alen)
            have hhi := bnd_some (P := P) (w := w) hh hrh (Nat.le_refl _) .slice3B
            refine ⟨?_, hlow.2, by omega, fun m'' h => by cases h; exact ⟨hhi.2, hmx.2⟩⟩
            cases lo' with
            | none => simp only [Sem.run_pure] at hlow; simp [Instr.sliceBounds, hhi.1, hmx.1]; injection hlow.1
            | some v => simp only at hlow; simp [Instr.sliceBounds, hlow.1, hhi.1, hmx.1]
          · cases hb
        · cases hb
      · cases hb
    · cases hb

def aSlice (P : Program) (t : TypeId) (a : AV) (lo hi mx : Option AV) : Option AV :=
  match arrayOf P t with
  | some (n, e) => match a, szOf P e, bnds lo hi mx n with
    | .ptr b g off, some sz, some (l, h, m) => if h = l then some (.sl [] 0 false) else some (.slr b g (off + l * sz) (h - l) (some (m.getD n - l)) sz)
    | _, _, _ => none
  | none => match sliceElem P t with
    | some e => match szOf P e with
      | some sz => match a with
        | .sl cs len tt => match bnds lo hi mx len with
          | some (l, h, m) => some (.sl ((cs.drop (l * sz)).take ((h - l) * sz)) (h - l) (match m with | some m' => decide (m' = h) | none => tt && decide (h = len)))
          | none => none
        | .slr b g off len cap esz => match bnds lo hi mx len with
          | some (l, h, m) => if esz = sz then
              if h = l then some (.sl [] 0 (match m with | some m' => decide (m' = l) | none => false))
              else some (.slr b g (off + l * sz) (h - l) (match m with | some m' => some (m' - l) | none => cap.map (· - l)) sz)
            else none
          | none => none
        | _ => none
      | none => none
    | none => none

theorem addr_map (B o n : Nat) : (some (⟨B, o, none⟩ : Addr)).map (·.add n) = some ⟨B, o + n, none⟩ := by simp [addr_add]

theorem aSlice_ok {P : Program} {base : Nat} {c : Cn} {H : Heap} (hI : Inv c H) {t : TypeId} {a r : AV} {x : Value} {lo hi mx : Option AV} {lo' hi' mx' : Option Value}
    (hx : aSlice P t a lo hi mx = some r) (hr : Rep c a x) (h1 : OptRep c lo lo') (h2 : OptRep c hi hi') (h3 : OptRep c mx mx') :
    OpOK P base c H (Instr.sliceAt t x lo' hi' mx') r H := by
  unfold aSlice at hx
  split at hx
  · rename_i n e ha
    split at hx
    · rename_i b g off sz l h m hsz hb
      obtain ⟨B, o, hm, rfl⟩ := hr
      obtain ⟨hrun, hlh, hhn, hmm⟩ := bnds_ok (P := P) (w := c.w) hb h1 h2 h3 (Nat.le_refl n) false
      have hrun' : ∀ v, v = Value.slice (some (if m.getD n = l then (⟨B, o + off, none⟩ : Addr) else ⟨B, o + off + l * sz, none⟩)) (h - l) (m.getD n - l) →
          (Instr.sliceAt t (.pointer (some ⟨B, o + off, none⟩)) lo' hi' mx').run P c.w = .ok v c.w := by
        rintro v rfl
        simp [Instr.sliceAt, run_underlying' (arrayOf_eq ha), Instr.sureAddr, hrun, run_sizeOf' hsz, addr_add]
      split at hx
      · rename_i he
        cases hx
        refine .same hI (hrun' _ rfl) (.inl ⟨rfl, rfl, _, _, by rw [he, Nat.sub_self], fun h => by cases h⟩)
      · rename_i he
        cases hx
        have hml : m.getD n ≠ l := by
          cases m with
          | none => simp; omega
          | some m' => have := hmm m' rfl; simp; omega
        refine .same hI (hrun' _ rfl) ⟨B, o, m.getD n - l, hm, ?_, ?_, rfl⟩
        · rw [if_neg hml]; simp [Nat.add_assoc]
        · cases m with
          | none => simp; omega
          | some m' => have := hmm m' rfl; simp; omega
    · cases hx
  · rename_i hna
    split at hx
    · rename_i e he
      have hu := sliceElem_eq he
      split at hx
      · rename_i sz hsz
        split at hx
        · rename_i cs len tt
          split at hx
          · rename_i l h m hb
            cases hx
            rcases hr with ⟨rfl, rfl, ad, cap, rfl, ht⟩ | ⟨B, o, cap, vs, hF, hcl, rfl, hle, ht, hl⟩
            · obtain ⟨hrun, hlh, hhn, hmm⟩ := bnds_ok (P := P) (w := c.w) (cap := cap) hb h1 h2 h3 (Nat.zero_le _) true
              have hl0 : l = 0 := by omega
              have hh0 : h = 0 := by omega
              subst hl0; subst hh0
              refine .same hI (v := .slice (if m.getD cap = 0 then ad else ad.map (·.add (0 * sz))) 0 (m.getD cap)) ?_ (.inl ⟨by simp, rfl, _, _, rfl, ?_⟩)
              · simp [Instr.sliceAt, Instr.slice, run_underlying' hu, hrun, run_sizeOf' hsz]
              · cases m with
                | none => simpa using ht
                | some m' => simp
            · obtain ⟨hrun, hlh, hhn, hmm⟩ := bnds_ok (P := P) (w := c.w) (cap := cap) hb h1 h2 h3 hle true
              have hrun' : ∀ v, v = Value.slice (if m.getD cap = l then some (⟨B, o, none⟩ : Addr) else some ⟨B, o + l * sz, none⟩) (h - l) (m.getD cap - l) →
                  (Instr.sliceAt t (.slice (some ⟨B, o, none⟩) len cap) lo' hi' mx').run P c.w = .ok v c.w := by
                rintro v rfl
                simp [Instr.sliceAt, Instr.slice, run_underlying' hu, hrun, run_sizeOf' hsz, addr_add]
              by_cases he : h = l
              · subst he
                refine .same hI (hrun' _ rfl) (.inl ⟨by simp, by omega, _, _, by rw [Nat.sub_self], ?_⟩)
                cases m with
                | none => intro htt; simp at htt ⊢; have := ht htt.1; omega
                | some m' => simp; omega
              · have hml : m.getD cap ≠ l := by
                  cases m with
                  | none => simp; omega
                  | some m' => have := hmm m' rfl; simp; omega
                refine .same hI (hrun' _ rfl) (.inr ⟨B, o + l * sz, m.getD cap - l, (vs.drop (l * sz)).take ((h - l) * sz), hF, (hcl.drop _).take _, by rw [if_neg hml], ?_, ?_, (hl.drop _).take _⟩)
                · cases m with
                  | none => simp; omega
                  | some m' => have := hmm m' rfl; simp; omega
                · cases m with
                  | none => intro htt; simp at htt ⊢; have := ht htt.1; omega
                  | some m' => simp; omega
          · cases hx
        · rename_i b g off len cap esz
          split at hx
          · rename_i l h m hb
            split at hx
            · rename_i hes
              subst hes
              obtain ⟨B, o, cp, hm, rfl, hle, hcap⟩ := hr
              obtain ⟨hrun, hlh, hhn, hmm⟩ := bnds_ok (P := P) (w := c.w) (cap := cp) hb h1 h2 h3 hle true
              have hrun' : ∀ v, v = Value.slice (if m.getD cp = l then some (⟨B, o + off, none⟩ : Addr) else some ⟨B, o + off + l * esz, none⟩) (h - l) (m.getD cp - l) →
                  (Instr.sliceAt t (.slice (some ⟨B, o + off, none⟩) len cp) lo' hi' mx').run P c.w = .ok v c.w := by
                rintro v rfl
                simp [Instr.sliceAt, Instr.slice, run_underlying' hu, hrun, run_sizeOf' hsz, addr_add]
              split at hx
              · rename_i he
                cases hx
                refine .same hI (hrun' _ rfl) (.inl ⟨rfl, rfl, _, _, by rw [he, Nat.sub_self], ?_⟩)
                cases m with
                | none => intro h; cases h
                | some m' => simp; omega
              · rename_i he
                cases hx
                have hml : m.getD cp ≠ l := by
                  cases m with
                  | none => simp; omega
                  | some m' => have := hmm m' rfl; simp; omega
                refine .same hI (hrun' _ rfl) ⟨B, o, m.getD cp - l, hm, by rw [if_neg hml, Nat.add_assoc], ?_, ?_⟩
                · cases m with
                  | none => simp; omega
                  | some m' => have := hmm m' rfl; simp; omega
                · cases m with
                  | some m' => simp
                  | none =>
                    cases cap with
                    | some k => simp at hcap ⊢; omega
                    | none =>
                      obtain ⟨e', n', hs, hn⟩ := hcap
                      refine ⟨e', n', hs, ?_⟩
                      have hlc : l ≤ cp := by omega
                      simp
                      rw [← hn, Nat.sub_mul, Nat.add_assoc, Nat.add_assoc, Nat.add_assoc]
                      have : l * esz ≤ cp * esz := Nat.mul_le_mul_right _ hlc
                      omega
            · cases hx
          · cases hx
        · cases hx
      · cases hx
    · cases hx

end Go.Av
