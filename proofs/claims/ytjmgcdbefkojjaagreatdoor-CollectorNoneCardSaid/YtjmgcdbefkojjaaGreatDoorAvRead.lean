/- A part of the proof: a verified reading of the model by values alone, and what is shown by it. It holds without conditions. -/
import Derived.Test.YtjmgcdbefkojjaaGreatDoorAvDrawW
import GoSem.ClaimChange
namespace Go.Av
open Go

/-- All that is there at first is nobody's. -/
def Cn.start (w : World) : Cn := { m := fun _ _ => none, F := fun B => B < w.heap.size, w := w }
theorem Inv.start (w : World) : Inv (Cn.start w) [] where
  dom := fun b g l hm => by simp [Cn.start] at hm
  gen := fun b o g l ho => by simp [hget] at ho
  ok := fun b o ho => by simp [hget] at ho
  inj := fun b b' B hl => (not_live_nil hl).elim
  notF := fun b B hl => (not_live_nil hl).elim
  inF := fun B hB => hB

/-- The fields lie one behind the other. -/
def layFrom (P : Program) : List Field → Nat → Option Nat
  | [], o => some o
  | f :: fs, o => if f.offset = o then layFrom P fs (o + P.cellsOf f.type) else none
/-- A type that is read here. -/
def simpleT (P : Program) : Nat → TypeId → Bool
  | 0, _ => false
  | n + 1, t => match P.underlying t with
    | some .bool | some (.int _) | some .string => true
    | some (.slice e) => decide (0 < P.cellsOf e) && simpleT P n e
    | some (.struct fs) => layFrom P fs.toList 0 == some (P.cellsOf t) && fs.toList.all fun f => simpleT P n f.type
    | _ => false

mutual
/-- What cells of a type look like. -/
def Rd (P : Program) : Nat → TypeId → List AV → Prop
  | 0, _, _ => False
  | n + 1, t, l => match P.underlying t with
    | some .bool => ∃ b, l = [.atom (.bool b)]
    | some (.int k) => ∃ m, l = [.atom (.int k m)] ∧ (Lit.int k m).wf = true
    | some .string => ∃ s, l = [.atom (.string s)] ∧ s.size ≤ maxLen
    | some (.slice e) => ∃ (xss : List (List AV)) (tt : Bool), l = [.sl xss.flatten xss.length tt] ∧ (xss.length ≤ maxLen) ∧ ∀ xs ∈ xss, Rd P n e xs
    | some (.struct fs) => RdF P n (fs.toList.map (·.type)) l
    | _ => False
/-- What cells of several types, one behind the other, look like. -/
def RdF (P : Program) : Nat → List TypeId → List AV → Prop
  | _, [], l => l = []
  | n, t :: ts, l => ∃ a b, l = a ++ b ∧ Rd P n t a ∧ RdF P n ts b
end

theorem mapM_some {α β : Type} {f : α → Option β} : ∀ {l : List α} {ys : List β}, l.mapM f = some ys → ys.length = l.length ∧ ∀ (i : Nat) (a : α), l[i]? = some a → ∃ b, ys[i]? = some b ∧ f a = some b
  | [], ys, h => by simp at h; subst h; simp
  | a :: l, ys, h => by
    rw [List.mapM_cons] at h
    cases ha : f a with
    | none => simp [ha] at h
    | some b =>
      cases hl : l.mapM f with
      | none => simp [ha, hl] at h
      | some bs =>
        simp [ha, hl] at h
        subst h
        obtain ⟨h1, h2⟩ := mapM_some hl
        refine ⟨by simp [h1], fun i x hx => ?_⟩
        cases i with
        | zero => simp at hx; subst hx; exact ⟨b, rfl, ha⟩
        | succ i => simp at hx; simpa using h2 i x hx

theorem repL_flatten {c : Cn} {xss : List (List AV)} {vss : List (List Value)} (hl : vss.length = xss.length) (h : ∀ (i : Nat) xs vs, xss[i]? = some xs → vss[i]? = some vs → RepL c xs vs) : RepL c xss.flatten vss.flatten := by
  induction xss generalizing vss with
  | nil => cases vss with
    | nil => rfl
    | cons v vss => simp at hl
  | cons xs xss ih =>
    cases vss with
    | nil => simp at hl
    | cons vs vss =>
      simp only [List.flatten_cons]
      exact (h 0 xs vs rfl rfl).append (ih (by simpa using hl) fun i a b ha hb => h (i + 1) a b (by simpa using ha) (by simpa using hb))

theorem flatten_get {α : Type} {u : Nat → List α} {sz : Nat} (hsz : 0 < sz) : ∀ (len s i : Nat), (∀ j, j < s + len → s ≤ j → (u j).length = sz) → i < len * sz → (((List.range' s len).map u).flatten)[i]? = (u (s + i / sz))[i % sz]?
  | 0, s, i, _, hi => by simp at hi
  | len + 1, s, i, h, hi => by
    rw [List.range'_succ, List.map_cons, List.flatten_cons]
    have h0 := h s (by omega) (Nat.le_refl _)
    by_cases c : i < sz
    · rw [List.getElem?_append_left (by omega), Nat.div_eq_of_lt c, Nat.mod_eq_of_lt c, Nat.add_zero]
    · rw [List.getElem?_append_right (by omega), h0, flatten_get hsz len (s + 1) (i - sz) (fun j h1 h2 => h j (by omega) (by omega)) (by rw [Nat.add_mul] at hi; omega)]
      have h1 : i / sz = (i - sz) / sz + 1 := by
        rw [← Nat.add_div_right _ hsz, Nat.sub_add_cancel (by omega)]
      have h2 : i % sz = (i - sz) % sz := by
        rw [← Nat.add_mod_right (i - sz) sz, Nat.sub_add_cancel (by omega)]
      rw [h1, h2]
      congr 2; omega

section
variable {H : Type} {enc : TypeId × Value → H} {P : Program} {w : World} {sp : Nat → Bool} {held : Bool}

def ReadOK (enc : TypeId × Value → H) (P : Program) (w : World) (sp : Nat → Bool) (held : Bool) (n : Nat) : Prop :=
  ∀ (t : TypeId) (fuel : Nat) (cs : List Value) (d : DataW H) (ps : List MemPlace), simpleT P n t = true → DataW.trod enc P w 0 sp held fuel t cs = some (d, ps) → ∃ l, Rd P n t l ∧ RepL (Cn.start w) l cs

theorem read_fields {n fuel : Nat} (ih : ReadOK enc P w sp held n) : ∀ (fs : List Field) (o tot : Nat) (cs : List Value) (xs : List (DataW H × List MemPlace)), (fs.all fun f => simpleT P n f.type) = true → layFrom P fs o = some tot → cs.length = tot →
    (fs.mapM fun f => DataW.trod enc P w 0 sp held fuel f.type ((cs.drop f.offset).take (P.cellsOf f.type))) = some xs → ∃ l, RdF P n (fs.map (·.type)) l ∧ RepL (Cn.start w) l (cs.drop o)
  | [], o, tot, cs, xs, _, hlay, hlen, _ => by
    simp only [layFrom, Option.some.injEq] at hlay
    refine ⟨[], by simp [RdF], ?_⟩
    have : cs.drop o = [] := List.drop_eq_nil_of_le (by omega)
    rw [this]; rfl
  | f :: fs, o, tot, cs, xs, hs, hlay, hlen, h => by
    simp only [List.all_cons, Bool.and_eq_true] at hs
    simp only [layFrom] at hlay
    split at hlay
    · rename_i ho
      rw [List.mapM_cons] at h
      cases h1 : DataW.trod enc P w 0 sp held fuel f.type ((cs.drop f.offset).take (P.cellsOf f.type)) with
      | none => simp [h1] at h
      | some x =>
        cases h2 : (fs.mapM fun f => DataW.trod enc P w 0 sp held fuel f.type ((cs.drop f.offset).take (P.cellsOf f.type))) with
        | none => simp [h1, h2] at h
        | some ys =>
          obtain ⟨a, ha, hra⟩ := ih f.type fuel _ x.1 x.2 hs.1 h1
          obtain ⟨b, hb, hrb⟩ := read_fields ih fs (o + P.cellsOf f.type) tot cs ys hs.2 hlay hlen h2
          refine ⟨a ++ b, ?_, ?_⟩
          · simp only [List.map_cons, RdF]
            exact ⟨a, b, rfl, ha, hb⟩
          · rw [ho] at hra
            have : cs.drop o = (cs.drop o).take (P.cellsOf f.type) ++ cs.drop (o + P.cellsOf f.type) := by
              rw [← List.drop_drop, List.take_append_drop]
            rw [this]
            exact hra.append hrb
    · cases hlay

theorem cells_of {a : Addr} {n : Nat} {vs : List Value} (h : w.cells? 0 a n = some vs) : vs.length = n ∧ ∀ i, i < n → w.cell? (a.add i) = vs[i]? := by
  unfold World.cells? at h
  simp only [Nat.zero_le, if_true] at h
  obtain ⟨h1, h2⟩ := mapM_some h
  simp at h1
  refine ⟨h1, fun i hi => ?_⟩
  obtain ⟨b, hb, hf⟩ := h2 i i (by simp [hi])
  rw [hb]; exact hf

theorem read_all : ∀ n, ReadOK enc P w sp held n
  | 0 => fun t fuel cs d ps hs => by simp [simpleT] at hs
  | n + 1 => by
    have ih : ReadOK enc P w sp held n := read_all n
    intro t fuel cs d ps hs h
    cases fuel with
    | zero => simp [DataW.trod] at h
    | succ fuel =>
      unfold DataW.trod at h
      unfold simpleT at hs
      unfold Rd
      cases hu : P.underlying t with
      | none => simp [hu] at hs
      | some u =>
        rw [hu] at hs h
        cases u with
        | bool =>
          rcases cs with _ | ⟨v, r⟩
          · cases h
          cases v <;> rcases r with _ | ⟨v2, r⟩ <;> try (cases h; done)
          exact ⟨_, ⟨_, rfl⟩, _, [], rfl, rfl, rfl⟩
        | int k =>
          rcases cs with _ | ⟨v, r⟩
          · cases h
          cases v <;> rcases r with _ | ⟨v2, r⟩ <;> try (cases h; done)
          simp only at h
          split at h
          · rename_i hc
            obtain ⟨rfl, hw⟩ := hc
            exact ⟨_, ⟨_, rfl, hw⟩, _, [], rfl, rfl, rfl⟩
          · cases h
        | string =>
          rcases cs with _ | ⟨v, r⟩
          · cases h
          cases v <;> rcases r with _ | ⟨v2, r⟩ <;> try (cases h; done)
          simp only at h
          split at h
          · rename_i hc
            exact ⟨_, ⟨_, rfl, hc⟩, _, [], rfl, rfl, rfl⟩
          · cases h
        | slice e =>
          simp only [Bool.and_eq_true, decide_eq_true_eq] at hs
          rcases cs with _ | ⟨v, r⟩
          · cases h
          cases v <;> rcases r with _ | ⟨v2, r⟩ <;> first | (cases h; done) | (exfalso; simp at h; done) | skip
          rename_i a len cap
          cases a with
          | none =>
            cases len <;> cases cap <;> try (cases h; done)
            refine ⟨_, ⟨[], true, rfl, Nat.zero_le _, by simp⟩, _, [], rfl, .inl ⟨rfl, rfl, none, 0, rfl, fun _ => rfl⟩, rfl⟩
          | some a =>
            simp only at h
            split at h
            · rename_i hc
              obtain ⟨_, hlc, hcm⟩ := hc
              cases hm : (List.range len).mapM (fun i => (w.cells? 0 (a.add (i * P.cellsOf e)) (P.cellsOf e)).bind (DataW.trod enc P w 0 sp held fuel e)) with
              | none => rw [hm] at h; cases h
              | some elems =>
                obtain ⟨hl, hel⟩ := mapM_some hm
                simp at hl
                by_cases hz : len = 0
                · subst hz
                  exact ⟨_, ⟨[], false, rfl, Nat.zero_le _, by simp⟩, _, [], rfl, .inl ⟨rfl, rfl, some a, cap, rfl, fun h => by cases h⟩, rfl⟩
                · have key : ∀ i, i < len → ∃ l vs, Rd P n e l ∧ RepL (Cn.start w) l vs ∧ vs.length = P.cellsOf e ∧ ∀ j, j < P.cellsOf e → w.cell? ((a.add (i * P.cellsOf e)).add j) = vs[j]? := by
                    intro i hi
                    obtain ⟨b, _, hb⟩ := hel i i (by simp [hi])
                    cases hcs : w.cells? 0 (a.add (i * P.cellsOf e)) (P.cellsOf e) with
                    | none => rw [hcs] at hb; cases hb
                    | some vs =>
                      rw [hcs] at hb
                      obtain ⟨l, h1, h2⟩ := ih e fuel vs b.1 b.2 hs.2 hb
                      obtain ⟨h3, h4⟩ := cells_of hcs
                      exact ⟨l, vs, h1, h2, h3, h4⟩
                  let g : Nat → List AV := fun i => if hi : i < len then (key i hi).choose else []
                  have hg : ∀ i, (hi : i < len) → ∃ vs, Rd P n e (g i) ∧ RepL (Cn.start w) (g i) vs ∧ vs.length = P.cellsOf e ∧ ∀ j, j < P.cellsOf e → w.cell? ((a.add (i * P.cellsOf e)).add j) = vs[j]? := fun i hi => by
                    have := (key i hi).choose_spec
                    simp only [g, dif_pos hi]; exact this
                  let u : Nat → List Value := fun i => if hi : i < len then (hg i hi).choose else []
                  have hu : ∀ i, (hi : i < len) → Rd P n e (g i) ∧ RepL (Cn.start w) (g i) (u i) ∧ (u i).length = P.cellsOf e ∧ ∀ j, j < P.cellsOf e → w.cell? ((a.add (i * P.cellsOf e)).add j) = (u i)[j]? := fun i hi => by
                    have := (hg i hi).choose_spec
                    simp only [u, dif_pos hi]; exact this
                  obtain ⟨B, o, spot⟩ := a
                  have hspot : spot = none := by
                    have h0 := (hu 0 (by omega)).2.2.2 0 hs.1
                    have h1 : (u 0)[0]? ≠ none := by
                      have := (hu 0 (by omega)).2.2.1
                      rw [List.getElem?_eq_getElem (by omega)]; simp
                    rw [← h0] at h1
                    cases spot with
                    | none => rfl
                    | some q => simp [Addr.add, World.cell?] at h1; split at h1 <;> simp at h1
                  subst hspot
                  have hadd : ∀ m k : Nat, ((⟨B, o, none⟩ : Addr).add m).add k = ⟨B, o + (m + k), none⟩ := fun m k => by
                    rw [addr_add, addr_add]; congr 1; omega
                  have hB : B < w.heap.size := by
                    have h0 := (hu 0 (by omega)).2.2.2 0 hs.1
                    have h1 : (u 0)[0]? ≠ none := by
                      have := (hu 0 (by omega)).2.2.1
                      rw [List.getElem?_eq_getElem (by omega)]; simp
                    rw [← h0, hadd] at h1
                    unfold World.cell? at h1
                    cases hb : w.heap[B]? with
                    | none => simp [hb] at h1
                    | some ob => exact lt_of_heap hb
                  refine ⟨_, ⟨(List.range len).map g, false, rfl, by simp; omega, fun xs hx => ?_⟩, _, [], rfl, .inr ⟨B, o, cap, ((List.range len).map u).flatten, hB, ?_, by simp, by simp; exact hlc, (fun h => by cases h), ?_⟩, rfl⟩
                  · simp only [List.mem_map, List.mem_range] at hx
                    obtain ⟨i, hi, rfl⟩ := hx
                    exact (hu i hi).1
                  · intro i hi
                    have hsum : ((List.range len).map u).flatten.length = len * P.cellsOf e := by
                      rw [List.length_flatten, List.map_map]
                      have : (List.range len).map (List.length ∘ u) = List.replicate len (P.cellsOf e) := by
                        rw [List.eq_replicate_iff]
                        refine ⟨by simp, fun b hb => ?_⟩
                        simp only [List.mem_map, List.mem_range, Function.comp_apply] at hb
                        obtain ⟨j, hj, rfl⟩ := hb
                        exact (hu j hj).2.2.1
                      rw [this]; simp
                    rw [hsum] at hi
                    have hd : i / P.cellsOf e < len := (Nat.div_lt_iff_lt_mul hs.1).2 hi
                    have hm : i % P.cellsOf e < P.cellsOf e := Nat.mod_lt _ hs.1
                    have h1 := (hu _ hd).2.2.2 _ hm
                    rw [hadd] at h1
                    rw [List.range_eq_range', flatten_get hs.1 len 0 i (fun j hj _ => (hu j (by omega)).2.2.1) hi, Nat.zero_add, ← h1]
                    congr 2
                    have := Nat.div_add_mod i (P.cellsOf e)
                    rw [Nat.mul_comm] at this
                    omega
                  · refine repL_flatten (by simp) fun i xs vs h1 h2 => ?_
                    simp only [List.getElem?_map] at h1 h2
                    by_cases hi : i < len
                    · simp [hi] at h1 h2
                      subst h1; subst h2
                      exact (hu i hi).2.1
                    · simp [hi] at h1
            · cases h
        | struct fs =>
          simp only [Bool.and_eq_true, beq_iff_eq] at hs
          simp only at h
          have h' : (if cs.length = P.cellsOf t then (fs.toList.mapM fun f => DataW.trod enc P w 0 sp held fuel f.type ((cs.drop f.offset).take (P.cellsOf f.type))).map fun xs => (DataW.agg (xs.map (·.1)), xs.flatMap (·.2)) else none) = some (d, ps) := by
            rcases cs with _ | ⟨v, r⟩
            · exact h
            cases v <;> rcases r with _ | ⟨v2, r⟩ <;> exact h
          split at h'
          · rename_i hlen
            cases hm : (fs.toList.mapM fun f => DataW.trod enc P w 0 sp held fuel f.type ((cs.drop f.offset).take (P.cellsOf f.type))) with
            | none => rw [hm] at h'; cases h'
            | some xs =>
              obtain ⟨l, h1, h2⟩ := read_fields ih fs.toList 0 (P.cellsOf t) cs xs hs.2 hs.1 hlen hm
              exact ⟨l, h1, by simpa using h2⟩
          · cases h'
        | _ => cases hs
end
end Go.Av
