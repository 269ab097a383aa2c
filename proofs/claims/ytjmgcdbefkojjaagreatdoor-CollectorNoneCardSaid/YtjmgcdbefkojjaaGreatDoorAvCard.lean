/- A part of the proof: a verified reading of the model by values alone, and what is shown by it. It holds without conditions. -/
import Derived.Test.YtjmgcdbefkojjaaGreatDoorAvRead
import Derived.ProofKit
import Derived.OpenShut
import Derived.LaidMore
import Derived.Lay
import Derived.SevenTiedAt
import Derived.Stop.Joined
namespace Go.Av
open Go Go.RowKit Go.ChangeShapes Go.WideShapes

/-- A law that has been carried out here, as the kit's contract. -/
theorem law_calls {Γ : Par} {f : FuncId} {fn : Func} {cd : Code} (hfn : fnOf Γ.P f = some (fn, cd)) {args : List AV} {vs : Array Value} {W : World} {v : Value}
    (h : TaskOK Γ (.call f 0 args []) (.atom v, [])) (hG : GlobOK Γ.G (Cn.start W)) (ha : RepL (Cn.start W) args vs.toList) :
    Calls Γ.P f vs W fun e w' => e = .returned v ∧ Below W.heap.size W w' := by
  obtain ⟨c', x, hp, hx, hc⟩ := calls_of_task h hfn (Inv.start W) hG ha (Nat.le_refl _)
  refine hc.mono fun e w' ⟨he, hw⟩ => ?_
  cases hx
  subst hw
  exact ⟨he, hp.out.1, hp.out.2.2, hp.out.2.1, hp.size, fun k hk => hp.frame k hk fun b _ hl => not_live_nil hl⟩

section
variable {H : Type} {enc : TypeId × Value → H} {P : Program}

theorem trodAll_below (hl : laidOutB P = true) {W W' : World} (hb : Below W.heap.size W W') : ∀ (ts : List TypeId) (vs : List Value) (ds : List (DataW H)) (ps : List MemPlace), (ts.all fun t => P.readableRec t && decide (t < P.types.size)) = true →
    DataW.TrodAll enc P W 0 (fun _ => true) true ts vs ds ps → (∀ x ∈ ps, x.block < W.heap.size) → DataW.TrodAll enc P W' 0 (fun b => decide (b < W.heap.size)) true ts vs ds ps
  | [], [], [], ps, _, h, _ => h
  | t :: ts, v :: vs, d :: ds, ps, hts, h, hlt => by
    simp only [List.all_cons, Bool.and_eq_true, decide_eq_true_eq] at hts
    obtain ⟨p, q, h1, h2, rfl⟩ := h
    exact ⟨p, q, Below.trod hl hts.1.1 hts.1.2 h1 hb (fun x hx => hlt x (List.mem_append_left _ hx)), trodAll_below hl hb ts vs ds q hts.2 h2 (fun x hx => hlt x (List.mem_append_right _ hx)), rfl⟩
  | [], _ :: _, _, _, _, h, _ => h.elim
  | [], [], _ :: _, _, _, h, _ => h.elim
  | _ :: _, [], _, _, _, h, _ => h.elim
  | _ :: _, _ :: _, [], _, _, h, _ => h.elim

theorem arg_agg {t n : Nat} {fs : Array Field} {W : World} {v : Value} {d : DataW H} {p : List MemPlace} {sp : Nat → Bool} {held : Bool} {r : Reach} {b : Nat} (hu : P.underlying t = some (.struct fs)) (hs : simpleT P n t = true)
    (hok : Value.okWide P W r b t v) (h : DataW.Trod enc P W 0 sp held t v d p) : ∃ l, Rd P n t l ∧ Rep (Cn.start W) (.agg l) v := by
  unfold Value.okWide at hok
  rw [hu] at hok
  obtain ⟨cs, rfl, _⟩ := hok
  obtain ⟨fuel, h⟩ := h
  obtain ⟨l, h1, h2⟩ := read_all n t fuel _ d p hs h
  exact ⟨l, h1, cs, rfl, h2⟩

theorem arg_str {t : Nat} {W : World} {v : Value} {d : DataW H} {p : List MemPlace} {sp : Nat → Bool} {held : Bool} {r : Reach} {b : Nat} (hu : P.underlying t = some .string)
    (hok : Value.okWide P W r b t v) (h : DataW.Trod enc P W 0 sp held t v d p) : ∃ s, v = .string s ∧ s.size ≤ maxLen := by
  unfold Value.okWide at hok
  rw [hu] at hok
  simp only at hok
  unfold Cell.okWide at hok
  rw [hu] at hok
  cases v <;> simp [Cell.ok, hu] at hok
  rename_i s
  obtain ⟨fuel, h⟩ := h
  obtain ⟨l, h1, h2⟩ := read_all 1 t fuel _ d p (by simp [simpleT, hu]) h
  unfold Rd at h1
  rw [hu] at h1
  obtain ⟨s', rfl, hs⟩ := h1
  obtain ⟨v', us, he, hr, _⟩ := h2
  simp [Value.cells] at he
  cases hr
  cases he.1
  exact ⟨_, rfl, hs⟩

theorem arg_int {t : Nat} {k : IntKind} {W : World} {v : Value} {d : DataW H} {p : List MemPlace} {sp : Nat → Bool} {held : Bool} {r : Reach} {b : Nat} (hu : P.underlying t = some (.int k))
    (hok : Value.okWide P W r b t v) (h : DataW.Trod enc P W 0 sp held t v d p) : ∃ m, v = .int k m ∧ (Lit.int k m).wf = true := by
  unfold Value.okWide at hok
  rw [hu] at hok
  simp only at hok
  unfold Cell.okWide at hok
  rw [hu] at hok
  cases v <;> simp [Cell.ok, hu] at hok
  rename_i k' m
  obtain ⟨fuel, h⟩ := h
  obtain ⟨l, h1, h2⟩ := read_all 1 t fuel _ d p (by simp [simpleT, hu]) h
  unfold Rd at h1
  rw [hu] at h1
  obtain ⟨m', rfl, hs⟩ := h1
  obtain ⟨v', us, he, hr, _⟩ := h2
  simp [Value.cells] at he
  cases hr
  cases he.1
  exact ⟨_, rfl, hs⟩

theorem arg_slice {t n e : Nat} {W : World} {v : Value} {d : DataW H} {p : List MemPlace} {sp : Nat → Bool} {held : Bool} {r : Reach} {b : Nat} (hu : P.underlying t = some (.slice e)) (hs : simpleT P n t = true)
    (hok : Value.okWide P W r b t v) (h : DataW.Trod enc P W 0 sp held t v d p) : ∃ a, Rd P n t [a] ∧ Rep (Cn.start W) a v := by
  unfold Value.okWide at hok
  rw [hu] at hok
  simp only at hok
  unfold Cell.okWide at hok
  rw [hu] at hok
  cases v <;> simp [Cell.ok, hu] at hok
  obtain ⟨fuel, h⟩ := h
  obtain ⟨l, h1, h2⟩ := read_all n t fuel _ d p hs h
  cases l with
  | nil => simp [RepL, Value.cells] at h2
  | cons a l =>
    obtain ⟨v', us, he, hr, h3⟩ := h2
    simp [Value.cells] at he
    obtain ⟨rfl, rfl⟩ := he
    have : l = [] := by cases l with
      | nil => rfl
      | cons b l => obtain ⟨_, _, h, _⟩ := h3; cases h
    subst this
    exact ⟨a, h1, hr⟩

theorem Rd_int {t n : Nat} {k : IntKind} (h : P.underlying t = some (.int k)) {l : List AV} : Rd P (n + 1) t l = ∃ m, l = [.atom (.int k m)] ∧ (Lit.int k m).wf = true := by unfold Rd; rw [h]
theorem Rd_bool {t n : Nat} (h : P.underlying t = some .bool) {l : List AV} : Rd P (n + 1) t l = ∃ b, l = [.atom (.bool b)] := by unfold Rd; rw [h]
theorem Rd_str {t n : Nat} (h : P.underlying t = some .string) {l : List AV} : Rd P (n + 1) t l = ∃ s, l = [.atom (.string s)] ∧ s.size ≤ maxLen := by unfold Rd; rw [h]
theorem Rd_slice {t n e : Nat} (h : P.underlying t = some (.slice e)) {l : List AV} : Rd P (n + 1) t l = ∃ (xss : List (List AV)) (tt : Bool), l = [.sl xss.flatten xss.length tt] ∧ (xss.length ≤ maxLen) ∧ ∀ xs ∈ xss, Rd P n e xs := by conv => lhs; unfold Rd; rw [h]
theorem Rd_struct {t n : Nat} {fs : Array Field} (h : P.underlying t = some (.struct fs)) {l : List AV} : Rd P (n + 1) t l = RdF P n (fs.toList.map (·.type)) l := by conv => lhs; unfold Rd; rw [h]
theorem RdF_nil {n : Nat} {l : List AV} : RdF P n [] l = (l = []) := by unfold RdF; rfl
theorem RdF_cons {n t : Nat} {ts : List TypeId} {l : List AV} : RdF P n (t :: ts) l = ∃ a b, l = a ++ b ∧ Rd P n t a ∧ RdF P n ts b := by conv => lhs; unfold RdF
end
end Go.Av
