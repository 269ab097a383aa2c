/- A part of the proof: a verified reading of the model by values alone, and what is shown by it. It holds without conditions. -/
import Derived.Calls
namespace Go.Av
open Go

inductive AV where
  | atom (v : Value)
  | ptr (b g off : Nat)
  | cptr (cs : List AV)
  | sl (cs : List AV) (len : Nat) (tight : Bool)
  | slr (b g off len : Nat) (cap : Option Nat) (esz : Nat)
  | map (b : Nat)
  | cmap (ks vs : List AV)
  | fn (f : Fn) (first captured : List AV)
  | iface (t : TypeId) (v : AV)
  | agg (cs : List AV)
  | tuple (vs : List AV)
  | yld (b : Nat)
  | tptr (b g : Nat) (t : TypeId) (n : Nat)
  | slt (b g len : Nat) (e : TypeId)
  | bptr (b g : Nat) (e : TypeId)
  | bnil
  deriving Inhabited

abbrev Env := List (Nat × AV)

inductive AObj where
  | cells (g : Nat) (cs : List AV)
  | map (ks vs : List AV)
  | siter (s : ByteArray) (pos : Nat)
  | loop (st : LoopState) (pend : Option Code) (fn : FuncId) (nt : Nat) (env : Env) (params : Array Tmp) (assign body : Code)
  | dmark
  | dead
  deriving Inhabited

abbrev Heap := List AObj

def hget : Heap → Nat → Option AObj
  | [], _ => none
  | o :: H, b => if b = H.length then some o else hget H b

def hset : Heap → Nat → AObj → Heap
  | [], _, _ => []
  | o :: H, b, x => if b = H.length then x :: H else o :: hset H b x

@[simp] theorem length_hset (H : Heap) (b : Nat) (x : AObj) : (hset H b x).length = H.length := by
  induction H with
  | nil => rfl
  | cons o H ih => simp only [hset]; split <;> simp [ih]

theorem hget_lt {H : Heap} {b : Nat} {o : AObj} (h : hget H b = some o) : b < H.length := by
  induction H with
  | nil => simp [hget] at h
  | cons o' H ih =>
    simp only [hget] at h
    split at h
    · simp_all
    · have := ih h; simp; omega

theorem hget_ge {H : Heap} {b : Nat} (h : H.length ≤ b) : hget H b = none := by
  cases e : hget H b with
  | none => rfl
  | some o => have := hget_lt e; omega

theorem hget_some {H : Heap} {b : Nat} (h : b < H.length) : ∃ o, hget H b = some o := by
  induction H with
  | nil => simp at h
  | cons o' H ih =>
    simp only [hget]
    by_cases e : b = H.length
    · exact ⟨o', by simp [e]⟩
    · obtain ⟨o, ho⟩ := ih (by simp at h; omega)
      exact ⟨o, by simp [e, ho]⟩

theorem hget_hset_same {H : Heap} {b : Nat} {x : AObj} (h : b < H.length) : hget (hset H b x) b = some x := by
  induction H with
  | nil => simp at h
  | cons o' H ih =>
    simp only [hset]
    by_cases e : b = H.length
    · simp [e, hget]
    · have : b < H.length := by simp at h; omega
      simp [e, hget, ih this]

theorem hget_hset_ne {H : Heap} {b b' : Nat} {x : AObj} (h : b' ≠ b) : hget (hset H b x) b' = hget H b' := by
  induction H with
  | nil => rfl
  | cons o' H ih =>
    simp only [hset]
    by_cases e : b = H.length
    · have : b' ≠ H.length := by omega
      simp [e, hget, this]
    · simp only [e, if_false, hget, length_hset, ih]

theorem hget_cons_same (o : AObj) (H : Heap) : hget (o :: H) H.length = some o := by simp [hget]
theorem hget_cons_lt {o : AObj} {H : Heap} {b : Nat} (h : b < H.length) : hget (o :: H) b = hget H b := by
  have : b ≠ H.length := by omega
  simp [hget, this]

/-- Where things lie: an abstract block of a generation: its block and the offset at which it begins; which blocks nobody writes any more; the world. -/
structure Cn where
  m : Nat → Nat → Option (Nat × Nat)
  F : Nat → Prop
  w : World

def Cn.bare (c : Cn) : Cn := { c with m := fun _ _ => none }

def CellsAt (w : World) (B o : Nat) (vs : List Value) : Prop := ∀ i, i < vs.length → w.cell? ⟨B, o + i, none⟩ = vs[i]?

mutual
def Rep : Cn → AV → Value → Prop
  | _, .atom v, x => x = v
  | c, .ptr b g off, x => ∃ B o, c.m b g = some (B, o) ∧ x = .pointer (some ⟨B, o + off, none⟩)
  | c, .cptr cs, x => ∃ B o vs, c.F B ∧ CellsAt c.w B o vs ∧ x = .pointer (some ⟨B, o, none⟩) ∧ RepL c.bare cs vs
  | c, .sl cs len t, x => (cs = [] ∧ len = 0 ∧ ∃ a cap, x = .slice a 0 cap ∧ (t = true → cap = 0)) ∨
      ∃ B o cap vs, c.F B ∧ CellsAt c.w B o vs ∧ x = .slice (some ⟨B, o, none⟩) len cap ∧ len ≤ cap ∧ (t = true → cap = len) ∧ RepL c.bare cs vs
  | c, .slr b g off len cap esz, x => ∃ B o cp, c.m b g = some (B, o) ∧ x = .slice (some ⟨B, o + off, none⟩) len cp ∧ len ≤ cp ∧
      match cap with
      | some k => cp = k
      | none => ∃ e n, c.w.shape? B = some (e, n) ∧ o + off + cp * esz = n
  | c, .map b, x => ∃ B, c.m b 0 = some (B, 0) ∧ x = .map (some B)
  | c, .cmap ks vs, x => ∃ B es cl, c.F B ∧ c.w.heap[B]? = some (.map es cl) ∧ x = .map (some B) ∧
      RepL c.bare ks (es.toList.map (·.key)) ∧ RepL c.bare vs (es.toList.map (·.val))
  | c, .fn f fs cs, x => ∃ ws us, x = .func f ws us ∧ RepL c fs ws.toList ∧ RepL c cs us.toList
  | c, .iface t a, x => ∃ v, x = .iface t v ∧ Rep c a v
  | c, .agg cs, x => ∃ vs, x = .agg vs ∧ RepL c cs vs.toList
  | c, .tuple as, x => ∃ vs, x = .tuple vs ∧ RepL c as vs.toList
  | c, .yld b, x => ∃ B, c.m b 0 = some (B, 0) ∧ x = .func (.yield B) #[] #[]
  | c, .tptr b g t n, x => ∃ B, c.m b g = some (B, 0) ∧ c.w.shape? B = some (t, n) ∧ x = .pointer (some ⟨B, 0, none⟩)
  | c, .slt b g len e, x => ∃ B cp, c.m b g = some (B, 0) ∧ c.w.shape? B = some (e, cp) ∧ x = .slice (some ⟨B, 0, none⟩) len cp ∧ len ≤ cp
  | c, .bptr b g e, x => ∃ B n, c.m b g = some (B, 0) ∧ c.w.shape? B = some (e, n) ∧ x = .pointer (some ⟨B, 0, none⟩)
  | _, .bnil, x => ∃ p, x = .pointer p
def RepL : Cn → List AV → List Value → Prop
  | _, [], vs => vs = []
  | c, a :: as, vs => ∃ v us, vs = v :: us ∧ Rep c a v ∧ RepL c as us
end

structure Ext (c c' : Cn) : Prop where
  m : ∀ b g l, c.m b g = some l → c'.m b g = some l
  F : ∀ B, c.F B → c'.F B
  keep : ∀ B, c.F B → c'.w.heap[B]? = c.w.heap[B]?
  shape : ∀ B p, c.w.shape? B = some p → c'.w.shape? B = some p

theorem Ext.refl (c : Cn) : Ext c c := ⟨fun _ _ _ h => h, fun _ h => h, fun _ _ => rfl, fun _ _ h => h⟩
theorem Ext.trans {a b c : Cn} (h : Ext a b) (h' : Ext b c) : Ext a c :=
  ⟨fun _ _ _ x => h'.m _ _ _ (h.m _ _ _ x), fun _ x => h'.F _ (h.F _ x), fun B x => (h'.keep B (h.F _ x)).trans (h.keep B x), fun _ _ x => h'.shape _ _ (h.shape _ _ x)⟩

theorem cell_of_heap {w w' : World} {a : Addr} (h : w'.heap[a.block]? = w.heap[a.block]?) : w'.cell? a = w.cell? a := by
  simp [World.cell?, h]

theorem CellsAt.keep {w w' : World} {B o : Nat} {vs : List Value} (h : CellsAt w B o vs) (hk : w'.heap[B]? = w.heap[B]?) : CellsAt w' B o vs :=
  fun i hi => (cell_of_heap hk).trans (h i hi)

theorem Ext.bare {c c' : Cn} (h : Ext c c') : Ext c.bare c'.bare := ⟨fun _ _ _ h => by simp [Cn.bare] at h, h.F, h.keep, h.shape⟩
theorem Ext.of_bare (c : Cn) : Ext c.bare c := ⟨fun _ _ _ h => by simp [Cn.bare] at h, fun _ h => h, fun _ _ => rfl, fun _ _ h => h⟩

mutual
theorem Rep.ext {c c' : Cn} (h : Ext c c') : (a : AV) → (x : Value) → Rep c a x → Rep c' a x
  | .atom v, x, hx => hx
  | .ptr b g off, x, hx => by
    obtain ⟨B, o, hm, rfl⟩ := hx
    exact ⟨B, o, h.m _ _ _ hm, rfl⟩
  | .cptr cs, x, hx => by
    obtain ⟨B, o, vs, hF, hc, rfl, hr⟩ := hx
    exact ⟨B, o, vs, h.F _ hF, hc.keep (h.keep _ hF), rfl, RepL.ext h.bare cs vs hr⟩
  | .sl cs len t, x, hx => by
    rcases hx with hx | ⟨B, o, cap, vs, hF, hc, rfl, hl, ht, hr⟩
    · exact Or.inl hx
    · exact Or.inr ⟨B, o, cap, vs, h.F _ hF, hc.keep (h.keep _ hF), rfl, hl, ht, RepL.ext h.bare cs vs hr⟩
  | .slr b g off len cap esz, x, hx => by
    obtain ⟨B, o, cp, hm, rfl, hl, hcap⟩ := hx
    refine ⟨B, o, cp, h.m _ _ _ hm, rfl, hl, ?_⟩
    cases cap with
    | some k => exact hcap
    | none => obtain ⟨e, n, hs, he⟩ := hcap; exact ⟨e, n, h.shape _ _ hs, he⟩
  | .map b, x, hx => by
    obtain ⟨B, hm, rfl⟩ := hx
    exact ⟨B, h.m _ _ _ hm, rfl⟩
  | .cmap ks vs, x, hx => by
    obtain ⟨B, es, cl, hF, hb, rfl, hk, hv⟩ := hx
    exact ⟨B, es, cl, h.F _ hF, (h.keep _ hF).trans hb, rfl, RepL.ext h.bare ks _ hk, RepL.ext h.bare vs _ hv⟩
  | .fn f fs cs, x, hx => by
    obtain ⟨ws, us, rfl, h1, h2⟩ := hx
    exact ⟨ws, us, rfl, RepL.ext h fs _ h1, RepL.ext h cs _ h2⟩
  | .iface t a, x, hx => by
    obtain ⟨v, rfl, hv⟩ := hx
    exact ⟨v, rfl, Rep.ext h a v hv⟩
  | .agg cs, x, hx => by
    obtain ⟨vs, rfl, hv⟩ := hx
    exact ⟨vs, rfl, RepL.ext h cs _ hv⟩
  | .tuple as, x, hx => by
    obtain ⟨vs, rfl, hv⟩ := hx
    exact ⟨vs, rfl, RepL.ext h as _ hv⟩
  | .yld b, x, hx => by
    obtain ⟨B, hm, rfl⟩ := hx
    exact ⟨B, h.m _ _ _ hm, rfl⟩
  | .tptr b g t n, x, hx => by
    obtain ⟨B, hm, hs, rfl⟩ := hx
    exact ⟨B, h.m _ _ _ hm, h.shape _ _ hs, rfl⟩
  | .slt b g len e, x, hx => by
    obtain ⟨B, cp, hm, hs, rfl, hle⟩ := hx
    exact ⟨B, cp, h.m _ _ _ hm, h.shape _ _ hs, rfl, hle⟩
  | .bptr b g e, x, hx => by
    obtain ⟨B, n, hm, hs, rfl⟩ := hx
    exact ⟨B, n, h.m _ _ _ hm, h.shape _ _ hs, rfl⟩
  | .bnil, x, hx => hx
theorem RepL.ext {c c' : Cn} (h : Ext c c') : (as : List AV) → (vs : List Value) → RepL c as vs → RepL c' as vs
  | [], vs, hx => hx
  | a :: as, vs, hx => by
    obtain ⟨v, us, rfl, h1, h2⟩ := hx
    exact ⟨v, us, rfl, Rep.ext h a v h1, RepL.ext h as us h2⟩
end

/-- A pointer of which more is known, as a plain one. -/
def untag : AV → AV
  | .tptr b g _ _ => .ptr b g 0
  | .slt b g len _ => .slr b g 0 len none 1
  | .bptr b g _ => .ptr b g 0
  | a => a

theorem untag_rep {c : Cn} {a : AV} {x : Value} (h : Rep c a x) : Rep c (untag a) x := by
  cases a <;> first | exact h | skip
  · obtain ⟨B, hm, _, rfl⟩ := h
    exact ⟨B, 0, hm, rfl⟩
  · obtain ⟨B, cp, hm, hs, rfl, hle⟩ := h
    exact ⟨B, 0, cp, hm, rfl, hle, _, cp, hs, by simp⟩
  · obtain ⟨B, n, hm, _, rfl⟩ := h
    exact ⟨B, 0, hm, rfl⟩

/-- A slice of which more is known, as a plain one. -/
def untagS : AV → AV
  | .slt b g len _ => .slr b g 0 len none 1
  | a => a

theorem untagS_rep {c : Cn} {a : AV} {x : Value} (h : Rep c a x) : Rep c (untagS a) x := by
  cases a <;> first | exact h | skip
  obtain ⟨B, cp, hm, hs, rfl, hle⟩ := h
  exact ⟨B, 0, cp, hm, rfl, hle, _, cp, hs, by simp⟩

theorem RepL.length {c : Cn} {as : List AV} {vs : List Value} (h : RepL c as vs) : vs.length = as.length := by
  induction as generalizing vs with
  | nil => simp [RepL] at h; simp [h]
  | cons a as ih => obtain ⟨v, us, rfl, _, h2⟩ := h; simp [ih h2]

theorem RepL.get {c : Cn} {as : List AV} {vs : List Value} (h : RepL c as vs) {i : Nat} {a : AV} (ha : as[i]? = some a) :
    ∃ v, vs[i]? = some v ∧ Rep c a v := by
  induction as generalizing vs i with
  | nil => simp at ha
  | cons a' as ih =>
    obtain ⟨v, us, rfl, h1, h2⟩ := h
    cases i with
    | zero => simp at ha; subst ha; exact ⟨v, rfl, h1⟩
    | succ i => simp at ha; obtain ⟨v', hv, hr⟩ := ih h2 ha; exact ⟨v', by simpa using hv, hr⟩

theorem RepL.of_get {c : Cn} {as : List AV} {vs : List Value} (hl : vs.length = as.length)
    (h : ∀ (i : Nat) (a : AV) (v : Value), as[i]? = some a → vs[i]? = some v → Rep c a v) : RepL c as vs := by
  induction as generalizing vs with
  | nil => simpa [RepL] using hl
  | cons a as ih =>
    cases vs with
    | nil => simp at hl
    | cons v us =>
      exact ⟨v, us, rfl, h 0 a v rfl rfl, ih (by simpa using hl) (fun (i : Nat) (a2 : AV) (v2 : Value) ha hv => h (i + 1) a2 v2 (by simpa using ha) (by simpa using hv))⟩

theorem RepL.append {c : Cn} {as bs : List AV} {vs us : List Value} (h : RepL c as vs) (h' : RepL c bs us) : RepL c (as ++ bs) (vs ++ us) := by
  induction as generalizing vs with
  | nil => simp [RepL] at h; subst h; simpa
  | cons a as ih => obtain ⟨v, ws, rfl, h1, h2⟩ := h; exact ⟨v, ws ++ us, rfl, h1, ih h2⟩

theorem RepL.take {c : Cn} {as : List AV} {vs : List Value} (h : RepL c as vs) (n : Nat) : RepL c (as.take n) (vs.take n) := by
  induction as generalizing vs n with
  | nil => simp [RepL] at h; subst h; simp [RepL]
  | cons a as ih =>
    obtain ⟨v, ws, rfl, h1, h2⟩ := h
    cases n with
    | zero => simp [RepL]
    | succ n => exact ⟨v, ws.take n, rfl, h1, ih h2 n⟩

theorem RepL.drop {c : Cn} {as : List AV} {vs : List Value} (h : RepL c as vs) (n : Nat) : RepL c (as.drop n) (vs.drop n) := by
  induction as generalizing vs n with
  | nil => simp [RepL] at h; subst h; simp [RepL]
  | cons a as ih =>
    obtain ⟨v, ws, rfl, h1, h2⟩ := h
    cases n with
    | zero => exact ⟨v, ws, rfl, h1, h2⟩
    | succ n => simpa using ih h2 n

theorem RepL.set {c : Cn} {as : List AV} {vs : List Value} (h : RepL c as vs) (n : Nat) {a : AV} {v : Value} (hv : Rep c a v) :
    RepL c (as.set n a) (vs.set n v) := by
  induction as generalizing vs n with
  | nil => simp [RepL] at h; subst h; simp [RepL]
  | cons a' as ih =>
    obtain ⟨v', ws, rfl, h1, h2⟩ := h
    cases n with
    | zero => exact ⟨v, ws, rfl, hv, h2⟩
    | succ n => exact ⟨v', ws.set n v, rfl, h1, ih h2 n⟩

end Go.Av
