/- A part of the proof: a verified reading of the model by values alone, and what is shown by it. It holds without conditions. -/
import Derived.Test.YtjmgcdbefkojjaaGreatDoorAvSum
namespace Go.Av
open Go

mutual
/-- What is told by value alone: no block of ours is in it. -/
def byV : AV → Bool
  | .atom _ | .cptr _ | .sl _ _ _ | .cmap _ _ | .bnil => true
  | .fn _ fs cs => byVL fs && byVL cs
  | .iface _ a => byV a
  | .agg cs => byVL cs
  | .tuple cs => byVL cs
  | _ => false
def byVL : List AV → Bool
  | [] => true
  | a :: as => byV a && byVL as
end

mutual
theorem Rep.byV {c c' : Cn} (hF : ∀ B, c.F B → c'.F B) (hw : c'.w = c.w) : (a : AV) → (x : Value) → byV a = true → Rep c a x → Rep c' a x
  | .atom _, _, _, h => h
  | .cptr cs, x, _, h => by
    obtain ⟨B, o, vs, hB, hc, rfl, hr⟩ := h
    exact ⟨B, o, vs, hF _ hB, hw ▸ hc, rfl, RepL.ext (bareExt hF hw) cs vs hr⟩
  | .sl cs len t, x, _, h => by
    rcases h with h | ⟨B, o, cap, vs, hB, hc, rfl, hl, ht, hr⟩
    · exact .inl h
    · exact .inr ⟨B, o, cap, vs, hF _ hB, hw ▸ hc, rfl, hl, ht, RepL.ext (bareExt hF hw) cs vs hr⟩
  | .cmap ks vs, x, _, h => by
    obtain ⟨B, es, cl, hB, hb, rfl, hk, hv⟩ := h
    exact ⟨B, es, cl, hF _ hB, hw ▸ hb, rfl, RepL.ext (bareExt hF hw) ks _ hk, RepL.ext (bareExt hF hw) vs _ hv⟩
  | .bnil, _, _, h => h
  | .fn f fs cs, x, hb, h => by
    simp only [Go.Av.byV, Bool.and_eq_true] at hb
    obtain ⟨ws, us, rfl, h1, h2⟩ := h
    exact ⟨ws, us, rfl, RepL.byV hF hw fs _ hb.1 h1, RepL.byV hF hw cs _ hb.2 h2⟩
  | .iface t a, x, hb, h => by
    obtain ⟨v, rfl, hv⟩ := h
    exact ⟨v, rfl, Rep.byV hF hw a v hb hv⟩
  | .agg cs, x, hb, h => by
    obtain ⟨vs, rfl, hv⟩ := h
    exact ⟨vs, rfl, RepL.byV hF hw cs _ hb hv⟩
  | .tuple cs, x, hb, h => by
    obtain ⟨vs, rfl, hv⟩ := h
    exact ⟨vs, rfl, RepL.byV hF hw cs _ hb hv⟩
theorem RepL.byV {c c' : Cn} (hF : ∀ B, c.F B → c'.F B) (hw : c'.w = c.w) : (as : List AV) → (xs : List Value) → byVL as = true → RepL c as xs → RepL c' as xs
  | [], _, _, h => h
  | a :: as, xs, hb, h => by
    simp only [Go.Av.byVL, Bool.and_eq_true] at hb
    obtain ⟨v, us, rfl, h1, h2⟩ := h
    exact ⟨v, us, rfl, Rep.byV hF hw a v hb.1 h1, RepL.byV hF hw as us hb.2 h2⟩
end

theorem not_live_nil {c : Cn} {b B : Nat} (h : LiveAt c [] b B) : False := by
  obtain ⟨o, off, h1, _⟩ := h
  simp [hget] at h1

theorem Inv.bareNil {c : Cn} {H : Heap} (h : Inv c H) : Inv c.bare [] where
  dom := fun b g l hm => by simp [Cn.bare] at hm
  gen := fun b o g l ho => by simp [hget] at ho
  ok := fun b o ho => by simp [hget] at ho
  inj := fun b b' B hl => (not_live_nil hl).elim
  notF := fun b B hl => (not_live_nil hl).elim
  inF := fun B hB => h.inF B hB

/-- What a call does with values alone, it does in any memory. -/
theorem task_frame {Γ : Par} {f : FuncId} {args : List AV} {r : AV} (h : TaskOK Γ (.call f 0 args []) (r, [])) (ha : byVL args = true) (hr : byV r = true)
    (base : Nat) (H : Heap) : TaskOK Γ (.call f base args H) (r, H) := by
  intro c vs hI hG hargs hb
  have hw : ∀ B, c.F B → c.bare.F B := fun _ h => h
  obtain ⟨c', v, hp, hrv, hc⟩ := h c.bare vs hI.bareNil (fun g cs hg => by
    obtain ⟨vs, h1, h2, h3⟩ := hG g cs hg
    exact ⟨vs, h1, h2, h3⟩) (RepL.byV hw rfl args _ ha hargs) (Nat.le_refl _)
  have hfr : ∀ B, B < c.w.heap.size → c'.w.heap[B]? = c.w.heap[B]? := fun B hB => hp.frame B hB fun b _ hl => not_live_nil hl
  refine ⟨c.after c'.w, v, Post.after hI hp.size hfr hp.out, ?_, hc⟩
  refine Rep.byV (c := c') (c' := c.after c'.w) ?_ rfl r v hr hrv
  intro B hF
  by_cases hB : B < c.w.heap.size
  · rcases hp.ownF B hB hF with hF | ⟨b, _, hl⟩
    · exact .inl hF
    · exact (not_live_nil hl).elim
  · exact .inr ⟨by omega, hp.inv.inF B hF⟩

/-- A table of closed calls. -/
abbrev Tab := List (FuncId × List AV × AV)

def tabFind : Tab → FuncId → List AV → Option AV
  | [], _, _ => none
  | (g, as, r) :: l, f, args => if g == f && beqL as args then some r else tabFind l f args

def Par.tab (Γ : Par) (l : Tab) : Par := { Γ with S := fun f base args H => match tabFind l f args with
  | some r => some (r, H)
  | none => Γ.S f base args H }

theorem task_tab {Γ : Par} {l : Tab} {t : Task} {r : Res} : TaskOK (Γ.tab l) t r ↔ TaskOK Γ t r := by
  cases t <;> exact Iff.rfl

theorem sumOK_nil {Γ : Par} (h : SumOK Γ) : SumOK (Γ.tab []) := fun f base args H r hr => h f base args H r (by simpa [Par.tab, tabFind] using hr)

theorem sumOK_cons {Γ : Par} {l : Tab} {f : FuncId} {args : List AV} {r : AV} (hl : SumOK (Γ.tab l)) (h : TaskOK Γ (.call f 0 args []) (r, [])) (hb : (byVL args && byV r) = true) :
    SumOK (Γ.tab ((f, args, r) :: l)) := by
  simp only [Bool.and_eq_true] at hb
  intro f' base args' H r' hr'
  simp only [Par.tab, tabFind] at hr'
  split at hr'
  · rename_i r1 h1
    split at h1
    · rename_i hq
      cases h1
      cases hr'
      simp only [Bool.and_eq_true, beq_iff_eq] at hq
      obtain ⟨rfl, hq⟩ := hq
      have := beqL_eq _ _ hq
      subst this
      exact task_frame h hb.1 hb.2 base H
    · exact hl f' base args' H r' (by simp [Par.tab, h1, hr'])
  · rename_i h1
    split at h1
    · cases h1
    · exact hl f' base args' H r' (by simp [Par.tab, h1, hr'])

theorem tab_pure {Γ : Par} (h : ∀ f base args H r, Γ.S f base args H = some r → r.2 = H) {l : Tab} : ∀ f base args H r, (Γ.tab l).S f base args H = some r → r.2 = H := by
  intro f base args H r hr
  simp only [Par.tab] at hr
  split at hr
  · cases hr; rfl
  · exact h f base args H r hr

/-- One more closed call, by a run of the kernel. -/
theorem task_run {Γ : Par} {l : Tab} (hl : SumOK (Γ.tab l)) (hfn : ∀ f y, Γ.fn f = some y → fnOf Γ.P f = some y) (hmx : Γ.P.follows .mixedOrders = true)
    (hp : ∀ f base args H r, Γ.S f base args H = some r → r.2 = H) {n : Nat} {t : Task} {r : Res} (h : E (Γ.tab l) n t = some r) : TaskOK Γ t r :=
  task_tab.1 (all_ok (Γ := Γ.tab l) hl hfn hmx (fun f base args H r hr _ => tab_pure hp f base args H r hr) n t r h)

end Go.Av
