/- A part of the proof: a verified reading of the model by values alone, and what is shown by it. It holds without conditions. -/
import Derived.Test.YtjmgcdbefkojjaaGreatDoorAvPop
namespace Go.Av
open Go

theorem shape_of_heap {w w' : World} {B : Nat} (h : w'.heap[B]? = w.heap[B]?) : w'.shape? B = w.shape? B := by simp [World.shape?, h]
theorem lt_of_shape {w : World} {B : Nat} {p : TypeId × Nat} (hp : w.shape? B = some p) : B < w.heap.size := by
  unfold World.shape? at hp
  cases e1 : w.heap[B]? with
  | none => simp [e1] at hp
  | some o => exact lt_of_heap e1

/-- Behind a call that wrote nothing that was there: as before it, and whatever it made is nobody's to write. -/
def Cn.after (c : Cn) (w' : World) : Cn := { m := c.m, F := fun B => c.F B ∨ (c.w.heap.size ≤ B ∧ B < w'.heap.size), w := w' }

theorem Post.after {base : Nat} {c : Cn} {H : Heap} (h : Inv c H) {w' : World} (hs : c.w.heap.size ≤ w'.heap.size)
    (hw : ∀ B, B < c.w.heap.size → w'.heap[B]? = c.w.heap[B]?) (hout : Same c.w w' := by exact ⟨rfl, rfl, rfl⟩) : Post base c H (c.after w') H := by
  have e : Ext c (c.after w') := ⟨fun _ _ _ h => h, fun _ h => .inl h, fun B hF => hw B (h.inF B hF), fun B p hp => by
    rw [show (c.after w').w = w' from rfl, shape_of_heap (hw B (lt_of_shape hp))]; exact hp⟩
  refine ⟨e, ⟨h.dom, h.gen, ?_, h.inj, ?_, ?_⟩, hs, fun B hB _ => hw B hB, fun B b _ hl => ⟨b, hl⟩, ?_, fun _ _ => rfl, Nat.le_refl _, hout⟩
  · intro b o ho
    by_cases hl : o.live = true
    · exact (h.ok b o ho).ext e fun B off hm => hw B ((h.ok b o ho).inHeap hm hl)
    · cases o <;> simp [AObj.live] at hl
      trivial
  · intro b B hl hF
    have := h.inHeap (c := c) hl
    rcases hF with hF | hF
    · exact h.notF b B hl hF
    · omega
  · intro B hF
    rcases hF with hF | hF
    · have := h.inF B hF; show B < w'.heap.size; omega
    · exact hF.2
  · intro B hB hF
    rcases hF with hF | hF
    · exact .inl hF
    · omega

theorem Post.popPure {base : Nat} {c c' : Cn} {H H' : Heap} (h : Inv c H) (hp : Post H.length c H c' H') {a a' : AV} {x : Value}
    (hf : frz H.length H' a = some a') (hr : Rep c' a x) : ∃ c'', c''.w = c'.w ∧ Post base c H c'' H ∧ Rep c'' a' x := by
  have hw : ∀ B, B < c.w.heap.size → c'.w.heap[B]? = c.w.heap[B]? := fun B hB => hp.frame B hB fun b hb hl => by
    obtain ⟨o, _, ho, _⟩ := hl; have := hget_lt ho; omega
  refine ⟨c.after c'.w, rfl, Post.after h hp.size hw hp.out, ?_⟩
  refine frz_sound (c' := c.after c'.w) hp.inv ?_ rfl ?_ ?_ hf hr
  · intro B hF
    by_cases hB : B < c.w.heap.size
    · rcases hp.ownF B hB hF with hF | ⟨b, hb, o, _, ho, _⟩
      · exact .inl hF
      · have := hget_lt ho; omega
    · exact .inr ⟨by omega, hp.inv.inF B hF⟩
  · intro b B hb hl
    refine .inr ⟨?_, hp.inv.inHeap hl⟩
    by_cases hB : B < c.w.heap.size
    · obtain ⟨b0, hl0⟩ := hp.own B b hB hl
      obtain ⟨o, _, ho, _⟩ := id hl0
      have hb0 := hget_lt ho
      have := hp.inv.inj b b0 B hl (hl0.keep hp.ext (hp.keepH b0 hb0))
      omega
    · omega
  · intro b o l hb ho hl hm
    have ho' : hget H b = some o := by rw [← hp.keepH b hb]; exact ho
    have hok := h.ok b o ho'
    have : ∃ l', c.m b o.gen = some l' := by
      cases o with
      | cells g cs => obtain ⟨B, o, _, _, _, _, h1, _⟩ := hok; exact ⟨_, h1⟩
      | map ks vs => obtain ⟨B, _, _, h1, _⟩ := hok; exact ⟨_, h1⟩
      | siter s p => obtain ⟨B, h1, _⟩ := hok; exact ⟨_, h1⟩
      | loop st pend fn nt env params assign body => obtain ⟨B, _, _, h1, _⟩ := hok; exact ⟨_, h1⟩
      | dmark => obtain ⟨B, h1, _⟩ := hok; exact ⟨_, h1⟩
      | dead => simp [AObj.live] at hl
    obtain ⟨l', hl'⟩ := this
    have := hp.ext.m _ _ _ hl'
    rw [hm] at this; cases this; exact hl'

mutual
def Scoped (n : Nat) : AV → Prop
  | .ptr b _ _ => b < n
  | .slr b _ _ _ _ _ => b < n
  | .map b => b < n
  | .yld b => b < n
  | .tptr b _ _ _ => b < n
  | .slt b _ _ _ => b < n
  | .bptr b _ _ => b < n
  | .bnil => True
  | .fn _ fs cs => ScopedL n fs ∧ ScopedL n cs
  | .iface _ a => Scoped n a
  | .agg cs => ScopedL n cs
  | .tuple cs => ScopedL n cs
  | _ => True
def ScopedL (n : Nat) : List AV → Prop
  | [] => True
  | a :: as => Scoped n a ∧ ScopedL n as
end

mutual
theorem Rep.scp {c : Cn} {n : Nat} (hn : ∀ b g l, c.m b g = some l → b < n) : (a : AV) → (x : Value) → Rep c a x → Scoped n a
  | .atom v, x, h => by simp [Scoped]
  | .ptr b g off, x, h => by obtain ⟨B, o, hm, _⟩ := h; exact hn _ _ _ hm
  | .cptr cs, x, h => by simp [Scoped]
  | .sl cs len t, x, h => by simp [Scoped]
  | .slr b g off len cap esz, x, h => by obtain ⟨B, o, cp, hm, _⟩ := h; exact hn _ _ _ hm
  | .map b, x, h => by obtain ⟨B, hm, _⟩ := h; exact hn _ _ _ hm
  | .cmap ks vs, x, h => by simp [Scoped]
  | .fn f fs cs, x, h => by obtain ⟨ws, us, rfl, h1, h2⟩ := h; exact ⟨RepL.scp hn fs _ h1, RepL.scp hn cs _ h2⟩
  | .iface t a, x, h => by obtain ⟨v, rfl, h1⟩ := h; exact Rep.scp hn a v h1
  | .agg cs, x, h => by obtain ⟨vs, rfl, h1⟩ := h; exact RepL.scp hn cs _ h1
  | .tuple cs, x, h => by obtain ⟨vs, rfl, h1⟩ := h; exact RepL.scp hn cs _ h1
  | .yld b, x, h => by obtain ⟨B, hm, _⟩ := h; exact hn _ _ _ hm
  | .tptr b g t n, x, h => by obtain ⟨B, hm, _⟩ := h; exact hn _ _ _ hm
  | .slt b g l e, x, h => by obtain ⟨B, cp, hm, _⟩ := h; exact hn _ _ _ hm
  | .bptr b g e, x, h => by obtain ⟨B, n, hm, _⟩ := h; exact hn _ _ _ hm
  | .bnil, x, h => trivial
theorem RepL.scp {c : Cn} {n : Nat} (hn : ∀ b g l, c.m b g = some l → b < n) : (as : List AV) → (xs : List Value) → RepL c as xs → ScopedL n as
  | [], xs, h => trivial
  | a :: as, xs, h => by obtain ⟨v, us, rfl, h1, h2⟩ := h; exact ⟨Rep.scp hn a v h1, RepL.scp hn as us h2⟩
end

mutual
theorem Rep.cut {c c' : Cn} {n : Nat} (hm : ∀ b g, b < n → c'.m b g = c.m b g) (hF : ∀ B, c.F B → c'.F B) (hw : c'.w = c.w) :
    (a : AV) → (x : Value) → Rep c a x → Scoped n a → Rep c' a x
  | .atom v, x, h, _ => h
  | .ptr b g off, x, h, hs => by obtain ⟨B, o, h1, rfl⟩ := h; exact ⟨B, o, by rw [hm b g hs]; exact h1, rfl⟩
  | .cptr cs, x, h, _ => by obtain ⟨B, o, vs, h1, h2, rfl, h3⟩ := h; exact ⟨B, o, vs, hF _ h1, hw ▸ h2, rfl, RepL.ext (bareExt hF hw) _ _ h3⟩
  | .sl cs len t, x, h, _ => by
    rcases h with h | ⟨B, o, cap, vs, h1, h2, rfl, h3, h4, h5⟩
    · exact .inl h
    · exact .inr ⟨B, o, cap, vs, hF _ h1, hw ▸ h2, rfl, h3, h4, RepL.ext (bareExt hF hw) _ _ h5⟩
  | .slr b g off len cap esz, x, h, hs => by
    obtain ⟨B, o, cp, h1, rfl, h2, h3⟩ := h
    refine ⟨B, o, cp, by rw [hm b g hs]; exact h1, rfl, h2, ?_⟩
    cases cap with
    | some k => exact h3
    | none => simpa [hw] using h3
  | .map b, x, h, hs => by obtain ⟨B, h1, rfl⟩ := h; exact ⟨B, by rw [hm b 0 hs]; exact h1, rfl⟩
  | .cmap ks vs, x, h, _ => by
    obtain ⟨B, es, cl, h1, h2, rfl, h3, h4⟩ := h
    exact ⟨B, es, cl, hF _ h1, by rw [hw]; exact h2, rfl, RepL.ext (bareExt hF hw) _ _ h3, RepL.ext (bareExt hF hw) _ _ h4⟩
  | .fn f fs cs, x, h, hs => by obtain ⟨ws, us, rfl, h1, h2⟩ := h; exact ⟨ws, us, rfl, RepL.cut hm hF hw fs _ h1 hs.1, RepL.cut hm hF hw cs _ h2 hs.2⟩
  | .iface t a, x, h, hs => by obtain ⟨v, rfl, h1⟩ := h; exact ⟨v, rfl, Rep.cut hm hF hw a v h1 hs⟩
  | .agg cs, x, h, hs => by obtain ⟨vs, rfl, h1⟩ := h; exact ⟨vs, rfl, RepL.cut hm hF hw cs _ h1 hs⟩
  | .tuple cs, x, h, hs => by obtain ⟨vs, rfl, h1⟩ := h; exact ⟨vs, rfl, RepL.cut hm hF hw cs _ h1 hs⟩
  | .yld b, x, h, hs => by obtain ⟨B, h1, rfl⟩ := h; exact ⟨B, by rw [hm b 0 hs]; exact h1, rfl⟩
  | .tptr b g t n, x, h, hs => by obtain ⟨B, h1, h2, rfl⟩ := h; exact ⟨B, by rw [hm b g hs]; exact h1, by rw [hw]; exact h2, rfl⟩
  | .slt b g l e, x, h, hs => by obtain ⟨B, cp, h1, h2, rfl, h3⟩ := h; exact ⟨B, cp, by rw [hm b g hs]; exact h1, by rw [hw]; exact h2, rfl, h3⟩
  | .bptr b g e, x, h, hs => by obtain ⟨B, n, h1, h2, rfl⟩ := h; exact ⟨B, n, by rw [hm b g hs]; exact h1, by rw [hw]; exact h2, rfl⟩
  | .bnil, x, h, _ => h
theorem RepL.cut {c c' : Cn} {n : Nat} (hm : ∀ b g, b < n → c'.m b g = c.m b g) (hF : ∀ B, c.F B → c'.F B) (hw : c'.w = c.w) :
    (as : List AV) → (xs : List Value) → RepL c as xs → ScopedL n as → RepL c' as xs
  | [], xs, h, _ => h
  | a :: as, xs, h, hs => by obtain ⟨v, us, rfl, h1, h2⟩ := h; exact ⟨v, us, rfl, Rep.cut hm hF hw a v h1 hs.1, RepL.cut hm hF hw as us h2 hs.2⟩
end

def ScopedObj (n : Nat) : AObj → Prop
  | .cells _ cs => ScopedL n cs
  | .map ks vs => ScopedL n ks ∧ ScopedL n vs
  | .loop _ _ _ _ env _ _ _ => ∀ t a, eget env t = some a → Scoped n a
  | _ => True

theorem ObjOK.scp {c : Cn} {n b : Nat} (hn : ∀ b g l, c.m b g = some l → b < n) {o : AObj} (h : ObjOK c b o) : ScopedObj n o := by
  cases o with
  | cells g cs => obtain ⟨_, _, vs, _, _, _, _, _, _, _, _, hr⟩ := h; exact RepL.scp hn cs vs hr
  | map ks vs => obtain ⟨_, _, _, _, _, h1, h2⟩ := h; exact ⟨RepL.scp hn _ _ h1, RepL.scp hn _ _ h2⟩
  | siter s p => trivial
  | loop st pend fn nt env params assign body =>
    obtain ⟨_, tmps, _, _, _, he, _⟩ := h
    intro t a ha
    obtain ⟨v, _, hr⟩ := he t a ha
    exact Rep.scp hn a v hr
  | dmark => trivial
  | dead => trivial

theorem ObjOK.cut {c c' : Cn} {n b : Nat} (hm : ∀ b g, b < n → c'.m b g = c.m b g) (hF : ∀ B, c.F B → c'.F B) (hw : c'.w = c.w) (hb : b < n) {o : AObj} (h : ObjOK c b o)
    (hs : ScopedObj n o) : ObjOK c' b o := by
  cases o with
  | cells g cs =>
    obtain ⟨B, o, vs, cells, elem, fz, h1, h2, h3, h4, h5, hr⟩ := h
    exact ⟨B, o, vs, cells, elem, fz, by rw [hm b g hb]; exact h1, by rw [hw]; exact h2, h3, h4, h5, RepL.cut hm hF hw cs vs hr hs⟩
  | map ks vs =>
    obtain ⟨B, es, cl, h1, h2, h3, h4⟩ := h
    exact ⟨B, es, cl, by rw [hm b 0 hb]; exact h1, by rw [hw]; exact h2, RepL.cut hm hF hw _ _ h3 hs.1, RepL.cut hm hF hw _ _ h4 hs.2⟩
  | siter s p => obtain ⟨B, h1, h2⟩ := h; exact ⟨B, by rw [hm b 0 hb]; exact h1, by rw [hw]; exact h2⟩
  | loop st pend fn nt env params assign body =>
    obtain ⟨B, tmps, ds, h1, h2, he, hsz⟩ := h
    refine ⟨B, tmps, ds, by rw [hm b 0 hb]; exact h1, by rw [hw]; exact h2, ?_, hsz⟩
    intro t a ha
    obtain ⟨v, hv, hr⟩ := he t a ha
    exact ⟨v, hv, Rep.cut hm hF hw a v hr (hs t a ha)⟩
  | dmark => obtain ⟨B, h1, h2⟩ := h; exact ⟨B, by rw [hm b 0 hb]; exact h1, by rw [hw]; exact h2⟩
  | dead => trivial

theorem hget_drop {H : Heap} {n b : Nat} (hb : b < n) : hget (H.drop (H.length - n)) b = hget H b := by
  induction H with
  | nil => simp
  | cons o H ih =>
    by_cases e : n ≤ H.length
    · have : (o :: H).length - n = (H.length - n) + 1 := by simp; omega
      rw [this, List.drop_succ_cons, ih]
      have : b ≠ H.length := by omega
      simp [hget, this]
    · have : (o :: H).length - n = 0 := by simp; omega
      rw [this, List.drop_zero]

/-- What a call may leave in the blocks that were there: values that name none of its own. -/
def PopOK (H H' : Heap) : Prop := ∀ b, b < H.length → hget H' b = hget H b ∨ ∃ o, hget H' b = some o ∧ ScopedObj H.length o

theorem Post.popMut {base : Nat} {c c' : Cn} {H H' : Heap} (h : Inv c H) (hbase : base ≤ H.length) (hp : Post base c H c' H') (hok : PopOK H H') {a a' : AV} {x : Value}
    (hf : frz H.length H' a = some a') (hr : Rep c' a x) : ∃ c'', c''.w = c'.w ∧ Post base c H c'' (H'.drop (H'.length - H.length)) ∧ Rep c'' a' x := by
  let K := H'.drop (H'.length - H.length)
  have hK : K.length = H.length := by have := hp.len; simp [K]; omega
  have hg : ∀ b, b < H.length → hget K b = hget H' b := fun b hb => hget_drop hb
  have hlt : ∀ {b o}, hget K b = some o → b < H.length := fun ho => hK ▸ hget_lt ho
  let c'' : Cn := { m := fun b g => if b < H.length then c'.m b g else none, F := fun B => c'.F B ∨ ∃ b, H.length ≤ b ∧ LiveAt c' H' b B, w := c'.w }
  have hm : ∀ b g, b < H.length → c''.m b g = c'.m b g := fun b g hb => by simp [c'', hb]
  have hF : ∀ B, c'.F B → c''.F B := fun _ h => .inl h
  have hlv : ∀ b B, LiveAt c'' K b B → b < H.length ∧ LiveAt c' H' b B := by
    rintro b B ⟨o, off, h1, h2, h3⟩
    have hb := hlt h1
    exact ⟨hb, o, off, by rw [← hg b hb]; exact h1, h2, by rw [← hm b _ hb]; exact h3⟩
  refine ⟨c'', rfl, ⟨⟨?_, fun B hB => hF B (hp.ext.F B hB), hp.ext.keep, hp.ext.shape⟩, ⟨?_, ?_, ?_, ?_, ?_, ?_⟩, hp.size, hp.frame, ?_, ?_, ?_, by rw [hK]; exact Nat.le_refl _, hp.out⟩, ?_⟩
  · intro b g l hb
    have := h.dom b g l hb
    rw [hm b g this]; exact hp.ext.m b g l hb
  · intro b g l hb
    by_cases e : b < H.length
    · rw [hK]; exact e
    · simp [c'', e] at hb
  · intro b o g l h1 h2 h3
    have hb := hlt h1
    exact hp.inv.gen b o g l (by rw [← hg b hb]; exact h1) h2 (by rw [← hm b g hb]; exact h3)
  · intro b o h1
    have hb := hlt h1
    have h2 : hget H' b = some o := by rw [← hg b hb]; exact h1
    refine (hp.inv.ok b o h2).cut hm hF rfl hb ?_
    rcases hok b hb with e | ⟨o', e, hs⟩
    · exact (h.ok b o (by rw [← e]; exact h2)).scp h.dom
    · rw [h2] at e; cases e; exact hs
  · intro b b' B h1 h2
    exact hp.inv.inj b b' B (hlv _ _ h1).2 (hlv _ _ h2).2
  · intro b B h1 hF
    obtain ⟨hb, hl⟩ := hlv _ _ h1
    rcases hF with hF | ⟨b2, hb2, hl2⟩
    · exact hp.inv.notF b B hl hF
    · have := hp.inv.inj b b2 B hl hl2; omega
  · rintro B (hF | ⟨b2, hb2, hl2⟩)
    · exact hp.inv.inF B hF
    · exact hp.inv.inHeap hl2
  · intro B b hB hl
    exact hp.own B b hB (hlv _ _ hl).2
  · rintro B hB (hF | ⟨b2, hb2, hl2⟩)
    · exact hp.ownF B hB hF
    · obtain ⟨b0, hl0⟩ := hp.own B b2 hB hl2
      by_cases hb0 : base ≤ b0
      · exact .inr ⟨b0, hb0, hl0⟩
      · have := hp.inv.inj b2 b0 B hl2 (hl0.keep hp.ext (hp.keepH b0 (by omega)))
        omega
  · intro b hb
    rw [hg b (by omega)]; exact hp.keepH b hb
  · refine frz_sound hp.inv hF rfl (fun b B hb hl => .inr ⟨b, hb, hl⟩) ?_ hf hr
    intro b o l hb ho hl hm'
    rw [hm b _ hb]; exact hm'

end Go.Av
