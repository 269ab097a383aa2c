/- A part of the proof: a verified reading of the model by values alone, and what is shown by it. It holds without conditions. -/
import Derived.Test.YtjmgcdbefkojjaaGreatDoorAvStep
namespace Go.Av
open Go

theorem pureVal {P : Program} {base : Nat} {c : Cn} {H : Heap} (hI : Inv c H) {r : Option AV} {x : Value} {out : Out} (h : optV r H = some out) (hr : ∀ a, r = some a → Rep c a x) :
    StepOK P base c H (pure (.value x)) out := by
  unfold optV at h
  split at h
  · rename_i a
    cases h
    exact ⟨x, c, .inl rfl, Post.refl hI, hr a rfl⟩
  · cases h

theorem callBuiltin_ok {P : Program} {base : Nat} {c : Cn} {H : Heap} (hI : Inv c H) (hbase : base ≤ H.length) {b : Builtin} {argTypes : Array TypeId} {type : TypeId} {consts : Array Bool}
    {args : List AV} {vs : List Value} {out : Out} (h : optVH (aBuiltin P base H b argTypes.toList type args) = some out) (hr : RepL c args vs) :
    StepOK P base c H (builtin b argTypes type consts vs.toArray) out := by
  have hat : argTypes = argTypes.toList.toArray := by simp
  generalize argTypes.toList = ts at *
  subst hat
  unfold aBuiltin at h
  split at h
  · obtain ⟨v1, us, rfl, h1, v2, us2, rfl, h2, hn⟩ := hr
    simp only [RepL] at hn; subst hn
    exact optVH_ok h fun a H' e => aAppendB_ok hI e h1 (untagS_rep h2)
  · obtain ⟨v1, us, rfl, h1, v2, us2, rfl, h2, hn⟩ := hr
    simp only [RepL] at hn; subst hn
    exact optVH_ok h fun a H' e => aAppend_ok hI hbase e h1 (untagS_rep h2)
  · obtain ⟨v1, us, rfl, h1, v2, us2, rfl, h2, hn⟩ := hr
    simp only [RepL] at hn; subst hn
    exact optVH_ok h fun a H' e => aCopy_ok hI e (untagS_rep h1) (untagS_rep h2)
  · obtain ⟨v1, us, rfl, h1, hn⟩ := hr
    simp only [RepL] at hn; subst hn
    exact optVH_ok h fun a H' e => aClear_ok hI e (untagS_rep h1)
  · obtain ⟨v1, us, rfl, h1, hn⟩ := hr
    simp only [RepL] at hn; subst hn
    refine optVH_ok h fun a H' e => ?_
    split at e
    · rename_i r hr'
      cases e
      exact aSliceData_ok hI hr' h1
    · cases e
  · obtain ⟨v1, us, rfl, h1, v2, us2, rfl, h2, hn⟩ := hr
    simp only [RepL] at hn; subst hn
    exact optVH_ok h fun a H' e => aUStr_ok hI e h1 h2
  · obtain ⟨v1, us, rfl, h1, hn⟩ := hr
    simp only [RepL] at hn; subst hn
    refine optVH_ok h fun a H' e => ?_
    split at e
    · rename_i r hr'
      cases e
      exact aLen_ok hI hr' (untagS_rep h1)
    · cases e
  · refine optVH_ok h fun a H' e => ?_
    split at e
    · rename_i vs' hv
      have := toVL_ok hv hr
      subst this
      split at e
      · rename_i r hr'
        cases e
        exact .pure hI hr'
      · cases e
    · cases e
  · refine optVH_ok h fun a H' e => ?_
    split at e
    · rename_i vs' hv
      have := toVL_ok hv hr
      subst this
      split at e
      · rename_i r hr'
        cases e
        exact .pure hI hr'
      · cases e
    · cases e
  · simp [optVH] at h

theorem aSliceS_ok {P : Program} {base : Nat} {c : Cn} {H : Heap} (hI : Inv c H) {t : TypeId} {a r : AV} {x : Value} {lo hi mx : Option AV} {lo' hi' mx' : Option Value}
    (h : aSliceS P t a lo hi mx = some r) (hr : Rep c a x) (h1 : OptRep c lo lo') (h2 : OptRep c hi hi') (h3 : OptRep c mx mx') :
    OpOK P base c H (Instr.sliceAt t x lo' hi' mx') r H := by
  unfold aSliceS at h
  split at h
  · rename_i s
    cases hr
    split at h
    · rename_i l hh e1 e2
      simp only [OptRep] at h3
      subst h3
      split at h
      · rename_i r' hr'
        cases h
        have el : lo' = l := by
          cases lo with
          | none => simp only [OptRep] at h1; simp at e1; rw [h1, ← e1]
          | some a =>
            obtain ⟨v, rfl, hv⟩ := h1
            simp at e1
            obtain ⟨v', hv', rfl⟩ := e1
            rw [toV_eq a v' v hv' hv]
        have eh : hi' = hh := by
          cases hi with
          | none => simp only [OptRep] at h2; simp at e2; rw [h2, ← e2]
          | some a =>
            obtain ⟨v, rfl, hv⟩ := h2
            simp at e2
            obtain ⟨v', hv', rfl⟩ := e2
            rw [toV_eq a v' v hv' hv]
        subst el; subst eh
        exact .pure hI hr'
      · cases h
    · cases h
  · exact aSlice_ok hI h hr h1 h2 h3

theorem aStep_ok {Γ : Ctx} {base : Nat} {c : Cn} {H : Heap} {env : Env} {ρ : Operand → Value} (hI : Inv c H) (hρ : RhoOK Γ.G c env ρ) (hρc : ∀ v, ρ (.const v) = v) (hbase : base ≤ H.length) {o : Oper} {out : Out}
    (h : aStep Γ base env o H = some out) : StepOK Γ.P base c H (execOp ρ o) out := by
  unfold aStep at h
  unfold execOp
  cases hop : o.op with
  | move x => simp only [hop] at h ⊢; exact pureVal hI h fun a e => hρ x a e
  | assign x => simp only [hop] at h ⊢; exact pureVal hI h fun a e => hρ x a e
  | pick k a b =>
    simp only [hop] at h ⊢
    split at h
    · rename_i e
      have := hρ k _ e
      simp only [Rep] at this
      rw [this]
      exact pureVal hI h fun r e => hρ a r e
    · rename_i e
      have := hρ k _ e
      simp only [Rep] at this
      rw [this]
      exact pureVal hI h fun r e => hρ b r e
    · cases h
  | alloc e =>
    simp only [hop] at h ⊢
    split at h
    · exact optVH_ok h fun a H' e => aAllocT_ok hI hbase e
    · exact optVH_ok h fun a H' e => aAlloc_ok hI hbase e
  | box e x =>
    simp only [hop] at h ⊢
    split at h
    · rename_i a ha
      exact optVH_ok h fun r H' e => aBox_ok hI hbase e (hρ x a ha)
    · cases h
  | build t ps =>
    simp only [hop] at h ⊢
    split at h
    · rename_i as ha
      refine optV_ok h fun r e => aBuild_ok hI e ?_
      simpa using aevalP_ok hρ ha
    · cases h
  | buildSlice t n ps =>
    simp only [hop] at h ⊢
    split at h
    · rename_i as ha
      refine optVH_ok h fun r H' e => aBuildSlice_ok hI hbase e ?_
      simpa using aevalP_ok hρ ha
    · cases h
  | load t a =>
    simp only [hop] at h ⊢
    split at h
    · rename_i a' ha
      exact optV_ok h fun r e => aLoad_ok hI e (untag_rep (hρ a a' ha))
    · cases h
  | store t a x =>
    simp only [hop] at h ⊢
    split at h
    · rename_i a' x' ha hx
      exact optH_ok h fun H' e => aStore_ok hI e (untag_rep (hρ a a' ha)) (hρ x x' hx)
    · cases h
  | nilCheck x =>
    simp only [hop] at h ⊢
    split at h
    · rename_i a ha
      split at h
      · rename_i hn
        cases h
        exact ⟨ρ x, c, .inl (nilOK_ok hn (hρ x a ha) c.w), Post.refl hI, hρ x a ha⟩
      · cases h
    · cases h
  | binOp op t x y yt =>
    simp only [hop] at h ⊢
    split at h
    · rename_i a b ha hb
      split at h
      · rename_i v u hv hu
        have hy : ρ y = v := by
          cases y <;> simp [constOf] at hv
          subst hv; exact hρc _
        have hx := toV_eq a u _ hu (hρ x a ha)
        refine optV_ok h fun r e => ?_
        rw [hx, hy]
        split at e
        · rename_i r' hr
          cases e
          exact .pure hI hr
        · cases e
      · rename_i v hv _
        have hy : ρ y = v := by
          cases y <;> simp [constOf] at hv
          subst hv; exact hρc _
        exact optV_ok h fun r e => aBin_ok hI e (hρ x a ha) (show Rep c (.atom v) (ρ y) from hy)
      · exact optV_ok h fun r e => aBin_ok hI e (hρ x a ha) (hρ y b hb)
    · cases h
  | unOp op t x =>
    simp only [hop] at h ⊢
    split at h
    · rename_i a ha
      refine optV_ok h fun r e => ?_
      unfold aUn at e
      split at e
      · rename_i v hv
        have := toV_eq a v _ hv (hρ x a ha)
        rw [this]
        split at e
        · rename_i r' hr'
          cases e
          exact .pure hI hr'
        · cases e
      · cases e
    · cases h
  | convert s d x =>
    simp only [hop] at h ⊢
    split at h
    · rename_i a ha
      exact optVH_ok h fun r H' e => aConvert_ok hI hbase e (untagS_rep (hρ x a ha))
    · cases h
  | makeInterface t x =>
    simp only [hop] at h ⊢
    split at h
    · rename_i a ha
      exact optV_ok h fun r e => aMakeInterface_ok hI e (hρ x a ha)
    · cases h
  | makeFunc fn fs cs =>
    simp only [hop] at h ⊢
    split at h
    · rename_i fs' cs' h1 h2
      split at h
      · rename_i hp
        cases h
        refine ⟨.func fn (fs.map ρ) (cs.map ρ), c, .inl rfl, Post.refl hI, _, _, rfl, by simpa using aevalL_ok hρ h1, by simpa using aevalL_ok hρ h2⟩
      · cases h
    · cases h
  | makeMap t r =>
    simp only [hop] at h ⊢
    cases r with
    | none =>
      simp only at h
      cases h
      obtain ⟨v, c', h1, h2, h3⟩ := aMakeMap_ok (P := Γ.P) (t := t) hI hbase
      exact ⟨v, c', .inl (by simp [h1]), h2, h3⟩
    | some r => simp at h
  | makeSlice t l k =>
    simp only [hop] at h ⊢
    split at h
    · rename_i l' k' h1 h2
      exact optVH_ok h fun r H' e => aMakeSlice_ok hI hbase e (hρ l l' h1) (hρ k k' h2)
    · cases h
  | slice t x lo hi mx =>
    simp only [hop] at h ⊢
    split at h
    · rename_i a l' h' m' h1 h2 h3 h4
      exact optV_ok h fun r e => aSliceS_ok hI e (untagS_rep (hρ x a h1)) (aevalO_ok hρ h2) (aevalO_ok hρ h3) (aevalO_ok hρ h4)
    · cases h
  | fieldAddr s x f =>
    simp only [hop] at h ⊢
    split at h
    · rename_i a ha
      exact optV_ok h fun r e => aFieldAddr_ok hI e (untag_rep (hρ x a ha))
    · cases h
  | field t x f =>
    simp only [hop] at h ⊢
    split at h
    · rename_i a ha
      exact optV_ok h fun r e => aField_ok hI e (hρ x a ha)
    · cases h
  | indexAddr t x i =>
    simp only [hop] at h ⊢
    split at h
    · rename_i a i' ha hi
      exact optV_ok h fun r e => aIndexAddr_ok hI e (untagS_rep (hρ x a ha)) (hρ i i' hi)
    · cases h
  | index t x i =>
    simp only [hop] at h ⊢
    split at h
    · rename_i a i' ha hi
      refine optV_ok h fun r e => ?_
      unfold aIndex at e
      split at e
      · rename_i v u hv hu
        rw [toV_eq a v _ hv (hρ x a ha), toV_eq i' u _ hu (hρ i i' hi)]
        split at e
        · rename_i r' hr'
          cases e
          exact .pure hI hr'
        · cases e
      · cases e
    · cases h
  | lookup t x k ok =>
    simp only [hop] at h ⊢
    split at h
    · rename_i a k' ha hk
      exact optV_ok h fun r e => aLookup_ok hI e (hρ x a ha) (hρ k k' hk)
    · cases h
  | mapUpdate t m k x =>
    simp only [hop] at h ⊢
    split at h
    · rename_i m' k' x' h1 h2 h3
      exact optH_ok h fun H' e => aMapUpdate_ok hI e (hρ m m' h1) (hρ k k' h2) (hρ x x' h3)
    · cases h
  | insert t m k x =>
    simp only [hop] at h ⊢
    split at h
    · rename_i m' k' x' h1 h2 h3
      exact optH_ok h fun H' e => aMapUpdate_ok hI e (hρ m m' h1) (hρ k k' h2) (hρ x x' h3)
    · cases h
  | range t x =>
    simp only [hop] at h ⊢
    split at h
    · rename_i a ha
      exact optVH_ok h fun r H' e => aRange_ok hI hbase e (hρ x a ha)
    · cases h
  | next it s =>
    simp only [hop] at h ⊢
    cases s with
    | false => simp at h
    | true =>
      simp only at h
      split at h
      · rename_i a ha
        exact optVH_ok h fun r H' e => aNext_ok hI e (hρ it a ha)
      · cases h
  | typeAssert x xT t ok =>
    simp only [hop] at h ⊢
    split at h
    · rename_i a ha
      exact optV_ok h fun r e => aTypeAssert_ok hI e (hρ x a ha)
    · cases h
  | extract x i =>
    simp only [hop] at h ⊢
    split at h
    · rename_i a ha
      exact optV_ok h fun r e => aExtract_ok hI e (hρ x a ha)
    · cases h
  | call k =>
    simp only [hop] at h ⊢
    split at h
    · rename_i args hargs
      have hal := aevalL_ok hρ hargs
      split at h
      · rename_i f hcal
        split at h
        · rename_i f' hf
          have hfr := hρ f f' hf
          unfold aCallV at h
          split at h
          · rename_i g first cap
            cases h
            obtain ⟨ws, us, hx, h1, h2⟩ := hfr
            refine ⟨ws ++ k.args.map ρ ++ us, ?_, by simpa using (h1.append hal).append h2⟩
            simp [resolve, hcal, Deferred.ofValue, hx, invoke]
          · rename_i l
            cases h
            obtain ⟨B, hm, hx⟩ := hfr
            refine ⟨B, k.args.map ρ, hm, ?_, by simpa using hal⟩
            simp [resolve, hcal, Deferred.ofValue, hx, invoke]
          · cases h
        · cases h
      · rename_i r name hcal
        split at h
        · rename_i r' hr'
          have hrr := hρ r r' hr'
          unfold aInvoke at h
          split at h
          · rename_i t v
            split at h
            · rename_i f hf
              cases h
              obtain ⟨u, hx, hu⟩ := hrr
              refine ⟨#[u] ++ k.args.map ρ, ?_, ⟨u, k.args.toList.map ρ, by simp, hu, by simpa using hal⟩⟩
              obtain ⟨n, hn⟩ : ∃ n, Γ.P.types.size + Made.depth = n + 1 := ⟨Γ.P.types.size + 99, rfl⟩
              have hmr := aMethod_ok hf u n c.w
              have e0 : (#[Value.iface t u] ++ k.args.map ρ)[0]? = some (.iface t u) := by simp [Array.getElem?_append_left]
              have e1 : (#[Value.iface t u] ++ k.args.map ρ).extract 1 (#[Value.iface t u] ++ k.args.map ρ).size = k.args.map ρ := by
                apply Array.ext'
                simp
                exact List.take_of_length_le (by simp)
              simp only [resolve, hcal, hx, Sem.run_bind, Sem.run_pure, Result.andThen_ok, invoke, e0, e1, callMethod, run_program, hn, hmr]
            · cases h
          · cases h
        · cases h
      · rename_i b hcal
        have := fun consts => callBuiltin_ok (consts := consts) hI hbase h hal
        have e : (k.args.toList.map ρ).toArray = k.args.map ρ := by apply Array.ext'; simp
        rw [e] at this
        simp only [resolve, hcal, invoke]
        exact this _
    · cases h
  | defer k =>
    simp only [hop] at h ⊢
    split at h
    · rename_i args hargs
      have hal := aevalL_ok hρ hargs
      split at h
      · rename_i f hcal
        split at h
        · rename_i g first cap hf
          cases h
          obtain ⟨ws, us, hx, h1, h2⟩ := hρ f _ hf
          refine ⟨{ target := .fn (.func g) us, args := ws ++ k.args.map ρ }, ?_, us, ws ++ k.args.map ρ, rfl, by simpa using (h1.append hal).append h2⟩
          simp [resolve, hcal, Deferred.ofValue, hx]
        · cases h
      · cases h
    · cases h
  | ready => simp [hop] at h
  | waits => simp [hop] at h
  | sliceToArrayPointer => simp [hop] at h
  | makeChan => simp [hop] at h
  | mapEntry => simp [hop] at h
  | entryStore => simp [hop] at h
  | entry => simp [hop] at h
  | go => simp [hop] at h
  | panic => simp [hop] at h
  | send => simp [hop] at h
  | recv => simp [hop] at h
  | select => simp [hop] at h

end Go.Av
