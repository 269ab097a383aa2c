/- A part of the proof: a verified reading of the model by values alone, and what is shown by it. It holds without conditions. -/
import Derived.Test.YtjmgcdbefkojjaaGreatDoorWit
namespace Go.Proofs.YtjmgcdbefkojjaaGreatDoor
open Go Go.Av Go.RowKit Go.ChangeShapes Go.WideShapes Go.ChangeAt
set_option maxRecDepth 1000000

theorem lifted (hs : OK Γ (.call 4 0 [] []) (.atom (.bool true), [])) (os : Os) (started : os.Started) (H : Type) (enc : TypeId × Value → H) :
    ReturnsInHanded {} Tryz.checked os 3 .any (fun w args => (Rows.collectorNoneSpec.pre enc Tryz.prog Tryz.f3 Rows.collectorNoneRow.domain false w args ∧ laidMetH Tryz.prog Rows.collectorNoneRow.laid w) ∧ sizedMet enc Tryz.prog Tryz.f3 (OpenSpec.ofChange Rows.collectorNoneSpec) false w args)
      (Rows.collectorNoneSpec.post enc Tryz.prog Tryz.f3 false true false false) := by
  refine returnsInHanded_of_change_and (C := Tryz.checked) (X := fun w _ => laidMetH Tryz.prog Rows.collectorNoneRow.laid w) (fun _ _ _ hh h => h.of_heap hh) own started (by kernel_rfl) Tryz.func3
    (ChangeSpec.witness_shaped (enc := enc) (C := Tryz.checked) (os := os) (X := fun w _ => laidMetH Tryz.prog Rows.collectorNoneRow.laid w) false (wit os)
      witArgs 8 (wit_os os) (wit_sh os) (wit_ok os) (wit_pre os H enc) (wit_sz os H enc) (wit_met os _)) ?_
  intro W base args ds gs before hval0 hW _ _ hL _
  have hval : ∀ (j : Nat) t v, Tryz.f3.params[j]? = some t → args[j]? = some v → Value.okWide Tryz.prog W .any base t v := hval0
  have hW' := hW
  obtain ⟨p, q, hA0, hV, rfl, hfz, hnd⟩ := hW
  have hA : DataW.TrodAll enc Tryz.prog W 0 (fun _ => true) true Tryz.f3.params.toList args.toList ds p := hA0
  rw [Tryz.params3] at hA hval
  have hA2 := hA
  obtain ⟨v0, v1, v2, d0, d1, d2, p0, p1, p2, rfl, rfl, rfl, h0, h1, h2⟩ := trodAll_three hA
  obtain ⟨rfl, rfl⟩ := trodVars_none hV
  obtain ⟨l0, r0, k0⟩ := arg_agg Tryz.underlying24 simple24 (hval 0 24 v0 rfl rfl) h0
  obtain ⟨l1, r1, k1⟩ := arg_agg Tryz.underlying28 simple28 (hval 1 28 v1 rfl rfl) h1
  obtain ⟨u, rfl, hu⟩ := arg_str Tryz.underlying9 (hval 2 9 v2 rfl rfl) h2
  simp only [Rd_struct Tryz.underlying24, List.map, RdF_cons, RdF_nil, Rd_int Tryz.underlying22, Rd_int Tryz.underlying3] at r0
  simp only [Rd_struct Tryz.underlying28, List.map, RdF_cons, RdF_nil, Rd_int Tryz.underlying22, Rd_int Tryz.underlying3, Rd_str Tryz.underlying9, Rd_slice Tryz.underlying25, Rd_slice Tryz.underlying26] at r1
  obtain ⟨_, _, rfl, ⟨a, rfl, _⟩, _, _, rfl, ⟨b, rfl, _⟩, _, _, rfl, ⟨c, rfl, _⟩, rfl⟩ := r0
  obtain ⟨_, _, rfl, ⟨d, rfl, _⟩, _, _, rfl, ⟨e, rfl, _⟩, _, _, rfl, ⟨s, rfl, _⟩, _, _, rfl, ⟨t, rfl, _⟩, _, _, rfl, ⟨f, rfl, _⟩, _, _, rfl, ⟨xs, x, rfl, _, _⟩, _, _, rfl, ⟨g, rfl, _⟩, _, _, rfl, ⟨h, rfl, _⟩, _, _, rfl, ⟨i, rfl, _⟩, _, _, rfl, ⟨ys, y, rfl, _, _⟩, rfl⟩ := r1
  have ht := (law_c a b c d e f g h i s t u xs.flatten ys.flatten xs.length ys.length x y hs).1
  refine (law_calls (Γ := Γ) (fn := Tryz.f3) (mkFn Tryz.func3 rfl (by kernel_rfl)) ht (fun g cs h => by cases h) ⟨_, _, rfl, k0, _, _, rfl, k1, _, _, rfl, rfl, rfl⟩).mono fun en W' ⟨he, hb⟩ => ?_
  subst he
  exact ⟨_, rfl, _, _, _, [], _, [], hW', trodAll_mk1 (shut_bool Tryz.underlying4 _), trodAll_below laidOutT hb _ _ _ _ readT hA2 (fun x hx => hW'.lt x (by simpa using hx)), rfl, hb.frame _, fun h => by cases h⟩

theorem named3 : Tryz.prog.funcNamed "aviary/aviarylaw19.CollectorNone" = some 3 := by kernel_rfl
set_option maxHeartbeats 20000000 in
theorem closed3 : joinedFacts Tryz.prog 3 Tryz.f3 Rows.collectorNoneSpec Rows.collectorNoneRow = true := by
  unfold joinedFacts
  simp only [Bool.and_eq_true]
  repeat' apply And.intro
  all_goals (as_aux_lemma => kernel_rfl)
theorem instance3 : Tryz.f3.isInstance Tryz.prog Rows.collectorNoneRow.origin Rows.collectorNoneRow.targs := of_decide_eq_true (by kernel_rfl)
theorem wrapper3 : Tryz.f3.isWrapper Tryz.prog Rows.collectorNoneRow.wrapper Rows.collectorNoneRow.mainSum := by
  unfold Func.isWrapper; first | (rw [if_pos (by decide +kernel)]; kernel_rfl) | (rw [if_neg (by decide +kernel)]; exact ⟨rfl, rfl⟩)
theorem main3 : Tryz.prog.mainIs = some (true, "06a10ad3e4e1464bcb452c9f6b191d78ef9badb254372a7df73f85764b69ea07".toList) := by kernel_rfl
theorem looks3 : true = Tryz.prog.looks [] := by kernel_rfl
theorem wants3 : ([24, 28, 9].all fun u => !Tryz.prog.wantsStandIn u) = true := by kernel_rfl
theorem goes3 : false = Rows.collectorNoneRow.goesBy Tryz.prog := by kernel_rfl
theorem wf3 : Rows.collectorNoneRow.wfByText (OpenSpec.ofChange Rows.collectorNoneSpec) = true := by kernel_rfl

theorem holds (hs : OK Γ (.call 4 0 [] []) (.atom (.bool true), [])) : Rows.CollectorNoneSaid :=
  OpenClaim.holds_of_wide 3 Tryz.f3 rfl rfl rfl rfl rfl rfl rfl ⟨rfl, rfl, rfl, rfl, rfl⟩ rfl rfl rfl rfl rfl named3 Tryz.func3 closed3 instance3 wrapper3
    (fun os started H enc _ => lifted hs os started H enc)

theorem card (hs : OK Γ (.call 4 0 [] []) (.atom (.bool true), [])) : Rows.CollectorNoneCardSaid :=
  Claim7.holds_tied_plain_at .later [] [.data, .handle, .sentinel, .sentinel, .pinned] true (true, "06a10ad3e4e1464bcb452c9f6b191d78ef9badb254372a7df73f85764b69ea07") true
    (holds hs) (fun _ h => by cases h) wf3 (fun _ h => by cases h) collectorNone_row_tie rfl ⟨rfl, rfl⟩ main3 rfl
    (fun f fn hf hfn => by
      obtain rfl : f = 3 := Option.some.inj (named3.symm.trans hf) |>.symm
      obtain rfl : fn = Tryz.f3 := (Option.some.inj (Tryz.func3.symm.trans hfn)).symm
      exact ⟨looks3, fun j t ht => by
        rw [Tryz.params3] at ht
        have hm : t ∈ [24, 28, 9] := by simpa using Array.mem_of_getElem? ht
        exact (show Tryz.prog.wantsStandIn t = false by simpa using List.all_eq_true.1 wants3 t hm)⟩)
    goes3
end Go.Proofs.YtjmgcdbefkojjaaGreatDoor
