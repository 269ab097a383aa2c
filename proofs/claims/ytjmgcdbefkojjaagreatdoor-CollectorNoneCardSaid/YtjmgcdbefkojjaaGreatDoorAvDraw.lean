/- A part of the proof: a verified reading of the model by values alone, and what is shown by it. It holds without conditions. -/
import Derived.Test.YtjmgcdbefkojjaaGreatDoorAvMain
import Derived.Orders
namespace Go.Av
open Go

variable {Γ : Par}

section
variable {all : Array Oper}

theorem before_fold (acc : Array Nat) (j : Nat) : ∀ (l : List Edge) (s : Nat),
    (l.foldl (fun s e => if Region.binds .any e then s ||| 2 ^ e.on ||| acc.getD e.on 0 else s) s).testBit j = true →
    s.testBit j = true ∨ ∃ e ∈ l, Region.binds .any e = true ∧ (j = e.on ∨ (acc.getD e.on 0).testBit j = true)
  | [], s, h => .inl h
  | e :: l, s, h => by
    simp only [List.foldl_cons] at h
    rcases before_fold acc j l _ h with h | ⟨e', he', h'⟩
    · split at h
      · rename_i hb
        simp only [Nat.testBit_or, Bool.or_eq_true, Nat.testBit_two_pow, decide_eq_true_eq] at h
        rcases h with (h | h) | h
        · exact .inl h
        · exact .inr ⟨e, by simp, hb, .inl h.symm⟩
        · exact .inr ⟨e, by simp, hb, .inr h⟩
      · exact .inl h
    · exact .inr ⟨e', by simp [he'], h'⟩

theorem before_spec (i j : Nat) (h : ancB (Region.before all) j i = true) :
    ∃ o e, all[i]? = some o ∧ e ∈ o.after ∧ Region.binds .any e = true ∧ (j = e.on ∨ (e.on < i ∧ ancB (Region.before all) j e.on = true)) := by
  have key := Array.foldl_induction (as := all) (motive := fun m (acc : Array Nat) => acc.size = m ∧ ∀ i j, ((acc.getD i 0).testBit j = true) →
      ∃ o e, all[i]? = some o ∧ e ∈ o.after ∧ Region.binds .any e = true ∧ (j = e.on ∨ (e.on < i ∧ (acc.getD e.on 0).testBit j = true)))
    (init := #[]) ⟨rfl, fun i j h => by simp at h⟩
    (f := fun acc o => acc.push (o.after.foldl (fun s e => if Region.binds .any e then s ||| 2 ^ e.on ||| acc.getD e.on 0 else s) 0)) (by
      rintro m acc ⟨hs, hm⟩
      refine ⟨by simp [hs], fun i j h => ?_⟩
      rcases Nat.lt_trichotomy i m.1 with hi | hi | hi
      · have hpush : ∀ v i, i < m.1 → (acc.push v).getD i 0 = acc.getD i 0 := fun v i hi => by
          simp [Array.getD_eq_getD_getElem?, Array.getElem?_push, hs, Nat.ne_of_lt hi]
        rw [hpush _ _ hi] at h
        obtain ⟨o, e, h1, h2, h3, h4⟩ := hm i j h
        refine ⟨o, e, h1, h2, h3, h4.imp id fun ⟨h5, h6⟩ => ⟨h5, ?_⟩⟩
        rw [hpush _ _ (by omega)]; exact h6
      · subst hi
        have hv : ∀ v, (acc.push v).getD m.1 0 = v := fun v => by rw [← hs]; simp [Array.getD_eq_getD_getElem?]
        rw [hv, ← Array.foldl_toList] at h
        rcases before_fold acc j _ _ h with h | ⟨e, he, hb, h⟩
        · simp at h
        · refine ⟨all[m], e, by simp, by simpa using he, hb, h.imp id fun h => ?_⟩
          have hlt : e.on < m.1 := by
            rcases Nat.lt_or_ge e.on m.1 with h' | h'
            · exact h'
            · simp [Array.getD_eq_getD_getElem?, Array.getElem?_eq_none (hs ▸ h')] at h
          refine ⟨hlt, ?_⟩
          rw [show ∀ v, (acc.push v).getD e.on 0 = acc.getD e.on 0 from fun v => by simp [Array.getD_eq_getD_getElem?, Array.getElem?_push, hs, Nat.ne_of_lt hlt]]
          exact h
      · have : ∀ v, (acc.push v).getD i 0 = 0 := fun v => by
          rw [Array.getD_eq_getD_getElem?, Array.getElem?_eq_none (by simp [hs]; omega)]; rfl
        rw [this] at h; simp at h)
  exact key.2 i j h

/-- What is listed stands behind all that binds it. -/
def Closed (all : Array Oper) (ls : Nat → Bool) : Prop := ∀ i o, ls i = true → all[i]? = some o → ∀ e ∈ o.after, Region.binds .any e = true → ls e.on = true

theorem Closed.anc {ls : Nat → Bool} (h : Closed all ls) : ∀ (i j : Nat), ancB (Region.before all) j i = true → (ls i = true ∨ ∀ o, all[i]? = some o → ∀ e ∈ o.after, Region.binds .any e = true → ls e.on = true) → ls j = true := by
  intro i
  induction i using Nat.strongRecOn with
  | _ i ih =>
    intro j ha hi
    obtain ⟨o, e, h1, h2, h3, h4⟩ := before_spec i j ha
    have he : ls e.on = true := by
      rcases hi with hi | hi
      · exact h i o hi h1 e h2 h3
      · exact hi o h1 e h2 h3
    rcases h4 with rfl | ⟨h5, h6⟩
    · exact he
    · exact ih e.on h5 j h6 (.inl he)

theorem writer_spec {t j : Nat} (h : writer all t = some j) : ∃ o, all[j]? = some o ∧ o.dst = some t := by
  have := List.find?_some h
  cases ho : all[j]? with
  | none => simp [ho] at this
  | some o => exact ⟨o, rfl, by simpa [ho] using this⟩

theorem writer_none {t : Nat} (h : writer all t = none) {j : Nat} {o : Oper} (ho : all[j]? = some o) : o.dst ≠ some t := by
  intro hd
  have := List.find?_eq_none.1 h j (by simp; exact (Array.getElem?_eq_some_iff.1 ho).1)
  simp [ho, hd] at this

theorem eget_lookEnv {l : List (Tmp × Bool)} {env env0 : Env} {t : Nat} {a : AV} (h : eget (lookEnv l env env0) t = some a) :
    ∃ b, (t, b) ∈ l ∧ (if b then eget env t else eget env0 t) = some a := by
  induction l with
  | nil => simp [lookEnv, eget] at h
  | cons p l ih =>
    unfold lookEnv at h
    simp only [List.filterMap_cons] at h
    split at h
    · obtain ⟨b, h1, h2⟩ := ih h
      exact ⟨b, by simp [h1], h2⟩
    · rename_i q hq
      split at hq
      · rename_i a' ha
        cases hq
        simp only [eget] at h
        split at h
        · rename_i e; subst e; cases h; exact ⟨p.2, by simp, ha⟩
        · obtain ⟨b, h1, h2⟩ := ih h
          exact ⟨b, by simp [h1], h2⟩
      · cases hq

structure Stat (all : Array Oper) (eff : List Nat) : Prop where
  edge : ∀ i o, all[i]? = some o → ∀ e ∈ o.after, Region.binds .any e = true → e.on < i
  dst : ∀ i o d, all[i]? = some o → o.dst = some d → writer all d = some i
  looks : ∀ i o t j, all[i]? = some o → t ∈ looksOf all o → writer all t = some j → ancB (Region.before all) j i = true ∨ j = i ∨ ancB (Region.before all) i j = true
  chain : eff.Pairwise fun x y => ancB (Region.before all) x y = true
  inR : ∀ i ∈ eff, i < all.size

theorem stat_spec {eff : List Nat} (h : stat all eff = true) : Stat all eff := by
  unfold stat at h
  simp only [Bool.and_eq_true, List.all_eq_true, decide_eq_true_eq] at h
  obtain ⟨⟨h1, h2⟩, h3⟩ := h
  have key : ∀ i o, all[i]? = some o → (o.after.all (fun e => !Region.binds .any e || decide (e.on < i)) = true ∧ (∀ d, o.dst = some d → writer all d = some i) ∧
      ∀ t ∈ looksOf all o, ∀ j, writer all t = some j → ancB (Region.before all) j i = true ∨ j = i ∨ ancB (Region.before all) i j = true) := by
    intro i o ho
    have := h1 i (by simp; exact (Array.getElem?_eq_some_iff.1 ho).1)
    simp only [ho, Bool.and_eq_true, List.all_eq_true] at this
    refine ⟨this.1.1, fun d hd => ?_, fun t ht j hj => ?_⟩
    · have h := this.1.2
      rw [hd] at h
      simpa using h
    · have h := this.2 t ht
      rw [hj] at h
      simp only [Bool.or_eq_true, beq_iff_eq] at h
      rcases h with (h | h) | h
      · exact .inl h
      · exact .inr (.inl h)
      · exact .inr (.inr h)
  refine ⟨fun i o ho e he hb => ?_, fun i o d ho hd => (key i o ho).2.1 d hd, fun i o t j ho ht hj => (key i o ho).2.2 t ht j hj, h2, h3⟩
  have := (Array.all_eq_true_iff_forall_mem.1 (key i o ho).1) e he
  simpa [hb] using this
end

/-- What is laid by what is listed, and what was there. -/
structure Laid (x : Rc) (all : Array Oper) (env0 env : Env) (ls : Nat → Bool) (tmps : Array Value) (c : Cn) : Prop where
  size : tmps.size = x.nt
  new : ∀ i o d a, ls i = true → all[i]? = some o → o.dst = some d → eget env d = some a → ∃ v, tmps[d]? = some v ∧ Rep c a v
  old : ∀ t a, eget env0 t = some a → (∀ i, writer all t = some i → ls i = false) → ∃ v, tmps[t]? = some v ∧ Rep c a v

theorem Laid.ext {x : Rc} {all : Array Oper} {env0 env : Env} {ls : Nat → Bool} {tmps : Array Value} {c c' : Cn} (h : Ext c c') (hl : Laid x all env0 env ls tmps c) : Laid x all env0 env ls tmps c' :=
  ⟨hl.size, fun i o d a h1 h2 h3 h4 => let ⟨v, hv, hr⟩ := hl.new i o d a h1 h2 h3 h4; ⟨v, hv, Rep.ext h a v hr⟩, fun t a h1 h2 => let ⟨v, hv, hr⟩ := hl.old t a h1 h2; ⟨v, hv, Rep.ext h a v hr⟩⟩

theorem Laid.look {x : Rc} {all : Array Oper} {env0 env : Env} {ls : Nat → Bool} {tmps : Array Value} {c : Cn} {eff : List Nat} (hs : Stat all eff) (hl : Laid x all env0 env ls tmps c) (hc : Closed all ls)
    {i : Nat} {o : Oper} (ho : all[i]? = some o) (hi : ls i = false) (hr : ∀ e ∈ o.after, Region.binds .any e = true → ls e.on = true) :
    EnvRep c (lookEnv (look all i) env env0) tmps := by
  intro t a h
  obtain ⟨b, hm, hv⟩ := eget_lookEnv h
  unfold Av.look at hm
  simp only [ho, List.mem_map, Prod.mk.injEq] at hm
  obtain ⟨t', ht', rfl, hb⟩ := hm
  have hready : ∀ o', all[i]? = some o' → ∀ e ∈ o'.after, Region.binds .any e = true → ls e.on = true := fun o' ho' => by rw [ho] at ho'; cases ho'; exact hr
  cases hw : writer all t' with
  | none =>
    simp only [hw] at hb
    subst hb
    exact hl.old t' a (by simpa using hv) (fun i hi => by simp [hw] at hi)
  | some j =>
    simp only [hw] at hb
    cases b with
    | true =>
      obtain ⟨oj, hoj, hdj⟩ := writer_spec hw
      exact hl.new j oj t' a (hc.anc i j hb (.inr hready)) hoj hdj (by simpa using hv)
    | false =>
      refine hl.old t' a (by simpa using hv) fun j' hj' => ?_
      rw [hw] at hj'; cases hj'
      rcases hs.looks i o t' j ho ht' hw with h1 | h1 | h1
      · rw [hb] at h1; cases h1
      · rw [h1]; exact hi
      · cases hlj : ls j with
        | false => rfl
        | true => have := hc.anc j i h1 (.inl hlj); rw [hi] at this; cases this

theorem Laid.put {x : Rc} {all : Array Oper} {env0 env : Env} {ls : Nat → Bool} {tmps : Array Value} {c : Cn} {eff : List Nat} (hs : Stat all eff) (hl : Laid x all env0 env ls tmps c)
    {i : Nat} {o : Oper} (ho : all[i]? = some o) {a : AV} {v : Value} (hd : dstIs o env a) (hlt : ∀ d, o.dst = some d → d < x.nt) (hr : Rep c a v) :
    Laid x all env0 env (fun j => if j = i then true else ls j) (putT tmps o.dst v) c := by
  refine ⟨by cases h : o.dst <;> simp [putT, h, hl.size], ?_, ?_⟩
  · intro j oj d b hj hoj hdj hb
    by_cases e : j = i
    · subst e
      rw [ho] at hoj; cases hoj
      unfold dstIs at hd
      rw [hdj] at hd
      simp only at hd
      rw [hd] at hb; cases hb
      refine ⟨v, ?_, hr⟩
      have := hlt d hdj
      simp [putT, hdj, hl.size, this]
    · simp only [e, if_false] at hj
      obtain ⟨u, hu, hru⟩ := hl.new j oj d b hj hoj hdj hb
      refine ⟨u, ?_, hru⟩
      cases hdo : o.dst with
      | none => simpa [putT] using hu
      | some d' =>
        have hne : d' ≠ d := by
          rintro rfl
          have h1 := hs.dst i o d' ho hdo
          have h2 := hs.dst j oj d' hoj hdj
          rw [h1] at h2; cases h2; exact e rfl
        simpa [putT, Array.getElem?_setIfInBounds_ne hne] using hu
  · intro t b hb hw
    obtain ⟨u, hu, hru⟩ := hl.old t b hb fun j hj => by
      have := hw j hj
      by_cases e : j = i
      · simp [e] at this
      · simpa [e] using this
    refine ⟨u, ?_, hru⟩
    cases hdo : o.dst with
    | none => simpa [putT] using hu
    | some d' =>
      have hne : d' ≠ t := by
        rintro rfl
        have := hw i (hs.dst i o d' ho hdo)
        simp at this
      simpa [putT, Array.getElem?_setIfInBounds_ne hne] using hu

/-- One operation, done. -/
def OpFact (Γ : Par) (T : Task → Res → Prop) (base : Nat) (o : Oper) (le : Env) (H : Heap) (a : AV) (H' : Heap) : Prop :=
  aStep Γ.toCtx base le o H = some (.val a H') ∨ (∃ f args, aStep Γ.toCtx base le o H = some (.call f args) ∧ T (.call f base args H) (a, H')) ∨
  (∃ l args, aStep Γ.toCtx base le o H = some (.round l args) ∧ T (.round base l args H) (a, H'))

theorem op_step {T : Task → Res → Prop} (ih : AllT Γ T) {x : Rc} {all : Array Oper} {i : Nat} {c : Cn} {H H' : Heap} {le : Env} {o : Oper} {tmps : Array Value} {a : AV} (defers : List Deferred) (rd : Option Nat) (k : List Item)
    (hI : Inv c H) (hG : GlobOK Γ.G c) (he : EnvRep c le tmps) (hb : x.base ≤ H.length) (ho : all[i]? = some o) (hg : guardOf all le o = some true) (hst : OpFact Γ T x.base o le H a H') :
    ∃ c' v, Post x.base c H c' H' ∧ Rep c' a v ∧ ∀ kind cs rest, Steps Γ.P (lone (frAt x.fid kind rd tmps defers (.inRegion all (i :: rest) :: k)) cs c.w) (lone (frAt x.fid kind rd (putT tmps o.dst v) defers (.inRegion all rest :: k)) cs c'.w) := by
  have hw := wanted_of_guard he hg
  have hρ : RhoOK Γ.G c le (Act.eval { tmps, defers := defers }) := rhoOK (a := { tmps, defers := defers }) hG he
  rcases hst with hst | ⟨f, args, hst, hcall⟩ | ⟨l, args, hst, hcall⟩
  · obtain ⟨v, c1, hrun, hp1, hr1⟩ := aStep_ok hI hρ (fun _ => rfl) hb hst
    exact ⟨c1, v, hp1, hr1, fun kind cs rest => .one (fstep_op_value ho hw (.inr (step_val_or_skip hst)) hrun)⟩
  · obtain ⟨vs, hrun, hargs⟩ := aStep_ok hI hρ (fun _ => rfl) hb hst
    obtain ⟨c1, v1, hp1, hr1, hcr⟩ := ih _ _ hcall c vs hI hG hargs hb
    refine ⟨c1, v1, hp1, hr1, fun kind cs rest => ?_⟩
    have hnd : rd = none ∨ isDefer o.op = false := .inr (step_call_nd hst)
    rcases hcr with hval | ⟨hent, hsteps⟩
    · exact .one (fstep_op_value ho hw hnd (.inl (hrun.trans hval)))
    · obtain ⟨fr, hs, hleft, _⟩ := hsteps .normal (frAt x.fid kind rd tmps defers (.inRegion all (i :: rest) :: k) :: cs)
      have h1 := fstep_op_enter (P := Γ.P) (fid := x.fid) (kind := kind) (rd := rd) (k := k) (cs := cs) (rest := rest) ho hw hnd (hrun.trans hent)
      have h2 := left_normal (c := frAt x.fid kind rd tmps defers (.inRegion all (i :: rest) :: k)) (cs := cs) hleft
      rw [frAt_finish, ho] at h2
      exact (Steps.head h1 hs).trans (.one h2)
  · obtain ⟨B, vs, hm, hrun, hargs⟩ := aStep_ok hI hρ (fun _ => rfl) hb hst
    obtain ⟨c1, v1, hp1, hr1, fn, ts, as, body, hyl, hsteps⟩ := ih _ _ hcall c B vs hI hG hm hargs hb
    refine ⟨c1, v1, hp1, hr1, fun kind cs rest => ?_⟩
    have hnd : rd = none ∨ isDefer o.op = false := .inr (step_round_nd hst)
    have h1 := fstep_op_round (P := Γ.P) (fid := x.fid) (kind := kind) (rd := rd) (k := k) (cs := cs) (rest := rest) ho hw hnd (hrun.trans hyl)
    have h2 := hsteps (frAt x.fid kind rd tmps defers (.inRegion all (i :: rest) :: k)) cs
    rw [frAt_finish, ho] at h2
    exact .head h1 h2

theorem skip_step {x : Rc} {all : Array Oper} {i : Nat} {c : Cn} {le : Env} {o : Oper} {tmps : Array Value} (defers : List Deferred) (rd : Option Nat) (k : List Item)
    (he : EnvRep c le tmps) (ho : all[i]? = some o) (hg : guardOf all le o = some false) :
    ∀ kind cs rest, Steps Γ.P (lone (frAt x.fid kind rd tmps defers (.inRegion all (i :: rest) :: k)) cs c.w) (lone (frAt x.fid kind rd (putT tmps o.dst undef) defers (.inRegion all rest :: k)) cs c.w) := by
  intro kind cs rest
  have hw := wanted_of_guard he hg
  have := fstep_op_skip (P := Γ.P) (fid := x.fid) (kind := kind) (rd := rd) (tmps := tmps) (ds := defers) (k := k) (cs := cs) (w := c.w) (ops := all) (i := i) (rest := rest) (by simp [ho, hw])
  rw [ho] at this
  exact .one this

end Go.Av
