/- A part of the proof: a verified reading of the model by values alone, and what is shown by it. It holds without conditions. -/
import Derived.Test.YtjmgcdbefkojjaaGreatDoorAvTab
namespace Go.Av
open Go

section congr
variable {G : Nat → Option (List AV)} {e1 e2 : Env}

theorem aeval_congr {xs : List Operand} (h : ∀ t, Operand.tmp t ∈ xs → eget e1 t = eget e2 t) {x : Operand} (hx : x ∈ xs) : aeval G e1 x = aeval G e2 x := by
  cases x <;> simp only [aeval]
  exact h _ hx
theorem aevalL_congr : ∀ {l : List Operand}, (∀ x ∈ l, aeval G e1 x = aeval G e2 x) → aevalL G e1 l = aevalL G e2 l
  | [], _ => rfl
  | x :: l, h => by
    simp only [aevalL, h x List.mem_cons_self, aevalL_congr (fun y hy => h y (List.mem_cons_of_mem _ hy))]
theorem aevalO_congr {x : Option Operand} (h : ∀ y ∈ x.toList, aeval G e1 y = aeval G e2 y) : aevalO G e1 x = aevalO G e2 x := by
  cases x with
  | none => rfl
  | some y => simp only [aevalO, h y (by simp)]
theorem aevalP_congr : ∀ {l : List (Nat × Operand)}, (∀ p ∈ l, aeval G e1 p.2 = aeval G e2 p.2) → aevalP G e1 l = aevalP G e2 l
  | [], _ => rfl
  | (i, x) :: l, h => by
    simp only [aevalP, h (i, x) List.mem_cons_self, aevalP_congr (fun y hy => h y (List.mem_cons_of_mem _ hy))]
end congr

theorem aStep_congr {Γ : Ctx} {base : Nat} {e1 e2 : Env} {o : Oper} {H : Heap} (h : ∀ t, Operand.tmp t ∈ o.op.operands.toList → eget e1 t = eget e2 t) : aStep Γ base e1 o H = aStep Γ base e2 o H := by
  have hx : ∀ x ∈ o.op.operands.toList, aeval Γ.G e1 x = aeval Γ.G e2 x := fun x hx => aeval_congr h hx
  clear h
  unfold aStep
  cases hop : o.op <;> rw [hop] at hx <;> simp only [Op.operands, Call.operands] at hx <;> try rfl
  case build t ps =>
    have : aevalP Γ.G e1 ps.toList = aevalP Γ.G e2 ps.toList := aevalP_congr fun p hp => hx _ (by simp; exact ⟨p.1, by simpa using hp⟩)
    simp only [this]
  case buildSlice t n ps =>
    have : aevalP Γ.G e1 ps.toList = aevalP Γ.G e2 ps.toList := aevalP_congr fun p hp => hx _ (by simp; exact ⟨p.1, by simpa using hp⟩)
    simp only [this]
  case makeFunc fn fs cs =>
    have h1 : aevalL Γ.G e1 fs.toList = aevalL Γ.G e2 fs.toList := aevalL_congr fun p hp => hx _ (by simp at hp ⊢; exact .inl hp)
    have h2 : aevalL Γ.G e1 cs.toList = aevalL Γ.G e2 cs.toList := aevalL_congr fun p hp => hx _ (by simp at hp ⊢; exact .inr hp)
    simp only [h1, h2]
  case makeMap t r => cases r <;> rfl
  case slice t x lo hi mx =>
    have h0 : aeval Γ.G e1 x = aeval Γ.G e2 x := hx _ (by simp)
    have h1 : aevalO Γ.G e1 lo = aevalO Γ.G e2 lo := aevalO_congr fun p hp => hx _ (by simp at hp ⊢; simp [hp])
    have h2 : aevalO Γ.G e1 hi = aevalO Γ.G e2 hi := aevalO_congr fun p hp => hx _ (by simp at hp ⊢; simp [hp])
    have h3 : aevalO Γ.G e1 mx = aevalO Γ.G e2 mx := aevalO_congr fun p hp => hx _ (by simp at hp ⊢; simp [hp])
    simp only [h0, h1, h2, h3]
  case call c =>
    have h1 : aevalL Γ.G e1 c.args.toList = aevalL Γ.G e2 c.args.toList := aevalL_congr fun p hp => hx _ (by cases hc : c.callee <;> simp <;> simp at hp <;> simp [hp])
    simp only [h1]
    cases hc : c.callee with
    | value f => have : aeval Γ.G e1 f = aeval Γ.G e2 f := hx _ (by simp [hc])
                 simp only [this]
    | invoke r n => have : aeval Γ.G e1 r = aeval Γ.G e2 r := hx _ (by simp [hc])
                    simp only [this]
    | builtin b => rfl
  case defer c =>
    have h1 : aevalL Γ.G e1 c.args.toList = aevalL Γ.G e2 c.args.toList := aevalL_congr fun p hp => hx _ (by cases hc : c.callee <;> simp <;> simp at hp <;> simp [hp])
    simp only [h1]
    cases hc : c.callee with
    | value f => have : aeval Γ.G e1 f = aeval Γ.G e2 f := hx _ (by simp [hc])
                 simp only [this]
    | invoke r n => rfl
    | builtin b => rfl
  case next x s => cases s with
    | false => rfl
    | true => simp (disch := simp) only [hx]
  all_goals simp (disch := simp) only [hx]

theorem guardOf_congr {all : Array Oper} {o : Oper} {e1 e2 : Env} (h : ∀ t ∈ looksOf all o, eget e1 t = eget e2 t) : guardOf all e1 o = guardOf all e2 o := by
  unfold guardOf
  cases hg : o.guard with
  | none => rfl
  | some p =>
    obtain ⟨j, want⟩ := p
    simp only
    cases hd : (all[j]?).bind (·.dst) with
    | none => rfl
    | some d => simp only [h d (by unfold looksOf; simp [hg, hd])]

/-- What may change memory, or take its place among what does. -/
def isEff (Γ : Par) (o : Oper) : Bool := match o.op with
  | .call { callee := .value (.func f), .. } => !pureCall Γ f
  | op => opKind Γ.P op == 2
/-- What may look at memory. -/
def isRead (Γ : Par) (o : Oper) : Bool := match o.op with
  | .call { callee := .builtin .min, .. } | .call { callee := .builtin .max, .. } => false
  | .call _ => true
  | op => opKind Γ.P op == 1
def effsOf (Γ : Par) (all : Array Oper) : List Nat := (List.range all.size).filter fun i => match all[i]? with
  | some o => isEff Γ o
  | none => false
/-- A drawn region in which the order does not matter. -/
def calm (Γ : Par) (all : Array Oper) : Bool :=
  let b := Region.before all
  let es := effsOf Γ all
  stat all es && (List.range all.size).all fun i => match all[i]? with
    | some o => !isRead Γ o || es.all fun e => e == i || ancB b e i || ancB b i e
    | none => true

/-- A region in the order of the text. -/
def seqQ (Γ : Par) (x : Rc) (all : Array Oper) (kp : Option (List Tmp)) (k : List Item) (ds : List ADef) : List Nat → Env → Heap → Q
  | [], env, H => goto (.run x k (kept kp env) ds H)
  | i :: rest, env, H => match all[i]? with
    | none => .ret none
    | some o => match guardOf all env o with
      | none => .ret none
      | some false => match eput x.nt env o.dst (.atom undef) with
        | some env' => seqQ Γ x all kp k ds rest env' H
        | none => .ret none
      | some true => match aStep Γ.toCtx x.base env o H with
        | some (.val a H') => match eput x.nt env o.dst a with
          | some env' => seqQ Γ x all kp k ds rest env' H'
          | none => .ret none
        | some (.call f args) => .ask (.call f x.base args H) fun r => match eput x.nt env o.dst r.1 with
          | some env' => seqQ Γ x all kp k ds rest env' r.2
          | none => .ret none
        | some (.round b args) => .ask (.round x.base b args H) fun r => match eput x.nt env o.dst r.1 with
          | some env' => seqQ Γ x all kp k ds rest env' r.2
          | none => .ret none
        | _ => .ret none

theorem aCallV_round {f : AV} {args : List AV} {l : Nat} {as : List AV} (h : aCallV f args = some (.round l as)) : ∃ b, f = .yld b := by
  cases f with
  | fn fn fs cs => cases fn <;> simp [aCallV] at h
  | yld b => exact ⟨b, rfl⟩
  | _ => simp [aCallV] at h

theorem aCallV_call {f : AV} {args : List AV} {g : FuncId} {as : List AV} (h : aCallV f args = some (.call g as)) : ∃ fs cs, f = .fn (.func g) fs cs := by
  cases f with
  | fn fn fs cs => cases fn <;> simp [aCallV] at h; exact ⟨fs, cs, by rw [h.1]⟩
  | yld b => simp [aCallV] at h
  | _ => simp [aCallV] at h

theorem optV_noround {r : Option AV} {H : Heap} {f : Nat} {args : List AV} : optV r H ≠ some (.round f args) := by
  unfold optV; split <;> simp
theorem optVH_noround {r : Option (AV × Heap)} {f : Nat} {args : List AV} : optVH r ≠ some (.round f args) := by
  unfold optVH; split <;> simp
theorem optH_noround {r : Option Heap} {f : Nat} {args : List AV} : optH r ≠ some (.round f args) := by
  unfold optH; split <;> simp

def isCallOp : Op → Bool
  | .call _ => true
  | _ => false

theorem aStep_nocall {Γ : Ctx} {base : Nat} {env : Env} {o : Oper} {H : Heap} (hno : isCallOp o.op = false) (f : Nat) (args : List AV) : aStep Γ base env o H ≠ some (.call f args) := by
  intro h
  unfold aStep at h
  generalize o.op = op at h hno
  cases op with
  | call c => simp [isCallOp] at hno
  | next it b =>
    cases b <;> simp only at h
    · cases h
    · split at h
      · exact optVH_nocall h
      · cases h
  | makeMap t r =>
    cases r <;> simp only at h <;> cases h
  | _ =>
    simp only at h
    first
      | exact optV_nocall h
      | ((repeat' split at h) <;> first
        | (exact optV_nocall h)
        | (exact optVH_nocall h)
        | (exact optH_nocall h)
        | cases h)

theorem aStep_noround {Γ : Ctx} {base : Nat} {env : Env} {o : Oper} {H : Heap} (hno : isCallOp o.op = false) (f : Nat) (args : List AV) : aStep Γ base env o H ≠ some (.round f args) := by
  intro h
  unfold aStep at h
  generalize o.op = op at h hno
  cases op with
  | call c => simp [isCallOp] at hno
  | next it b =>
    cases b <;> simp only at h
    · cases h
    · split at h
      · exact optVH_noround h
      · cases h
  | makeMap t r =>
    cases r <;> simp only at h <;> cases h
  | _ =>
    simp only at h
    first
      | exact optV_noround h
      | ((repeat' split at h) <;> first
        | (exact optV_noround h)
        | (exact optVH_noround h)
        | (exact optH_noround h)
        | cases h)

theorem call_cases {Γ : Par} {base : Nat} {env : Env} {o : Oper} {H : Heap} {f : FuncId} {args : List AV} (h : aStep Γ.toCtx base env o H = some (.call f args)) :
    isRead Γ o = true ∧ (isEff Γ o = false → pureCall Γ f = true) := by
  cases hop : o.op with
  | call c =>
    unfold aStep at h
    simp only [hop] at h
    obtain ⟨callee, as, ats⟩ := c
    cases callee with
    | builtin b =>
      exfalso
      simp only at h
      split at h
      · exact optVH_nocall h
      · cases h
    | value fo =>
      refine ⟨by simp [isRead, hop], fun he => ?_⟩
      cases fo with
      | func g =>
        simp only [aeval] at h
        split at h
        · simp only [aCallV, Option.some.injEq, Out.call.injEq] at h
          rw [← h.1]
          simpa [isEff, hop] using he
        · cases h
      | _ => simp [isEff, hop, opKind] at he
    | invoke r n => exact ⟨by simp [isRead, hop], fun he => by simp [isEff, hop, opKind] at he⟩
  | _ => exact absurd h (aStep_nocall (by simp [hop, isCallOp]) _ _)

theorem round_cases {Γ : Par} {base : Nat} {env : Env} {o : Oper} {H : Heap} {f : FuncId} {args : List AV} (h : aStep Γ.toCtx base env o H = some (.round f args)) :
    isEff Γ o = true := by
  cases hop : o.op with
  | call c =>
    unfold aStep at h
    simp only [hop] at h
    obtain ⟨callee, as, ats⟩ := c
    cases callee with
    | builtin b =>
      exfalso
      simp only at h
      split at h
      · exact optVH_noround h
      · cases h
    | value fo =>
      cases fo with
      | func g =>
        exfalso
        simp only [aeval] at h
        split at h
        · simp [aCallV] at h
        · cases h
      | _ => simp [isEff, hop, opKind]
    | invoke r n => simp [isEff, hop, opKind]
  | _ => exact absurd h (aStep_noround (by simp [hop, isCallOp]) _ _)

theorem val_eff {Γ : Par} {base : Nat} {env : Env} {o : Oper} {H H' : Heap} {a : AV} (h : aStep Γ.toCtx base env o H = some (.val a H')) (hk : opKind Γ.P o.op = 2) : isEff Γ o = true := by
  unfold isEff
  split
  · rename_i f hop
    exfalso
    unfold aStep at h
    simp only [hop, aeval] at h
    split at h
    · simp [aCallV] at h
    · cases h
  · simp [hk]

theorem opKind_le {P : Program} (op : Op) : opKind P op = 0 ∨ opKind P op = 1 ∨ opKind P op = 2 := by
  unfold opKind
  split <;> first | simp | (split <;> simp)

theorem read_kind {Γ : Par} {o : Oper} (hk : opKind Γ.P o.op = 1) : isRead Γ o = true := by
  unfold isRead
  split
  · rename_i hop; simp [hop, opKind] at hk
  · rename_i hop; simp [hop, opKind] at hk
  · rfl
  · simp [hk]

structure CalmInv (Γ : Par) (all : Array Oper) (env0 : Env) (i : Nat) (env : Env) (hist : List Eff) (rds : List (Nat × Env × AV × Nat)) (cds : List CRead) : Prop where
  hold : ∀ t, (∀ j, j < i → ∀ o, all[j]? = some o → o.dst ≠ some t) → eget env t = eget env0 t
  hlt : ∀ e ∈ hist, e.i < i ∧ e.i ∈ effsOf Γ all
  hord : hist.Pairwise fun a b => b.i < a.i
  hr : ∀ q ∈ rds, q.1 < i ∧ (∃ o, all[q.1]? = some o ∧ isRead Γ o = true) ∧ (∀ e ∈ hist, e.i ≠ q.1) ∧ q.2.2.2 = hist.countP fun e => decide (e.i < q.1)
  hc : ∀ c ∈ cds, c.i < i ∧ (∃ o, all[c.i]? = some o ∧ isRead Γ o = true) ∧ (∀ e ∈ hist, e.i ≠ c.i) ∧ c.j = hist.countP fun e => decide (e.i < c.i)

theorem calm_win {Γ : Par} {all : Array Oper} (hcalm : calm Γ all = true) {hist : List Eff} {i : Nat} (hlt : ∀ e ∈ hist, e.i ∈ effsOf Γ all) {o : Oper} (ho : all[i]? = some o) (hr : isRead Γ o = true)
    (hne : ∀ e ∈ hist, e.i ≠ i) {j : Nat} (hj : j ∈ win all (hist.reverse.map (·.i)) i) : j = hist.countP fun e => decide (e.i < i) := by
  unfold calm at hcalm
  simp only [Bool.and_eq_true, List.all_eq_true] at hcalm
  have hst := stat_spec hcalm.1
  have hi : i < all.size := (Array.getElem?_eq_some_iff.1 ho).1
  have h2 := hcalm.2 i (by simpa using hi)
  simp only [ho, hr, Bool.not_true, Bool.false_or, List.all_eq_true, Bool.or_eq_true, beq_iff_eq] at h2
  unfold win at hj
  simp only [List.mem_filter, Bool.and_eq_true, decide_eq_true_eq] at hj
  have key : ∀ (l : List Eff), (∀ e ∈ l, e.i ∈ effsOf Γ all ∧ e.i ≠ i) → (l.map (·.i)).countP (fun e => ancB (Region.before all) e i) = l.countP (fun e => decide (e.i < i)) ∧
      (l.map (·.i)).countP (fun e => !ancB (Region.before all) i e) = l.countP (fun e => decide (e.i < i)) := by
    intro l hl
    rw [List.countP_map, List.countP_map]
    constructor
    · refine List.countP_congr fun e he => ?_
      obtain ⟨h3, h4⟩ := hl e he
      simp only [Function.comp_apply, decide_eq_true_eq]
      constructor
      · exact hst.anc_lt _ _
      · intro hlt
        rcases h2 e.i h3 with (h | h) | h
        · exact absurd h h4
        · exact h
        · have := hst.anc_lt _ _ h; omega
    · refine List.countP_congr fun e he => ?_
      obtain ⟨h3, h4⟩ := hl e he
      simp only [Function.comp_apply, decide_eq_true_eq, Bool.not_eq_eq_eq_not]
      constructor
      · intro hn
        rcases h2 e.i h3 with (h | h) | h
        · exact absurd h h4
        · exact hst.anc_lt _ _ h
        · simp [h] at hn
      · intro hlt
        cases hb : ancB (Region.before all) i e.i with
        | false => rfl
        | true => have := hst.anc_lt _ _ hb; omega
  obtain ⟨k1, k2⟩ := key hist.reverse (fun e he => by
    have he : e ∈ hist := by simpa using he
    exact ⟨hlt e he, hne e he⟩)
  rw [k1, k2] at hj
  have h3 : hist.reverse.countP (fun e => decide (e.i < i)) = hist.countP (fun e => decide (e.i < i)) := List.countP_reverse
  omega

theorem calm_end {Γ : Par} {base : Nat} {all : Array Oper} (hcalm : calm Γ all = true) {env0 env : Env} {H : Heap} {hist : List Eff} {rds : List (Nat × Env × AV × Nat)} {cds : List CRead}
    (h : CalmInv Γ all env0 all.size env hist rds cds) : drawB Γ.toCtx base all hist.reverse rds H = true ∧ cds.flatMap (asksOf base all (hist.reverse.map (·.i)) (hist.reverse.map (·.H) ++ [H])) = [] := by
  have hcalm' := hcalm
  unfold calm at hcalm'
  simp only [Bool.and_eq_true, List.all_eq_true] at hcalm'
  have hst := stat_spec hcalm'.1
  have hlt : ∀ e ∈ hist, e.i ∈ effsOf Γ all := fun e he => (h.hlt e he).2
  constructor
  · unfold drawB
    rw [Bool.and_eq_true]
    constructor
    · have hc := hcalm'.1
      unfold stat at hc ⊢
      simp only [Bool.and_eq_true] at hc ⊢
      refine ⟨⟨hc.1.1, ?_⟩, ?_⟩
      · simp only [decide_eq_true_eq, List.map_reverse, List.pairwise_reverse, List.pairwise_map]
        refine h.hord.imp_of_mem ?_
        intro a b ha hb hab
        have hp := hst.chain
        have key : ∀ (l : List Nat), l.Pairwise (fun x y => ancB (Region.before all) x y = true) → l.Pairwise (· < ·) → b.i ∈ l → a.i ∈ l → ancB (Region.before all) b.i a.i = true := by
          intro l
          induction l with
          | nil => simp
          | cons z l ih =>
            intro h1 h2 hb ha
            rw [List.pairwise_cons] at h1 h2
            rcases List.mem_cons.1 hb with hb | hb
            · rcases List.mem_cons.1 ha with ha | ha
              · omega
              · rw [hb]; exact h1.1 _ ha
            · rcases List.mem_cons.1 ha with ha | ha
              · have := h2.1 _ hb; omega
              · exact ih h1.2 h2.2 hb ha
        exact key _ hp ((List.pairwise_lt_range).filter _) (hlt b hb) (hlt a ha)
      · simp only [List.all_eq_true, decide_eq_true_eq, List.mem_map, List.mem_reverse]
        rintro _ ⟨e, he, rfl⟩
        exact (h.hlt e he).1
    · simp only [List.all_eq_true]
      intro q hq
      obtain ⟨_, ⟨o, ho, hr⟩, hne, hj⟩ := h.hr q hq
      unfold readB
      simp only [ho, List.all_eq_true, Bool.or_eq_true, beq_iff_eq]
      intro j hjw
      exact .inl ((calm_win hcalm hlt ho hr hne hjw).trans hj.symm)
  · rw [List.flatMap_eq_nil_iff]
    intro c hc
    obtain ⟨_, ⟨o, ho, hr⟩, hne, hj⟩ := h.hc c hc
    unfold asksOf
    rw [List.filterMap_eq_nil_iff]
    intro j hjw
    rw [if_pos ((calm_win hcalm hlt ho hr hne hjw).trans hj.symm)]


theorem eget_look {all : Array Oper} {i : Nat} {env env0 : Env} : ∀ (L : List (Tmp × Bool)), (∀ p ∈ L, p.2 = false → eget env0 p.1 = eget env p.1) → ∀ t, (∃ b, (t, b) ∈ L) → eget (lookEnv L env env0) t = eget env t
  | [], _, t, ⟨b, hb⟩ => by simp at hb
  | (t', b') :: L, h, t, ⟨b, hb⟩ => by
    have hv : (if b' then eget env t' else eget env0 t') = eget env t' := by
      cases b' with
      | true => rfl
      | false => simpa using h (t', false) (by simp) rfl
    unfold lookEnv
    simp only [List.filterMap_cons, hv]
    by_cases e : t' = t
    · subst e
      cases hg : eget env t' with
      | some a => simp [eget]
      | none =>
        simp only
        have : ∀ (L : List (Tmp × Bool)), (∀ p ∈ L, p.2 = false → eget env0 p.1 = eget env p.1) → eget (lookEnv L env env0) t' = none := by
          intro L
          induction L with
          | nil => intro _; rfl
          | cons p L ih =>
            intro hL
            unfold lookEnv
            simp only [List.filterMap_cons]
            have hv' : (if p.2 then eget env p.1 else eget env0 p.1) = eget env p.1 := by
              cases hp : p.2 with
              | true => rfl
              | false => simpa using hL p (by simp) hp
            rw [hv']
            have ih' := ih fun q hq => hL q (by simp [hq])
            unfold lookEnv at ih'
            cases hgp : eget env p.1 with
            | none => exact ih'
            | some a =>
              simp only [eget]
              split
              · rename_i e2; rw [e2, hg] at hgp; cases hgp
              · exact ih'
        exact this L fun p hp => h p (by simp [hp])
    · have hm : ∃ b, (t, b) ∈ L := ⟨b, by
        rcases List.mem_cons.1 hb with hb | hb
        · cases hb; exact absurd rfl e
        · exact hb⟩
      have ih := eget_look (all := all) (i := i) L (fun p hp => h p (by simp [hp])) t hm
      unfold lookEnv at ih
      cases hg : eget env t' with
      | none => exact ih
      | some a => simp only [eget, if_neg e]; exact ih

theorem mem_looks {all : Array Oper} {o : Oper} {t : Tmp} (h : Operand.tmp t ∈ o.op.operands.toList) : t ∈ looksOf all o := by
  unfold looksOf
  refine List.mem_append_left _ (List.mem_filterMap.2 ⟨_, h, rfl⟩)

/-- In a calm region the order of the text serves for all. -/
theorem calm_runs {Γ : Par} {T : Task → Res → Prop} (hTP : PureT Γ T) {x : Rc} {all : Array Oper} (hcalm : calm Γ all = true) {kp : Option (List Tmp)} {k : List Item} {ds : List ADef} {env0 : Env} {r : Res} :
    ∀ (l : List Nat) (i : Nat) (env : Env) (H : Heap) (hist : List Eff) (rds : List (Nat × Env × AV × Nat)) (cds : List CRead), l = List.range' i (all.size - i) → i ≤ all.size →
      CalmInv Γ all env0 i env hist rds cds → Q.Runs T (seqQ Γ x all kp k ds l env H) r → Q.Runs T (drawQ Γ x all kp k ds env0 l env H hist rds cds) r := by
  intro l
  induction l with
  | nil =>
    intro i env H hist rds cds hl hle hI h
    have hi : i = all.size := by
      cases hn : all.size - i with
      | zero => omega
      | succ n => rw [hn, List.range'_succ] at hl; cases hl
    subst hi
    obtain ⟨h1, h2⟩ := calm_end (base := x.base) (H := H) hcalm hI
    unfold drawQ
    rw [if_pos h1, h2]
    exact h
  | cons i' rest ih =>
    intro i env H hist rds cds hl hle hI h
    have hcalm' := hcalm
    unfold calm at hcalm'
    simp only [Bool.and_eq_true, List.all_eq_true] at hcalm'
    have hst := stat_spec hcalm'.1
    obtain ⟨rfl, hrest, hlt⟩ : i' = i ∧ rest = List.range' (i + 1) (all.size - (i + 1)) ∧ i < all.size := by
      cases hn : all.size - i with
      | zero => rw [hn] at hl; simp at hl
      | succ n =>
        rw [hn, List.range'_succ] at hl
        injection hl with h1 h2
        exact ⟨h1, by rw [h2]; congr 1; omega, by omega⟩
    have hleH : i' + 1 ≤ all.size := by omega
    unfold seqQ at h
    unfold drawQ
    cases ho : all[i']? with
    | none => rw [ho] at h; exact h
    | some o =>
      rw [ho] at h
      simp only at h ⊢
      have hlook : ∀ t ∈ looksOf all o, eget (lookEnv (look all i') env env0) t = eget env t := by
        intro t ht
        refine eget_look (all := all) (i := i') _ ?_ t ?_
        · rintro ⟨t', b⟩ hp hb
          simp only at hb
          subst hb
          unfold Av.look at hp
          simp only [ho, List.mem_map, Prod.mk.injEq] at hp
          obtain ⟨t2, ht2, rfl, hb⟩ := hp
          refine (hI.hold t2 fun j hj o' ho' hd' => ?_).symm
          have hw := hst.dst j o' t2 ho' hd'
          rw [hw] at hb
          simp only at hb
          rcases hst.looks i' o t2 j ho ht2 hw with h | h | h
          · rw [h] at hb; cases hb
          · omega
          · have := hst.anc_lt _ _ h; omega
        · unfold Av.look
          simp only [ho, List.mem_map, Prod.mk.injEq]
          exact ⟨_, t, ht, rfl, rfl⟩
      rw [guardOf_congr (e2 := env) hlook]
      have hstep : aStep Γ.toCtx x.base (lookEnv (look all i') env env0) o H = aStep Γ.toCtx x.base env o H := aStep_congr fun t ht => hlook t (mem_looks ht)
      have hold' : ∀ {a env'}, eput x.nt env o.dst a = some env' → ∀ t, (∀ j, j < i' + 1 → ∀ o, all[j]? = some o → o.dst ≠ some t) → eget env' t = eget env0 t := by
        intro a env' hp t ht
        rw [(eput_env hp).2 t (ht i' (by omega) o ho)]
        exact hI.hold t fun j hj => ht j (by omega)
      -- nothing is noted
      have plain : ∀ {a env'}, eput x.nt env o.dst a = some env' → CalmInv Γ all env0 (i' + 1) env' hist rds cds := fun hp =>
        ⟨hold' hp, fun e he => ⟨Nat.lt_succ_of_lt (hI.hlt e he).1, (hI.hlt e he).2⟩, hI.hord, fun q hq => ⟨Nat.lt_succ_of_lt (hI.hr q hq).1, (hI.hr q hq).2⟩, fun q hq => ⟨Nat.lt_succ_of_lt (hI.hc q hq).1, (hI.hc q hq).2⟩⟩
      have hcount : hist.length = hist.countP fun e => decide (e.i < i') := by
        symm
        rw [List.countP_eq_length]
        exact fun e he => by simpa using (hI.hlt e he).1
      have eff : ∀ {a a2 env' le}, eput x.nt env o.dst a = some env' → isEff Γ o = true → CalmInv Γ all env0 (i' + 1) env' (⟨i', le, a2, H⟩ :: hist) rds cds := by
        intro a a2 env' le hp he
        have hie : i' ∈ effsOf Γ all := List.mem_filter.2 ⟨by simpa using hlt, by simp [ho, he]⟩
        refine ⟨hold' hp, fun e hm => ?_, ?_, fun q hq => ?_, fun q hq => ?_⟩
        · rcases List.mem_cons.1 hm with rfl | hm
          · exact ⟨Nat.lt_succ_self _, hie⟩
          · exact ⟨Nat.lt_succ_of_lt (hI.hlt e hm).1, (hI.hlt e hm).2⟩
        · rw [List.pairwise_cons]
          exact ⟨fun e hm => (hI.hlt e hm).1, hI.hord⟩
        · obtain ⟨h1, h2, h3, h4⟩ := hI.hr q hq
          refine ⟨Nat.lt_succ_of_lt h1, h2, fun e hm => ?_, ?_⟩
          · rcases List.mem_cons.1 hm with rfl | hm
            · simp only; omega
            · exact h3 e hm
          · rw [List.countP_cons, if_neg (by simp only [decide_eq_true_eq]; omega)]; exact h4
        · obtain ⟨h1, h2, h3, h4⟩ := hI.hc q hq
          refine ⟨Nat.lt_succ_of_lt h1, h2, fun e hm => ?_, ?_⟩
          · rcases List.mem_cons.1 hm with rfl | hm
            · simp only; omega
            · exact h3 e hm
          · rw [List.countP_cons, if_neg (by simp only [decide_eq_true_eq]; omega)]; exact h4
      have hnin : ∀ e ∈ hist, e.i ≠ i' := fun e he => by have := (hI.hlt e he).1; omega
      cases hg : guardOf all env o with
      | none => rw [hg] at h; exact h
      | some b =>
        rw [hg] at h
        cases b with
        | false =>
          simp only at h ⊢
          cases hp : eput x.nt env o.dst (.atom undef) with
          | none => rw [hp] at h; exact h
          | some env' =>
            rw [hp] at h
            exact ih _ _ _ _ _ _ hrest hleH (plain hp) h
        | true =>
          simp only [hstep] at h ⊢
          cases hs : aStep Γ.toCtx x.base env o H with
          | none => rw [hs] at h; exact h
          | some out =>
            rw [hs] at h
            cases out with
            | val a H' =>
              simp only at h ⊢
              cases hp : eput x.nt env o.dst a with
              | none => rw [hp] at h; exact h
              | some env' =>
                rw [hp] at h
                simp only at h ⊢
                rcases opKind_le (P := Γ.P) o.op with hk | hk | hk
                · rw [hk]
                  have := aStep_keep (.inl hk) hs
                  subst this
                  exact ih _ _ _ _ _ _ hrest hleH (plain hp) h
                · rw [hk]
                  have := aStep_keep (.inr hk) hs
                  subst this
                  refine ih _ _ _ _ _ _ hrest hleH ?_ h
                  have hb := plain hp
                  refine ⟨hb.hold, hb.hlt, hb.hord, fun q hq => ?_, hb.hc⟩
                  rcases List.mem_cons.1 hq with rfl | hq
                  · exact ⟨Nat.lt_succ_self _, ⟨o, ho, read_kind hk⟩, hnin, hcount⟩
                  · exact hb.hr q hq
                · rw [hk]
                  exact ih _ _ _ _ _ _ hrest hleH (eff hp (val_eff hs hk)) h
            | call f args =>
              simp only at h ⊢
              obtain ⟨⟨ra, rH⟩, hcall, hk⟩ := ask_run h
              refine ⟨(ra, rH), hcall, ?_⟩
              simp only at hk ⊢
              cases hp : eput x.nt env o.dst ra with
              | none => rw [hp] at hk; exact hk
              | some env' =>
                rw [hp] at hk
                simp only at hk ⊢
                obtain ⟨hrd, hpe⟩ := call_cases hs
                by_cases hpc : pureCall Γ f = true
                · rw [if_pos hpc]
                  have : rH = H := hTP _ _ _ _ _ hcall hpc
                  subst this
                  refine ih _ _ _ _ _ _ hrest hleH ?_ hk
                  have hb := plain hp
                  refine ⟨hb.hold, hb.hlt, hb.hord, hb.hr, fun q hq => ?_⟩
                  rcases List.mem_cons.1 hq with rfl | hq
                  · exact ⟨Nat.lt_succ_self _, ⟨o, ho, hrd⟩, hnin, hcount⟩
                  · exact hb.hc q hq
                · rw [if_neg hpc]
                  refine ih _ _ _ _ _ _ hrest hleH (eff hp ?_) hk
                  cases he : isEff Γ o with
                  | true => rfl
                  | false => exact absurd (hpe he) hpc
            | round b args =>
              simp only at h ⊢
              obtain ⟨⟨ra, rH⟩, hcall, hk⟩ := ask_run h
              refine ⟨(ra, rH), hcall, ?_⟩
              simp only at hk ⊢
              cases hp : eput x.nt env o.dst ra with
              | none => rw [hp] at hk; exact hk
              | some env' =>
                rw [hp] at hk
                exact ih _ _ _ _ _ _ hrest hleH (eff hp (round_cases hs)) hk
            | dfr f args => exact h

theorem calm_draw {Γ : Par} {T : Task → Res → Prop} (hTP : PureT Γ T) {x : Rc} {all : Array Oper} (hcalm : calm Γ all = true) {kp : Option (List Tmp)} {k : List Item} {ds : List ADef} {env : Env} {H : Heap} {r : Res}
    (h : Q.Runs T (seqQ Γ x all kp k ds (List.range all.size) env H) r) : Q.Runs T (drawQ Γ x all kp k ds env (List.range all.size) env H [] [] []) r :=
  calm_runs hTP hcalm _ 0 env H [] [] [] (by rw [List.range_eq_range']; rfl) (Nat.zero_le _) ⟨fun _ _ => rfl, by simp, by simp, by simp, by simp⟩ h

end Go.Av
