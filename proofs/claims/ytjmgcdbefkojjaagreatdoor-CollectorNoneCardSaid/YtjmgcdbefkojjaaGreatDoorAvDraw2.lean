/- A part of the proof: a verified reading of the model by values alone, and what is shown by it. It holds without conditions. -/
import Derived.Test.YtjmgcdbefkojjaaGreatDoorAvDraw
import Derived.Test.YtjmgcdbefkojjaaGreatDoorAvBeq
namespace Go.Av
open Go

variable {Γ : Par}

def Fact (Γ : Par) (T : Task → Res → Prop) (base : Nat) (all : Array Oper) (e : Eff) (H' : Heap) : Prop :=
  ∃ o, all[e.i]? = some o ∧ guardOf all e.le o = some true ∧ OpFact Γ T base o e.le e.H e.a H'

def Chf (Γ : Par) (T : Task → Res → Prop) (base : Nat) (all : Array Oper) : Heap → List Eff → Heap → Prop
  | H0, [], H => H = H0
  | H0, e :: es, H => e.H = H0 ∧ ∃ H1, Fact Γ T base all e H1 ∧ Chf Γ T base all H1 es H

theorem Chf.snoc {T : Task → Res → Prop} {base : Nat} {all : Array Oper} {e : Eff} {H H' : Heap} : ∀ {es : List Eff} {H0 : Heap}, Chf Γ T base all H0 es H → e.H = H → Fact Γ T base all e H' → Chf Γ T base all H0 (es ++ [e]) H'
  | [], H0, h, he, hf => by simp only [Chf] at h; subst h; exact ⟨he, H', hf, rfl⟩
  | e' :: es, H0, ⟨h1, H1, h2, h3⟩, he, hf => ⟨h1, H1, h2, h3.snoc he hf⟩

theorem Chf.get {T : Task → Res → Prop} {base : Nat} {all : Array Oper} {H : Heap} : ∀ {es : List Eff} {H0 : Heap}, Chf Γ T base all H0 es H → (es.map (·.H) ++ [H])[0]? = some H0 ∧
    ∀ (m : Nat) (e : Eff), es[m]? = some e → ∃ Hn, (es.map (·.H) ++ [H])[m]? = some e.H ∧ (es.map (·.H) ++ [H])[m + 1]? = some Hn ∧ Fact Γ T base all e Hn
  | [], H0, h => by simp only [Chf] at h; subst h; simp
  | e' :: es, H0, ⟨h1, H1, h2, h3⟩ => by
    obtain ⟨g0, g1⟩ := h3.get
    refine ⟨by simp [h1], fun m e hm => ?_⟩
    cases m with
    | zero =>
      simp at hm; subst hm
      exact ⟨H1, by simp, by simpa using g0, h2⟩
    | succ m =>
      obtain ⟨Hn, k1, k2, k3⟩ := g1 m e (by simpa using hm)
      exact ⟨Hn, by simpa using k1, by simpa using k2, k3⟩

theorem eput_env {nt : Nat} {env env' : Env} {o : Oper} {a : AV} (h : eput nt env o.dst a = some env') : (∀ d, o.dst = some d → d < nt) ∧ ∀ t, o.dst ≠ some t → eget env' t = eget env t := by
  unfold eput at h
  split at h
  · rename_i hd
    cases h
    exact ⟨fun d h => by rw [hd] at h; (cases h), fun _ _ => rfl⟩
  · rename_i d hd
    split at h
    · rename_i hlt
      cases h
      refine ⟨fun d' h => by rw [hd] at h; cases h; exact hlt, fun t ht => ?_⟩
      have : d ≠ t := fun e => ht (by rw [hd, e])
      simp [eget, this]
    · cases h

theorem Stat.anc_lt {all : Array Oper} {eff : List Nat} (hs : Stat all eff) : ∀ (i j : Nat), ancB (Region.before all) j i = true → j < i := by
  intro i
  induction i using Nat.strongRecOn with
  | _ i ih =>
    intro j h
    obtain ⟨o, e, h1, h2, h3, h4⟩ := before_spec i j h
    have := hs.edge i o h1 e h2 h3
    rcases h4 with rfl | ⟨h5, h6⟩
    · exact this
    · have := ih e.on h5 j h6; omega

theorem lookEnv_congr {l : List (Tmp × Bool)} {e1 e2 env0 : Env} (h : ∀ t, (t, true) ∈ l → eget e1 t = eget e2 t) : lookEnv l e1 env0 = lookEnv l e2 env0 := by
  induction l with
  | nil => rfl
  | cons p l ih =>
    unfold lookEnv at ih ⊢
    simp only [List.filterMap_cons]
    rw [ih fun t ht => h t (by simp [ht])]
    obtain ⟨t, b⟩ := p
    cases b with
    | false => rfl
    | true => simp only [if_true, h t (by simp)]

def GoodE (all : Array Oper) (env0 env : Env) (e : Eff) : Prop := e.le = lookEnv (look all e.i) env env0 ∧ match all[e.i]? with
  | some o => dstIs o env e.a
  | none => False

theorem pure_heap {T : Task → Res → Prop} (hTP : PureT Γ T) {f : FuncId} {base : Nat} {args : List AV} {H : Heap} {r : Res} (hp : pureCall Γ f = true)
    (h : T (.call f base args H) r) : r.2 = H := hTP _ _ _ _ _ h hp

theorem checkQ_run {T : Task → Res → Prop} {k : Q} {r : Res} : ∀ (l : List (Task × AV)), Q.Runs T (checkQ l k) r → Q.Runs T k r ∧ ∀ t a, (t, a) ∈ l → ∃ r1, T t r1 ∧ r1.1 = a
  | [], h => ⟨h, by simp⟩
  | (t, a) :: l, h => by
    unfold checkQ at h
    obtain ⟨r1, h1, hk⟩ := ask_run h
    split at hk
    · rename_i hb
      obtain ⟨h2, h3⟩ := checkQ_run l hk
      refine ⟨h2, fun t' a' hm => ?_⟩
      rcases List.mem_cons.1 hm with hm | hm
      · cases hm; exact ⟨r1, h1, AV.beq_eq _ _ hb⟩
      · exact h3 t' a' hm
    · cases hk

def CFact (Γ : Par) (T : Task → Res → Prop) (base : Nat) (all : Array Oper) (env0 env : Env) (cd : CRead) : Prop := ∃ o, all[cd.i]? = some o ∧ cd.le = lookEnv (look all cd.i) env env0 ∧
  (∀ H, aStep Γ.toCtx base cd.le o H = some (.call cd.f cd.args)) ∧ pureCall Γ cd.f = true

def Good (Γ : Par) (T : Task → Res → Prop) (base : Nat) (all : Array Oper) (env0 env : Env) (es : List Eff) (rds : List (Nat × Env × AV × Nat)) (cds : List CRead) (Hs : List Heap) (i : Nat) : Prop := ∃ o, all[i]? = some o ∧
  ((guardOf all (lookEnv (look all i) env env0) o = some false ∧ dstIs o env (.atom undef)) ∨
   (∃ a H1 H2, guardOf all (lookEnv (look all i) env env0) o = some true ∧ aStep Γ.toCtx base (lookEnv (look all i) env env0) o H1 = some (.val a H2) ∧ dstIs o env a ∧
      (opKind Γ.P o.op = 0 ∨ (opKind Γ.P o.op = 1 ∧ ∃ j, (i, lookEnv (look all i) env env0, a, j) ∈ rds ∧ Hs[j]? = some H1))) ∨
   (∃ cd ∈ cds, cd.i = i ∧ guardOf all (lookEnv (look all i) env env0) o = some true ∧ dstIs o env cd.a ∧ pureCall Γ cd.f = true ∧ (∀ H, aStep Γ.toCtx base (lookEnv (look all i) env env0) o H = some (.call cd.f cd.args)) ∧
      ∃ H, Hs[cd.j]? = some H ∧ T (.call cd.f base cd.args H) (cd.a, H)) ∨
   ∃ e ∈ es, e.i = i)

theorem dstIs_put {nt : Nat} {env env' : Env} {o : Oper} {a : AV} (h : eput nt env o.dst a = some env') : dstIs o env' a := by
  unfold eput at h
  unfold dstIs
  split at h
  · rename_i hd; simp [hd]
  · rename_i d hd
    split at h
    · cases h; simp [hd, eget]
    · cases h

theorem drawQ_trace {T : Task → Res → Prop} (hTP : PureT Γ T) {x : Rc} {all : Array Oper} {kp : Option (List Tmp)} {k : List Item} {ds : List ADef} {env0 : Env} {H0 : Heap} {r : Res} :
    ∀ (l : List Nat) (env : Env) (H : Heap) (hist : List Eff) (rds : List (Nat × Env × AV × Nat)) (cds : List CRead), Q.Runs T (drawQ Γ x all kp k ds env0 l env H hist rds cds) r → l.Pairwise (· < ·) → Chf Γ T x.base all H0 hist.reverse H →
      (∀ t, writer all t = none → eget env t = eget env0 t) →
      ∃ env' H' es rds' cds', drawB Γ.toCtx x.base all es rds' H' = true ∧ (∀ cd ∈ cds', ∀ t a, (t, a) ∈ asksOf x.base all (es.map (·.i)) (es.map (·.H) ++ [H']) cd → ∃ r1, T t r1 ∧ r1.1 = a) ∧ ((∃ es2, es = hist.reverse ++ es2) ∧ (es.map (·.H) ++ [H'])[hist.length]? = some H) ∧ (∀ cd ∈ cds, cd ∈ cds') ∧ T (.run x k (kept kp env') ds H') r ∧ Chf Γ T x.base all H0 es H' ∧
        (∀ t, writer all t = none → eget env' t = eget env0 t) ∧ (∀ i ∈ l, ∀ o d, all[i]? = some o → o.dst = some d → d < x.nt) ∧
        (∀ e ∈ hist, e ∈ es) ∧ (∀ q ∈ rds, q ∈ rds') ∧ (∀ t, (∀ j ∈ l, ∀ o, all[j]? = some o → o.dst ≠ some t) → eget env' t = eget env t) ∧
        (∀ e ∈ es, e ∈ hist ∨ GoodE all env0 env' e) ∧ ∀ i ∈ l, Good Γ T x.base all env0 env' es rds' cds' (es.map (·.H) ++ [H']) i := by
  intro l
  induction l with
  | nil =>
    intro env H hist rds cds h _ hc he
    unfold drawQ at h
    split at h
    · rename_i hd
      obtain ⟨h, hcd⟩ := checkQ_run _ h
      rw [goto_run] at h
      exact ⟨env, H, _, rds, cds, hd, fun cd hm t a ht => hcd t a (List.mem_flatMap.2 ⟨cd, hm, ht⟩), ⟨⟨[], by simp⟩, by rw [List.getElem?_append_right (by simp)]; simp⟩, fun _ h => h, h, hc, he, by simp, by simp, by simp, by simp, fun e he => .inl (by simpa using he), by simp⟩
    · cases h
  | cons i rest ih =>
    intro env H hist rds cds h hpw hc he
    rw [List.pairwise_cons] at hpw
    unfold drawQ at h
    split at h
    · cases h
    · rename_i o ho
      have agree : ∀ {a env'}, eput x.nt env o.dst a = some env' → (∀ t, writer all t = none → eget env' t = eget env0 t) := fun hp t ht => by
        rw [(eput_env hp).2 t (writer_none ht ho)]; exact he t ht
      have lt : ∀ {a env'}, eput x.nt env o.dst a = some env' → (∀ i' ∈ rest, ∀ o d, all[i']? = some o → o.dst = some d → d < x.nt) → ∀ i' ∈ i :: rest, ∀ o d, all[i']? = some o → o.dst = some d → d < x.nt := by
        intro a env' hp hr i' hi'
        rcases List.mem_cons.1 hi' with rfl | hi'
        · intro o' d ho' hd; rw [ho] at ho'; cases ho'; exact (eput_env hp).1 d hd
        · exact hr i' hi'
      have pres : ∀ {a env1 env'}, eput x.nt env o.dst a = some env1 → (∀ t, (∀ j ∈ rest, ∀ o, all[j]? = some o → o.dst ≠ some t) → eget env' t = eget env1 t) →
          ∀ t, (∀ j ∈ i :: rest, ∀ o, all[j]? = some o → o.dst ≠ some t) → eget env' t = eget env t := by
        intro a env1 env' hp hr t ht
        rw [hr t fun j hj => ht j (by simp [hj]), (eput_env hp).2 t (ht i (by simp) o ho)]
      -- what is looked at stays, and what is laid
      have keep : ∀ {a env1 env' es rds' H'}, drawB Γ.toCtx x.base all es rds' H' = true → eput x.nt env o.dst a = some env1 → (∀ t, (∀ j ∈ rest, ∀ o, all[j]? = some o → o.dst ≠ some t) → eget env' t = eget env1 t) →
          lookEnv (look all i) env env0 = lookEnv (look all i) env' env0 ∧ dstIs o env' a := by
        intro a env1 env' es rds' H' hdb hp hr
        unfold drawB at hdb
        rw [Bool.and_eq_true] at hdb
        have hst := stat_spec hdb.1
        constructor
        · refine lookEnv_congr fun t ht => ?_
          unfold Av.look at ht
          simp only [ho, List.mem_map, Prod.mk.injEq] at ht
          obtain ⟨t', ht', rfl, hb⟩ := ht
          split at hb
          · rename_i j hw
            have hji := hst.anc_lt i j hb
            have hno : ∀ j' ∈ i :: rest, ∀ o', all[j']? = some o' → o'.dst ≠ some t' := by
              intro j' hj' o' ho' hd'
              have h1 := hst.dst j' o' t' ho' hd'
              rw [hw] at h1; cases h1
              rcases List.mem_cons.1 hj' with rfl | hj'
              · omega
              · have := hpw.1 j hj'; omega
            rw [hr t' fun j' hj' => hno j' (by simp [hj']), (eput_env hp).2 t' (hno i (by simp) o ho)]
          · cases hb
        · have h1 := dstIs_put hp
          unfold dstIs at h1 ⊢
          split
          · trivial
          · rename_i d hd
            rw [hd] at h1
            rw [hr d fun j hj o' ho' hd' => by
              have h2 := hst.dst j o' d ho' hd'
              have h3 := hst.dst i o d ho hd
              rw [h2] at h3; cases h3
              have := hpw.1 i hj; omega]
            exact h1
      split at h
      · cases h
      · rename_i hg
        split at h
        · rename_i env1 hp
          obtain ⟨env', H', es, rds', cds', h1, q1, q2, q3, h2, h3, h4, h5, h6, h7, h8, h9, h10⟩ := ih env1 H hist rds cds h hpw.2 hc (agree hp)
          obtain ⟨k1, k2⟩ := keep h1 hp h8
          refine ⟨env', H', es, rds', cds', h1, q1, q2, q3, h2, h3, h4, lt hp h5, h6, h7, pres hp h8, h9, fun i' hi' => ?_⟩
          rcases List.mem_cons.1 hi' with rfl | hi'
          · exact ⟨o, ho, .inl ⟨k1 ▸ hg, k2⟩⟩
          · exact h10 i' hi'
        · cases h
      · rename_i hg
        have effCase : ∀ {a H1 env1}, eput x.nt env o.dst a = some env1 → OpFact Γ T x.base o (lookEnv (look all i) env env0) H a H1 →
            Q.Runs T (drawQ Γ x all kp k ds env0 rest env1 H1 (⟨i, lookEnv (look all i) env env0, a, H⟩ :: hist) rds cds) r → ∃ env' H' es rds' cds', drawB Γ.toCtx x.base all es rds' H' = true ∧ (∀ cd ∈ cds', ∀ t a, (t, a) ∈ asksOf x.base all (es.map (·.i)) (es.map (·.H) ++ [H']) cd → ∃ r1, T t r1 ∧ r1.1 = a) ∧ ((∃ es2, es = hist.reverse ++ es2) ∧ (es.map (·.H) ++ [H'])[hist.length]? = some H) ∧ (∀ cd ∈ cds, cd ∈ cds') ∧ T (.run x k (kept kp env') ds H') r ∧ Chf Γ T x.base all H0 es H' ∧
            (∀ t, writer all t = none → eget env' t = eget env0 t) ∧ (∀ i' ∈ i :: rest, ∀ o d, all[i']? = some o → o.dst = some d → d < x.nt) ∧
            (∀ e ∈ hist, e ∈ es) ∧ (∀ q ∈ rds, q ∈ rds') ∧ (∀ t, (∀ j ∈ i :: rest, ∀ o, all[j]? = some o → o.dst ≠ some t) → eget env' t = eget env t) ∧
            (∀ e ∈ es, e ∈ hist ∨ GoodE all env0 env' e) ∧ ∀ i' ∈ i :: rest, Good Γ T x.base all env0 env' es rds' cds' (es.map (·.H) ++ [H']) i' := by
          intro a H1 env1 hp hfact h
          obtain ⟨env', H', es, rds', cds', h1, q1, ⟨⟨es2, q2⟩, _⟩, q3, h2, h3, h4, h5, h6, h7, h8, h9, h10⟩ := ih env1 H1 _ rds cds h hpw.2 (by
            rw [List.reverse_cons]; exact hc.snoc rfl ⟨o, ho, hg, hfact⟩) (agree hp)
          obtain ⟨k1, k2⟩ := keep h1 hp h8
          refine ⟨env', H', es, rds', cds', h1, q1, ⟨⟨_, by rw [q2, List.reverse_cons, List.append_assoc]⟩, by rw [q2]; simp⟩, q3, h2, h3, h4, lt hp h5, fun e he => h6 e (by simp [he]), h7, pres hp h8, fun e he => ?_, fun i' hi' => ?_⟩
          · rcases h9 e he with h | h
            · rcases List.mem_cons.1 h with rfl | h
              · refine .inr ⟨k1, ?_⟩
                simp only [ho]; exact k2
              · exact .inl h
            · exact .inr h
          · rcases List.mem_cons.1 hi' with rfl | hi'
            · exact ⟨o, ho, .inr (.inr (.inr ⟨_, h6 _ List.mem_cons_self, rfl⟩))⟩
            · exact h10 i' hi'
        split at h
        · rename_i a H1 hst
          split at h
          · rename_i env1 hp
            split at h
            · rename_i hk
              obtain ⟨env', H', es, rds', cds', h1, q1, q2, q3, h2, h3, h4, h5, h6, h7, h8, h9, h10⟩ := ih env1 H hist rds cds h hpw.2 hc (agree hp)
              obtain ⟨k1, k2⟩ := keep h1 hp h8
              refine ⟨env', H', es, rds', cds', h1, q1, q2, q3, h2, h3, h4, lt hp h5, h6, h7, pres hp h8, h9, fun i' hi' => ?_⟩
              rcases List.mem_cons.1 hi' with rfl | hi'
              · exact ⟨o, ho, .inr (.inl ⟨a, H, H1, k1 ▸ hg, k1 ▸ hst, k2, .inl hk⟩)⟩
              · exact h10 i' hi'
            · rename_i hk
              obtain ⟨env', H', es, rds', cds', h1, q1, q2, q3, h2, h3, h4, h5, h6, h7, h8, h9, h10⟩ := ih env1 H hist _ cds h hpw.2 hc (agree hp)
              obtain ⟨k1, k2⟩ := keep h1 hp h8
              refine ⟨env', H', es, rds', cds', h1, q1, q2, q3, h2, h3, h4, lt hp h5, h6, fun q hq => h7 q (by simp [hq]), pres hp h8, h9, fun i' hi' => ?_⟩
              rcases List.mem_cons.1 hi' with rfl | hi'
              · exact ⟨o, ho, .inr (.inl ⟨a, H, H1, k1 ▸ hg, k1 ▸ hst, k2, .inr ⟨hk, hist.length, h7 _ (by rw [← k1]; simp), q2.2⟩⟩)⟩
              · exact h10 i' hi'
            · exact effCase hp (.inl hst) h
          · cases h
        · rename_i f args hst
          obtain ⟨⟨a1, H1⟩, hcall, hk⟩ := ask_run h
          dsimp only at hk
          split at hk
          · rename_i env1 hp
            split at hk
            · rename_i hpc
              have hH1 : H1 = H := pure_heap hTP hpc hcall
              subst hH1
              obtain ⟨env', H', es, rds', cds', h1, q1, q2, q3, h2, h3, h4, h5, h6, h7, h8, h9, h10⟩ := ih env1 H1 hist rds _ hk hpw.2 hc (agree hp)
              obtain ⟨k1, k2⟩ := keep h1 hp h8
              refine ⟨env', H', es, rds', cds', h1, q1, q2, fun cd hcd => q3 cd (by simp [hcd]), h2, h3, h4, lt hp h5, h6, h7, pres hp h8, h9, fun i' hi' => ?_⟩
              rcases List.mem_cons.1 hi' with rfl | hi'
              · refine ⟨o, ho, .inr (.inr (.inl ⟨_, q3 _ List.mem_cons_self, rfl, k1 ▸ hg, k2, hpc, k1 ▸ aStep_call_any hst, H1, q2.2, hcall⟩))⟩
              · exact h10 i' hi'
            · exact effCase hp (.inr (.inl ⟨f, args, hst, hcall⟩)) hk
          · cases hk
        · rename_i f args hst
          obtain ⟨⟨a1, H1⟩, hcall, hk⟩ := ask_run h
          dsimp only at hk
          split at hk
          · rename_i env1 hp
            exact effCase hp (.inr (.inr ⟨f, args, hst, hcall⟩)) hk
          · cases hk
        · cases h

def PureOK (Γ : Par) (T : Task → Res → Prop) (base : Nat) (all : Array Oper) (env env0 : Env) (i : Nat) (H : Option Heap) : Prop := ∃ o H1, all[i]? = some o ∧ H = some H1 ∧
  ((guardOf all (lookEnv (look all i) env env0) o = some false ∧ dstIs o env (.atom undef)) ∨
   (guardOf all (lookEnv (look all i) env env0) o = some true ∧ ∃ a, OpFact Γ T base o (lookEnv (look all i) env env0) H1 a H1 ∧ dstIs o env a))

def DrawOK (Γ : Par) (T : Task → Res → Prop) (base : Nat) (all : Array Oper) (env0 env : Env) (es : List Eff) (H : Heap) : Prop :=
  stat all (es.map (·.i)) = true ∧
  (∀ e ∈ es, e.le = lookEnv (look all e.i) env env0 ∧ match all[e.i]? with
    | some o => dstIs o env e.a
    | none => False) ∧
  ∀ i ∈ pures all (es.map (·.i)), ∀ j ∈ win all (es.map (·.i)) i, PureOK Γ T base all env env0 i ((es.map (·.H) ++ [H])[j]?)

theorem drawQ_ok {T : Task → Res → Prop} (hTP : PureT Γ T) {x : Rc} {all : Array Oper} {kp : Option (List Tmp)} {k : List Item} {ds : List ADef} {env0 : Env} {H0 : Heap} {r : Res}
    (h : Q.Runs T (drawQ Γ x all kp k ds env0 (List.range all.size) env0 H0 [] [] []) r) :
    ∃ env' H' es, DrawOK Γ T x.base all env0 env' es H' ∧ T (.run x k (kept kp env') ds H') r ∧ Chf Γ T x.base all H0 es H' ∧
      (∀ t, writer all t = none → eget env' t = eget env0 t) ∧ (∀ i ∈ List.range all.size, ∀ o d, all[i]? = some o → o.dst = some d → d < x.nt) := by
  obtain ⟨env', H', es, rds', cds', h1, q1, _, _, h2, h3, h4, h5, _, _, _, h9, h10⟩ := drawQ_trace (H0 := H0) hTP _ _ _ _ _ _ h List.pairwise_lt_range rfl (fun _ _ => rfl)
  refine ⟨env', H', es, ?_, h2, h3, h4, h5⟩
  unfold drawB at h1
  rw [Bool.and_eq_true] at h1
  refine ⟨h1.1, fun e he => ?_, fun i hi j hj => ?_⟩
  · rcases h9 e he with h | h
    · simp at h
    · exact h
  · unfold pures at hi
    simp only [List.mem_filter, List.mem_range] at hi
    obtain ⟨o, ho, hgood⟩ := h10 i (by simpa using hi.1)
    have hj2 : j < (es.map (·.H) ++ [H']).length := by
      unfold win at hj
      simp only [List.mem_filter, List.mem_range] at hj
      have := hj.1
      simpa using this
    refine ⟨o, _, ho, List.getElem?_eq_getElem hj2, ?_⟩
    rcases hgood with ⟨hg, hd⟩ | ⟨a, H1, H2, hg, hst, hd, hk⟩ | ⟨cd, hcd, rfl, hg, hd, hpc, hst, H1, hH1, hE⟩ | ⟨e, he, rfl⟩
    · exact .inl ⟨hg, hd⟩
    · refine .inr ⟨hg, a, .inl ?_, hd⟩
      rcases hk with hk | ⟨hk, j0, hmem, hH0⟩
      · exact aStep_free hk hst _
      · have hrd := List.all_eq_true.1 h1.2 _ hmem
        unfold readB at hrd
        simp only [ho, List.all_eq_true] at hrd
        have hrd := hrd j hj
        by_cases hjj : j = j0
        · subst hjj
          rw [List.getElem?_eq_getElem hj2] at hH0
          cases hH0
          rw [hst, aStep_keep (.inr hk) hst]
        rw [Bool.or_eq_true, beq_iff_eq, or_iff_right hjj, List.getElem?_eq_getElem hj2] at hrd
        simp only at hrd
        split at hrd
        · rename_i a' H3 hst'
          rw [hst', aStep_keep (.inr hk) hst', AV.beq_eq _ _ hrd]
        · cases hrd
    · refine .inr ⟨hg, cd.a, .inr (.inl ⟨cd.f, cd.args, hst _, ?_⟩), hd⟩
      by_cases hjj : j = cd.j
      · subst hjj
        rw [List.getElem?_eq_getElem hj2] at hH1
        cases hH1
        exact hE
      · have hmem : (Task.call cd.f x.base cd.args (es.map (·.H) ++ [H'])[j], cd.a) ∈ asksOf x.base all (es.map (·.i)) (es.map (·.H) ++ [H']) cd := by
          unfold asksOf
          refine List.mem_filterMap.2 ⟨j, hj, ?_⟩
          rw [if_neg hjj, List.getElem?_eq_getElem hj2]
        obtain ⟨⟨ra, rH⟩, hr1, hra⟩ := q1 cd hcd _ _ hmem
        have hH := pure_heap hTP hpc hr1
        dsimp only at hra hH
        rw [hra, hH] at hr1
        exact hr1
    · have : ¬ e.i ∈ es.map (·.i) := by simpa using hi.2
      exact (this (List.mem_map.2 ⟨e, he, rfl⟩)).elim

/-- One listed more. -/
theorem count_set {eff : List Nat} {ls : Nat → Bool} {i : Nat} (hi : i ∉ eff) : eff.countP (fun j => if j = i then true else ls j) = eff.countP ls := by
  refine List.countP_congr fun j hj => ?_
  have : j ≠ i := fun e => hi (e ▸ hj)
  simp [this]

theorem count_at {all : Array Oper} {ls : Nat → Bool} (hc : Closed all ls) {i : Nat} (hi : ls i = false)
    (hready : ∀ j, ancB (Region.before all) j i = true → ls j = true) : ∀ {eff : List Nat}, eff.Pairwise (fun x y => ancB (Region.before all) x y = true) → i ∈ eff →
    ∃ m, eff[m]? = some i ∧ eff.countP ls = m ∧ eff.countP (fun j => if j = i then true else ls j) = m + 1
  | e :: eff, hp, hm => by
    rw [List.pairwise_cons] at hp
    by_cases he : e = i
    · subst he
      have hz : ∀ j ∈ eff, ls j = false := by
        intro j hj
        cases hlj : ls j with
        | false => rfl
        | true => have := hc.anc j e (hp.1 j hj) (.inl hlj); rw [hi] at this; cases this
      have hne : e ∉ eff := by
        intro hj
        have h1 := hready e (hp.1 e hj)
        rw [hi] at h1; cases h1
      have h0 : eff.countP ls = 0 := List.countP_eq_zero.2 fun j hj => by simp [hz j hj]
      refine ⟨0, by simp, by simp [hi, h0], ?_⟩
      rw [List.countP_cons, count_set hne, h0]; simp
    · have hmem : i ∈ eff := by
        rcases List.mem_cons.1 hm with h | h
        · exact (he h.symm).elim
        · exact h
      obtain ⟨m, h1, h2, h3⟩ := count_at hc hi hready hp.2 hmem
      have hle : ls e = true := hready e (hp.1 i hmem)
      refine ⟨m + 1, by simpa using h1, ?_, ?_⟩
      · rw [List.countP_cons, h2]; simp [hle]
      · rw [List.countP_cons, h3]; simp [hle]

theorem win_of {all : Array Oper} {eff : List Nat} {ls : Nat → Bool} (hc : Closed all ls) {i : Nat} (hi : ls i = false) (hready : ∀ j, ancB (Region.before all) j i = true → ls j = true) :
    eff.countP ls ∈ win all eff i := by
  unfold win
  simp only [List.mem_filter, List.mem_range, Bool.and_eq_true, decide_eq_true_eq]
  refine ⟨by have := List.countP_le_length (p := ls) (l := eff); omega, ?_, ?_⟩
  · exact List.countP_mono_left fun j _ h => hready j h
  · refine List.countP_mono_left fun j _ h => ?_
    cases e : ancB (Region.before all) i j with
    | false => rfl
    | true => have := hc.anc j i e (.inl h); rw [hi] at this; cases this

theorem countP_lt {l : List Nat} {p q : Nat → Bool} (h : ∀ j ∈ l, q j = true → p j = true) {i : Nat} (hi : i ∈ l) (hp : p i = true) (hq : q i = false) : l.countP q < l.countP p := by
  induction l with
  | nil => simp at hi
  | cons a l ih =>
    rw [List.countP_cons, List.countP_cons]
    have hmono : l.countP q ≤ l.countP p := List.countP_mono_left fun j hj h' => h j (by simp [hj]) h'
    rcases List.mem_cons.1 hi with rfl | hi
    · simp [hp, hq]; omega
    · have := ih (fun j hj => h j (by simp [hj])) hi
      have ha := h a (by simp)
      cases hqa : q a <;> cases hpa : p a <;> simp_all <;> omega

theorem draw_go {T : Task → Res → Prop} (ih : AllT Γ T) {x : Rc} {all : Array Oper} {env0 env : Env} {es : List Eff} {H0 Hend : Heap} (hd : DrawOK Γ T x.base all env0 env es Hend)
    (hch : Chf Γ T x.base all H0 es Hend) (hlt : ∀ (i : Nat) (o : Oper) (d : Tmp), all[i]? = some o → o.dst = some d → d < x.nt) (defers : List Deferred) (rd : Option Nat) (k : List Item) :
    ∀ (fuel t : Nat) (listed : Array Bool) (tmps : Array Value) (c : Cn) (H : Heap), listed.size = all.size → Closed all (listed.getD · false) →
      (List.range all.size).countP (fun i => !listed.getD i false) ≤ fuel →
      (es.map (·.H) ++ [Hend])[(es.map (·.i)).countP (listed.getD · false)]? = some H → Inv c H → GlobOK Γ.G c → x.base ≤ H.length → Laid x all env0 env (listed.getD · false) tmps c →
      ∃ c' tmps', Post x.base c H c' Hend ∧ Laid x all env0 env (fun i => decide (i < all.size)) tmps' c' ∧
        ∀ kind cs, Steps Γ.P (lone (frAt x.fid kind rd tmps defers (.inRegion all (Region.linearise.go .any all fuel t listed []) :: k)) cs c.w) (lone (frAt x.fid kind rd tmps' defers (.inRegion all [] :: k)) cs c'.w) := by
  obtain ⟨hst0, heff, hpure⟩ := hd
  have hst := stat_spec hst0
  have fin : ∀ (listed : Array Bool) (tmps : Array Value) (c : Cn) (H : Heap), listed.size = all.size → (List.range all.size).countP (fun i => !listed.getD i false) = 0 →
      (es.map (·.H) ++ [Hend])[(es.map (·.i)).countP (listed.getD · false)]? = some H → Inv c H → Laid x all env0 env (listed.getD · false) tmps c →
      ∃ c' tmps', Post x.base c H c' Hend ∧ Laid x all env0 env (fun i => decide (i < all.size)) tmps' c' ∧
        ∀ kind cs, Steps Γ.P (lone (frAt x.fid kind rd tmps defers (.inRegion all [] :: k)) cs c.w) (lone (frAt x.fid kind rd tmps' defers (.inRegion all [] :: k)) cs c'.w) := by
    intro listed tmps c H hsz h0 hH hI hl
    have hall : ∀ i, i < all.size → listed.getD i false = true := fun i hi => by
      have := (List.countP_eq_zero.1 h0) i (by simpa using hi)
      simpa using this
    have hc : (es.map (·.i)).countP (listed.getD · false) = es.length := by
      have : (es.map (·.i)).countP (listed.getD · false) = (es.map (·.i)).length := List.countP_eq_length.2 fun i hi => hall i (hst.inR i hi)
      simpa using this
    rw [hc] at hH
    have hHe : H = Hend := by
      have h1 : (es.map (·.H) ++ [Hend])[es.length]? = some Hend := by
        rw [List.getElem?_append_right (by simp)]; simp
      rw [h1] at hH; cases hH; rfl
    subst hHe
    refine ⟨c, tmps, Post.refl hI, ⟨hl.size, fun i o d a h1 h2 h3 h4 => hl.new i o d a (hall i (by simpa using h1)) h2 h3 h4, fun t a h1 h2 => hl.old t a h1 fun i hi => ?_⟩, fun _ _ => Steps.refl _ _⟩
    have h1 := h2 i hi
    obtain ⟨o, ho, _⟩ := writer_spec hi
    have := (Array.getElem?_eq_some_iff.1 ho).1
    simp [this] at h1
  intro fuel
  induction fuel with
  | zero =>
    intro t listed tmps c H hsz hcl hf hH hI hG hb hl
    simp only [Region.linearise.go, List.reverse_nil]
    exact fin listed tmps c H hsz (by omega) hH hI hl
  | succ fuel ihf =>
    intro t listed tmps c H hsz hcl hf hH hI hG hb hl
    simp only [Region.linearise.go]
    change ∃ c' tmps', _ ∧ _ ∧ ∀ kind cs, Steps Γ.P (lone (frAt x.fid kind rd tmps defers (.inRegion all (match (Region.ready .any all listed)[t % (Region.ready .any all listed).length]? with
      | some i => Region.linearise.go .any all fuel (t / (Region.ready .any all listed).length) (listed.setIfInBounds i true) [i]
      | none => [].reverse) :: k)) cs c.w) _
    cases hi : (Region.ready .any all listed)[t % (Region.ready .any all listed).length]? with
    | none =>
      have hnil : Region.ready .any all listed = [] := by
        cases hr : Region.ready .any all listed with
        | nil => rfl
        | cons y ys =>
          rw [hr] at hi
          have hlt : t % (y :: ys).length < (y :: ys).length := Nat.mod_lt _ (by simp)
          simp at hi
          simp at hlt
          omega
      have h0 : (List.range all.size).countP (fun i => !listed.getD i false) = 0 := by
        refine List.countP_eq_zero.2 fun i hi => ?_
        have key : ∀ i, i < all.size → listed.getD i false = true := by
          intro i
          induction i using Nat.strongRecOn with
          | _ i ihi =>
            intro hi
            cases hli : listed.getD i false with
            | true => rfl
            | false =>
              exfalso
              have hmem : i ∈ Region.ready .any all listed := by
                rw [mem_ready]
                refine ⟨?_, all[i], by simp [hi], fun e he hb => ?_⟩
                · have : i < listed.size := by omega
                  simp [Array.getD_eq_getD_getElem?, this] at hli ⊢
                  exact hli
                · have hlt := hst.edge i all[i] (by simp [hi]) e he hb
                  exact ihi e.on hlt (by omega)
              rw [hnil] at hmem
              cases hmem
        simp [key i (by simpa using hi)]
      exact fin listed tmps c H hsz h0 hH hI hl
    | some i =>
      simp only []
      rw [linearise_go_acc, List.reverse_singleton, List.singleton_append]
      obtain ⟨hli0, o, ho, hafter⟩ := mem_ready.1 (List.mem_of_getElem? hi)
      have hin : i < all.size := (Array.getElem?_eq_some_iff.1 ho).1
      have hinl : i < listed.size := by omega
      have hli : listed.getD i false = false := by
        simp [Array.getD_eq_getD_getElem?, hinl] at hli0 ⊢; exact hli0
      have hls : ∀ j, (listed.setIfInBounds i true).getD j false = if j = i then true else listed.getD j false := by
        intro j
        by_cases e : j = i
        · subst e; simp [Array.getD_eq_getD_getElem?, hinl]
        · simp [Array.getD_eq_getD_getElem?, Array.getElem?_setIfInBounds_ne (Ne.symm e), e]
      have hready : ∀ j, ancB (Region.before all) j i = true → listed.getD j false = true := fun j hj => hcl.anc i j hj (.inr fun o' ho' => by rw [ho] at ho'; cases ho'; exact hafter)
      have hle := hl.look hst hcl ho hli hafter
      have hcl' : Closed all ((listed.setIfInBounds i true).getD · false) := by
        intro j o' hj ho' e he hb
        simp only [hls] at hj ⊢
        by_cases ej : j = i
        · subst ej
          rw [ho] at ho'; cases ho'
          have := hafter e he hb
          by_cases ee : e.on = j <;> simp [ee]
          · simpa using this
        · simp only [ej, if_false] at hj
          have := hcl j o' hj ho' e he hb
          by_cases ee : e.on = i <;> simp [ee]
          · simpa using this
      have hfun : ((listed.setIfInBounds i true).getD · false) = fun j => if j = i then true else listed.getD j false := funext hls
      have hf' : (List.range all.size).countP (fun j => !(listed.setIfInBounds i true).getD j false) ≤ fuel := by
        have := countP_lt (l := List.range all.size) (p := fun j => !listed.getD j false) (q := fun j => !(listed.setIfInBounds i true).getD j false) (i := i) (by
          intro j _ hq
          simp only [hls] at hq
          by_cases e : j = i
          · simp [e] at hq
          · simpa [e] using hq) (by simpa using hin) (by simp [hli]) (by simp [hls])
        omega
      -- one step, and on
      have go1 : ∀ (c1 : Cn) (v : Value) (H1 : Heap) (a : AV), Post x.base c H c1 H1 → Rep c1 a v → dstIs o env a →
          (es.map (·.H) ++ [Hend])[(es.map (·.i)).countP ((listed.setIfInBounds i true).getD · false)]? = some H1 →
          (∀ kind cs rest, Steps Γ.P (lone (frAt x.fid kind rd tmps defers (.inRegion all (i :: rest) :: k)) cs c.w) (lone (frAt x.fid kind rd (putT tmps o.dst v) defers (.inRegion all rest :: k)) cs c1.w)) →
          ∃ c' tmps', Post x.base c H c' Hend ∧ Laid x all env0 env (fun i => decide (i < all.size)) tmps' c' ∧
            ∀ kind cs, Steps Γ.P (lone (frAt x.fid kind rd tmps defers (.inRegion all (i :: Region.linearise.go .any all fuel (t / (Region.ready .any all listed).length) (listed.setIfInBounds i true) []) :: k)) cs c.w) (lone (frAt x.fid kind rd tmps' defers (.inRegion all [] :: k)) cs c'.w) := by
        intro c1 v H1 a hp1 hr1 hda hH1 hs1
        have hl1 := (hl.ext hp1.ext).put hst ho hda (fun d hd => hlt i o d ho hd) hr1
        rw [← hfun] at hl1
        obtain ⟨c', tmps', hp, hl', hs⟩ := ihf (t / (Region.ready .any all listed).length) (listed.setIfInBounds i true) _ c1 H1 (by simp [hsz]) hcl' hf' hH1 hp1.inv (hG.ext hp1.ext) (Nat.le_trans hb hp1.len) hl1
        exact ⟨c', tmps', hp1.trans hp, hl', fun kind cs => (hs1 kind cs _).trans (hs kind cs)⟩
      by_cases hie : i ∈ es.map (·.i)
      · -- an effect, in its turn
        obtain ⟨m, hm1, hm2, hm3⟩ := count_at hcl hli hready hst.chain hie
        rw [List.getElem?_map] at hm1
        cases hem : es[m]? with
        | none => simp [hem] at hm1
        | some e =>
          simp only [hem, Option.map_some, Option.some.injEq] at hm1
          obtain ⟨Hn, k1, k2, o', ho', hg, hfact⟩ := hch.get.2 m e hem
          obtain ⟨hle', hd'⟩ := heff e (List.mem_of_getElem? hem)
          rw [hm1] at ho' hle' hd'
          rw [ho] at ho' hd'; cases ho'
          rw [hle'] at hg hfact
          have hHe : H = e.H := by
            rw [hm2, k1] at hH; cases hH; rfl
          subst hHe
          obtain ⟨c1, v, hp1, hr1, hs1⟩ := op_step ih defers rd k hI hG hle hb ho hg hfact
          refine go1 c1 v Hn e.a hp1 hr1 hd' ?_ hs1
          rw [hfun, hm3]; exact k2
      · -- a look
        have hpu : i ∈ pures all (es.map (·.i)) := by
          unfold pures
          simp only [List.mem_filter, List.mem_range]
          exact ⟨hin, by simpa using hie⟩
        have hPO := hpure i hpu _ (win_of hcl hli hready)
        rw [hH] at hPO
        have hcnt : (es.map (·.H) ++ [Hend])[(es.map (·.i)).countP ((listed.setIfInBounds i true).getD · false)]? = some H := by
          rw [hfun, count_set hie]; exact hH
        obtain ⟨o', H1, ho', hH1, hPO⟩ := hPO
        rw [ho] at ho'; cases ho'
        cases hH1
        rcases hPO with ⟨hg, hda⟩ | ⟨hg, a, hfact, hda⟩
        · exact go1 c undef H (.atom undef) (Post.refl hI) rfl hda hcnt (skip_step defers rd k hle ho hg)
        · obtain ⟨c1, v, hp1, hr1, hs1⟩ := op_step ih defers rd k hI hG hle hb ho hg hfact
          exact go1 c1 v H a hp1 hr1 hda hcnt hs1

theorem draw_ok {T : Task → Res → Prop} (ih : AllT Γ T) (hTP : PureT Γ T) (hmx : Γ.P.follows .mixedOrders = true) {x : Rc} {id : Nat} {all : Array Oper} {kp : Option (List Tmp)} {k : List Item} {env : Env} {ds : List ADef} {H : Heap} {r : Res}
    (h : Q.Runs T (drawQ Γ x all kp k ds env (List.range all.size) env H [] [] []) r) : TaskOK Γ (.run x (.code (.region id all true) :: k) env ds H) r := by
  obtain ⟨env', H', es, h1, h2, h3, h4, h5⟩ := drawQ_ok hTP h
  obtain ⟨ra, rH⟩ := r
  intro c tmps defers rd hI hG he hsz hds hb hrd
  have hlt : ∀ (i : Nat) (o : Oper) (d : Tmp), all[i]? = some o → o.dst = some d → d < x.nt := fun i o d ho hd => h5 i (by simp; exact (Array.getElem?_eq_some_iff.1 ho).1) o d ho hd
  have hp0 : Post x.base c H { c with w := { c.w with drawn := c.w.drawn + 1 } } H := Post.same hI rfl
  have hl0 : Laid x all env env' ((Array.replicate all.size false).getD · false) tmps { c with w := { c.w with drawn := c.w.drawn + 1 } } := by
    refine ⟨hsz, fun i o d a hi => ?_, fun t a ha _ => (he.ext hp0.ext) t a ha⟩
    by_cases hi' : i < all.size <;> simp [Array.getD_eq_getD_getElem?, hi'] at hi
  have hfalse : ∀ i, (Array.replicate all.size false).getD i false = false := fun i => by
    by_cases hi' : i < all.size <;> simp [Array.getD_eq_getD_getElem?, hi']
  have hcl0 : Closed all ((Array.replicate all.size false).getD · false) := by
    intro i o hi
    simp only [hfalse] at hi
    cases hi
  obtain ⟨c1, tmps', hp1, hl1, hs1⟩ := draw_go ih h1 h3 hlt defers rd k all.size (c.w.tape c.w.drawn (.order x.fid id)) (Array.replicate all.size false) tmps _ H (by simp) hcl0
    (by have := List.countP_le_length (p := fun i => !(Array.replicate all.size false).getD i false) (l := List.range all.size); simpa using this)
    (by rw [show (es.map (·.i)).countP ((Array.replicate all.size false).getD · false) = 0 from List.countP_eq_zero.2 fun i _ => by simp only [hfalse]; simp]; exact h3.get.1) hp0.inv (hG.ext hp0.ext) hb hl0
  have hp := hp0.trans hp1
  have he' : EnvRep c1 env' tmps' := by
    intro t a ha
    cases hw : writer all t with
    | none =>
      refine hl1.old t a ?_ fun i hi => by rw [hw] at hi; cases hi
      rw [← h4 t hw]; exact ha
    | some i =>
      obtain ⟨o, ho, hd⟩ := writer_spec hw
      exact hl1.new i o t a (by simp; exact (Array.getElem?_eq_some_iff.1 ho).1) ho hd ha
  obtain ⟨c', v, hp2, hr2, hf2⟩ := ih _ _ h2 c1 tmps' defers rd hp.inv (hG.ext hp.ext) (he'.restrict kp) hl1.size (hds.ext hp.ext) (Nat.le_trans hb hp.len) (hrd.ext hp.ext)
  refine ⟨c', v, hp.trans hp2, hr2, fun kind cs hkd => ?_⟩
  have h0 := fstep_region_draw (P := Γ.P) (fid := x.fid) (kind := kind) (rd := rd) (tmps := tmps) (ds := defers) (k := k) (cs := cs) (w := c.w) (id := id) (ops := all)
  simp only [Region.schedule, hmx, Bool.true_or, if_true, Region.linearise] at h0
  exact (hf2 kind cs hkd).steps ((Steps.head h0 (hs1 kind cs)).trans (.one fstep_region_end))

end Go.Av
