/- A part of the proof: a verified reading of the model by values alone, and what is shown by it. It holds without conditions. -/
import Derived.Test.YtjmgcdbefkojjaaGreatDoorAvSimp2
namespace Go.Av
open Go

def WDCont (F : Env → Heap → Prop) (nt : Nat) (env : Env) (dst : Option Tmp) (H : Heap) (pure : Bool) (F2 : AV → Env → Heap → Prop) (r : Res) : Prop :=
  match eput nt env dst r.1 with
  | some env' => if pure = true then F2 r.1 env' H else F env' r.2
  | none => False

/-- A call asked again, with the same answer. -/
def Ask (Γ : Par) (t : Task) (a : AV) : Prop := ∃ r1, OK Γ t r1 ∧ AV.beq r1.1 a = true
theorem Ask.of {Γ : Par} {t : Task} {a : AV} {r : Res} (h : OK Γ t r) (hb : AV.beq r.1 a = true) : Ask Γ t a := ⟨r, h, hb⟩
/-- The calls that are asked again in other memories. -/
def WAsks (Γ : Par) : List (Task × AV) → Prop → Prop
  | [], X => X
  | (t, a) :: l, X => Ask Γ t a ∧ WAsks Γ l X

structure DRead where
  i : Nat
  le : Env
  a : AV
  j : Nat

/-- What was done in a drawn region so far. -/
structure DSt where
  hist : List Eff
  rds : List DRead
  cds : List CRead

def DSt.rl (s : DSt) : List (Nat × Env × AV × Nat) := s.rds.map fun q => (q.i, q.le, q.a, q.j)

/-- A drawn region whose order matters somewhere: `lk` says what each operation looks at. -/
def WDraw (Γ : Par) (G : Rc → (Res → Prop) → List Item → Env → List ADef → Heap → Prop) (x : Rc) (all : Array Oper) (k : List Item) (P : Res → Prop) (ds : List ADef) (env0 : Env) : List (List (Tmp × Bool)) → List Oper → Nat → DSt → Env → Heap → Prop
  | _, [], _, s, env, H => drawB Γ.toCtx x.base all s.hist.reverse s.rl H = true ∧
      WAsks Γ (s.cds.flatMap (asksOf x.base all (s.hist.reverse.map (·.i)) (s.hist.reverse.map (·.H) ++ [H]))) (G x P k env ds H)
  | [], _ :: _, _, _, _, _ => False
  | L :: lk, o :: l, i, s, env, H => match guardOf all (lookEnv L env env0) o with
    | none => False
    | some false => match eput x.nt env o.dst (.atom undef) with
      | some env' => WDraw Γ G x all k P ds env0 lk l (i + 1) s env' H
      | none => False
    | some true => match aStep Γ.toCtx x.base (lookEnv L env env0) o H with
      | some (.val a H') => match eput x.nt env o.dst a with
        | some env' => match opKind Γ.P o.op with
          | 0 => WDraw Γ G x all k P ds env0 lk l (i + 1) s env' H
          | 1 => WDraw Γ G x all k P ds env0 lk l (i + 1) { s with rds := ⟨i, lookEnv L env env0, a, s.hist.length⟩ :: s.rds } env' H
          | _ => WDraw Γ G x all k P ds env0 lk l (i + 1) { s with hist := ⟨i, lookEnv L env env0, a, H⟩ :: s.hist } env' H'
        | none => False
      | some (.call f args) => WCall Γ (.call f x.base args H) fun r => match eput x.nt env o.dst r.1 with
        | some env' => if pureCall Γ f = true then WDraw Γ G x all k P ds env0 lk l (i + 1) { s with cds := ⟨i, lookEnv L env env0, f, args, r.1, s.hist.length⟩ :: s.cds } env' H
          else WDraw Γ G x all k P ds env0 lk l (i + 1) { s with hist := ⟨i, lookEnv L env env0, r.1, H⟩ :: s.hist } env' r.2
        | none => False
      | some (.round b args) => WCall Γ (.round x.base b args H) fun r => match eput x.nt env o.dst r.1 with
        | some env' => WDraw Γ G x all k P ds env0 lk l (i + 1) { s with hist := ⟨i, lookEnv L env env0, r.1, H⟩ :: s.hist } env' r.2
        | none => False
      | _ => False

theorem WAsks.sound {Γ : Par} {P : Res → Prop} {q : Q} : ∀ (l : List (Task × AV)) {X : Prop}, (X → Wq Γ q P) → WAsks Γ l X → Wq Γ (checkQ l q) P
  | [], X, hX, h => hX h
  | (t, a) :: l, X, hX, h => by
    obtain ⟨⟨r1, h1, h2⟩, h3⟩ := h
    unfold checkQ
    refine Wq.ask ⟨r1, h1, ?_⟩
    rw [if_pos h2]
    exact WAsks.sound l hX h3

theorem WDraw.sound {Γ : Par} {G : Rc → (Res → Prop) → List Item → Env → List ADef → Heap → Prop} {x : Rc} {all : Array Oper} {k : List Item} {P : Res → Prop} {ds : List ADef} {env0 : Env}
    (hG : ∀ env H, G x P k env ds H → Wp Γ (.run x k env ds H) P) : ∀ (l : List Oper) (lk : List (List (Tmp × Bool))) (i : Nat) (s : DSt) (env : Env) (H : Heap), all.toList.drop i = l → lk = (List.range' i l.length).map (look all) →
    WDraw Γ G x all k P ds env0 lk l i s env H → Wq Γ (drawQ Γ x all none k ds env0 (List.range' i l.length) env H s.hist s.rl s.cds) P
  | [], lk, i, s, env, H, _, _, h => by
    have h : drawB Γ.toCtx x.base all s.hist.reverse s.rl H = true ∧ WAsks Γ (s.cds.flatMap (asksOf x.base all (s.hist.reverse.map (·.i)) (s.hist.reverse.map (·.H) ++ [H]))) (G x P k env ds H) := by
      cases lk <;> exact h
    simp only [List.length_nil, List.range'_zero]
    unfold drawQ
    rw [if_pos h.1]
    exact WAsks.sound _ (fun hX => Wq.go (hG _ _ hX)) h.2
  | o :: l, lk, i, s, env, H, hd, hlk, h => by
    have hi : all[i]? = some o := by
      have : (all.toList.drop i)[0]? = some o := by rw [hd]; rfl
      simpa using this
    have hl : all.toList.drop (i + 1) = l := by
      have : (all.toList.drop i).drop 1 = l := by rw [hd]; rfl
      simpa [List.drop_drop] using this
    rw [List.length_cons, List.range'_succ, List.map_cons] at hlk
    subst hlk
    have ih := fun s env H => WDraw.sound (env0 := env0) hG l _ (i + 1) s env H hl rfl
    unfold WDraw at h
    rw [List.length_cons, List.range'_succ]
    unfold drawQ
    simp only [hi]
    split at h
    · exact h.elim
    · rename_i hg
      simp only [hg]
      split at h
      · rename_i env' he; simp only [he]; exact ih s _ _ h
      · exact h.elim
    · rename_i hg
      simp only [hg]
      split at h
      · rename_i a H' hs
        simp only [hs]
        split at h
        · rename_i env' he
          simp only [he]
          split at h
          · rename_i hk; simp only [hk]; exact ih s _ _ h
          · rename_i hk; simp only [hk]; exact ih { s with rds := _ :: s.rds } _ _ h
          · rename_i h0 h1
            have hk : opKind Γ.P o.op = 2 := by
              rcases opKind_le (P := Γ.P) o.op with h | h | h
              · exact absurd h h0
              · exact absurd h h1
              · exact h
            simp only [hk]
            exact ih { s with hist := _ :: s.hist } _ _ h
        · exact h.elim
      · rename_i f args hs
        simp only [hs]
        obtain ⟨r1, h1, h2⟩ := h
        refine Wq.ask ⟨r1, h1, ?_⟩
        split at h2
        · rename_i env' he
          simp only [he]
          split at h2
          · rename_i hpc; rw [if_pos hpc]; exact ih { s with cds := _ :: s.cds } _ _ h2
          · rename_i hpc; rw [if_neg hpc]; exact ih { s with hist := _ :: s.hist } _ _ h2
        · exact h2.elim
      · rename_i f args hs
        simp only [hs]
        obtain ⟨r1, h1, h2⟩ := h
        refine Wq.ask ⟨r1, h1, ?_⟩
        split at h2
        · rename_i env' he
          simp only [he]
          exact ih { s with hist := _ :: s.hist } _ _ h2
        · exact h2.elim
      · exact h.elim

section
variable {Γ : Par} {G : Rc → (Res → Prop) → List Item → Env → List ADef → Heap → Prop} {x : Rc} {all : Array Oper} {k : List Item} {P : Res → Prop} {ds : List ADef} {env0 env : Env} {L : List (Tmp × Bool)} {lk : List (List (Tmp × Bool))} {l : List Oper} {i : Nat} {s : DSt} {H : Heap}
@[simp] theorem lookEnv_nil : lookEnv [] env env0 = [] := rfl
@[simp] theorem lookEnv_cons {t : Tmp} {b : Bool} : lookEnv ((t, b) :: L) env env0 = match (if b then eget env t else eget env0 t) with
    | some a => (t, a) :: lookEnv L env env0
    | none => lookEnv L env env0 := by
  unfold lookEnv
  simp only [List.filterMap_cons]
  cases (if b = true then eget env t else eget env0 t) <;> rfl

def WDOut (Γ : Par) (G : Rc → (Res → Prop) → List Item → Env → List ADef → Heap → Prop) (x : Rc) (all : Array Oper) (k : List Item) (P : Res → Prop) (ds : List ADef) (env0 : Env) (lk : List (List (Tmp × Bool))) (l : List Oper) (i : Nat) (s : DSt) (env le : Env) (H : Heap) (dst : Option Tmp) (op : Op) : Option Out → Prop
  | some (.val a H') => match eput x.nt env dst a with
    | some env' => match opKind Γ.P op with
      | 0 => WDraw Γ G x all k P ds env0 lk l (i + 1) s env' H
      | 1 => WDraw Γ G x all k P ds env0 lk l (i + 1) { s with rds := ⟨i, le, a, s.hist.length⟩ :: s.rds } env' H
      | _ => WDraw Γ G x all k P ds env0 lk l (i + 1) { s with hist := ⟨i, le, a, H⟩ :: s.hist } env' H'
    | none => False
  | some (.call f args) => WCall Γ (.call f x.base args H) fun r => match eput x.nt env dst r.1 with
    | some env' => if pureCall Γ f = true then WDraw Γ G x all k P ds env0 lk l (i + 1) { s with cds := ⟨i, le, f, args, r.1, s.hist.length⟩ :: s.cds } env' H
      else WDraw Γ G x all k P ds env0 lk l (i + 1) { s with hist := ⟨i, le, r.1, H⟩ :: s.hist } env' r.2
    | none => False
  | some (.round f args) => WCall Γ (.round x.base f args H) fun r => match eput x.nt env dst r.1 with
    | some env' => WDraw Γ G x all k P ds env0 lk l (i + 1) { s with hist := ⟨i, le, r.1, H⟩ :: s.hist } env' r.2
    | none => False
  | _ => False
@[simp] theorem WDraw_cons {dst : Option Tmp} {op : Op} {ty : TypeId} {pos : String} {after : Array Edge} : WDraw Γ G x all k P ds env0 (L :: lk) (⟨dst, op, ty, pos, after, none⟩ :: l) i s env H =
    WDOut Γ G x all k P ds env0 lk l i s env (lookEnv L env env0) H dst op (aStep Γ.toCtx x.base (lookEnv L env env0) ⟨dst, op, ty, pos, after, none⟩ H) := by
  rw [WDraw]
  simp only [guardOf]
  unfold WDOut
  rfl
@[simp] theorem WDraw_nil : WDraw Γ G x all k P ds env0 [] [] i s env H = (drawB Γ.toCtx x.base all s.hist.reverse s.rl H = true ∧
      WAsks Γ (s.cds.flatMap (asksOf x.base all (s.hist.reverse.map (·.i)) (s.hist.reverse.map (·.H) ++ [H]))) (G x P k env ds H)) := rfl
def WDC (Γ : Par) (G : Rc → (Res → Prop) → List Item → Env → List ADef → Heap → Prop) (x : Rc) (all : Array Oper) (k : List Item) (P : Res → Prop) (ds : List ADef) (env0 : Env) (lk : List (List (Tmp × Bool))) (l : List Oper) (i : Nat) (s : DSt) (env le : Env) (H : Heap) (dst : Option Tmp) (f : FuncId) (args : List AV) (r : Res) : Prop :=
  match eput x.nt env dst r.1 with
    | some env' => if pureCall Γ f = true then WDraw Γ G x all k P ds env0 lk l (i + 1) { s with cds := ⟨i, le, f, args, r.1, s.hist.length⟩ :: s.cds } env' H
      else WDraw Γ G x all k P ds env0 lk l (i + 1) { s with hist := ⟨i, le, r.1, H⟩ :: s.hist } env' r.2
    | none => False
@[simp] theorem WDOut_call {f nt b g : Nat} {rd : Option Nat} {dst : Option Tmp} {op : Op} {le : Env} {args : List AV} : WDOut Γ G ⟨f, nt, b, rd⟩ all k P ds env0 lk l i s env le H dst op (some (.call g args)) =
    WCall Γ (.call g b args H) (WDC Γ G ⟨f, nt, b, rd⟩ all k P ds env0 lk l i s env le H dst g args) := rfl
@[simp] theorem WDC_mk {f nt b g d : Nat} {rd : Option Nat} {le : Env} {args : List AV} {a : AV} {H' : Heap} : WDC Γ G ⟨f, nt, b, rd⟩ all k P ds env0 lk l i s env le H (some d) g args (a, H') =
    if d < nt then (if pureCall Γ g = true then WDraw Γ G ⟨f, nt, b, rd⟩ all k P ds env0 lk l (i + 1) { s with cds := ⟨i, le, g, args, a, s.hist.length⟩ :: s.cds } ((d, a) :: env) H
      else WDraw Γ G ⟨f, nt, b, rd⟩ all k P ds env0 lk l (i + 1) { s with hist := ⟨i, le, a, H⟩ :: s.hist } ((d, a) :: env) H') else False := by
  by_cases h : d < nt <;> simp [WDC, eput, h]
@[simp] theorem WDOut_val {f nt b d : Nat} {rd : Option Nat} {op : Op} {le : Env} {a : AV} {H' : Heap} : WDOut Γ G ⟨f, nt, b, rd⟩ all k P ds env0 lk l i s env le H (some d) op (some (.val a H')) =
    if d < nt then (match opKind Γ.P op with
      | 0 => WDraw Γ G ⟨f, nt, b, rd⟩ all k P ds env0 lk l (i + 1) s ((d, a) :: env) H
      | 1 => WDraw Γ G ⟨f, nt, b, rd⟩ all k P ds env0 lk l (i + 1) { s with rds := ⟨i, le, a, s.hist.length⟩ :: s.rds } ((d, a) :: env) H
      | _ => WDraw Γ G ⟨f, nt, b, rd⟩ all k P ds env0 lk l (i + 1) { s with hist := ⟨i, le, a, H⟩ :: s.hist } ((d, a) :: env) H') else False := by
  by_cases h : d < nt <;> simp [WDOut, eput, h]
@[simp] theorem WDOut_val0 {op : Op} {le : Env} {a : AV} {H' : Heap} : WDOut Γ G x all k P ds env0 lk l i s env le H none op (some (.val a H')) =
    (match opKind Γ.P op with
      | 0 => WDraw Γ G x all k P ds env0 lk l (i + 1) s env H
      | 1 => WDraw Γ G x all k P ds env0 lk l (i + 1) { s with rds := ⟨i, le, a, s.hist.length⟩ :: s.rds } env H
      | _ => WDraw Γ G x all k P ds env0 lk l (i + 1) { s with hist := ⟨i, le, a, H⟩ :: s.hist } env H') := rfl
@[simp] theorem rl_mk {h : List Eff} {r : List DRead} {c : List CRead} : DSt.rl ⟨h, r, c⟩ = r.map fun q => (q.i, q.le, q.a, q.j) := rfl

theorem drawB_of {base : Nat} {es : List Eff} {rds : List (Nat × Env × AV × Nat)} (h1 : stat all (es.map (·.i)) = true) (h2 : (rds.all fun q => readB Γ.toCtx base all (es.map (·.i)) (es.map (·.H) ++ [H]) q) = true) : drawB Γ.toCtx base all es rds H = true := by
  unfold drawB
  rw [h1, Bool.true_and]
  exact h2
theorem readB_of {base : Nat} {eff : List Nat} {Hs : List Heap} {q : Nat × Env × AV × Nat} {o : Oper} (w : List Nat) (hw : win all eff q.1 = w) (ho : all[q.1]? = some o) (h : (w.all fun j => j == q.2.2.2 || match Hs[j]? with
    | some H => match aStep Γ.toCtx base q.2.1 o H with
      | some (.val a _) => AV.beq a q.2.2.1
      | _ => false
    | none => false) = true) : readB Γ.toCtx base all eff Hs q = true := by
  unfold readB
  rw [ho]
  simp only [hw]
  exact h
theorem asks_of {base : Nat} {eff : List Nat} {Hs : List Heap} {c : CRead} (w : List Nat) (hw : win all eff c.i = w) : asksOf base all eff Hs c = w.filterMap fun j => if j = c.j then none else match Hs[j]? with
    | some H => some (.call c.f base c.args H, c.a)
    | none => none := by
  unfold asksOf; rw [hw]; rfl
@[simp] theorem WAsks_nil {X : Prop} : WAsks Γ [] X = X := rfl
@[simp] theorem WAsks_cons {t : Task} {a : AV} {r : List (Task × AV)} {X : Prop} : WAsks Γ ((t, a) :: r) X = (Ask Γ t a ∧ WAsks Γ r X) := rfl
@[simp] theorem beq_int {k : IntKind} {a : Int} : AV.beq (.atom (.int k a)) (.atom (.int k a)) = true := by simp [AV.beq, vbeq]
@[simp] theorem beq_str {a : ByteArray} : AV.beq (.atom (.string a)) (.atom (.string a)) = true := by simp [AV.beq, vbeq]
@[simp] theorem beq_bool {a : Bool} : AV.beq (.atom (.bool a)) (.atom (.bool a)) = true := by simp [AV.beq, vbeq]
@[simp] theorem beq_nilI : AV.beq (.atom .nilIface) (.atom .nilIface) = true := rfl
@[simp] theorem beq_nilP : AV.beq (.atom (.pointer none)) (.atom (.pointer none)) = true := rfl
@[simp] theorem beq_ptr {b g o : Nat} : AV.beq (.ptr b g o) (.ptr b g o) = true := by simp [AV.beq]
@[simp] theorem beq_tuple {a b : List AV} : AV.beq (.tuple a) (.tuple b) = beqL a b := by simp [AV.beq]
@[simp] theorem beq_agg {a b : List AV} : AV.beq (.agg a) (.agg b) = beqL a b := by simp [AV.beq]
@[simp] theorem beqL_nil : beqL [] [] = true := by simp [beqL]
@[simp] theorem beqL_cons {a b : AV} {as bs : List AV} : beqL (a :: as) (b :: bs) = (AV.beq a b && beqL as bs) := by simp [beqL]
end

theorem Fit.draw {Γ : Par} (hΓ : Fit Γ) {n : Nat} {x : Rc} {k : List Item} {P : Res → Prop} {ds : List ADef} {env : Env} {H : Heap} {id : Nat} {ops : List Oper} (lk : List (List (Tmp × Bool))) (hlk : lk = (List.range' 0 ops.length).map (look ops.toArray))
    (h : WDraw Γ (W Γ n) x ops.toArray k P ds env lk ops 0 ⟨[], [], []⟩ env H) : Wp Γ (.run x (.code (.region id ops.toArray true) :: k) env ds H) P := by
  refine Wp.step hΓ ?_
  have := WDraw.sound (G := W Γ n) (fun env H h => W.sound hΓ _ _ _ _ _ _ _ h) ops lk 0 _ env H rfl hlk h
  simp only [stepQ, runQ, hΓ.kp, List.size_toArray]
  rw [List.range_eq_range']
  exact this
end Go.Av
