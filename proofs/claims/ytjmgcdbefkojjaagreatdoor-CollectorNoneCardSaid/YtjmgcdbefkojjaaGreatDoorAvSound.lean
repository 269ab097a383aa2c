/- A part of the proof: a verified reading of the model by values alone, and what is shown by it. It holds without conditions. -/
import Derived.Test.YtjmgcdbefkojjaaGreatDoorAvRun
namespace Go.Av
open Go

def CallRuns (P : Program) (f : FuncId) (vs : Array Value) (w : World) (v : Value) (w' : World) : Prop :=
  (callFunc f vs).run P w = .ok (.value v) w' ∨
  ((callFunc f vs).run P w = .ok (.enter f vs) w ∧ ∀ kind cs, ∃ fr, Steps P (lone (Frame.enter P f vs kind) cs w) (lone fr cs w') ∧ Left P fr kind v w' ∧ fr.fn = f)

def DefsRep (c : Cn) : List ADef → List Deferred → Prop
  | [], ds => ds = []
  | .mark b :: as, ds => ∃ B us, ds = { target := .collected B, args := #[] } :: us ∧ c.m b 0 = some (B, 0) ∧ DefsRep c as us
  | .call f args :: as, ds => ∃ d us, ds = d :: us ∧ DefRep c f args d ∧ DefsRep c as us

theorem DefsRep.ext {c c' : Cn} (h : Ext c c') : ∀ {as : List ADef} {ds : List Deferred}, DefsRep c as ds → DefsRep c' as ds
  | [], _, hd => hd
  | .mark b :: as, ds, hd => by
    obtain ⟨B, us, rfl, hm, hr⟩ := hd
    exact ⟨B, us, rfl, h.m _ _ _ hm, hr.ext h⟩
  | .call f args :: as, ds, hd => by
    obtain ⟨d, us, rfl, ⟨cap, vs, rfl, h1⟩, hr⟩ := hd
    exact ⟨_, us, rfl, ⟨cap, vs, rfl, RepL.ext h _ _ h1⟩, hr.ext h⟩

def RdOK (c : Cn) (round : Option Nat) (rd : Option Nat) : Prop := match round, rd with
  | none, none => True
  | some l, some B => c.m l 0 = some (B, 0)
  | _, _ => False

theorem RdOK.ext {c c' : Cn} (h : Ext c c') {round rd : Option Nat} (hr : RdOK c round rd) : RdOK c' round rd := by
  cases round with
  | none => cases rd with
    | none => trivial
    | some B => exact hr.elim
  | some l => cases rd with
    | none => exact hr.elim
    | some B => exact h.m _ _ _ hr

/-- A frame runs to its end. -/
def Fin (P : Program) (kind : CallKind) (rd : Option Nat) (cs : List Frame) (fr0 : Frame) (w : World) (v : Value) (w' : World) : Prop := match rd with
  | none => ∃ fr, Steps P (lone fr0 cs w) (lone fr cs w') ∧ Left P fr kind v w' ∧ fr.fn = fr0.fn
  | some _ => ∀ cf rest, cs = cf :: rest → Steps P (lone fr0 cs w) (lone (cf.finish v) rest w')

theorem Fin.head {P : Program} {kind : CallKind} {rd : Option Nat} {cs : List Frame} {fr0 fr1 : Frame} {w w1 w' : World} {v : Value} (h : step P (lone fr0 cs w) = .next (lone fr1 cs w1))
    (hf : Fin P kind rd cs fr1 w1 v w') (hn : fr1.fn = fr0.fn := by rfl) : Fin P kind rd cs fr0 w v w' := by
  cases rd with
  | none => obtain ⟨fr, hs, hl, hn'⟩ := hf; exact ⟨fr, .head h hs, hl, hn'.trans hn⟩
  | some B => exact fun cf rest e => .head h (hf cf rest e)

theorem Fin.steps {P : Program} {kind : CallKind} {rd : Option Nat} {cs : List Frame} {fr0 fr1 : Frame} {w w1 w' : World} {v : Value} (h : Steps P (lone fr0 cs w) (lone fr1 cs w1))
    (hf : Fin P kind rd cs fr1 w1 v w') (hn : fr1.fn = fr0.fn := by rfl) : Fin P kind rd cs fr0 w v w' := by
  cases rd with
  | none => obtain ⟨fr, hs, hl, hn'⟩ := hf; exact ⟨fr, h.trans hs, hl, hn'.trans hn⟩
  | some B => exact fun cf rest e => h.trans (hf cf rest e)

/-- What a task that has been carried out here says of the model. -/
def TaskOK (Γ : Par) : Task → Res → Prop
  | .call f base args H, (r, H') => ∀ (c : Cn) (vs : Array Value), Inv c H → GlobOK Γ.G c → RepL c args vs.toList → base ≤ H.length →
      ∃ c' v, Post base c H c' H' ∧ Rep c' r v ∧ CallRuns Γ.P f vs c.w v c'.w
  | .run x todo env ds H, (r, H') => ∀ (c : Cn) (tmps : Array Value) (defers : List Deferred) (rd : Option Nat), Inv c H → GlobOK Γ.G c →
      EnvRep c env tmps → tmps.size = x.nt → DefsRep c ds defers → x.base ≤ H.length → RdOK c x.round rd →
      ∃ c' v, Post x.base c H c' H' ∧ Rep c' r v ∧ ∀ kind cs, (rd.isSome = true → kind = .normal) → Fin Γ.P kind rd cs (frAt x.fid kind rd tmps defers todo) c.w v c'.w
  | .ops x all _ l k env ds H, (r, H') => ∀ (c : Cn) (tmps : Array Value) (defers : List Deferred) (rd : Option Nat), Inv c H → GlobOK Γ.G c →
      EnvRep c env tmps → tmps.size = x.nt → DefsRep c ds defers → x.base ≤ H.length → RdOK c x.round rd →
      ∃ c' v, Post x.base c H c' H' ∧ Rep c' r v ∧ ∀ kind cs, (rd.isSome = true → kind = .normal) → Fin Γ.P kind rd cs (frAt x.fid kind rd tmps defers (.inRegion all l :: k)) c.w v c'.w
  | .leave x ds env H, (r, H') => ∀ (c : Cn) (tmps : Array Value) (defers : List Deferred), Inv c H → GlobOK Γ.G c →
      EnvRep c env tmps → DefsRep c ds defers → x.base ≤ H.length →
      ∃ c' v, Post x.base c H c' H' ∧ Rep c' r v ∧ ∀ kind cs todo, Fin Γ.P kind none cs (frLeave x.fid kind tmps defers todo) c.w v c'.w
  | .round base l args H, (r, H') => ∀ (c : Cn) (B : Nat) (vs : Array Value), Inv c H → GlobOK Γ.G c → c.m l 0 = some (B, 0) → RepL c args vs.toList → base ≤ H.length →
      ∃ c' v, Post base c H c' H' ∧ Rep c' r v ∧ ∃ fn ts as body, (Instr.yield B vs).run Γ.P c.w = .ok (.round B fn ts as body) c.w ∧
        ∀ cf rest, Steps Γ.P (lone (Frame.round B fn ts as body .normal) (cf :: rest) c.w) (lone (cf.finish v) rest c'.w)

theorem eget_restrict {l : List Tmp} {env : Env} {t : Nat} {a : AV} (h : eget (restrict l env) t = some a) : eget env t = some a := by
  induction l with
  | nil => simp [restrict, eget] at h
  | cons t' l ih =>
    unfold restrict at h
    simp only [List.filterMap_cons] at h
    split at h
    · exact ih h
    · rename_i p hp
      split at hp
      · rename_i a' ha
        cases hp
        simp only [eget] at h
        split at h
        · rename_i e; subst e; cases h; exact ha
        · exact ih h
      · cases hp

theorem EnvRep.restrict {c : Cn} {env : Env} {tmps : Array Value} (h : EnvRep c env tmps) (kp : Option (List Tmp)) :
    EnvRep c (kept kp env) tmps := by
  cases kp with
  | none => exact h
  | some l => exact fun t a ha => h t a (eget_restrict ha)

theorem EnvRep.put {c : Cn} {env env' : Env} {tmps : Array Value} {nt : Nat} {dst : Option Tmp} {a : AV} {v : Value} (h : EnvRep c env tmps) (hs : tmps.size = nt) (he : eput nt env dst a = some env') (hv : Rep c a v) :
    EnvRep c env' (putT tmps dst v) ∧ (putT tmps dst v).size = nt := by
  cases dst with
  | none => simp [eput] at he; subst he; exact ⟨h, hs⟩
  | some d =>
    simp only [eput] at he
    split at he
    · rename_i hd
      cases he
      refine ⟨?_, by simpa [putT] using hs⟩
      intro t b hb
      simp only [eget] at hb
      split at hb
      · rename_i e
        subst e
        cases hb
        exact ⟨v, by simp [putT, hs, hd], hv⟩
      · rename_i e
        obtain ⟨u, hu, hr⟩ := h t b hb
        exact ⟨u, by simpa [putT, Array.getElem?_setIfInBounds_ne e] using hu, hr⟩
    · cases he

theorem eget_args : ∀ (args : List AV) (i t : Nat) (a : AV), eget (argsEnv i args) t = some a → i ≤ t ∧ args[t - i]? = some a
  | [], i, t, a, h => by simp [argsEnv, eget] at h
  | b :: args, i, t, a, h => by
    simp only [argsEnv, eget] at h
    split at h
    · rename_i e; subst e; cases h; exact ⟨Nat.le_refl _, by simp⟩
    · obtain ⟨h1, h2⟩ := eget_args args (i + 1) t a h
      refine ⟨by omega, ?_⟩
      have : t - i = (t - (i + 1)) + 1 := by omega
      rw [this]; simpa using h2

theorem argsEnv_rep {c : Cn} {args : List AV} {vs : Array Value} (h : RepL c args vs.toList) (n : Nat) : EnvRep c (argsEnv 0 args) (vs ++ Array.replicate n undef) := by
  intro t a ha
  obtain ⟨_, h2⟩ := eget_args args 0 t a ha
  obtain ⟨v, hv, hr⟩ := h.get h2
  refine ⟨v, ?_, hr⟩
  have hv' : vs[t]? = some v := by simpa using hv
  have hlt : t < vs.size := (Array.getElem?_eq_some_iff.1 hv').1
  rw [Array.getElem?_append_left hlt]; exact hv'

theorem fnOf_eq {P : Program} {f : FuncId} {fn : Func} {c : Code} (h : fnOf P f = some (fn, c)) : P.funcs[f]? = some fn ∧ fn.body = some c ∧ fn.name ≠ "runtime.NumGoroutine" := by
  unfold fnOf at h
  split at h
  · rename_i fn' hf
    split at h
    · rename_i c' hc
      split at h
      · cases h
      · rename_i hn; cases h; exact ⟨hf, hc, hn⟩
    · cases h
  · cases h

theorem callFunc_enter {P : Program} {f : FuncId} {fn : Func} {c : Code} (h : fnOf P f = some (fn, c)) (vs : Array Value) (w : World) : (callFunc f vs).run P w = .ok (.enter f vs) w := by
  obtain ⟨h1, h2, h3⟩ := fnOf_eq h
  simp [callFunc, h1, h2, h3]

theorem enter_eq {P : Program} {f : FuncId} {fn : Func} {c : Code} (h : fnOf P f = some (fn, c)) (vs : Array Value) (kind : CallKind) :
    Frame.enter P f vs kind = frAt f kind none (vs ++ Array.replicate (fn.ntmps - vs.size) undef) [] [.code c] := by
  obtain ⟨h1, h2, h3⟩ := fnOf_eq h
  simp [Frame.enter, frAt, h1, h2]

def resSem (tmps : Array Value) : ResultVar → Sem Value
  | .tmp t => pure (tmps.getD t undef)
  | .cell a t => do loadVar t (← asAddr (tmps.getD a undef))

theorem results_eq (fn : Func) (tmps : Array Value) : results fn tmps = (do let vs ← fn.results.mapM (resSem tmps); pure (if h : vs.size = 1 then vs[0] else .tuple vs)) := by
  unfold results
  congr 1

theorem aResults_ok {P : Program} {c : Cn} {H : Heap} (hI : Inv c H) {env : Env} {tmps : Array Value} (he : EnvRep c env tmps) : ∀ (rs : List ResultVar) (as : List AV), aResults P env H rs = some as →
    ∃ vs, (rs.mapM (resSem tmps)).run P c.w = .ok vs c.w ∧ RepL c as vs
  | [], as, h => by simp [aResults] at h; subst h; exact ⟨[], by simp, rfl⟩
  | .tmp t :: rs, as, h => by
    simp only [aResults] at h
    split at h
    · rename_i a as' ha has
      cases h
      obtain ⟨vs, hvs, hr⟩ := aResults_ok hI he rs as' has
      obtain ⟨v, hv, hrv⟩ := he t a ha
      have hg : tmps.getD t undef = v := by simp [Array.getD_eq_getD_getElem?, hv]
      exact ⟨v :: vs, by simp [List.mapM_cons, resSem, hg, hvs], v, vs, rfl, hrv, hr⟩
    · cases h
  | .cell t ty :: rs, as, h => by
    simp only [aResults] at h
    split at h
    · rename_i p hp
      split at h
      · rename_i a as' ha has
        cases h
        obtain ⟨vs, hvs, hr⟩ := aResults_ok hI he rs as' has
        obtain ⟨x, hx, hrx⟩ := he t p hp
        have hg : tmps.getD t undef = x := by simp [Array.getD_eq_getD_getElem?, hx]
        unfold aLoad at ha
        split at ha
        · rename_i cs hcs
          obtain ⟨B, o, us, rfl, hc, hl⟩ := srcCells_ok hI hcs hrx
          obtain ⟨v, hv, hrv⟩ := apart_load ha hc hl
          exact ⟨v :: vs, by simp [List.mapM_cons, resSem, hg, asAddr, hv, hvs], v, vs, rfl, hrv, hr⟩
        · cases ha
      · cases h
    · cases h

theorem results_ok {P : Program} {c : Cn} {H : Heap} (hI : Inv c H) {env : Env} {tmps : Array Value} (he : EnvRep c env tmps) {fn : Func} {as : List AV} (h : aResults P env H fn.results.toList = some as) :
    ∃ v, (results fn tmps).run P c.w = .ok v c.w ∧ Rep c (oneOf as) v := by
  obtain ⟨vs, hvs, hr⟩ := aResults_ok hI he _ _ h
  have hrun : (results fn tmps).run P c.w = .ok (if h : vs.toArray.size = 1 then vs.toArray[0] else .tuple vs.toArray) c.w := by
    rw [results_eq, Sem.run_bind, Array.mapM_eq_mapM_toList, Sem.run_map, hvs]
    rfl
  refine ⟨_, hrun, ?_⟩
  have hl := hr.length
  cases as with
  | nil =>
    have : vs.toArray.size ≠ 1 := by simp; simp at hl; simp [hl]
    rw [dif_neg this]
    exact ⟨_, rfl, by simpa using hr⟩
  | cons a as =>
    cases as with
    | nil =>
      obtain ⟨v, us, rfl, h1, h2⟩ := hr
      simp only [RepL] at h2
      subst h2
      exact h1
    | cons b as =>
      have : vs.toArray.size ≠ 1 := by simp at hl ⊢; omega
      rw [dif_neg this]
      exact ⟨_, rfl, by simpa using hr⟩

end Go.Av
