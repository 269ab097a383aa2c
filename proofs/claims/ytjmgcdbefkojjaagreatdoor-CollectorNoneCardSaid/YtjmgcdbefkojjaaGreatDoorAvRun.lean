/- A part of the proof: a verified reading of the model by values alone, and what is shown by it. It holds without conditions. -/
import Derived.Test.YtjmgcdbefkojjaaGreatDoorAvMach2
namespace Go.Av
open Go

inductive ADef where
  | mark (b : Nat)
  | call (f : FuncId) (args : List AV)

/-- Where a piece of code runs: its function, how many slots it has, from which block on it may write, the loop whose round it is. -/
structure Rc where
  fid : FuncId
  nt : Nat
  base : Nat
  round : Option Nat

inductive Task where
  | call (f : FuncId) (base : Nat) (args : List AV) (H : Heap)
  | run (x : Rc) (todo : List Item) (env : Env) (ds : List ADef) (H : Heap)
  | ops (x : Rc) (all : Array Oper) (kp : Option (List Tmp)) (l : List Nat) (k : List Item) (env : Env) (ds : List ADef) (H : Heap)
  | leave (x : Rc) (ds : List ADef) (env : Env) (H : Heap)
  | round (base : Nat) (l : Nat) (args : List AV) (H : Heap)

abbrev Res := AV × Heap

inductive Q where
  | ret (r : Option Res)
  | go (t : Task)
  | ask (t : Task) (k : Res → Q)

def Q.run (E : Task → Option Res) : Q → Option Res
  | .ret r => r
  | .go t => E t
  | .ask t k => match E t with
    | some r => (k r).run E
    | none => none

abbrev goto (t : Task) : Q := .go t

/-- How a call is treated: 0: as it is; 1: it writes nothing that was there, and gives up all it made; 2: likewise, and slices of ours are lent to it, its answer being a plain value; 3: it gives up all it made. -/
structure Par extends Ctx where
  S : FuncId → Nat → List AV → Heap → Option Res
  pol : FuncId → Nat
  keep : FuncId → Nat → Option (List Tmp)
  fn : FuncId → Option (Func × Code)

def argsEnv : Nat → List AV → Env
  | _, [] => []
  | i, a :: as => (i, a) :: argsEnv (i + 1) as

def restrict (l : List Tmp) (env : Env) : Env := l.filterMap fun t => match eget env t with
  | some a => some (t, a)
  | none => none

def kept (kp : Option (List Tmp)) (env : Env) : Env := match kp with
  | some t => restrict t env
  | none => env

def eput (nt : Nat) (env : Env) (dst : Option Tmp) (a : AV) : Option Env := match dst with
  | none => some env
  | some d => if d < nt then some ((d, a) :: env) else none

/-- The function of a number, if it has a body that is entered. -/
def fnOf (P : Program) (f : FuncId) : Option (Func × Code) := match P.funcs[f]? with
  | some fn => match fn.body with
    | some c => if fn.name = "runtime.NumGoroutine" then none else some (fn, c)
    | none => none
  | none => none

def aResults (P : Program) (env : Env) (H : Heap) : List ResultVar → Option (List AV)
  | [] => some []
  | .tmp t :: rs => match eget env t, aResults P env H rs with
    | some a, some as => some (a :: as)
    | _, _ => none
  | .cell t ty :: rs => match eget env t with
    | some p => match aLoad P H ty p, aResults P env H rs with
      | some a, some as => some (a :: as)
      | _, _ => none
    | none => none

def oneOf : List AV → AV
  | [a] => a
  | as => .tuple as

mutual
def scopedB (n : Nat) : AV → Bool
  | .ptr b _ _ => decide (b < n)
  | .slr b _ _ _ _ _ => decide (b < n)
  | .map b => decide (b < n)
  | .yld b => decide (b < n)
  | .tptr b _ _ _ => decide (b < n)
  | .slt b _ _ _ => decide (b < n)
  | .bptr b _ _ => decide (b < n)
  | .fn _ fs cs => scopedBL n fs && scopedBL n cs
  | .iface _ a => scopedB n a
  | .agg cs => scopedBL n cs
  | .tuple cs => scopedBL n cs
  | _ => true
def scopedBL (n : Nat) : List AV → Bool
  | [] => true
  | a :: as => scopedB n a && scopedBL n as
end

def scopedObjB (n : Nat) : AObj → Bool
  | .cells _ cs => scopedBL n cs
  | .map ks vs => scopedBL n ks && scopedBL n vs
  | .loop _ _ _ _ env _ _ _ => env.all fun p => scopedB n p.2
  | _ => true

def popB (H H' : Heap) : Bool := (List.range H.length).all fun b => match hget H' b with
  | some o => scopedObjB H.length o
  | none => false

/-- All that is ours, lent: as values. -/
def lendA (H : Heap) (args : List AV) : Option (List AV) := mapO (frz 0 H) args
def allDead (H : Heap) : Heap := List.replicate H.length .dead

def guardOf (all : Array Oper) (env : Env) (o : Oper) : Option Bool := match o.guard with
  | none => some true
  | some (j, want) => match (all[j]?).bind (·.dst) with
    | none => some false
    | some d => match eget env d with
      | some (.atom (.bool b)) => some (b == want)
      | some (.atom (.tuple _)) => some false
      | _ => none

def callQ (Γ : Par) (f : FuncId) (base : Nat) (args : List AV) (H : Heap) : Q :=
  match Γ.S f base args H with
  | some r => .ret (some r)
  | none => match Γ.fn f with
    | some (fn, c) =>
      if args.length ≤ fn.ntmps ∧ base ≤ H.length then
        if Γ.pol f = 0 then goto (.run ⟨f, fn.ntmps, base, none⟩ [.code c] (argsEnv 0 args) [] H)
        else if Γ.pol f = 1 then .ask (.run ⟨f, fn.ntmps, H.length, none⟩ [.code c] (argsEnv 0 args) [] H) fun r => .ret (match frz H.length r.2 r.1 with
          | some a => some (a, H)
          | none => none)
        else if Γ.pol f = 2 then match lendA H args with
          | some args' => .ask (.run ⟨f, fn.ntmps, H.length, none⟩ [.code c] (argsEnv 0 args') [] (allDead H)) fun r => .ret (match toV r.1 with
            | some v => some (lift v, H)
            | none => none)
          | none => .ret none
        else .ask (.run ⟨f, fn.ntmps, base, none⟩ [.code c] (argsEnv 0 args) [] H) fun r => .ret (if popB H r.2 = true then (match frz H.length r.2 r.1 with
          | some a => some (a, r.2.drop (r.2.length - H.length))
          | none => none) else none)
      else .ret none
    | none => .ret none

def opsQ (Γ : Par) (x : Rc) (all : Array Oper) (kp : Option (List Tmp)) (l : List Nat) (k : List Item) (env : Env) (ds : List ADef) (H : Heap) : Q :=
  match l with
  | [] => goto (.run x k (kept kp env) ds H)
  | i :: rest => match all[i]? with
    | none => goto (.ops x all kp rest k env ds H)
    | some o => match guardOf all env o with
      | none => .ret none
      | some false => match eput x.nt env o.dst (.atom undef) with
        | some env' => goto (.ops x all kp rest k env' ds H)
        | none => .ret none
      | some true => match aStep Γ.toCtx x.base env o H with
        | some (.val a H') => match eput x.nt env o.dst a with
          | some env' => goto (.ops x all kp rest k env' ds H')
          | none => .ret none
        | some (.call f args) => .ask (.call f x.base args H) fun r => match eput x.nt env o.dst r.1 with
          | some env' => goto (.ops x all kp rest k env' ds r.2)
          | none => .ret none
        | some (.round b args) => .ask (.round x.base b args H) fun r => match eput x.nt env o.dst r.1 with
          | some env' => goto (.ops x all kp rest k env' ds r.2)
          | none => .ret none
        | some (.dfr f args) => match x.round, eput x.nt env o.dst (.atom undef) with
          | none, some env' => goto (.ops x all kp rest k env' (.call f args :: ds) H)
          | _, _ => .ret none
        | none => .ret none

/-- What operations a drawn region holds, and how they hang together. -/
def ancB (b : Array Nat) (j i : Nat) : Bool := (b.getD i 0).testBit j

def looksOf (all : Array Oper) (o : Oper) : List Tmp :=
  (o.op.operands.toList.filterMap fun | .tmp t => some t | _ => none) ++
  (match o.guard with
   | some (g, _) => ((all[g]?).bind (·.dst)).toList
   | none => [])

def writer (all : Array Oper) (t : Tmp) : Option Nat := (List.range all.size).find? fun j => (all[j]?).bind (·.dst) == some t

/-- What an operation looks at, and whether it is a thing of this region. -/
def look (all : Array Oper) (i : Nat) : List (Tmp × Bool) := match all[i]? with
  | none => []
  | some o => (looksOf all o).map fun t => (t, match writer all t with
    | some j => ancB (Region.before all) j i
    | none => false)

def lookEnv (l : List (Tmp × Bool)) (env env0 : Env) : Env := l.filterMap fun p => match (if p.2 then eget env p.1 else eget env0 p.1) with
  | some a => some (p.1, a)
  | none => none

def stat (all : Array Oper) (eff : List Nat) : Bool :=
  let b := Region.before all
  let n := all.size
  ((List.range n).all fun i => match all[i]? with
    | none => false
    | some o => o.after.all (fun e => !Region.binds .any e || decide (e.on < i)) &&
      (match o.dst with
        | none => true
        | some d => writer all d == some i) &&
      (looksOf all o).all fun t => match writer all t with
        | none => true
        | some j => ancB b j i || j == i || ancB b i j) &&
  decide (eff.Pairwise fun x y => ancB b x y = true) && eff.all (decide <| · < n)

def win (all : Array Oper) (eff : List Nat) (i : Nat) : List Nat :=
  let b := Region.before all
  (List.range (eff.length + 1)).filter fun j => decide (eff.countP (fun e => ancB b e i) ≤ j) && decide (j ≤ eff.countP (fun e => !ancB b i e))

def pures (all : Array Oper) (eff : List Nat) : List Nat := (List.range all.size).filter fun i => !eff.contains i

structure Eff where
  i : Nat
  le : Env
  a : AV
  H : Heap

def dstIs (o : Oper) (env : Env) (a : AV) : Prop := match o.dst with
  | none => True
  | some d => eget env d = some a

/-- 0: what looks at no memory; 1: what only looks; 2: all else. -/
def opKind (P : Program) : Op → Nat
  | .move _ | .assign _ | .pick .. | .build .. | .nilCheck _ | .binOp .. | .unOp .. | .makeInterface .. | .makeFunc .. | .slice .. | .fieldAddr .. | .field .. | .indexAddr .. | .index .. | .typeAssert .. | .extract .. => 0
  | .load .. | .lookup .. => 1
  | .convert s d _ => match P.underlying s, P.underlying d with
    | some .string, some (.slice _) => 2
    | _, _ => 1
  | .call { callee := .builtin .len, .. } => 1
  | .call { callee := .builtin .min, .. } | .call { callee := .builtin .max, .. } => 0
  | _ => 2

def vbeq : Value → Value → Bool
  | .bool a, .bool b => a == b
  | .int k a, .int l b => decide (k = l) && decide (a = b)
  | .string a, .string b => decide (a = b)
  | .nilIface, .nilIface => true
  | .nilFunc, .nilFunc => true
  | .pointer none, .pointer none => true
  | .map none, .map none => true
  | .slice none l k, .slice none m n => l == m && k == n
  | _, _ => false

def fnBeq : Fn → Fn → Bool
  | .func g, .func g' => g == g'
  | _, _ => false

mutual
def AV.beq : AV → AV → Bool
  | .atom a, .atom b => vbeq a b
  | .ptr b g o, .ptr b' g' o' => b == b' && g == g' && o == o'
  | .cptr cs, .cptr cs' => beqL cs cs'
  | .sl cs l t, .sl cs' l' t' => beqL cs cs' && l == l' && t == t'
  | .slr b g o l c e, .slr b' g' o' l' c' e' => b == b' && g == g' && o == o' && l == l' && c == c' && e == e'
  | .map b, .map b' => b == b'
  | .iface t a, .iface t' a' => t == t' && AV.beq a a'
  | .agg cs, .agg cs' => beqL cs cs'
  | .tuple cs, .tuple cs' => beqL cs cs'
  | .yld b, .yld b' => b == b'
  | .tptr b g t n, .tptr b' g' t' n' => b == b' && g == g' && t == t' && n == n'
  | .slt b g t n, .slt b' g' t' n' => b == b' && g == g' && t == t' && n == n'
  | .cmap ks vs, .cmap ks' vs' => beqL ks ks' && beqL vs vs'
  | .fn f as bs, .fn f' as' bs' => fnBeq f f' && beqL as as' && beqL bs bs'
  | _, _ => false
def beqL : List AV → List AV → Bool
  | [], [] => true
  | a :: as, b :: bs => AV.beq a b && beqL as bs
  | _, _ => false
end

def readB (Γ : Ctx) (base : Nat) (all : Array Oper) (eff : List Nat) (Hs : List Heap) (x : Nat × Env × AV × Nat) : Bool := match all[x.1]? with
  | some o => (win all eff x.1).all fun j => j == x.2.2.2 || match Hs[j]? with
    | some H => match aStep Γ base x.2.1 o H with
      | some (.val a _) => AV.beq a x.2.2.1
      | _ => false
    | none => false
  | none => false

structure CRead where
  i : Nat
  le : Env
  f : FuncId
  args : List AV
  a : AV
  j : Nat

/-- The calls that are to be asked again: in other memories that they may meet. -/
def asksOf (base : Nat) (all : Array Oper) (eff : List Nat) (Hs : List Heap) (x : CRead) : List (Task × AV) :=
  (win all eff x.i).filterMap fun j => if j = x.j then none else match Hs[j]? with
    | some H => some (.call x.f base x.args H, x.a)
    | none => none

def checkQ : List (Task × AV) → Q → Q
  | [], k => k
  | (t, a) :: l, k => .ask t fun r => if AV.beq r.1 a = true then checkQ l k else .ret none

def drawB (Γ : Ctx) (base : Nat) (all : Array Oper) (es : List Eff) (rds : List (Nat × Env × AV × Nat)) (H : Heap) : Bool :=
  stat all (es.map (·.i)) && rds.all (readB Γ base all (es.map (·.i)) (es.map (·.H) ++ [H]))

/-- A call that leaves memory as it is. -/
def pureCall (Γ : Par) (f : FuncId) : Bool := Γ.pol f == 1 || Γ.pol f == 2

def drawQ (Γ : Par) (x : Rc) (all : Array Oper) (kp : Option (List Tmp)) (k : List Item) (ds : List ADef) (env0 : Env) : List Nat → Env → Heap → List Eff → List (Nat × Env × AV × Nat) → List CRead → Q
  | [], env, H, hist, rds, cds => if drawB Γ.toCtx x.base all hist.reverse rds H = true then
      checkQ (cds.flatMap (asksOf x.base all (hist.reverse.map (·.i)) (hist.reverse.map (·.H) ++ [H]))) (goto (.run x k (kept kp env) ds H)) else .ret none
  | i :: rest, env, H, hist, rds, cds => match all[i]? with
    | none => .ret none
    | some o => match guardOf all (lookEnv (look all i) env env0) o with
      | none => .ret none
      | some false => match eput x.nt env o.dst (.atom undef) with
        | some env' => drawQ Γ x all kp k ds env0 rest env' H hist rds cds
        | none => .ret none
      | some true => match aStep Γ.toCtx x.base (lookEnv (look all i) env env0) o H with
        | some (.val a H') => match eput x.nt env o.dst a with
          | some env' => match opKind Γ.P o.op with
            | 0 => drawQ Γ x all kp k ds env0 rest env' H hist rds cds
            | 1 => drawQ Γ x all kp k ds env0 rest env' H hist ((i, lookEnv (look all i) env env0, a, hist.length) :: rds) cds
            | _ => drawQ Γ x all kp k ds env0 rest env' H' (⟨i, lookEnv (look all i) env env0, a, H⟩ :: hist) rds cds
          | none => .ret none
        | some (.call f args) => .ask (.call f x.base args H) fun r => match eput x.nt env o.dst r.1 with
          | some env' => if pureCall Γ f = true then drawQ Γ x all kp k ds env0 rest env' H hist rds (⟨i, lookEnv (look all i) env env0, f, args, r.1, hist.length⟩ :: cds)
            else drawQ Γ x all kp k ds env0 rest env' r.2 (⟨i, lookEnv (look all i) env env0, r.1, H⟩ :: hist) rds cds
          | none => .ret none
        | some (.round b args) => .ask (.round x.base b args H) fun r => match eput x.nt env o.dst r.1 with
          | some env' => drawQ Γ x all kp k ds env0 rest env' r.2 (⟨i, lookEnv (look all i) env env0, r.1, H⟩ :: hist) rds cds
          | none => .ret none
        | _ => .ret none

def jumpOf : Code → Bool
  | .ret | .exit _ => true
  | _ => false

/-- A round leaves: by a jump, or by its end. -/
def endRoundA (x : Rc) (l : Nat) (jump : Option Code) (ds : List ADef) (H : Heap) : Option Res :=
  if x.base ≤ l ∧ ds.isEmpty = true then
    match hget H l with
    | some (.loop _ _ fn nt env ps as body) => some (.atom (.bool jump.isNone), hset H l (.loop (if jump.isNone then .ready else .done) jump fn nt env ps as body))
    | _ => none
  else none

def isLoop : Option AObj → Bool
  | some (.loop ..) => true
  | _ => false

def runQ (Γ : Par) (x : Rc) (todo : List Item) (env : Env) (ds : List ADef) (H : Heap) : Q :=
  match todo with
  | [] => match x.round with
    | none => goto (.leave x ds env H)
    | some l => .ret (endRoundA x l none ds H)
  | .code .ret :: _ => match x.round with
    | none => goto (.leave x ds env H)
    | some l => .ret (endRoundA x l (some .ret) ds H)
  | .code .skip :: k => goto (.run x k env ds H)
  | .code (.label _) :: k => goto (.run x k env ds H)
  | .inBlock _ :: k => goto (.run x k env ds H)
  | .inScope _ :: k => goto (.run x k env ds H)
  | .code (.seq a b) :: k => goto (.run x (.code a :: .code b :: k) env ds H)
  | .code (.cond c a b) :: k => match aeval Γ.G env c with
    | some (.atom (.bool t)) => goto (.run x (.code (if t then a else b) :: k) env ds H)
    | _ => .ret none
  | .code (.block id b) :: k => goto (.run x (.code b :: .inBlock id :: k) env ds H)
  | .code (.loop b) :: k => goto (.run x (.code b :: .inLoop b :: k) env ds H)
  | .inLoop b :: k => goto (.run x (.code b :: .inLoop b :: k) env ds H)
  | .code (.scope b) :: k => goto (.run x (.code b :: .inScope b :: k) env ds H)
  | .code (.exit id) :: k => match exitTo id k with
    | some k' => goto (.run x k' env ds H)
    | none => match x.round with
      | none => .ret none
      | some l => .ret (endRoundA x l (some (.exit id)) ds H)
  | .code (.goto l) :: k => match gotoIn l k with
    | some k' => goto (.run x k' env ds H)
    | none => .ret none
  | .code (.region id ops false) :: k => goto (.ops x ops (Γ.keep x.fid id) (List.range ops.size) k env ds H)
  | .code (.region id ops true) :: k => drawQ Γ x ops (Γ.keep x.fid id) k ds env (List.range ops.size) env H [] [] []
  | .beginRound :: k => match x.round with
    | some l => if x.base ≤ l then
        match hget H l with
        | some (.loop .ready p fn nt e ps as body) => goto (.run x k env ds (hset H l (.loop .busy p fn nt e ps as body)))
        | _ => .ret none
      else .ret none
    | none => .ret none
  | .code (.rangeFunc f ps as body) :: k => match aeval Γ.G env f with
    | some (.fn (.func g) first cap) =>
      if (Γ.fn g).isSome = false then .ret none else
      match x.round with
      | none => .ask (.call g x.base (first ++ [.yld (H.length + 1)] ++ cap) (.loop .ready none x.fid x.nt env ps as body :: .dmark :: H)) fun r =>
        match hget r.2 (H.length + 1) with
        | some (.loop st p fn nt e ps as body) =>
          if st = .busy then .ret none else goto (.run x ((p.map Item.code).toList ++ k) env (.mark H.length :: ds) (hset r.2 (H.length + 1) (.loop .exhausted p fn nt e ps as body)))
        | _ => .ret none
      | some l0 => if isLoop (hget H l0) = false then .ret none else .ask (.call g x.base (first ++ [.yld H.length] ++ cap) (.loop .ready none x.fid x.nt env ps as body :: H)) fun r =>
        match hget r.2 H.length with
        | some (.loop st p fn nt e ps as body) =>
          if st = .busy then .ret none else goto (.run x ((p.map Item.code).toList ++ k) env ds (hset r.2 H.length (.loop .exhausted p fn nt e ps as body)))
        | _ => .ret none
    | _ => .ret none
  | _ => .ret none

def leaveQ (Γ : Par) (x : Rc) (ds : List ADef) (env : Env) (H : Heap) : Q :=
  match ds with
  | [] => match Γ.P.funcs[x.fid]? with
    | some fn => match aResults Γ.P env H fn.results.toList with
      | some as => .ret (some (oneOf as, H))
      | none => .ret none
    | none => .ret none
  | .mark b :: ds => match hget H b with
    | some .dmark => if x.base ≤ b then goto (.leave x ds env (hset H b .dead)) else .ret none
    | _ => .ret none
  | .call f args :: ds => .ask (.call f x.base args H) fun r => goto (.leave x ds env r.2)

def setParams (nt : Nat) (env : Env) : List (Tmp × AV) → Option Env
  | [] => some env
  | (t, a) :: ps => match eput nt env (some t) a with
    | some env' => setParams nt env' ps
    | none => none

def roundQ (_ : Par) (base l : Nat) (args : List AV) (H : Heap) : Q :=
  match hget H l with
  | some (.loop .ready _ fn nt env ps as body) => if args.length = ps.size then
        match setParams nt env (ps.toList.zip args) with
        | some env' => goto (.run ⟨fn, nt, base, some l⟩ [.code as, .beginRound, .code body] env' [] H)
        | none => .ret none
      else .ret none
  | _ => .ret none

def stepQ (Γ : Par) : Task → Q
  | .call f base args H => callQ Γ f base args H
  | .run x todo env ds H => runQ Γ x todo env ds H
  | .ops x all kp l k env ds H => opsQ Γ x all kp l k env ds H
  | .leave x ds env H => leaveQ Γ x ds env H
  | .round base l args H => roundQ Γ base l args H

def E (Γ : Par) : Nat → Task → Option Res
  | 0, _ => none
  | n + 1, t => (stepQ Γ t).run (E Γ n)

end Go.Av
