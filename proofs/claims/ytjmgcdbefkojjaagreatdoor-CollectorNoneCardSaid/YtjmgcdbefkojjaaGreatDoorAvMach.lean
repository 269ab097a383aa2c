/- A part of the proof: a verified reading of the model by values alone, and what is shown by it. It holds without conditions. -/
import Derived.Test.YtjmgcdbefkojjaaGreatDoorAvStep2
namespace Go.Av
open Go

/-- A running frame. -/
def frAt (fid : FuncId) (kind : CallKind) (rd : Option Nat) (tmps : Array Value) (ds : List Deferred) (todo : List Item) : Frame :=
  { fn := fid, tmps, todo, defers := ds, mode := .run, kind, roundOf := rd }

theorem frAt_eval (fid : FuncId) (kind : CallKind) (rd : Option Nat) (tmps : Array Value) (ds : List Deferred) (todo : List Item) :
    (frAt fid kind rd tmps ds todo).eval = Act.eval { tmps, defers := ds } := by
  funext x; cases x <;> rfl

section
variable {P : Program} {fid : FuncId} {kind : CallKind} {rd : Option Nat} {tmps : Array Value} {ds : List Deferred} {k : List Item} {cs : List Frame} {w : World}

theorem fstep_skip : step P (lone (frAt fid kind rd tmps ds (.code .skip :: k)) cs w) = .next (lone (frAt fid kind rd tmps ds k) cs w) :=
  step_lone_go (by simp [stepG, stepG.exec, frAt])

theorem fstep_label {l : Nat} : step P (lone (frAt fid kind rd tmps ds (.code (.label l) :: k)) cs w) = .next (lone (frAt fid kind rd tmps ds k) cs w) :=
  step_lone_go (by simp [stepG, stepG.exec, frAt])

theorem fstep_inBlock {id : Nat} : step P (lone (frAt fid kind rd tmps ds (.inBlock id :: k)) cs w) = .next (lone (frAt fid kind rd tmps ds k) cs w) :=
  step_lone_go (by simp [stepG, stepG.exec, frAt])

theorem fstep_inScope {b : Code} : step P (lone (frAt fid kind rd tmps ds (.inScope b :: k)) cs w) = .next (lone (frAt fid kind rd tmps ds k) cs w) :=
  step_lone_go (by simp [stepG, stepG.exec, frAt])

theorem fstep_seq {x y : Code} : step P (lone (frAt fid kind rd tmps ds (.code (.seq x y) :: k)) cs w) = .next (lone (frAt fid kind rd tmps ds (.code x :: .code y :: k)) cs w) :=
  step_lone_go (by simp [stepG, stepG.exec, frAt])

theorem fstep_cond {c : Operand} {x y : Code} {t : Bool} (h : Act.eval { tmps, defers := ds } c = .bool t) :
    step P (lone (frAt fid kind rd tmps ds (.code (.cond c x y) :: k)) cs w) = .next (lone (frAt fid kind rd tmps ds (.code (if t then x else y) :: k)) cs w) :=
  step_lone_go (by
    have := congrFun (frAt_eval fid kind rd tmps ds (.code (.cond c x y) :: k)) c
    rw [h] at this
    simp only [frAt] at this
    simp [stepG, stepG.exec, frAt, this])

theorem fstep_block {id : Nat} {c : Code} : step P (lone (frAt fid kind rd tmps ds (.code (.block id c) :: k)) cs w) = .next (lone (frAt fid kind rd tmps ds (.code c :: .inBlock id :: k)) cs w) :=
  step_lone_go (by simp [stepG, stepG.exec, frAt])

theorem fstep_loop {c : Code} : step P (lone (frAt fid kind rd tmps ds (.code (.loop c) :: k)) cs w) = .next (lone (frAt fid kind rd tmps ds (.code c :: .inLoop c :: k)) cs w) :=
  step_lone_go (by simp [stepG, stepG.exec, frAt])

theorem fstep_inLoop {c : Code} : step P (lone (frAt fid kind rd tmps ds (.inLoop c :: k)) cs w) = .next (lone (frAt fid kind rd tmps ds (.code c :: .inLoop c :: k)) cs w) :=
  step_lone_go (by simp [stepG, stepG.exec, frAt])

theorem fstep_scope {c : Code} : step P (lone (frAt fid kind rd tmps ds (.code (.scope c) :: k)) cs w) = .next (lone (frAt fid kind rd tmps ds (.code c :: .inScope c :: k)) cs w) :=
  step_lone_go (by simp [stepG, stepG.exec, frAt])

theorem fstep_exit {id : Nat} {k' : List Item} (h : exitTo id k = some k') : step P (lone (frAt fid kind rd tmps ds (.code (.exit id) :: k)) cs w) = .next (lone (frAt fid kind rd tmps ds k') cs w) :=
  step_lone_go (by simp [stepG, stepG.exec, frAt, h])

theorem fstep_goto {l : Nat} {k' : List Item} (h : gotoIn l k = some k') : step P (lone (frAt fid kind rd tmps ds (.code (.goto l) :: k)) cs w) = .next (lone (frAt fid kind rd tmps ds k') cs w) :=
  step_lone_go (by simp [stepG, stepG.exec, frAt, h])

theorem fstep_region {id : Nat} {ops : Array Oper} : step P (lone (frAt fid kind rd tmps ds (.code (.region id ops false) :: k)) cs w) =
    .next (lone (frAt fid kind rd tmps ds (.inRegion ops (List.range ops.size) :: k)) cs w) :=
  step_lone_go (by simp [stepG, stepG.exec, frAt])

theorem fstep_region_draw {id : Nat} {ops : Array Oper} : step P (lone (frAt fid kind rd tmps ds (.code (.region id ops true) :: k)) cs w) =
    .next (lone (frAt fid kind rd tmps ds (.inRegion ops (Region.schedule (P.follows .mixedOrders) ops (w.tape w.drawn (.order fid id))) :: k)) cs { w with drawn := w.drawn + 1 }) :=
  step_lone_go (by simp [stepG, stepG.exec, frAt, choose, Sem.run, Question.forced, Question.cut])

theorem fstep_region_end {ops : Array Oper} : step P (lone (frAt fid kind rd tmps ds (.inRegion ops [] :: k)) cs w) = .next (lone (frAt fid kind rd tmps ds k) cs w) :=
  step_lone_go (by simp [stepG, stepG.exec, frAt])

def putT (tmps : Array Value) (dst : Option Tmp) (v : Value) : Array Value := match dst with
  | some d => tmps.setIfInBounds d v
  | none => tmps

theorem frAt_finish (ops : Array Oper) (i : Nat) (rest : List Nat) (v : Value) :
    (frAt fid kind rd tmps ds (.inRegion ops (i :: rest) :: k)).finish v = frAt fid kind rd (putT tmps ((ops[i]?).bind (·.dst)) v) ds (.inRegion ops rest :: k) := by
  cases h : (ops[i]?).bind (·.dst) <;> simp [Frame.finish, frAt, putT, h]

theorem fstep_op_skip {ops : Array Oper} {i : Nat} {rest : List Nat} (h : ((ops[i]?).map (Region.wanted · (yielded ops tmps))).getD false = false) :
    step P (lone (frAt fid kind rd tmps ds (.inRegion ops (i :: rest) :: k)) cs w) =
      .next (lone (frAt fid kind rd (putT tmps ((ops[i]?).bind (·.dst)) undef) ds (.inRegion ops rest :: k)) cs w) := by
  rw [← frAt_finish]
  exact step_lone_go (by
    have h' := h
    simp only [frAt] at *
    simp [stepG, stepG.exec, h'])

def isDefer : Op → Bool
  | .defer _ => true
  | _ => false

theorem fstepG_op {ops : Array Oper} {i : Nat} {rest : List Nat} {o : Oper} (ho : ops[i]? = some o) (hw : Region.wanted o (yielded ops tmps) = true) (hd : rd = none ∨ isDefer o.op = false) :
    stepG P true { frame := frAt fid kind rd tmps ds (.inRegion ops (i :: rest) :: k), callers := cs, status := .running, dying := none } w =
      stepG.apply P true (frAt fid kind rd tmps ds (.inRegion ops (i :: rest) :: k)) cs none (execOp (Act.eval { tmps, defers := ds }) o) w := by
  have he := frAt_eval fid kind rd tmps ds (.inRegion ops (i :: rest) :: k)
  simp only [frAt] at he
  rcases hd with rfl | hd
  · simp [stepG, stepG.exec, stepG.oper, Frame.oper?, frAt, ho, hw, he]
  · cases rd with
    | none => simp [stepG, stepG.exec, stepG.oper, Frame.oper?, frAt, ho, hw, he]
    | some l =>
      cases hop : o.op <;> simp_all [stepG, stepG.exec, stepG.oper, Frame.oper?, frAt, isDefer]

theorem fstep_op_value {ops : Array Oper} {i : Nat} {rest : List Nat} {o : Oper} (ho : ops[i]? = some o) (hw : Region.wanted o (yielded ops tmps) = true) (hd : rd = none ∨ isDefer o.op = false)
    {v : Value} {w' : World} (hr : (execOp (Act.eval { tmps, defers := ds }) o).run P w = .ok (.value v) w' ∨ ((execOp (Act.eval { tmps, defers := ds }) o).run P w = .ok .skip w' ∧ v = undef)) :
    step P (lone (frAt fid kind rd tmps ds (.inRegion ops (i :: rest) :: k)) cs w) = .next (lone (frAt fid kind rd (putT tmps o.dst v) ds (.inRegion ops rest :: k)) cs w') := by
  have hfin := frAt_finish (fid := fid) (kind := kind) (rd := rd) (tmps := tmps) (ds := ds) (k := k) ops i rest v
  rw [ho] at hfin
  simp only [Option.bind_some] at hfin
  rw [← hfin]
  refine step_lone_go ?_
  rw [fstepG_op ho hw hd]
  rcases hr with hr | ⟨hr, rfl⟩ <;> simp [stepG.apply, hr]

theorem fstep_op_defer {ops : Array Oper} {i : Nat} {rest : List Nat} {o : Oper} (ho : ops[i]? = some o) (hw : Region.wanted o (yielded ops tmps) = true)
    {d : Deferred} {w' : World} (hr : (execOp (Act.eval { tmps, defers := ds }) o).run P w = .ok (.defer d) w') :
    step P (lone (frAt fid kind none tmps ds (.inRegion ops (i :: rest) :: k)) cs w) = .next (lone (frAt fid kind none (putT tmps o.dst undef) (d :: ds) (.inRegion ops rest :: k)) cs w') := by
  have hfin := frAt_finish (fid := fid) (kind := kind) (rd := none) (tmps := tmps) (ds := d :: ds) (k := k) ops i rest undef
  rw [ho] at hfin
  simp only [Option.bind_some] at hfin
  rw [← hfin]
  refine step_lone_go ?_
  rw [fstepG_op ho hw (.inl rfl)]
  simp [stepG.apply, hr, frAt]

theorem fstep_op_enter {ops : Array Oper} {i : Nat} {rest : List Nat} {o : Oper} (ho : ops[i]? = some o) (hw : Region.wanted o (yielded ops tmps) = true) (hd : rd = none ∨ isDefer o.op = false)
    {f : FuncId} {args : Array Value} {w' : World} (hr : (execOp (Act.eval { tmps, defers := ds }) o).run P w = .ok (.enter f args) w') :
    step P (lone (frAt fid kind rd tmps ds (.inRegion ops (i :: rest) :: k)) cs w) =
      .next (lone (Frame.enter P f args .normal) (frAt fid kind rd tmps ds (.inRegion ops (i :: rest) :: k) :: cs) w') := by
  refine step_lone_go ?_
  rw [fstepG_op ho hw hd]
  simp [stepG.apply, hr, frAt]

theorem fstep_op_round {ops : Array Oper} {i : Nat} {rest : List Nat} {o : Oper} (ho : ops[i]? = some o) (hw : Region.wanted o (yielded ops tmps) = true) (hd : rd = none ∨ isDefer o.op = false)
    {l : Nat} {f : FuncId} {ts : Array Value} {as body : Code} {w' : World} (hr : (execOp (Act.eval { tmps, defers := ds }) o).run P w = .ok (.round l f ts as body) w') :
    step P (lone (frAt fid kind rd tmps ds (.inRegion ops (i :: rest) :: k)) cs w) =
      .next (lone (Frame.round l f ts as body .normal) (frAt fid kind rd tmps ds (.inRegion ops (i :: rest) :: k) :: cs) w') := by
  refine step_lone_go ?_
  rw [fstepG_op ho hw hd]
  simp [stepG.apply, hr, frAt]

/-- A frame at its end. -/
def Left (P : Program) (fr : Frame) (kind : CallKind) (v : Value) (w : World) : Prop :=
  fr.mode = .returning ∧ fr.defers = [] ∧ fr.kind = kind ∧ ∃ fn, P.funcs[fr.fn]? = some fn ∧ (results fn fr.tmps).run P w = .ok v w

theorem left_normal {fr c : Frame} {v : Value} (h : Left P fr .normal v w) : step P (lone fr (c :: cs) w) = .next (lone (c.finish v) cs w) := by
  obtain ⟨hm, hd, hk, fn, hf, hr⟩ := h
  exact step_lone_go (by simp [stepG, unwind, doReturn, hm, hd, hk, hf, hr])

theorem left_deferred {fr c : Frame} {v : Value} (h : Left P fr .deferred v w) (hc : c.mode = .returning) : step P (lone fr (c :: cs) w) = .next (lone c cs w) := by
  obtain ⟨hm, hd, hk, fn, hf, hr⟩ := h
  exact step_lone_go (by simp [stepG, unwind, doReturn, hm, hd, hk, hf, hr, hc])

/-- A frame that is leaving: its deferred calls are still to be made. -/
def frLeave (fid : FuncId) (kind : CallKind) (tmps : Array Value) (ds : List Deferred) (todo : List Item) : Frame :=
  { fn := fid, tmps, todo, defers := ds, mode := .returning, kind, roundOf := none }

theorem fstep_ret : step P (lone (frAt fid kind none tmps ds (.code .ret :: k)) cs w) = .next (lone (frLeave fid kind tmps ds (.code .ret :: k)) cs w) :=
  step_lone_go (by simp [stepG, stepG.exec, frAt, frLeave])

theorem fstep_end : step P (lone (frAt fid kind none tmps ds []) cs w) = .next (lone (frLeave fid kind tmps ds []) cs w) :=
  step_lone_go (by simp [stepG, stepG.exec, frAt, frLeave])

theorem fstep_mark {r : Nat} {as : Array Value} {todo : List Item} (hr : w.heap[r]? = some (.deferred (some []))) :
    step P (lone (frLeave fid kind tmps ({ target := .collected r, args := as } :: ds) todo) cs w) =
      .next (lone (frLeave fid kind tmps ds todo) cs { w with heap := w.heap.setIfInBounds r (.deferred none) }) := by
  have hrun : (Instr.takeDeferred r).run P w = .ok [] { w with heap := w.heap.setIfInBounds r (.deferred none) } := by
    simp [Instr.takeDeferred, getObj, setObj, Sem.run, hr]
  exact step_lone_go (by simp [stepG, unwind, frLeave, hrun])

theorem fstep_deferred {f : FuncId} {cap vs : Array Value} {todo : List Item} {w' : World} (hr : (callFunc f (vs ++ cap)).run P w = .ok (.enter f (vs ++ cap)) w') :
    step P (lone (frLeave fid kind tmps ({ target := .fn (.func f) cap, args := vs } :: ds) todo) cs w) =
      .next (lone (Frame.enter P f (vs ++ cap) .deferred) (frLeave fid kind tmps ds todo :: cs) w') := by
  exact step_lone_go (by simp [stepG, unwind, frLeave, callDeferred, invoke, hr])

theorem fstep_deferred_value {f : FuncId} {cap vs : Array Value} {v : Value} {todo : List Item} {w' : World} (hr : (callFunc f (vs ++ cap)).run P w = .ok (.value v) w') :
    step P (lone (frLeave fid kind tmps ({ target := .fn (.func f) cap, args := vs } :: ds) todo) cs w) = .next (lone (frLeave fid kind tmps ds todo) cs w') := by
  exact step_lone_go (by simp [stepG, unwind, frLeave, callDeferred, invoke, hr])

/-! ### rounds of a range over a function -/

theorem fstep_beginRound {l : Nat} {r : Loop} (hl : w.heap[l]? = some (.loop r)) (hs : r.state = .ready) :
    step P (lone (frAt fid kind (some l) tmps ds (.beginRound :: k)) cs w) =
      .next (lone (frAt fid kind (some l) tmps ds k) cs { w with heap := w.heap.setIfInBounds l (.loop { r with state := .busy }) }) := by
  have hrun : (Instr.beginRound l).run P w = .ok () { w with heap := w.heap.setIfInBounds l (.loop { r with state := .busy }) } := by
    simp [Instr.beginRound, Instr.getLoop, getObj, setObj, Sem.run, hl, hs]
  exact step_lone_go (by simp [stepG, stepG.exec, stepG.apply, frAt, hrun, Frame.finish])

theorem run_endRound {l : Nat} {r : Loop} (hl : w.heap[l]? = some (.loop r)) (jump : Option Code) :
    (Instr.endRound l jump).run P w = .ok (.bool jump.isNone) { w with heap := w.heap.setIfInBounds l (.loop { r with state := if jump.isNone then .ready else .done, pending := jump }) } := by
  simp [Instr.endRound, Instr.getLoop, getObj, setObj, Sem.run, hl]

theorem fstep_round_end {l : Nat} {r : Loop} (hl : w.heap[l]? = some (.loop r)) (c : Frame) :
    step P (lone (frAt fid .normal (some l) tmps [] []) (c :: cs) w) =
      .next (lone (c.finish (.bool true)) cs { w with heap := w.heap.setIfInBounds l (.loop { r with state := .ready, pending := none }) }) := by
  have hrun := run_endRound (P := P) hl none
  exact step_lone_go (by simp [stepG, stepG.exec, frAt, hrun, doReturn])

theorem fstep_round_ret {l : Nat} {r : Loop} (hl : w.heap[l]? = some (.loop r)) (c : Frame) :
    step P (lone (frAt fid .normal (some l) tmps [] (.code .ret :: k)) (c :: cs) w) =
      .next (lone (c.finish (.bool false)) cs { w with heap := w.heap.setIfInBounds l (.loop { r with state := .done, pending := some .ret }) }) := by
  have hrun := run_endRound (P := P) hl (some .ret)
  exact step_lone_go (by simp [stepG, stepG.exec, frAt, hrun, doReturn])

theorem fstep_round_exit {l id : Nat} {r : Loop} (hl : w.heap[l]? = some (.loop r)) (hx : exitTo id k = none) (c : Frame) :
    step P (lone (frAt fid .normal (some l) tmps [] (.code (.exit id) :: k)) (c :: cs) w) =
      .next (lone (c.finish (.bool false)) cs { w with heap := w.heap.setIfInBounds l (.loop { r with state := .done, pending := some (.exit id) }) }) := by
  have hrun := run_endRound (P := P) hl (some (.exit id))
  exact step_lone_go (by simp [stepG, stepG.exec, frAt, hx, hrun, doReturn])

end
end Go.Av
