/- A part of the proof: a verified reading of the model by values alone, and what is shown by it. It holds without conditions. -/
import Derived.Test.YtjmgcdbefkojjaaGreatDoorAvMach
namespace Go.Av
open Go

section
variable {P : Program} {fid : FuncId} {kind : CallKind} {rd : Option Nat} {tmps : Array Value} {ds : List Deferred} {k : List Item} {cs : List Frame} {w : World}

def loopObj (fid : FuncId) (tmps : Array Value) (params : Array Tmp) (assign body : Code) (d : Nat) : Obj :=
  .loop { state := .ready, pending := none, fn := fid, tmps, params, assign, body, defers := d }

theorem fstep_rangeFunc {f : Operand} {params : Array Tmp} {assign body : Code} {g : FuncId} {first cap : Array Value} (hf : Act.eval { tmps, defers := ds } f = .func (.func g) first cap)
    (hcall : ∀ (vs : Array Value) (w : World), (callFunc g vs).run P w = .ok (.enter g vs) w) :
    step P (lone (frAt fid kind none tmps ds (.code (.rangeFunc f params assign body) :: k)) cs w) =
      .next (lone (Frame.enter P g (first ++ #[.func (.yield (w.heap.size + 1)) #[] #[]] ++ cap) .normal)
        (frAt fid kind none tmps ({ target := .collected w.heap.size, args := #[] } :: ds) (.inRangeFunc (w.heap.size + 1) :: k) :: cs)
        { w with heap := (w.heap.push (.deferred (some []))).push (loopObj fid tmps params assign body w.heap.size) }) := by
  have he : (frAt fid kind none tmps ({ target := .collected w.heap.size, args := #[] } :: ds) (.inRangeFunc (w.heap.size + 1) :: k)).eval f = .func (.func g) first cap := by
    rw [frAt_eval]; cases f <;> first | exact hf | (simp [Act.eval] at hf)
  have hrun : (Instr.enterLoop fid tmps params assign body none).run P w =
      .ok (w.heap.size + 1, [{ target := .collected w.heap.size, args := #[] }]) { w with heap := (w.heap.push (.deferred (some []))).push (loopObj fid tmps params assign body w.heap.size) } := by
    simp [Instr.enterLoop, newObj, Sem.run, loopObj]
    rfl
  have he2 : (frAt fid kind none tmps ({ target := .collected w.heap.size, args := #[] } :: ds) (.inRangeFunc (w.heap.size + 1) :: k)).eval (.const (.func (.yield (w.heap.size + 1)) #[] #[])) = .func (.yield (w.heap.size + 1)) #[] #[] := rfl
  simp only [frAt] at he he2
  refine step_lone_go ?_
  simp only [stepG, stepG.exec, frAt, Sem.runT_eq, hrun, GStep.bare_after]
  simp [stepG.apply, resolve, Deferred.ofValue, invoke, he, he2, hcall]

theorem fstep_rangeFunc_in {l0 : Nat} {r0 : Loop} (hl0 : w.heap[l0]? = some (.loop r0)) {f : Operand} {params : Array Tmp} {assign body : Code} {g : FuncId} {first cap : Array Value}
    (hf : Act.eval { tmps, defers := ds } f = .func (.func g) first cap) (hcall : ∀ (vs : Array Value) (w : World), (callFunc g vs).run P w = .ok (.enter g vs) w) :
    step P (lone (frAt fid kind (some l0) tmps ds (.code (.rangeFunc f params assign body) :: k)) cs w) =
      .next (lone (Frame.enter P g (first ++ #[.func (.yield w.heap.size) #[] #[]] ++ cap) .normal)
        (frAt fid kind (some l0) tmps ds (.inRangeFunc w.heap.size :: k) :: cs)
        { w with heap := w.heap.push (loopObj fid tmps params assign body r0.defers) }) := by
  have he : (frAt fid kind (some l0) tmps ds (.inRangeFunc w.heap.size :: k)).eval f = .func (.func g) first cap := by
    rw [frAt_eval]; cases f <;> first | exact hf | (simp [Act.eval] at hf)
  have hrun : (Instr.enterLoop fid tmps params assign body (some l0)).run P w =
      .ok (w.heap.size, []) { w with heap := w.heap.push (loopObj fid tmps params assign body r0.defers) } := by
    simp [Instr.enterLoop, Instr.getLoop, getObj, newObj, Sem.run, hl0, loopObj]
  have he2 : (frAt fid kind (some l0) tmps ds (.inRangeFunc w.heap.size :: k)).eval (.const (.func (.yield w.heap.size) #[] #[])) = .func (.yield w.heap.size) #[] #[] := rfl
  simp only [frAt] at he he2
  refine step_lone_go ?_
  simp only [stepG, stepG.exec, frAt, Sem.runT_eq, hrun, GStep.bare_after]
  simp [stepG.apply, resolve, Deferred.ofValue, invoke, he, he2, hcall]

theorem finish_rangeFunc {l : Nat} (v : Value) : (frAt fid kind rd tmps ds (.inRangeFunc l :: k)).finish v = frAt fid kind rd tmps ds (.endRangeFunc l :: k) := rfl

theorem fstep_endRange {l : Nat} {r : Loop} (hl : w.heap[l]? = some (.loop r)) (hs : r.state ≠ .busy) :
    step P (lone (frAt fid kind rd tmps ds (.endRangeFunc l :: k)) cs w) =
      .next (lone (frAt fid kind rd tmps ds ((r.pending.map Item.code).toList ++ k)) cs { w with heap := w.heap.setIfInBounds l (.loop { r with state := .exhausted }) }) := by
  have hrun : (Instr.endLoop l).run P w = .ok r.pending { w with heap := w.heap.setIfInBounds l (.loop { r with state := .exhausted }) } := by
    simp [Instr.endLoop, Instr.getLoop, getObj, setObj, Sem.run, hl, hs]
  exact step_lone_go (by simp [stepG, stepG.exec, frAt, hrun])
end
end Go.Av
