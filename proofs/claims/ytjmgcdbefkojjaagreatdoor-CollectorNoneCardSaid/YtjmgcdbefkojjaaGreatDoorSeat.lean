/- A part of the proof: a verified reading of the model by values alone, and what is shown by it. It holds without conditions. -/
import Derived.Test.YtjmgcdbefkojjaaGreatDoorAvDrawW
import Derived.Test.YtjmgcdbefkojjaaGreatDoorFacts
import Derived.Test.YtjmgcdbefkojjaaGreatDoorBase
namespace Go.Proofs.YtjmgcdbefkojjaaGreatDoor
open Go Go.Av
set_option maxRecDepth 1000000

def polM : List Nat := []
def polS (f : Nat) : Nat := if polM.contains f then 0 else 1
noncomputable def Γ : Par := { P := Tryz.prog, G := fun _ => none, bld := some 309, S := fun _ _ _ _ => none, pol := polS, keep := fun _ _ => none, fn := fnOf Tryz.prog }
theorem fit : Fit Γ where
  sum := fun _ _ _ _ _ h => by cases h
  fn := fun _ _ h => h
  mx := by kernel_rfl
  pu := fun _ _ _ _ _ h => by cases h
  kp := fun _ _ => rfl

theorem mkFn {f : FuncId} {fn : Func} {c : Code} (h : Tryz.prog.funcs[f]? = some fn) (hb : fn.body = some c) (hn : (fn.name == "runtime.NumGoroutine") = false) : Γ.fn f = some (fn, c) := by
  show fnOf Tryz.prog f = _
  unfold fnOf
  simp only [h, hb]
  rw [if_neg (by simpa using hn)]

@[simp] theorem ΓP : Γ.P = Tryz.prog := rfl
@[simp] theorem Γb : Γ.bld = some 309 := rfl
@[simp] theorem pureΓ {f : FuncId} : pureCall Γ f = true := rfl
theorem okClosed {f : FuncId} {args : List AV} {r : AV} {H : Heap} (h : TaskOK Γ0 (.call f 0 args H) (r, H)) : OK Γ (.call f 0 args H) (r, H) := ⟨h, fun _ _ _ _ e _ => by cases e; rfl⟩
end Go.Proofs.YtjmgcdbefkojjaaGreatDoor
