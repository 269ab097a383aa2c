/- A part of the proof: a verified reading of the model by values alone, and what is shown by it. It holds without conditions. -/
import Derived.Test.YtjmgcdbefkojjaaGreatDoorAvCard
import Derived.Test.YtjmgcdbefkojjaaGreatDoorLaw
import Derived.Test.YtjmgcdbefkojjaaGreatDoorRows
import Derived.Test.YtjmgcdbefkojjaaGreatDoorCards
import Derived.Test.YtjmgcdbefkojjaaGreatDoorTie
namespace Go.Proofs.YtjmgcdbefkojjaaGreatDoor
open Go Go.Av Go.RowKit Go.ChangeShapes Go.WideShapes Go.ChangeAt
set_option maxRecDepth 1000000

theorem own : ownKnob Tryz.prog.godebug = none := by kernel_rfl
theorem laidOutT : laidOutB Tryz.prog = true := by kernel_rfl
theorem readT : ([24, 28, 9].all fun t => Tryz.prog.readableRec t && decide (t < Tryz.prog.types.size)) = true := by kernel_rfl
theorem simple24 : simpleT Tryz.prog 4 24 = true := by kernel_rfl
theorem simple28 : simpleT Tryz.prog 4 28 = true := by kernel_rfl

def great : List String := ["unicode/utf8.acceptRanges", "aviary/field.errMore", "aviary/field.errField", "unicode/utf8.first"]
noncomputable def wit (os : Os) : World := (World.doorLaid Tryz.prog 400 os).layVars Tryz.prog ((Rows.collectorNoneRow.laid.filter fun x => x.2.handleName?.isNone).filter fun x => great.contains x.1)
theorem wit_os (os : Os) : (wit os).os = os := by
  unfold wit
  rw [World.layVars_os]; rfl
theorem wit_met (os : Os) (args : Array Value) : laidMetH Tryz.prog Rows.collectorNoneRow.laid ((wit os).forCall (fun _ _ => 0) ⟨#[], args, []⟩).memory := by
  refine laidMetH_of_parts ?_ (by kernel_rfl)
  exact laidMet_layVars great [] rfl (by kernel_rfl) (by kernel_rfl) LaidIn.none
def witArgs : Array Value := #[.agg #[.int .u64 0, .int .i64 0, .int .u64 0], .agg #[.int .i64 0, .int .u64 0, .string ⟨#[]⟩, .string ⟨#[]⟩, .int .i64 0, .slice none 0 0, .int .u64 0, .int .u64 0, .int .u64 0, .slice none 0 0], .string ⟨#[]⟩]
theorem wit_sh (os : Os) : ((wit os).forCall (fun _ _ => 0) ⟨#[], witArgs, []⟩).Shaped Tryz.checked.prog := World.shaped_of_ZipB (by kernel_rfl) (by kernel_rfl)
theorem wit_ok (os : Os) : Input.okWideB Tryz.checked.prog ((wit os).forCall (fun _ _ => 0) ⟨#[], witArgs, []⟩) 3 ⟨#[], witArgs, []⟩ = true := by kernel_rfl
theorem wit_pre (os : Os) (H : Type) (enc : TypeId × Value → H) : Rows.collectorNoneSpec.preB enc Tryz.checked.prog Tryz.f3 Rows.collectorNoneRow.domain false ((wit os).forCall (fun _ _ => 0) ⟨#[], witArgs, []⟩).memory witArgs 8 = true := by kernel_rfl
theorem wit_sz (os : Os) (H : Type) (enc : TypeId × Value → H) : Rows.collectorNoneSpec.sizedB enc Tryz.checked.prog Tryz.f3 false ((wit os).forCall (fun _ _ => 0) ⟨#[], witArgs, []⟩).memory witArgs 8 = true := by kernel_rfl
end Go.Proofs.YtjmgcdbefkojjaaGreatDoor
