/- A part of the proof: a verified reading of the model by values alone, and what is shown by it. It holds without conditions. -/
import Derived.Test.YtjmgcdbefkojjaaGreatDoorAvTab
import Derived.Test.YtjmgcdbefkojjaaGreatDoorProg
import Derived.KernelRfl
namespace Go.Proofs.YtjmgcdbefkojjaaGreatDoor
open Go Go.Av
set_option maxRecDepth 1000000

def pol0 : List Nat := [5, 6, 9, 11, 12, 13, 14, 16, 21, 22, 23, 24, 25, 26, 27, 29, 30, 37, 38, 39, 42, 43, 45, 46, 47, 48, 54, 55, 56, 57, 58, 61, 64, 66, 73, 74, 75, 77, 79, 80, 88, 103, 105, 109, 112, 127, 131, 136, 138, 152, 153, 157, 158, 159, 160, 161, 162, 164, 173, 174, 175, 180, 181, 183, 198, 199, 200, 201, 204, 205, 206, 207, 225, 230, 232, 240, 243, 249, 250, 262, 263, 264, 265, 266, 267, 268, 272, 290, 293, 298, 301, 325, 328, 329, 330, 331, 346, 350, 351, 354, 371, 376, 386, 390, 394]
def clones : List Nat := [105, 152, 153, 180, 181]
def polOf (f : Nat) : Nat := if pol0.contains f then 0 else 1
def sumOf (f : Nat) (_ : Nat) (args : List AV) (H : Heap) : Option Res :=
  if clones.contains f then (match args with | [.sl [] 0 _] => some (.sl [] 0 true, H) | _ => none)
  else if f == 235 then (match args with | [a] => some (a, H) | _ => none)
  else none
noncomputable def Γ0 : Par := { P := Tryz.prog, G := fun _ => none, bld := some 309, S := sumOf, pol := polOf, keep := fun _ _ => none, fn := fnOf Tryz.prog }
noncomputable def Γ1 : Par := { P := Tryz.prog, G := fun _ => none, bld := some 309, S := fun _ _ _ _ => none, pol := fun _ => 0, keep := fun _ _ => none, fn := fnOf Tryz.prog }

theorem mx0 : Γ0.P.follows .mixedOrders = true := by kernel_rfl
theorem fn0 : ∀ f y, Γ0.fn f = some y → fnOf Γ0.P f = some y := fun _ _ h => h
theorem pu0 : ∀ f base args H r, Γ0.S f base args H = some r → r.2 = H := by
  intro f base args H r h
  simp only [Γ0, sumOf] at h
  split at h
  · split at h <;> cases h; rfl
  · split at h
    · split at h <;> cases h; rfl
    · cases h

def isE : Option Res → Bool
  | some (.sl [] 0 true, _) => true
  | _ => false
noncomputable def bodyRun (f : Nat) (a : Value) (H : Heap) : Option Res := match fnOf Tryz.prog f with
  | some (fn, c) => E Γ1 60 (.run ⟨f, fn.ntmps, H.length, none⟩ [.code c] [(0, .atom a)] [] H)
  | none => none
theorem clone_call (f : Nat) (a : Value) (H : Heap) (h : isE (bodyRun f a H) = true) (hl : (match fnOf Tryz.prog f with | some (fn, _) => decide (1 ≤ fn.ntmps) | none => false) = true) :
    ∃ H', V Γ1 (.call f H.length [.atom a] H) = some (.sl [] 0 true, H') := by
  unfold bodyRun at h
  cases e : fnOf Tryz.prog f with
  | none => rw [e] at h; cases h
  | some p =>
    obtain ⟨fn, c⟩ := p
    rw [e] at h hl
    simp only at h hl
    cases e2 : E Γ1 60 (.run ⟨f, fn.ntmps, H.length, none⟩ [.code c] [(0, .atom a)] [] H) with
    | none => rw [e2] at h; cases h
    | some r =>
      obtain ⟨r, H'⟩ := r
      rw [e2] at h
      have hr : r = .sl [] 0 true := by
        unfold isE at h
        split at h
        · rename_i he; cases he; rfl
        · cases h
      subst hr
      refine ⟨H', ?_⟩
      rw [V_call0 (Γ := Γ1) rfl e ⟨by simpa using hl, Nat.le_refl _⟩ rfl]
      exact V_iff.2 ⟨60, e2⟩
theorem ok1 : ∀ t r, V Γ1 t = some r → TaskOK Γ1 t r := fun _ _ h =>
  V_ok (Γ := Γ1) (fun _ _ _ _ _ h => by cases h) (fun _ _ h => h) (by kernel_rfl) (fun _ _ _ _ _ h => by cases h) h
set_option maxRecDepth 100000 in
theorem c0_105 (H : Heap) (cap : Nat) : isE (bodyRun 105 (.slice none 0 cap) H) = true := by kernel_rfl
set_option maxRecDepth 100000 in
theorem c1_105 (H : Heap) (ad : Addr) (cap : Nat) : isE (bodyRun 105 (.slice (some ad) 0 cap) H) = true := by kernel_rfl
theorem cs_105 {base : Nat} {t : Bool} {H : Heap} : TaskOK Γ0 (.call 105 base [.sl [] 0 t] H) (.sl [] 0 true, H) :=
  clone_sum (Γ := Γ0) (Γ0 := Γ1) rfl rfl ok1 (fun H cap => clone_call 105 _ H (c0_105 H cap) (by kernel_rfl)) (fun H ad cap => clone_call 105 _ H (c1_105 H ad cap) (by kernel_rfl))
set_option maxRecDepth 100000 in
theorem c0_152 (H : Heap) (cap : Nat) : isE (bodyRun 152 (.slice none 0 cap) H) = true := by kernel_rfl
set_option maxRecDepth 100000 in
theorem c1_152 (H : Heap) (ad : Addr) (cap : Nat) : isE (bodyRun 152 (.slice (some ad) 0 cap) H) = true := by kernel_rfl
theorem cs_152 {base : Nat} {t : Bool} {H : Heap} : TaskOK Γ0 (.call 152 base [.sl [] 0 t] H) (.sl [] 0 true, H) :=
  clone_sum (Γ := Γ0) (Γ0 := Γ1) rfl rfl ok1 (fun H cap => clone_call 152 _ H (c0_152 H cap) (by kernel_rfl)) (fun H ad cap => clone_call 152 _ H (c1_152 H ad cap) (by kernel_rfl))
set_option maxRecDepth 100000 in
theorem c0_153 (H : Heap) (cap : Nat) : isE (bodyRun 153 (.slice none 0 cap) H) = true := by kernel_rfl
set_option maxRecDepth 100000 in
theorem c1_153 (H : Heap) (ad : Addr) (cap : Nat) : isE (bodyRun 153 (.slice (some ad) 0 cap) H) = true := by kernel_rfl
theorem cs_153 {base : Nat} {t : Bool} {H : Heap} : TaskOK Γ0 (.call 153 base [.sl [] 0 t] H) (.sl [] 0 true, H) :=
  clone_sum (Γ := Γ0) (Γ0 := Γ1) rfl rfl ok1 (fun H cap => clone_call 153 _ H (c0_153 H cap) (by kernel_rfl)) (fun H ad cap => clone_call 153 _ H (c1_153 H ad cap) (by kernel_rfl))
set_option maxRecDepth 100000 in
theorem c0_180 (H : Heap) (cap : Nat) : isE (bodyRun 180 (.slice none 0 cap) H) = true := by kernel_rfl
set_option maxRecDepth 100000 in
theorem c1_180 (H : Heap) (ad : Addr) (cap : Nat) : isE (bodyRun 180 (.slice (some ad) 0 cap) H) = true := by kernel_rfl
theorem cs_180 {base : Nat} {t : Bool} {H : Heap} : TaskOK Γ0 (.call 180 base [.sl [] 0 t] H) (.sl [] 0 true, H) :=
  clone_sum (Γ := Γ0) (Γ0 := Γ1) rfl rfl ok1 (fun H cap => clone_call 180 _ H (c0_180 H cap) (by kernel_rfl)) (fun H ad cap => clone_call 180 _ H (c1_180 H ad cap) (by kernel_rfl))
set_option maxRecDepth 100000 in
theorem c0_181 (H : Heap) (cap : Nat) : isE (bodyRun 181 (.slice none 0 cap) H) = true := by kernel_rfl
set_option maxRecDepth 100000 in
theorem c1_181 (H : Heap) (ad : Addr) (cap : Nat) : isE (bodyRun 181 (.slice (some ad) 0 cap) H) = true := by kernel_rfl
theorem cs_181 {base : Nat} {t : Bool} {H : Heap} : TaskOK Γ0 (.call 181 base [.sl [] 0 t] H) (.sl [] 0 true, H) :=
  clone_sum (Γ := Γ0) (Γ0 := Γ1) rfl rfl ok1 (fun H cap => clone_call 181 _ H (c0_181 H cap) (by kernel_rfl)) (fun H ad cap => clone_call 181 _ H (c1_181 H ad cap) (by kernel_rfl))
theorem base_sum : SumOK Γ0 := by
  intro f base args H r h
  simp only [Γ0, sumOf] at h
  split at h
  · rename_i hf
    split at h
    · cases h
      simp [clones] at hf
      rcases hf with rfl | rfl | rfl | rfl | rfl
      · exact cs_105
      · exact cs_152
      · exact cs_153
      · exact cs_180
      · exact cs_181
    · cases h
  · split at h
    · rename_i hf
      have hf : f = 235 := by simpa using hf
      subst hf
      split at h
      · cases h
        exact noEscape_sum (Γ := Γ0) (fn := Tryz.f235) Tryz.func235 (by kernel_rfl) (by kernel_rfl) (by kernel_rfl) (by kernel_rfl)
      · cases h
    · cases h
def l0 : Tab := []
theorem s0 : SumOK (Γ0.tab l0) := sumOK_nil base_sum
end Go.Proofs.YtjmgcdbefkojjaaGreatDoor
