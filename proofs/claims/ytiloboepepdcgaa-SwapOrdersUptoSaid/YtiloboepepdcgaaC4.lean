/- This text is a part of the proofs of the statements of this seat: the ideal states and their rules, or what one of the functions that the statements reach comes to. Conditions: none beyond those that each theorem names. -/
import Derived.Test.YtiloboepepdcgaaC3
set_option linter.unusedVariables false
set_option linter.unusedSimpArgs false
set_option pp.deepTerms false
set_option pp.maxSteps 600
namespace Go.Proofs
open Go.Idl

def Rct.may (r : Rct) : Bool := decide (0 ≤ r.x ∧ r.x ≤ 10000 ∧ 0 ≤ r.y ∧ r.y ≤ 10000 ∧ 0 < r.w ∧ r.w ≤ 10000 ∧ 0 < r.h ∧ r.h ≤ 10000 ∧ r.x + r.w ≤ 10000 ∧ r.y + r.h ≤ 10000)

set_option maxHeartbeats 2000000 in
theorem may04_c (r : Rct) (h : Heap) : ICall Try.prog 72 [.agg r.row] h (retP (.bool r.may) h) := by
  refine icall_of_iwp (fun _ => 0) Try.func72 rfl (by kernel_rfl) (Nat.le_of_ble_eq_true rfl) ?_
  rw [Try.results72]
  simp -implicitDefEqProofs [go_sem]
  refine cK_dec (fun h1 => ?_) (fun h1 => ?_) <;> simp -implicitDefEqProofs [go_sem]
  · exact ⟨h, Sub.refl _, by simp [retP, Rct.may]; omega⟩
  refine cK_dec (fun h2 => ?_) (fun h2 => ?_) <;> simp -implicitDefEqProofs [go_sem]
  · exact ⟨h, Sub.refl _, by simp [retP, Rct.may]; omega⟩
  refine cK_dec (fun h3 => ?_) (fun h3 => ?_) <;> simp -implicitDefEqProofs [go_sem]
  · exact ⟨h, Sub.refl _, by simp [retP, Rct.may]; omega⟩
  refine cK_dec (fun h4 => ?_) (fun h4 => ?_) <;> simp -implicitDefEqProofs [go_sem]
  · exact ⟨h, Sub.refl _, by simp [retP, Rct.may]; omega⟩
  refine cK_dec (fun h5 => ?_) (fun h5 => ?_) <;> simp -implicitDefEqProofs [go_sem]
  rotate_left
  · exact ⟨h, Sub.refl _, by simp [retP, Rct.may]; omega⟩
  refine cK_dec (fun h6 => ?_) (fun h6 => ?_) <;> simp -implicitDefEqProofs [go_sem]
  rotate_left
  · exact ⟨h, Sub.refl _, by simp [retP, Rct.may]; omega⟩
  refine cK_dec (fun h7 => ?_) (fun h7 => ?_) <;> simp -implicitDefEqProofs [go_sem]
  rotate_left
  · exact ⟨h, Sub.refl _, by simp [retP, Rct.may]; omega⟩
  refine cK_dec (fun h8 => ?_) (fun h8 => ?_) <;> simp -implicitDefEqProofs [go_sem]
  rotate_left
  · exact ⟨h, Sub.refl _, by simp [retP, Rct.may]; omega⟩
  rw [wrap_in (by omega)]
  refine cK_dec (fun h9 => ?_) (fun h9 => ?_) <;> simp -implicitDefEqProofs [go_sem]
  rotate_left
  · exact ⟨h, Sub.refl _, by simp [retP, Rct.may]; omega⟩
  rw [wrap_in (by omega)]
  refine ⟨h, Sub.refl _, ?_, rfl⟩
  rw [Rct.may]
  congr 2
  rw [decide_eq_decide]
  omega
end Go.Proofs
