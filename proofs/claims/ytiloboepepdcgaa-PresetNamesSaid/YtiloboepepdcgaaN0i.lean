/- This text is a part of the proofs of the statements of this seat: the ideal states and their rules, or what one of the functions that the statements reach comes to. Conditions: none beyond those that each theorem names. -/
import Derived.Test.YtiloboepepdcgaaR0
import Derived.Test.YtiloboepepdcgaaB0
set_option linter.unusedVariables false
set_option linter.unusedSimpArgs false
namespace Go.Proofs
open Go.Idl Go.ChangeShapes Go.WideShapes Go.ChangeAt Go.RowKit

section
variable {H : Type} {enc : TypeId × Value → H} {W : World}
theorem ints_el (fuel : Nat) (cs : List Value) (x : DataW H × List MemPlace) (h : DataW.trod enc Try.prog W 0 (fun _ => true) true fuel 3 cs = some x) :
    ∃ a : Int, RepAll (oldF W) W (intRow a) cs ∧ ∀ u ∈ cs, u.oneCell' = true := by
  obtain ⟨n, rfl, _⟩ := int_read Try.underlying3 _ _ _ h
  exact ⟨n, ⟨_, _, rfl, rfl, rfl⟩, by intro u hu; simp at hu; subst hu; rfl⟩
end
end Go.Proofs
