/- This text is a part of the proofs of the statements of this seat: the ideal states and their rules, or what one of the functions that the statements reach comes to. Conditions: none beyond those that each theorem names. -/
import Derived.Test.YtiloboepepdcgaaC24o
set_option linter.unusedVariables false
set_option linter.unusedSimpArgs false
set_option pp.deepTerms false
set_option pp.maxSteps 400
namespace Go.Proofs
open Go.Idl

theorem cLeavesW_c (c : Cel) (h : Heap) (hs : c.size < 100000000000) (hne : c.ids ≠ []) : ICall Try.prog 87 [.list .plain [c.row]] h (newInts c.ids h) := by
  have e : idsL [c] = c.ids := by simp [idsL, Cel.alls, Cel.ids, Cel.leaves]
  have := leavesW_c [c] (by simpa [Cel.sizes] using hs) h (by rw [e]; exact hne)
  rw [e] at this
  exact this

end Go.Proofs
