/- This text is a part of the proofs of the statements of this seat: the ideal states and their rules, or what one of the functions that the statements reach comes to. Conditions: none beyond those that each theorem names. -/
import Derived.Test.YtghpaalcedgcaaaGreatIdl8
set_option linter.unusedVariables false
set_option linter.unusedSimpArgs false
namespace Go.Proofs
open Go.Idl
theorem wrap_in {n : Int} (h : -9223372036854775808 ≤ n ∧ n ≤ 9223372036854775807) : IntKind.i64.wrap n = n := Go.IntWalk.i64_in _ h
def retP (v : IV) (h : Heap) (e : IEnd) (h' : Heap) : Prop := e = .ret v ∧ h' = h
theorem wrap_succ {i : Nat} (h : i < 1000000000000) : IntKind.i64.wrap ((i : Int) + 1) = ((i + 1 : Nat) : Int) := by rw [wrap_in (by omega)]; rfl
def intRow (n : Int) : List IV := [.int .i64 n]
@[go_sem] theorem intRow_len (n : Int) : (intRow n).length = 1 := rfl
@[go_sem high] theorem intRow_take (n : Int) : (intRow n).take 1 = [.int .i64 n] := rfl
@[go_sem high] theorem intRow_okV (n : Int) : okV (.agg (intRow n)) = true := rfl
@[go_sem high] theorem ints_uni (l : List Int) : uni 1 (l.map intRow) = true := by simp [uni, intRow]
end Go.Proofs
