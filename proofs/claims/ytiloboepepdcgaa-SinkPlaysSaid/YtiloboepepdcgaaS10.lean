/- This text is a part of the proofs of the statements of this seat: the ideal states and their rules, or what one of the functions that the statements reach comes to. Conditions: none beyond those that each theorem names. -/
import Derived.Test.YtiloboepepdcgaaS8
import Derived.Test.YtiloboepepdcgaaS9
import Derived.Test.YtiloboepepdcgaaS7
set_option linter.unusedVariables false
set_option linter.unusedSimpArgs false
set_option pp.deepTerms false
set_option pp.maxSteps 400
namespace Go.Proofs
open Go.Idl
open Go.Sort (swp ltInt PermIn)

theorem len_c (x : Nat) (h : Heap) (hx : x < 1099511627776) : ICall Try.prog 90 [.int .u64 x] h (lenR x h) := by
  refine icall_of_iwp (fun _ => 0) Try.func90 rfl (by kernel_rfl) (Nat.le_of_ble_eq_true rfl) ?_
  rw [Try.results90]
  simp -implicitDefEqProofs [go_sem]
  refine (len64_c x h hx).mono ?_
  rintro e h' ⟨L, ⟨rfl, he⟩, h1, h2, h3⟩
  rw [he]
  simp -implicitDefEqProofs [go_sem]
  exact ⟨h, Sub.refl _, L, ⟨rfl, rfl⟩, h1, h2, h3⟩

def powR (x : Nat) (h : Heap) (e : IEnd) (h' : Heap) : Prop := ∃ M : Nat, retP (.int .u64 M) h e h' ∧ x < M ∧ M ≤ 2 * x
theorem pow_c (x : Nat) (h : Heap) (hx0 : 0 < x) (hx : x < 1099511627776) : ICall Try.prog 141 [.int .i64 x] h (powR x h) := by
  refine icall_of_iwp (fun _ => 0) Try.func141 rfl (by kernel_rfl) (Nat.le_of_ble_eq_true rfl) ?_
  rw [Try.results141]
  have hw : IntKind.u64.wrap (x : Int) = (x : Int) := Go.IntWalk.u64_in _ (by omega)
  simp -implicitDefEqProofs [go_sem, hw]
  refine (len_c x h hx).mono ?_
  rintro e h' ⟨L, ⟨rfl, he⟩, h1, h2, h3⟩
  rw [he]
  have h2' := h2 hx0
  have hn : ¬ ((L : Int) < 0) := by omega
  have e2 : (2 : Int) ^ L = ((2 ^ L : Nat) : Int) := by simp
  have hw2 : IntKind.u64.wrap (2 ^ L) = ((2 ^ L : Nat) : Int) := by rw [e2]; exact Go.IntWalk.u64_in _ (by omega)
  simp -implicitDefEqProofs [go_sem, hn]
  rw [Nat.min_eq_left h3, hw2]
  exact ⟨h, Sub.refl _, 2 ^ L, ⟨rfl, rfl⟩, h1, h2'⟩

def nxtR (q : Nat) (h : Heap) (e : IEnd) (h' : Heap) : Prop := ∃ r : Int, e = .ret (.int .u64 r) ∧ h' = upd h q (some (.cells [.int .u64 r]))
theorem next_c (r : Int) (q : Nat) (h : Heap) (hq : h q = some (.cells [.int .u64 r])) : ICall Try.prog 142 [.ptr q 0] h (nxtR q h) := by
  refine icall_of_iwp (fun _ => 0) Try.func142 rfl (by kernel_rfl) (Nat.le_of_ble_eq_true rfl) ?_
  rw [Try.results142]
  simp -implicitDefEqProofs [go_sem]
  refine iwp_drawn_of mixed [0,1,2,3,4,5,6,7,8,9] (by kernel_rfl) ?_
  simp -implicitDefEqProofs [go_sem, hq]
  refine iwp_drawn_of mixed [0,1,2,3,4,5,6,7,8,9] (by kernel_rfl) ?_
  simp -implicitDefEqProofs [go_sem, hq]
  refine iwp_drawn_of mixed [0,1,2,3,4,5,6,7,8,9] (by kernel_rfl) ?_
  simp -implicitDefEqProofs [go_sem, hq]
  exact ⟨_, Sub.refl _, _, rfl, by rw [upd_upd2, upd_upd2]⟩

/-- what the bits of a number may be at most -/
theorem and_le (r : Int) (M : Nat) (hM : M < 18446744073709551616) : ∃ o : Nat, IntKind.u64.wrap ((BitVec.ofInt 64 r &&& BitVec.ofInt 64 (M : Int)).toNat : Nat) = (o : Int) ∧ o ≤ M := by
  refine ⟨(BitVec.ofInt 64 r &&& BitVec.ofInt 64 (M : Int)).toNat, ?_, ?_⟩
  · exact Go.IntWalk.u64_in _ ⟨by omega, by have := (BitVec.ofInt 64 r &&& BitVec.ofInt 64 (M : Int)).isLt; omega⟩
  · rw [BitVec.toNat_and]
    refine Nat.le_trans Nat.and_le_right ?_
    rw [BitVec.ofInt_natCast, BitVec.toNat_ofNat]
    exact Nat.mod_le _ _
end Go.Proofs
