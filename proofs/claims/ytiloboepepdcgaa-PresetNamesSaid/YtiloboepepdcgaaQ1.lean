/- This text is a part of the proofs of the statements of this seat: the ideal states and their rules, or what one of the functions that the statements reach comes to. Conditions: none beyond those that each theorem names. -/
import Derived.Test.YtiloboepepdcgaaF15
import Derived.Test.YtiloboepepdcgaaB0
set_option linter.unusedVariables false
set_option linter.unusedSimpArgs false
set_option pp.deepTerms false
set_option pp.maxSteps 400
namespace Go.Proofs
open Go.Idl

theorem ints_c (a b : List Int) (h : Heap) (hs : a.length < 100000000000) : ICall Try.prog 29 [.list .plain (a.map intRow), .list .plain (b.map intRow)] h (retP (.bool (decide (a = b))) h) := by
  refine icall_of_iwp (fun _ => 0) Try.func29 rfl (by kernel_rfl) (Nat.le_of_ble_eq_true rfl) ?_
  rw [Try.results29]
  simp -implicitDefEqProofs [go_sem]
  refine cK_bne (fun h1 => ?_) (fun h1 => ?_) <;> simp -implicitDefEqProofs [go_sem]
  · exact ⟨h, Sub.refl _, by rw [decide_eq_false (fun e => by rw [e] at h1; exact h1 rfl)], rfl⟩
  refine iwp_loopF (rng [4,5] 13 25) nom (fun s => ∃ i, i ≤ a.length ∧ s.t 13 = .int .i64 i ∧ a.take i = b.take i ∧ s.h = h) (fun s => a.length - tn (s.t 13)) ?_ ?_
  · exact ⟨0, Nat.zero_le _, by simp -implicitDefEqProofs [go_sem], by simp, by simp -implicitDefEqProofs [go_sem]⟩
  rintro J s hJ hf ⟨i, hi, h13, heq, hh⟩
  simp -implicitDefEqProofs [go_sem, h13, hh, hf.t, hf.m]
  refine cK_dec (fun hlt => ?_) (fun hge => ?_)
  · have hg : a[i]? = some a[i] := List.getElem?_eq_getElem hlt
    have hlt2 : i < b.length := by omega
    have hg2 : b[i]? = some b[i] := List.getElem?_eq_getElem hlt2
    have hw := wrap_succ (i := i) (by omega)
    simp -implicitDefEqProofs [go_sem, h13, hh, hf.t, hf.m, hlt, hg]
    refine iwp_drawn_of mixed [0, 1, 2, 3, 4, 5, 6, 7, 8] (by kernel_rfl) ?_
    simp -implicitDefEqProofs [go_sem, h13, hh, hf.t, hf.m, hlt, hg, hlt2, hg2]
    refine cK_bne (fun k1 => ?_) (fun k1 => ?_) <;> simp -implicitDefEqProofs [go_sem, h13, hh, hf.t, hf.m, hf, hw]
    · exact ⟨h, Sub.refl _, by rw [decide_eq_false (fun e => by subst e; exact k1 rfl)], rfl⟩
    · refine hJ _ ⟨i + 1, by omega, by simp -implicitDefEqProofs [go_sem, hw], ?_, by simp -implicitDefEqProofs [go_sem, hh]⟩ (by simp [go_sem, h13, hw]; omega)
      rw [List.take_add_one, List.take_add_one, heq, hg, hg2, k1]
  · simp -implicitDefEqProofs [go_sem, h13, hh, hf.t, hf.m]
    rw [List.take_of_length_le (by omega), List.take_of_length_le (by omega)] at heq
    exact ⟨h, Sub.refl _, by rw [decide_eq_true heq], rfl⟩

end Go.Proofs
