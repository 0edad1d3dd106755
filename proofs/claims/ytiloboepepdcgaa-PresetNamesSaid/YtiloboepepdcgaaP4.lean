/- This text is a part of the proofs of the statements of this seat: the ideal states and their rules, or what one of the functions that the statements reach comes to. Conditions: none beyond those that each theorem names. -/
import Derived.Test.YtiloboepepdcgaaCD
set_option linter.unusedVariables false
set_option linter.unusedSimpArgs false
set_option pp.deepTerms false
set_option pp.maxSteps 400
namespace Go.Proofs
open Go.Idl

theorem in_c (l : List Int) (n : Int) (h : Heap) (hl : l.length < 1000000000000) : ICall Try.prog 68 [.list .plain (l.map intRow), .int .i64 n] h (retP (.bool (decide (n ∈ l))) h) := by
  refine icall_of_iwp (fun _ => 0) Try.func68 rfl (by kernel_rfl) (Nat.le_of_ble_eq_true rfl) ?_
  rw [Try.results68]
  simp -implicitDefEqProofs [go_sem]
  refine iwp_loopF (rng [4,5] 8 17) nom (fun s => ∃ i : Nat, i ≤ l.length ∧ s.t 8 = .int .i64 i ∧ n ∉ l.take i ∧ s.h = h) (fun s => l.length - tn (s.t 8)) ?_ ?_
  · exact ⟨0, Nat.zero_le _, by simp -implicitDefEqProofs [go_sem], by simp, by simp -implicitDefEqProofs [go_sem]⟩
  rintro J s hJ hf ⟨i, hi, h8, hn, hh⟩
  simp -implicitDefEqProofs [go_sem, h8, hh, hf.t, hf.m]
  refine cK_dec (fun hlt => ?_) (fun hge => ?_)
  · have hg : l[i]? = some l[i] := List.getElem?_eq_getElem hlt
    have hw : IntKind.i64.wrap ((i : Int) + 1) = ((i + 1 : Nat) : Int) := by rw [wrap_in (by omega)]; rfl
    simp -implicitDefEqProofs [go_sem, h8, hh, hf.t, hf.m, hlt, hg]
    refine cK_beq (fun k1 => ?_) (fun k1 => ?_) <;> simp -implicitDefEqProofs [go_sem, h8, hh, hf.t, hf.m, hf, hw]
    · exact ⟨h, Sub.refl _, by rw [decide_eq_true (by rw [← k1]; exact List.getElem_mem hlt)], rfl⟩
    · refine hJ _ ⟨i + 1, by omega, by simp -implicitDefEqProofs [go_sem, hw], ?_, by simp -implicitDefEqProofs [go_sem, hh]⟩ (by simp [go_sem, h8, hw]; omega)
      rw [List.take_add_one, hg]
      simp only [List.mem_append, not_or]
      exact ⟨hn, by simp; exact fun e => k1 e.symm⟩
  · simp -implicitDefEqProofs [go_sem, h8, hh, hf.t, hf.m]
    rw [List.take_of_length_le (by omega)] at hn
    exact ⟨h, Sub.refl _, by rw [decide_eq_false hn], rfl⟩

end Go.Proofs
