/- This text is a part of the proofs of the statements of this seat: the ideal states and their rules, or what one of the functions that the statements reach comes to. Conditions: none beyond those that each theorem names. -/
import Derived.Test.YtghpaalcedgcaaaGreatMA
set_option linter.unusedVariables false
set_option linter.unusedSimpArgs false
set_option pp.deepTerms false
set_option pp.maxSteps 400
namespace Go.Proofs
open Go.Idl

/-! slices.Equal of two arrays in the heap -/
set_option maxRecDepth 20000 in
theorem equalH_c (a b : Array Int) (ba ca bb cb : Nat) (H : Heap) (hba : H ba = some (.arr 3 1 (rowsD a) ca)) (hbb : H bb = some (.arr 3 1 (rowsD b) cb)) (ha : a.size < 100000000) (hl : a.size = b.size) :
    ICall Tryz.prog 41 [.sl 1 ba 0 a.size ca, .sl 1 bb 0 b.size cb] H (retP (.bool (decide (a = b))) H) := by
  refine icall_of_iwp (fun _ => 0) Tryz.func41 rfl (by kernel_rfl) (Nat.le_of_ble_eq_true rfl) ?_
  rw [Tryz.results41]
  rw [← hl]
  simp -implicitDefEqProofs [go_sem]
  refine iwp_loopF (rng [5] 13 26) nom (fun s => ∃ i : Nat, i ≤ a.size ∧ s.t 13 = .int .i64 i ∧ s.h = H ∧ ∀ j, j < i → a[j]! = b[j]!) (fun s => a.size - tn (s.t 13)) ?_ ?_
  · exact ⟨0, Nat.zero_le _, by simp -implicitDefEqProofs [go_sem], by simp -implicitDefEqProofs [go_sem], fun j hj => by omega⟩
  rintro J s hJ hf ⟨i, hi, h13, hh, hpre⟩
  simp -implicitDefEqProofs [go_sem, h13, hh, hf.t, hf.m]
  refine cK_dec (fun hlt => ?_) (fun hlt => ?_)
  · have hlt' : i < a.size := by omega
    have hw := wrap_succ (i := i) (by omega)
    have hga := rowsD_get (d := a) (i := i) hlt'
    have hgb := rowsD_get (d := b) (i := i) (by omega)
    simp -implicitDefEqProofs [go_sem, h13, hh, hf.t, hf.m]
    refine iwp_drawn_of mixed [0,1,2,3,4,5,6,7,8] (by kernel_rfl) ?_
    simp -implicitDefEqProofs [go_sem, h13, hh, hf.t, hf.m, hlt', hba, hbb, hga, hgb]
    refine cK_any (fun hq => ?_) (fun hq => ?_)
    · have hab : a ≠ b := by
        rintro rfl
        have e1 : a[i]! = a[i] := getElem!_pos a i hlt'
        simp [e1] at hq
      simp -implicitDefEqProofs [go_sem]
      exact ⟨_, Sub.refl _, by simp [hab], hh⟩
    · have hab : a[i]! = b[i]! := by
        rw [getElem!_pos a i hlt']
        simpa using hq
      simp -implicitDefEqProofs [go_sem, h13, hh, hf.t, hf.m, hf, hw]
      refine hJ _ ⟨i + 1, by omega, by simp -implicitDefEqProofs [go_sem, hw], by simp -implicitDefEqProofs [go_sem, hh], fun j hj => ?_⟩ (by simp [go_sem, h13, hw]; omega)
      by_cases hji : j < i
      · exact hpre j hji
      · obtain rfl : j = i := by omega
        exact hab
  · simp -implicitDefEqProofs [go_sem, h13, hh, hf.t, hf.m]
    have hab : a = b := by
      apply Array.ext hl
      intro j h1 h2
      have := hpre j (by omega)
      rwa [getElem!_pos a j h1, getElem!_pos b j h2] at this
    exact ⟨_, Sub.refl _, by simp [hab], rfl⟩

end Go.Proofs
