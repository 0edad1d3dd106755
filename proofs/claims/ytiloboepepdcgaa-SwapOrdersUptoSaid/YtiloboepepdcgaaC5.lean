/- This text is a part of the proofs of the statements of this seat: the ideal states and their rules, or what one of the functions that the statements reach comes to. Conditions: none beyond those that each theorem names. -/
import Derived.Test.YtiloboepepdcgaaC4
set_option linter.unusedVariables false
set_option linter.unusedSimpArgs false
set_option pp.deepTerms false
set_option pp.maxSteps 600
namespace Go.Proofs
open Go.Idl

noncomputable def Cel.beq (c d : Cel) : Bool := @decide (c = d) (Classical.propDecidable _)
theorem Cel.beq_iff {c d : Cel} : c.beq d = true ↔ c = d := by unfold Cel.beq; exact @decide_eq_true_iff _ (Classical.propDecidable _)
theorem Cel.beq_of_ne {c d : Cel} (h : c ≠ d) : c.beq d = false := by
  cases hb : c.beq d with
  | false => rfl
  | true => exact absurd (Cel.beq_iff.1 hb) h

theorem same_c (c : Cel) : ∀ (d : Cel) (h : Heap), c.size < 100000000000 → ICall Try.prog 39 [.agg c.row, .agg d.row] h (retP (.bool (c.beq d)) h) := by
  induction c using Cel.induct
  rename_i c ih
  intro d h hs
  have hlen := Cel.len_le c.kids
  rw [c.size_eq] at hs
  refine icall_of_iwp (fun _ => 0) Try.func39 rfl (by kernel_rfl) (Nat.le_of_ble_eq_true rfl) ?_
  rw [Try.results39]
  simp -implicitDefEqProofs [go_sem]
  refine cK_bne (fun h1 => ?_) (fun h1 => ?_) <;> simp -implicitDefEqProofs [go_sem]
  · exact ⟨h, Sub.refl _, by rw [Cel.beq_of_ne (fun e => h1 (by rw [e]))], rfl⟩
  refine cK_any (fun h2 => ?_) (fun h2 => ?_) <;> simp -implicitDefEqProofs [go_sem]
  · exact ⟨h, Sub.refl _, by rw [Cel.beq_of_ne (fun e => by simp [e] at h2)], rfl⟩
  refine cK_bne (fun h3 => ?_) (fun h3 => ?_) <;> simp -implicitDefEqProofs [go_sem]
  · exact ⟨h, Sub.refl _, by rw [Cel.beq_of_ne (fun e => h3 (by rw [e]))], rfl⟩
  refine cK_bne (fun h4 => ?_) (fun h4 => ?_) <;> simp -implicitDefEqProofs [go_sem]
  · exact ⟨h, Sub.refl _, by rw [Cel.beq_of_ne (fun e => h4 (by rw [e]))], rfl⟩
  have h4 : c.kids.length = d.kids.length := by omega
  refine iwp_loop (fun s => ∃ i : Nat, i ≤ c.kids.length ∧ s.t 37 = .int .i64 i ∧ s.t 36 = .int .i64 c.kids.length ∧ s.t 2 = .loc 2 0 0 ∧ s.t 3 = .loc 3 0 0 ∧ s.m 2 = some (0, c.row) ∧ s.m 3 = some (0, d.row) ∧ s.h = h ∧ c.kids.take i = d.kids.take i)
    (fun s => c.kids.length - tn (s.t 37)) ?_ ?_
  · refine ⟨0, ?_⟩
    simp -implicitDefEqProofs [go_sem]
  · rintro s ⟨i, hi, h37, h36, ht2, ht3, hm2, hm3, hh, heq⟩
    simp -implicitDefEqProofs [go_sem, h37, h36, ht2, ht3, hm2, hm3, hh]
    refine cK_dec (fun hlt => ?_) (fun hge => ?_)
    · have hg : c.kids[i]? = some c.kids[i] := List.getElem?_eq_getElem hlt
      have hlt2 : i < d.kids.length := by omega
      have hg2 : d.kids[i]? = some d.kids[i] := List.getElem?_eq_getElem hlt2
      simp -implicitDefEqProofs [go_sem, h37, h36, ht2, ht3, hm2, hm3, hh]
      refine iwp_drawn_of mixed [0, 1, 2, 3, 4, 5, 6, 7, 8, 9, 10, 11] (by kernel_rfl) ?_
      simp -implicitDefEqProofs [go_sem, h37, h36, ht2, ht3, hm2, hm3, hh, hlt, hlt2, hg, hg2]
      have hst := Cel.sizes_take c.kids i hlt
      have hle := Cel.sizes_le c.kids (i + 1)
      have hw := wrap_succ (i := i) (by omega)
      refine ⟨_, ih _ (List.getElem_mem hlt) d.kids[i] h (by omega), ?_⟩
      simp -implicitDefEqProofs [go_sem, h37, h36, ht2, ht3, hm2, hm3, hh]
      refine cK_any (fun h5 => ?_) (fun h5 => ?_) <;> simp -implicitDefEqProofs [go_sem, h37, h36, ht2, ht3, hm2, hm3, hh, hw]
      · refine ⟨h, Sub.refl _, ?_, rfl⟩
        rw [Cel.beq_of_ne]
        rintro rfl
        have : c.kids[i].beq c.kids[i] = true := Cel.beq_iff.2 rfl
        simp [this] at h5
      · refine ⟨⟨i + 1, by omega, rfl, ?_⟩, by omega⟩
        have h6 : c.kids[i] = d.kids[i] := Cel.beq_iff.1 (by simpa using h5)
        rw [List.take_add_one, List.take_add_one, hg, hg2, heq, h6]
    · simp -implicitDefEqProofs [go_sem, h37, h36, ht2, ht3, hm2, hm3, hh]
      refine ⟨h, Sub.refl _, ?_, rfl⟩
      have h6 : c = d := by
        have h7 : c.r = d.r := by simpa using h2
        have hk : c.kids = d.kids := by
          rw [List.take_of_length_le (by omega), List.take_of_length_le (by omega)] at heq; exact heq
        cases c; cases d
        simp only [Cel.kind, Cel.r, Cel.id, Cel.kids] at h1 h7 h3 hk
        rw [h1, h7, h3, hk]
      rw [Cel.beq_iff.2 h6]
end Go.Proofs
