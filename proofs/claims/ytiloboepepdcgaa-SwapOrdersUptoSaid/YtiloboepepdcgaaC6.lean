/- This text is a part of the proofs of the statements of this seat: the ideal states and their rules, or what one of the functions that the statements reach comes to. Conditions: none beyond those that each theorem names. -/
import Derived.Test.YtiloboepepdcgaaC5
set_option linter.unusedVariables false
set_option linter.unusedSimpArgs false
set_option pp.deepTerms false
set_option pp.maxSteps 600
namespace Go.Proofs
open Go.Idl

/-- the kids' sizes, along the cell's axis -/
def Cel.sz (c : Cel) (d : Cel) : Int := if c.kind = 2 then d.r.w else d.r.h
def Cel.szs (c : Cel) : List Int := c.kids.map c.sz

theorem sizes_c (c : Cel) (h : Heap) (hs : c.kids.length < 100000000000) : ICall Try.prog 133 [.agg c.row] h (retP (.list .plain (c.szs.map intRow)) h) := by
  refine icall_of_iwp (fun _ => 0) Try.func133 rfl (by kernel_rfl) (Nat.le_of_ble_eq_true rfl) ?_
  rw [Try.results133]
  simp -implicitDefEqProofs [go_sem]
  refine iwp_loop (fun s => ∃ i v, i ≤ c.kids.length ∧ s.t 9 = .int .i64 i ∧ s.t 8 = .int .i64 c.kids.length ∧ s.t 1 = .loc 1 0 0 ∧ s.m 1 = some (0, c.row) ∧ s.t 3 = v ∧ Own [24, 34] s.x 3 v ((c.szs.map intRow).take i) ∧ s.h = h)
     (fun s => c.kids.length - tn (s.t 9)) ?_ ?_
  · refine ⟨0, .list .tight [], ?_⟩
    simp -implicitDefEqProofs [go_sem, Own.tight]
  · rintro s ⟨i, v, hi, h9, h8, h1, hm1, h3, ho, hh⟩
    simp -implicitDefEqProofs [go_sem, h9, h8, h1, hm1, h3, hh]
    refine cK_dec (fun hlt => ?_) (fun hge => ?_)
    · have hg : c.kids[i]? = some c.kids[i] := List.getElem?_eq_getElem hlt
      have hw := wrap_succ (i := i) (by omega)
      have e1 : (c.szs.map intRow).take (i + 1) = (c.szs.map intRow).take i ++ [[.int .i64 (c.sz c.kids[i])]] := by
        rw [List.take_add_one]; simp [Cel.szs, hg, intRow]
      simp -implicitDefEqProofs [go_sem, h9, h8, h1, hm1, h3, hh]
      refine cK_beq (fun hk => ?_) (fun hk => ?_)
      · simp -implicitDefEqProofs [go_sem, h9, h8, h1, hm1, h3, hh, hlt, hg]
        refine aK_own (z := 1) (S := [24, 34]) ho (by simp) elT_45 elZ_3 (by simp [roomy, byT_3]; omega) (uni_take (ints_uni _) i) (by simp [uni]) ?_
        intro r' x' ho' _
        simp -implicitDefEqProofs [go_sem, h9, h8, h1, hm1, h3, hh, hw]
        refine ⟨⟨i + 1, by omega, rfl, ?_⟩, by omega⟩
        rw [e1, Cel.sz, if_pos hk]; exact ho'
      · simp -implicitDefEqProofs [go_sem, h9, h8, h1, hm1, h3, hh, hlt, hg]
        refine aK_own (z := 1) (S := [24, 34]) ho (by simp) elT_45 elZ_3 (by simp [roomy, byT_3]; omega) (uni_take (ints_uni _) i) (by simp [uni]) ?_
        intro r' x' ho' _
        simp -implicitDefEqProofs [go_sem, h9, h8, h1, hm1, h3, hh, hw]
        refine ⟨⟨i + 1, by omega, rfl, ?_⟩, by omega⟩
        rw [e1, Cel.sz, if_neg hk]; exact ho'
    · simp -implicitDefEqProofs [go_sem, h9, h8, h1, hm1, h3, hh, ho.strip]
      rw [List.take_of_length_le (by simp [Cel.szs]; omega)]
      exact ⟨h, Sub.refl _, rfl, rfl⟩
end Go.Proofs
