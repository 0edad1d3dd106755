/- This text is a part of the proofs of the statements of this seat: the ideal states and their rules, or what one of the functions that the statements reach comes to. Conditions: none beyond those that each theorem names. -/
import Derived.Test.YtiloboepepdcgaaE1
set_option linter.unusedVariables false
set_option linter.unusedSimpArgs false


namespace Go.Proofs
open Go.Idl

def cntR (c : Cel) (h : Heap) (e : IEnd) (h' : Heap) : Prop := ∃ n : Nat, e = .ret (.int .i64 n) ∧ h' = h ∧ 1 ≤ n ∧ n ≤ c.size ∧ (n ≤ 200 → n = c.size)

theorem count_all (c : Cel) : ∀ (h : Heap), c.size < 1000000000000 → ICall Try.prog 62 [.agg c.row, .int .i64 200] h (cntR c h) := by
  induction c using Cel.induct
  rename_i c ih
  intro h hs
  have hlen := Cel.len_le c.kids
  rw [c.size_eq] at hs
  refine icall_of_iwp (fun _ => 0) Try.func62 rfl (by kernel_rfl) (Nat.le_of_ble_eq_true rfl) ?_
  rw [Try.results62]
  simp -implicitDefEqProofs [go_sem]
  refine iwp_loop (fun s => ∃ i n : Nat, i ≤ c.kids.length ∧ s.t 10 = .int .i64 i ∧ s.t 9 = .int .i64 c.kids.length ∧ s.t 5 = .int .i64 n ∧ s.t 2 = .loc 2 0 0 ∧ s.m 2 = some (0, c.row) ∧ s.t 1 = .int .i64 200 ∧ s.h = h ∧
     1 ≤ n ∧ n ≤ Cel.sizes (c.kids.take i) + 1 ∧ (n ≤ 200 → n = Cel.sizes (c.kids.take i) + 1)) (fun s => c.kids.length - tn (s.t 10)) ?_ ?_
  · refine ⟨0, 1, ?_⟩
    simp -implicitDefEqProofs [go_sem, Cel.sizes]
  · rintro s ⟨i, n, hi, h10, h9, h5, h2, hm2, h1, hh, hn1, hn2, hn3⟩
    simp -implicitDefEqProofs [go_sem, h10, h9, h5, h2, hm2, h1, hh]
    refine cK_dec (fun hlt => ?_) (fun hge => ?_)
    · simp -implicitDefEqProofs [go_sem, h10, h9, h5, h2, hm2, h1, hh]
      refine cK_dec (fun h200 => ?_) (fun h200 => ?_)
      · simp -implicitDefEqProofs [go_sem, h10, h9, h5, h2, hm2, h1, hh]
        have := Cel.sizes_le c.kids i
        exact ⟨h, Sub.refl _, n, rfl, rfl, hn1, by rw [c.size_eq]; omega, fun h => by omega⟩
      · have hg : c.kids[i]? = some c.kids[i] := List.getElem?_eq_getElem hlt
        simp -implicitDefEqProofs [go_sem, h10, h9, h5, h2, hm2, h1, hh, hlt, hg]
        have hst := Cel.sizes_take c.kids i hlt
        have hle := Cel.sizes_le c.kids (i + 1)
        refine (ih _ (List.getElem_mem hlt) h (by omega)).mono ?_
        rintro e h' ⟨m, rfl, rfl, hm1, hm2', hm3⟩
        have hw : IntKind.i64.wrap ((i : Int) + 1) = ((i + 1 : Nat) : Int) := by rw [wrap_in (by omega)]; rfl
        have hw2 : IntKind.i64.wrap ((n : Int) + (m : Int)) = ((n + m : Nat) : Int) := by rw [wrap_in (by omega)]; rfl
        simp -implicitDefEqProofs [go_sem, h10, h9, h5, h2, hm2, h1, hw, hw2]
        refine ⟨⟨i + 1, by omega, rfl, n + m, ?_⟩, by omega⟩; exact ⟨by simp, by omega, by omega, fun h => by omega⟩
    · simp -implicitDefEqProofs [go_sem, h10, h9, h5, h2, hm2, h1, hh]
      have hik : i = c.kids.length := by omega
      subst hik
      rw [List.take_length] at hn2 hn3
      exact ⟨h, Sub.refl _, n, rfl, rfl, hn1, by rw [c.size_eq]; omega, fun h => by rw [c.size_eq]; omega⟩
end Go.Proofs
