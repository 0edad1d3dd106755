/- This text is a part of the proofs of the statements of this seat: the ideal states and their rules, or what one of the functions that the statements reach comes to. Conditions: none beyond those that each theorem names. -/
import Derived.Test.YtiloboepepdcgaaC21o
set_option linter.unusedVariables false
set_option linter.unusedSimpArgs false
set_option pp.deepTerms false
set_option pp.maxSteps 400
namespace Go.Proofs
open Go.Idl

theorem ints_c (a b : List Int) (h : Heap) (hs : a.length < 100000000000) : ICall Try.prog 29 [.list .plain (a.map intRow), .list .plain (b.map intRow)] h (retP (.bool (decide (a = b))) h) := by
  refine icall_of_iwp (fun _ => 0) Try.func29 rfl (by kernel_rfl) (Nat.le_of_ble_eq_true rfl) ?_
  rw [Try.results29]
  simp -implicitDefEqProofs [go_sem]
  refine cK_bne (fun h1 => ?_) (fun h1 => ?_) <;> simp -implicitDefEqProofs [go_sem]
  · exact ⟨h, Sub.refl _, by rw [decide_eq_false (fun e => by rw [e] at h1; exact h1 rfl)], rfl⟩
  refine iwp_loopF (rng [4,5] 13 25) nom (fun s => ∃ i, i ≤ a.length ∧ s.t 13 = .int .i64 i ∧ a.take i = b.take i ∧ s.h = h) (fun s => a.length - tn (s.t 13)) ?_ ?_
  · exact ⟨0, Nat.zero_le _, by simp -implicitDefEqProofs [go_sem], by simp, by simp -implicitDefEqProofs [go_sem]⟩
  rintro J s hJ hf ⟨i, hi, h13, heq, hh⟩
  simp -implicitDefEqProofs [go_sem, h13, hh, hf.t, hf.m]
  refine cK_dec (fun hlt => ?_) (fun hge => ?_)
  · have hg : a[i]? = some a[i] := List.getElem?_eq_getElem hlt
    have hlt2 : i < b.length := by omega
    have hg2 : b[i]? = some b[i] := List.getElem?_eq_getElem hlt2
    have hw := wrap_succ (i := i) (by omega)
    simp -implicitDefEqProofs [go_sem, h13, hh, hf.t, hf.m, hlt, hg]
    refine iwp_drawn_of mixed [0, 1, 2, 3, 4, 5, 6, 7, 8] (by kernel_rfl) ?_
    simp -implicitDefEqProofs [go_sem, h13, hh, hf.t, hf.m, hlt, hg, hlt2, hg2]
    refine cK_bne (fun k1 => ?_) (fun k1 => ?_) <;> simp -implicitDefEqProofs [go_sem, h13, hh, hf.t, hf.m, hf, hw]
    · exact ⟨h, Sub.refl _, by rw [decide_eq_false (fun e => by subst e; exact k1 rfl)], rfl⟩
    · refine hJ _ ⟨i + 1, by omega, by simp -implicitDefEqProofs [go_sem, hw], ?_, by simp -implicitDefEqProofs [go_sem, hh]⟩ (by simp [go_sem, h13, hw]; omega)
      rw [List.take_add_one, List.take_add_one, heq, hg, hg2, k1]
  · simp -implicitDefEqProofs [go_sem, h13, hh, hf.t, hf.m]
    rw [List.take_of_length_le (by omega), List.take_of_length_le (by omega)] at heq
    exact ⟨h, Sub.refl _, by rw [decide_eq_true heq], rfl⟩

def awl (i : Nat) : Cel := .mk 1 ⟨2 * (i : Int), 0, 1, 1⟩ ((i : Int) + 1) []
def awc : Cel := .mk 2 ⟨0, 0, 5, 1⟩ 0 [awl 0, awl 1, awl 2]
theorem awl_row (i : Nat) : (awl i).row = [.int .u8 1, .int .i64 (2 * (i : Int)), .int .i64 0, .int .i64 1, .int .i64 1, .int .i64 ((i : Int) + 1), .list .plain []] := by rw [Cel.row_eq]; rfl
theorem awc_tiles : awc.tiles = true := by decide +kernel
theorem awc_ids : (awc.nm (rot awc.ids 1)).ids = [3, 1, 2] := by decide +kernel

set_option maxRecDepth 20000 in
set_option maxHeartbeats 4000000 in
theorem awake_c (h : Heap) : ICall Try.prog 36 [] h (retP (.bool true) h) := by
  refine icall_of_iwp (fun _ => 0) Try.func36 rfl (by kernel_rfl) (Nat.le_of_ble_eq_true rfl) ?_
  rw [Try.results36]
  simp -implicitDefEqProofs [go_sem]
  refine iwp_loopF (rng [1,2] 6 18) nom (fun s => ∃ i : Nat, i ≤ 3 ∧ s.t 2 = .int .i64 i ∧ Own [18] s.x 72 (s.t 1) ((List.range i).map fun j => (awl j).row) ∧ s.h = h) (fun s => 3 - tn (s.t 2)) ?_ ?_
  · exact ⟨0, Nat.zero_le _, by simp -implicitDefEqProofs [go_sem], by simp -implicitDefEqProofs [go_sem, Own.tight], by simp -implicitDefEqProofs [go_sem]⟩
  rintro J s hJ hf ⟨i, hi, h2, ho, hh⟩
  obtain ⟨tk, h1⟩ := ho.list
  simp -implicitDefEqProofs [go_sem, h2, h1, hh, hf.t, hf.m]
  refine cK_dec (fun hlt => ?_) (fun hge => ?_)
  · have hw := wrap_succ (i := i) (by omega)
    have hw1 : IntKind.i64.wrap ((i : Int) + 1) = (i : Int) + 1 := wrap_in (by omega)
    have hw2 : IntKind.i64.wrap (2 * (i : Int)) = 2 * (i : Int) := wrap_in (by omega)
    simp -implicitDefEqProofs [go_sem, h2, h1, hh, hf.t, hf.m, hw1, hw2]
    rw [← awl_row]
    refine aK_own (z := 7) (S := [18]) (rows := (List.range i).map fun j => (awl j).row) (by simpa -implicitDefEqProofs [go_sem, h1] using ho) (by simp) elT_70 elZ_72 (by simp [roomy, byT_72]; omega) (by simp [uni, Cel.row_len]) (by simp [uni, Cel.row_len]) ?_
    intro r' x' ho' _
    simp -implicitDefEqProofs [go_sem, h2, h1, hh, hf.t, hf.m, hf, hw1]
    exact hJ _ ⟨i + 1, by omega, by simp -implicitDefEqProofs [go_sem, hw], by rw [List.range_succ, List.map_append]; exact ho', by simp -implicitDefEqProofs [go_sem, hh]⟩ (by simp [go_sem, h2, hw]; omega)
  · obtain rfl : i = 3 := by omega
    have hrow : [IV.int .u8 2, .int .i64 0, .int .i64 0, .int .i64 5, .int .i64 1, .int .i64 0, .list .plain [(awl 0).row, (awl 1).row, (awl 2).row]] = awc.row := by rw [Cel.row_eq]; rfl
    simp -implicitDefEqProofs [go_sem, h2, h1, hh, hf.t, hf.m]
    rw [hrow]
    refine (round_c awc 1 h (by decide +kernel)).mono ?_
    rintro e h' ⟨rfl, he⟩
    rw [he, if_pos awc_tiles, vecR, if_pos rfl]
    simp -implicitDefEqProofs [go_sem, h2, h1, hh, hf.t, hf.m]
    refine (ids_c (awc.nm (rot awc.ids 1)) h (by rw [Cel.nm_size]; decide +kernel)).mono ?_
    rintro e h' ⟨rfl, he⟩
    rw [he, awc_ids]
    simp -implicitDefEqProofs [go_sem, h2, h1, hh, hf.t, hf.m]
    refine (ints_c [3, 1, 2] [3, 1, 2] h (by simp)).mono ?_
    rintro e h' ⟨rfl, he⟩
    rw [he]
    simp -implicitDefEqProofs [go_sem, h2, h1, hh, hf.t, hf.m]
    exact ⟨h, Sub.refl _, rfl, rfl⟩

theorem beq_self (c : Cel) : c.beq c = true := Cel.beq_iff.2 rfl

end Go.Proofs
