/- This text is a part of the proofs of the statements of this seat: the ideal states and their rules, or what one of the functions that the statements reach comes to. Conditions: none beyond those that each theorem names. -/
import Derived.Test.YtiloboepepdcgaaS6
set_option linter.unusedVariables false
set_option linter.unusedSimpArgs false
set_option pp.deepTerms false
set_option pp.maxSteps 400
namespace Go.Proofs
open Go.Idl
open Go.Sort (swp ltInt order2 median medianAdjacent choosePivot Hint)

def hintN : Hint → Int
  | .unknown => 0
  | .increasing => 1
  | .decreasing => 2

set_option maxRecDepth 20000 in
set_option maxHeartbeats 8000000 in
theorem choosePivot_c (d : Array Int) (a b bk cap : Nat) (h : Heap) (hab : a < b) (hb : b ≤ d.size) (hs : d.size < 10000000000) :
    ICall Try.prog 115 [.sl 1 bk 0 d.size cap, .int .i64 a, .int .i64 b] (SH h bk cap d)
      (retP (.tup [.int .i64 (choosePivot ltInt d a b).1, .int .i64 (hintN (choosePivot ltInt d a b).2)]) (SH h bk cap d)) := by
  obtain ⟨n, hn⟩ : ∃ n, n = d.size := ⟨_, rfl⟩
  obtain ⟨l, hl⟩ : ∃ x, x = b - a := ⟨_, rfl⟩
  obtain ⟨q4, hq4⟩ : ∃ x, x = l / 4 := ⟨_, rfl⟩
  obtain ⟨i, hi⟩ : ∃ x, x = a + q4 * 1 := ⟨_, rfl⟩
  obtain ⟨j, hj⟩ : ∃ x, x = a + q4 * 2 := ⟨_, rfl⟩
  obtain ⟨k, hk⟩ : ∃ x, x = a + q4 * 3 := ⟨_, rfl⟩
  have hw1 : IntKind.i64.wrap ((b : Int) - (a : Int)) = (l : Int) := by rw [wrap_in (by omega)]; omega
  have hw2 : ((l : Int)).tdiv 4 = (q4 : Int) := by rw [Int.tdiv_eq_ediv_of_nonneg (by omega)]; omega
  have hw2' : ((l : Int)) / 4 = (q4 : Int) := by omega
  have hw3 : IntKind.i64.wrap (q4 : Int) = (q4 : Int) := wrap_in (by omega)
  have hw5 : IntKind.i64.wrap ((a : Int) + (q4 : Int)) = (i : Int) := by rw [wrap_in (by omega)]; omega
  have hw6 : IntKind.i64.wrap ((q4 : Int) * 2) = (q4 : Int) * 2 := wrap_in (by omega)
  have hw7 : IntKind.i64.wrap ((a : Int) + (q4 : Int) * 2) = (j : Int) := by rw [wrap_in (by omega)]; omega
  have hw8 : IntKind.i64.wrap ((q4 : Int) * 3) = (q4 : Int) * 3 := wrap_in (by omega)
  have hw9 : IntKind.i64.wrap ((a : Int) + (q4 : Int) * 3) = (k : Int) := by rw [wrap_in (by omega)]; omega
  refine icall_of_iwp (fun d => if d = 9 then 1 else 0) Try.func115 rfl (by kernel_rfl) (Nat.le_of_ble_eq_true rfl) ?_
  rw [Try.results115]
  simp -implicitDefEqProofs [go_sem, hw1]
  intro q hq
  have hH : ∀ x, upd (SH h bk cap d) q x bk = if bk = q then x else some (.arr 3 1 (rowsD d) cap) := fun x => by simp only [upd, SH]; split <;> simp
  have hne : bk ≠ q := by rintro rfl; rw [SH_at] at hq; cases hq
  have hbu : ∀ x, upd (SH h bk cap d) q x bk = some (.arr 3 1 (rowsD d) cap) := fun x => by rw [hH, if_neg hne]
  have hqu : ∀ x, upd (SH h bk cap d) q (some x) q = some x := fun x => by simp [upd]
  have hsub : ∀ x, Sub (SH h bk cap d) (upd (SH h bk cap d) q x) := fun x => (Sub.refl _).upd hq _
  have hsw : (IObj.cells [.int .i64 0]) = swC 0 := rfl
  simp -implicitDefEqProofs [go_sem, hw1, hw2, hw2', hw3, hw5, hw6, hw7, hw8, hw9]
  by_cases h8 : l < 8
  · have hm : choosePivot ltInt d a b = (j, if (0 : Nat) = 0 then .increasing else if (0 : Nat) = 12 then .decreasing else .unknown) := by
      rw [choosePivot]; simp only [← hl]; rw [if_neg (by omega), hj, hq4]; simp
    have e8 : ¬ ((8 : Int) ≤ (l : Int)) := by omega
    simp -implicitDefEqProofs [go_sem, e8]
    exact ⟨_, hsub _, by rw [hm]; rfl, rfl⟩
  have e8 : (8 : Int) ≤ (l : Int) := by omega
  by_cases h50 : l < 50
  · obtain ⟨r, hr⟩ : ∃ r, r = median ltInt d i j k 0 := ⟨_, rfl⟩
    have hm : choosePivot ltInt d a b = (r.1, if r.2 = 0 then .increasing else if r.2 = 12 then .decreasing else .unknown) := by
      rw [choosePivot]; simp only [← hl]; rw [if_pos (by omega), if_neg (by omega), ← hq4, ← hi, ← hj, ← hk, ← hr]
    have e50 : ¬ ((50 : Int) ≤ (l : Int)) := by omega
    simp -implicitDefEqProofs [go_sem, e8, e50]
    have mc := median_c d i j k 0 bk cap q (upd (SH h bk cap d) q (some (swC 0))) (hbu _) (hqu _) (by omega) (by omega) (by omega) (by omega)
    rw [← hr, upd_upd2] at mc
    refine ICall.mono mc ?_
    rintro e h' ⟨rfl, he⟩
    rw [he]
    simp -implicitDefEqProofs [go_sem, swC]
    refine cK_beq (fun k0 => ?_) (fun k0 => ?_)
    · simp -implicitDefEqProofs [go_sem, swC]
      exact ⟨_, hsub _, by rw [hm, if_pos (by omega)]; rfl, rfl⟩
    simp -implicitDefEqProofs [go_sem, swC]
    refine cK_beq (fun k1 => ?_) (fun k1 => ?_)
    · simp -implicitDefEqProofs [go_sem, swC]
      exact ⟨_, hsub _, by rw [hm, if_neg (by omega), if_pos (by omega)]; rfl, rfl⟩
    · simp -implicitDefEqProofs [go_sem, swC]
      exact ⟨_, hsub _, by rw [hm, if_neg (by omega), if_neg (by omega)]; rfl, rfl⟩
  · have e50 : (50 : Int) ≤ (l : Int) := by omega
    obtain ⟨ri, hri⟩ : ∃ r, r = medianAdjacent ltInt d i 0 := ⟨_, rfl⟩
    obtain ⟨rj, hrj⟩ : ∃ r, r = medianAdjacent ltInt d j ri.2 := ⟨_, rfl⟩
    obtain ⟨rk, hrk⟩ : ∃ r, r = medianAdjacent ltInt d k rj.2 := ⟨_, rfl⟩
    obtain ⟨r, hr⟩ : ∃ r, r = median ltInt d ri.1 rj.1 rk.1 rk.2 := ⟨_, rfl⟩
    have hm : choosePivot ltInt d a b = (r.1, if r.2 = 0 then .increasing else if r.2 = 12 then .decreasing else .unknown) := by
      rw [choosePivot]; simp only [← hl]; rw [if_pos (by omega), if_pos (by omega), ← hq4, ← hi, ← hj, ← hk, ← hri, ← hrj, ← hrk, ← hr]
    have b1 := median_bd d (i - 1) i (i + 1) 0 d.size (by omega) (by omega) (by omega)
    rw [← medianAdjacent, ← hri] at b1
    have b2 := median_bd d (j - 1) j (j + 1) ri.2 d.size (by omega) (by omega) (by omega)
    rw [← medianAdjacent, ← hrj] at b2
    have b3 := median_bd d (k - 1) k (k + 1) rj.2 d.size (by omega) (by omega) (by omega)
    rw [← medianAdjacent, ← hrk] at b3
    have c1 := medAdj_c d i 0 bk cap q (upd (SH h bk cap d) q (some (swC 0))) (hbu _) (hqu _) (by omega) (by omega) (by omega) hs
    rw [← hri, upd_upd2] at c1
    have c2 := medAdj_c d j ri.2 bk cap q (upd (SH h bk cap d) q (some (swC ri.2))) (hbu _) (hqu _) (by omega) (by omega) (by omega) hs
    rw [← hrj, upd_upd2] at c2
    have c3 := medAdj_c d k rj.2 bk cap q (upd (SH h bk cap d) q (some (swC rj.2))) (hbu _) (hqu _) (by omega) (by omega) (by omega) hs
    rw [← hrk, upd_upd2] at c3
    have c4 := median_c d ri.1 rj.1 rk.1 rk.2 bk cap q (upd (SH h bk cap d) q (some (swC rk.2))) (hbu _) (hqu _) b1.1 b2.1 b3.1 (by omega)
    rw [← hr, upd_upd2] at c4
    simp -implicitDefEqProofs [go_sem, e8, e50]
    refine ICall.mono c1 ?_
    rintro e h' ⟨rfl, he⟩
    rw [he]
    simp -implicitDefEqProofs [go_sem]
    refine ICall.mono c2 ?_
    rintro e h' ⟨rfl, he⟩
    rw [he]
    simp -implicitDefEqProofs [go_sem]
    refine ICall.mono c3 ?_
    rintro e h' ⟨rfl, he⟩
    rw [he]
    simp -implicitDefEqProofs [go_sem]
    refine ICall.mono c4 ?_
    rintro e h' ⟨rfl, he⟩
    rw [he]
    simp -implicitDefEqProofs [go_sem, swC]
    refine cK_beq (fun k0 => ?_) (fun k0 => ?_)
    · simp -implicitDefEqProofs [go_sem, swC]
      exact ⟨_, hsub _, by rw [hm, if_pos (by omega)]; rfl, rfl⟩
    simp -implicitDefEqProofs [go_sem, swC]
    refine cK_beq (fun k1 => ?_) (fun k1 => ?_)
    · simp -implicitDefEqProofs [go_sem, swC]
      exact ⟨_, hsub _, by rw [hm, if_neg (by omega), if_pos (by omega)]; rfl, rfl⟩
    · simp -implicitDefEqProofs [go_sem, swC]
      exact ⟨_, hsub _, by rw [hm, if_neg (by omega), if_neg (by omega)]; rfl, rfl⟩
end Go.Proofs
