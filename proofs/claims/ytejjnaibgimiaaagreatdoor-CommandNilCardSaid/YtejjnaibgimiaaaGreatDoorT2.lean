/- This text is a part of the proofs of the statements of this seat: the ideal states and their rules, or what one of the functions that the statements reach comes to. Conditions: none beyond those that each theorem names. -/
import Derived.Test.YtejjnaibgimiaaaGreatDoorT1
import Derived.Test.YtejjnaibgimiaaaGreatDoorF15
import Derived.Test.YtejjnaibgimiaaaGreatDoorT0
import Derived.Test.YtejjnaibgimiaaaGreatDoorRows
import Derived.ProofKit
import Derived.OpenShut
import Derived.JoinedCond
import Derived.JoinedOf
import Derived.Handed
import Derived.Carry
set_option linter.unusedVariables false
set_option linter.unusedSimpArgs false
set_option pp.deepTerms false
set_option pp.maxSteps 400
namespace Go.Proofs
open Go.Idl
open Go.Sort (swp ltInt order2 median medianAdjacent choosePivot Hint)

def hintN : Hint → Int
  | .unknown => 0
  | .increasing => 1
  | .decreasing => 2

set_option maxRecDepth 20000 in
set_option maxHeartbeats 8000000 in
theorem choosePivot_c (d : Array Int) (a b bk cap : Nat) (h : Heap) (hab : a < b) (hb : b ≤ d.size) (hs : d.size < 10000000000) :
    ICall Tryz.prog 142 [.sl 1 bk 0 d.size cap, .int .i64 a, .int .i64 b] (SH h bk cap d)
      (retP (.tup [.int .i64 (choosePivot ltInt d a b).1, .int .i64 (hintN (choosePivot ltInt d a b).2)]) (SH h bk cap d)) := by
  obtain ⟨n, hn⟩ : ∃ n, n = d.size := ⟨_, rfl⟩
  obtain ⟨l, hl⟩ : ∃ x, x = b - a := ⟨_, rfl⟩
  obtain ⟨q4, hq4⟩ : ∃ x, x = l / 4 := ⟨_, rfl⟩
  obtain ⟨i, hi⟩ : ∃ x, x = a + q4 * 1 := ⟨_, rfl⟩
  obtain ⟨j, hj⟩ : ∃ x, x = a + q4 * 2 := ⟨_, rfl⟩
  obtain ⟨k, hk⟩ : ∃ x, x = a + q4 * 3 := ⟨_, rfl⟩
  have hw1 : IntKind.i64.wrap ((b : Int) - (a : Int)) = (l : Int) := by rw [wrap_in (by omega)]; omega
  have hw2 : ((l : Int)).tdiv 4 = (q4 : Int) := by rw [Int.tdiv_eq_ediv_of_nonneg (by omega)]; omega
  have hw2' : ((l : Int)) / 4 = (q4 : Int) := by omega
  have hw3 : IntKind.i64.wrap (q4 : Int) = (q4 : Int) := wrap_in (by omega)
  have hw5 : IntKind.i64.wrap ((a : Int) + (q4 : Int)) = (i : Int) := by rw [wrap_in (by omega)]; omega
  have hw6 : IntKind.i64.wrap ((q4 : Int) * 2) = (q4 : Int) * 2 := wrap_in (by omega)
  have hw7 : IntKind.i64.wrap ((a : Int) + (q4 : Int) * 2) = (j : Int) := by rw [wrap_in (by omega)]; omega
  have hw8 : IntKind.i64.wrap ((q4 : Int) * 3) = (q4 : Int) * 3 := wrap_in (by omega)
  have hw9 : IntKind.i64.wrap ((a : Int) + (q4 : Int) * 3) = (k : Int) := by rw [wrap_in (by omega)]; omega
  refine icall_of_iwp (fun d => if d = 9 then 1 else 0) Tryz.func142 rfl (by kernel_rfl) (Nat.le_of_ble_eq_true rfl) ?_
  rw [Tryz.results142]
  simp -implicitDefEqProofs [go_sem, hw1]
  intro q hq
  have hH : ∀ x, upd (SH h bk cap d) q x bk = if bk = q then x else some (.arr 3 1 (rowsD d) cap) := fun x => by simp only [upd, SH]; split <;> simp
  have hne : bk ≠ q := by rintro rfl; rw [SH_at] at hq; cases hq
  have hbu : ∀ x, upd (SH h bk cap d) q x bk = some (.arr 3 1 (rowsD d) cap) := fun x => by rw [hH, if_neg hne]
  have hqu : ∀ x, upd (SH h bk cap d) q (some x) q = some x := fun x => by simp [upd]
  have hsub : ∀ x, Sub (SH h bk cap d) (upd (SH h bk cap d) q x) := fun x => (Sub.refl _).upd hq _
  have hsw : (IObj.cells [.int .i64 0]) = swC 0 := rfl
  simp -implicitDefEqProofs [go_sem, hw1, hw2, hw2', hw3, hw5, hw6, hw7, hw8, hw9]
  by_cases h8 : l < 8
  · have hm : choosePivot ltInt d a b = (j, if (0 : Nat) = 0 then .increasing else if (0 : Nat) = 12 then .decreasing else .unknown) := by
      rw [choosePivot]; simp only [← hl]; rw [if_neg (by omega), hj, hq4]; simp
    have e8 : ¬ ((8 : Int) ≤ (l : Int)) := by omega
    simp -implicitDefEqProofs [go_sem, e8]
    exact ⟨_, hsub _, by rw [hm]; rfl, rfl⟩
  have e8 : (8 : Int) ≤ (l : Int) := by omega
  by_cases h50 : l < 50
  · obtain ⟨r, hr⟩ : ∃ r, r = median ltInt d i j k 0 := ⟨_, rfl⟩
    have hm : choosePivot ltInt d a b = (r.1, if r.2 = 0 then .increasing else if r.2 = 12 then .decreasing else .unknown) := by
      rw [choosePivot]; simp only [← hl]; rw [if_pos (by omega), if_neg (by omega), ← hq4, ← hi, ← hj, ← hk, ← hr]
    have e50 : ¬ ((50 : Int) ≤ (l : Int)) := by omega
    simp -implicitDefEqProofs [go_sem, e8, e50]
    have mc := median_c d i j k 0 bk cap q (upd (SH h bk cap d) q (some (swC 0))) (hbu _) (hqu _) (by omega) (by omega) (by omega) (by omega)
    rw [← hr, upd_upd2] at mc
    refine ICall.mono mc ?_
    rintro e h' ⟨rfl, he⟩
    rw [he]
    simp -implicitDefEqProofs [go_sem, swC]
    refine cK_beq (fun k0 => ?_) (fun k0 => ?_)
    · simp -implicitDefEqProofs [go_sem, swC]
      exact ⟨_, hsub _, by rw [hm, if_pos (by omega)]; rfl, rfl⟩
    simp -implicitDefEqProofs [go_sem, swC]
    refine cK_beq (fun k1 => ?_) (fun k1 => ?_)
    · simp -implicitDefEqProofs [go_sem, swC]
      exact ⟨_, hsub _, by rw [hm, if_neg (by omega), if_pos (by omega)]; rfl, rfl⟩
    · simp -implicitDefEqProofs [go_sem, swC]
      exact ⟨_, hsub _, by rw [hm, if_neg (by omega), if_neg (by omega)]; rfl, rfl⟩
  · have e50 : (50 : Int) ≤ (l : Int) := by omega
    obtain ⟨ri, hri⟩ : ∃ r, r = medianAdjacent ltInt d i 0 := ⟨_, rfl⟩
    obtain ⟨rj, hrj⟩ : ∃ r, r = medianAdjacent ltInt d j ri.2 := ⟨_, rfl⟩
    obtain ⟨rk, hrk⟩ : ∃ r, r = medianAdjacent ltInt d k rj.2 := ⟨_, rfl⟩
    obtain ⟨r, hr⟩ : ∃ r, r = median ltInt d ri.1 rj.1 rk.1 rk.2 := ⟨_, rfl⟩
    have hm : choosePivot ltInt d a b = (r.1, if r.2 = 0 then .increasing else if r.2 = 12 then .decreasing else .unknown) := by
      rw [choosePivot]; simp only [← hl]; rw [if_pos (by omega), if_pos (by omega), ← hq4, ← hi, ← hj, ← hk, ← hri, ← hrj, ← hrk, ← hr]
    have b1 := median_bd d (i - 1) i (i + 1) 0 d.size (by omega) (by omega) (by omega)
    rw [← medianAdjacent, ← hri] at b1
    have b2 := median_bd d (j - 1) j (j + 1) ri.2 d.size (by omega) (by omega) (by omega)
    rw [← medianAdjacent, ← hrj] at b2
    have b3 := median_bd d (k - 1) k (k + 1) rj.2 d.size (by omega) (by omega) (by omega)
    rw [← medianAdjacent, ← hrk] at b3
    have c1 := medAdj_c d i 0 bk cap q (upd (SH h bk cap d) q (some (swC 0))) (hbu _) (hqu _) (by omega) (by omega) (by omega) hs
    rw [← hri, upd_upd2] at c1
    have c2 := medAdj_c d j ri.2 bk cap q (upd (SH h bk cap d) q (some (swC ri.2))) (hbu _) (hqu _) (by omega) (by omega) (by omega) hs
    rw [← hrj, upd_upd2] at c2
    have c3 := medAdj_c d k rj.2 bk cap q (upd (SH h bk cap d) q (some (swC rj.2))) (hbu _) (hqu _) (by omega) (by omega) (by omega) hs
    rw [← hrk, upd_upd2] at c3
    have c4 := median_c d ri.1 rj.1 rk.1 rk.2 bk cap q (upd (SH h bk cap d) q (some (swC rk.2))) (hbu _) (hqu _) b1.1 b2.1 b3.1 (by omega)
    rw [← hr, upd_upd2] at c4
    simp -implicitDefEqProofs [go_sem, e8, e50]
    refine ICall.mono c1 ?_
    rintro e h' ⟨rfl, he⟩
    rw [he]
    simp -implicitDefEqProofs [go_sem]
    refine ICall.mono c2 ?_
    rintro e h' ⟨rfl, he⟩
    rw [he]
    simp -implicitDefEqProofs [go_sem]
    refine ICall.mono c3 ?_
    rintro e h' ⟨rfl, he⟩
    rw [he]
    simp -implicitDefEqProofs [go_sem]
    refine ICall.mono c4 ?_
    rintro e h' ⟨rfl, he⟩
    rw [he]
    simp -implicitDefEqProofs [go_sem, swC]
    refine cK_beq (fun k0 => ?_) (fun k0 => ?_)
    · simp -implicitDefEqProofs [go_sem, swC]
      exact ⟨_, hsub _, by rw [hm, if_pos (by omega)]; rfl, rfl⟩
    simp -implicitDefEqProofs [go_sem, swC]
    refine cK_beq (fun k1 => ?_) (fun k1 => ?_)
    · simp -implicitDefEqProofs [go_sem, swC]
      exact ⟨_, hsub _, by rw [hm, if_neg (by omega), if_pos (by omega)]; rfl, rfl⟩
    · simp -implicitDefEqProofs [go_sem, swC]
      exact ⟨_, hsub _, by rw [hm, if_neg (by omega), if_neg (by omega)]; rfl, rfl⟩
end Go.Proofs

set_option linter.unusedVariables false
set_option linter.unusedSimpArgs false
set_option pp.deepTerms false
set_option pp.maxSteps 400
namespace Go.Proofs
open Go.Idl
open Go.Sort (swp ltInt PermIn)

theorem len_c (x : Nat) (h : Heap) (hx : x < 1099511627776) : ICall Tryz.prog 81 [.int .u64 x] h (lenR x h) := by
  refine icall_of_iwp (fun _ => 0) Tryz.func81 rfl (by kernel_rfl) (Nat.le_of_ble_eq_true rfl) ?_
  rw [Tryz.results81]
  simp -implicitDefEqProofs [go_sem]
  refine (len64_c x h hx).mono ?_
  rintro e h' ⟨L, ⟨rfl, he⟩, h1, h2, h3⟩
  rw [he]
  simp -implicitDefEqProofs [go_sem]
  exact ⟨h, Sub.refl _, L, ⟨rfl, rfl⟩, h1, h2, h3⟩

def powR (x : Nat) (h : Heap) (e : IEnd) (h' : Heap) : Prop := ∃ M : Nat, retP (.int .u64 M) h e h' ∧ x < M ∧ M ≤ 2 * x
theorem pow_c (x : Nat) (h : Heap) (hx0 : 0 < x) (hx : x < 1099511627776) : ICall Tryz.prog 207 [.int .i64 x] h (powR x h) := by
  refine icall_of_iwp (fun _ => 0) Tryz.func207 rfl (by kernel_rfl) (Nat.le_of_ble_eq_true rfl) ?_
  rw [Tryz.results207]
  have hw : IntKind.u64.wrap (x : Int) = (x : Int) := Go.IntWalk.u64_in _ (by omega)
  simp -implicitDefEqProofs [go_sem, hw]
  refine (len_c x h hx).mono ?_
  rintro e h' ⟨L, ⟨rfl, he⟩, h1, h2, h3⟩
  rw [he]
  have h2' := h2 hx0
  have hn : ¬ ((L : Int) < 0) := by omega
  have e2 : (2 : Int) ^ L = ((2 ^ L : Nat) : Int) := by simp
  have hw2 : IntKind.u64.wrap (2 ^ L) = ((2 ^ L : Nat) : Int) := by rw [e2]; exact Go.IntWalk.u64_in _ (by omega)
  simp -implicitDefEqProofs [go_sem, hn]
  rw [Nat.min_eq_left h3, hw2]
  exact ⟨h, Sub.refl _, 2 ^ L, ⟨rfl, rfl⟩, h1, h2'⟩

def nxtR (q : Nat) (h : Heap) (e : IEnd) (h' : Heap) : Prop := ∃ r : Int, e = .ret (.int .u64 r) ∧ h' = upd h q (some (.cells [.int .u64 r]))
theorem next_c (r : Int) (q : Nat) (h : Heap) (hq : h q = some (.cells [.int .u64 r])) : ICall Tryz.prog 208 [.ptr q 0] h (nxtR q h) := by
  refine icall_of_iwp (fun _ => 0) Tryz.func208 rfl (by kernel_rfl) (Nat.le_of_ble_eq_true rfl) ?_
  rw [Tryz.results208]
  simp -implicitDefEqProofs [go_sem]
  refine iwp_drawn_of mixed [0,1,2,3,4,5,6,7,8,9] (by kernel_rfl) ?_
  simp -implicitDefEqProofs [go_sem, hq]
  refine iwp_drawn_of mixed [0,1,2,3,4,5,6,7,8,9] (by kernel_rfl) ?_
  simp -implicitDefEqProofs [go_sem, hq]
  refine iwp_drawn_of mixed [0,1,2,3,4,5,6,7,8,9] (by kernel_rfl) ?_
  simp -implicitDefEqProofs [go_sem, hq]
  exact ⟨_, Sub.refl _, _, rfl, by rw [upd_upd2, upd_upd2]⟩

/-- what the bits of a number may be at most -/
theorem and_le (r : Int) (M : Nat) (hM : M < 18446744073709551616) : ∃ o : Nat, IntKind.u64.wrap ((BitVec.ofInt 64 r &&& BitVec.ofInt 64 (M : Int)).toNat : Nat) = (o : Int) ∧ o ≤ M := by
  refine ⟨(BitVec.ofInt 64 r &&& BitVec.ofInt 64 (M : Int)).toNat, ?_, ?_⟩
  · exact Go.IntWalk.u64_in _ ⟨by omega, by have := (BitVec.ofInt 64 r &&& BitVec.ofInt 64 (M : Int)).isLt; omega⟩
  · rw [BitVec.toNat_and]
    refine Nat.le_trans Nat.and_le_right ?_
    rw [BitVec.ofInt_natCast, BitVec.toNat_ofNat]
    exact Nat.mod_le _ _
end Go.Proofs

set_option linter.unusedVariables false
set_option linter.unusedSimpArgs false
set_option pp.deepTerms false
set_option pp.maxSteps 400
namespace Go.Proofs
open Go.Idl
open Go.Sort (swp ltInt PermIn)

def brkR (d : Array Int) (a b bk cap : Nat) (h : Heap) (e : IEnd) (h' : Heap) : Prop := ∃ d' : Array Int, PermIn a b d d' ∧ retP (.tup []) (SH h bk cap d') e h'

set_option maxRecDepth 20000 in
set_option maxHeartbeats 8000000 in
theorem breakPatterns_c (d : Array Int) (a b bk cap : Nat) (h : Heap) (hab : a < b) (hb : b ≤ d.size) (hs : d.size < 10000000000) :
    ICall Tryz.prog 141 [.sl 1 bk 0 d.size cap, .int .i64 a, .int .i64 b] (SH h bk cap d) (brkR d a b bk cap h) := by
  obtain ⟨n, hn⟩ : ∃ n, n = d.size := ⟨_, rfl⟩
  obtain ⟨l, hl⟩ : ∃ x, x = b - a := ⟨_, rfl⟩
  obtain ⟨q4, hq4⟩ : ∃ x, x = l / 4 := ⟨_, rfl⟩
  have hw1 : IntKind.i64.wrap ((b : Int) - (a : Int)) = (l : Int) := by rw [wrap_in (by omega)]; omega
  refine icall_of_iwp (fun d => if d = 7 then 1 else 0) Tryz.func141 rfl (by kernel_rfl) (Nat.le_of_ble_eq_true rfl) ?_
  rw [Tryz.results141]
  simp -implicitDefEqProofs [go_sem, hw1]
  refine cK_dec (fun h8 => ?_) (fun h8 => ?_)
  · obtain ⟨lo, hlo⟩ : ∃ x, x = a + q4 * 2 - 1 := ⟨_, rfl⟩
    obtain ⟨hi, hhi⟩ : ∃ x, x = a + q4 * 2 + 1 := ⟨_, rfl⟩
    have hw2 : ((l : Int)).tdiv 4 = (q4 : Int) := by rw [Int.tdiv_eq_ediv_of_nonneg (by omega)]; omega
    have hw2' : ((l : Int)) / 4 = (q4 : Int) := by omega
    have hw3 : IntKind.i64.wrap (q4 : Int) = (q4 : Int) := wrap_in (by omega)
    have hw6 : IntKind.i64.wrap ((q4 : Int) * 2) = (q4 : Int) * 2 := wrap_in (by omega)
    have hw7 : IntKind.i64.wrap ((a : Int) + (q4 : Int) * 2) = (a : Int) + (q4 : Int) * 2 := wrap_in (by omega)
    have hw8 : IntKind.i64.wrap ((a : Int) + (q4 : Int) * 2 - 1) = (lo : Int) := by rw [wrap_in (by omega)]; omega
    have hw9 : IntKind.i64.wrap ((a : Int) + (q4 : Int) * 2 + 1) = (hi : Int) := by rw [wrap_in (by omega)]; omega
    have hwu : IntKind.u64.wrap (l : Int) = (l : Int) := Go.IntWalk.u64_in _ (by omega)
    simp -implicitDefEqProofs [go_sem, hwu]
    intro q hq
    have hne : bk ≠ q := by rintro rfl; rw [SH_at] at hq; cases hq
    refine (pow_c l _ (by omega) (by omega)).mono ?_
    rintro e h' ⟨M, ⟨rfl, he⟩, hM1, hM2⟩
    rw [he]
    simp -implicitDefEqProofs [go_sem, hw2, hw2', hw3, hw6, hw7, hw8]
    refine iwp_loopF (rng [9,10] 26 65) nom (fun s => ∃ (idx : Nat) (d1 : Array Int) (r : Int), lo ≤ idx ∧ idx ≤ hi + 1 ∧ PermIn a b d d1 ∧ s.t 9 = .int .i64 idx ∧ s.h = upd (SH h bk cap d1) q (some (.cells [.int .u64 r]))) (fun s => hi + 1 - tn (s.t 9)) ?_ ?_
    · exact ⟨lo, d, (l : Int), by omega, by omega, Go.Sort.permIn_refl d a b, by simp -implicitDefEqProofs [go_sem, hw8], by simp -implicitDefEqProofs [go_sem]; first | rfl | exact upd_upd2 _ _ _ _⟩
    rintro J s1 hJ hf1 ⟨idx, d1, r, hi1, hi2, hP, h9, hh⟩
    have hd1 : d1.size = n := by rw [hP.1, hn]
    simp -implicitDefEqProofs [go_sem, h9, hh, hf1.t, hf1.m, hw2, hw2', hw3, hw6, hw7, hw9]
    refine cK_dec (fun hle => ?_) (fun hle => ?_)
    · simp -implicitDefEqProofs [go_sem, h9, hh, hf1.t, hf1.m]
      refine (next_c r q _ (by simp [upd])).mono ?_
      rintro e h' ⟨r', rfl, he⟩
      rw [upd_upd2] at he
      rw [he]
      obtain ⟨m1, hm1⟩ : ∃ x, x = M - 1 := ⟨_, rfl⟩
      have hwm : IntKind.u64.wrap ((M : Int) - 1) = (m1 : Int) := by rw [show (M : Int) - 1 = ((m1 : Nat) : Int) by omega]; exact Go.IntWalk.u64_in _ (by omega)
      obtain ⟨o, ho, hole⟩ := and_le r' m1 (by omega)
      rw [BitVec.ofInt_natCast] at ho
      have hwo : IntKind.i64.wrap (o : Int) = (o : Int) := wrap_in (by omega)
      obtain ⟨o2, ho2⟩ : ∃ x, x = if l ≤ o then o - l else o := ⟨_, rfl⟩
      have ho2b : o2 < l := by rw [ho2]; split <;> omega
      have hw := wrap_succ (i := idx) (by omega)
      simp -implicitDefEqProofs [go_sem, h9, hh, hf1.t, hf1.m, hwm, ho, hwo]
      erw [ho]
      rw [hwo]
      refine ifE (rng [10] 44 47) nom (fun s => s.t 10 = .int .i64 o2 ∧ s.h = upd (SH h bk cap d1) q (some (.cells [.int .u64 r']))) ?_ ?_
      · intro Q3 hE3
        refine cK_dec (fun hc2 => ?_) (fun hc2 => ?_)
        · have e : o2 = o - l := by rw [ho2, if_pos (by omega)]
          have hwol : IntKind.i64.wrap ((o : Int) - (l : Int)) = (o2 : Int) := by rw [wrap_in (by omega)]; omega
          simp -implicitDefEqProofs [go_sem, h9, hh, hf1.t, hf1.m, hwol]
          exact hE3 _ (by simp -implicitDefEqProofs [go_sem]) ⟨by simp -implicitDefEqProofs [go_sem, hwol], by simp -implicitDefEqProofs [go_sem]⟩
        · have e : o2 = o := by rw [ho2, if_neg (by omega)]
          simp -implicitDefEqProofs [go_sem]
          exact hE3 _ (by simp -implicitDefEqProofs [go_sem]) ⟨by simp -implicitDefEqProofs [go_sem, e], by simp -implicitDefEqProofs [go_sem]⟩
      rintro s2 hf2 ⟨h10, hh2⟩
      have hfa := Fr.trans2 hf1 hf2 (by simp -implicitDefEqProofs [go_sem]) (rng_sub (by decide)) nom_sub
      obtain ⟨ao, hao⟩ : ∃ x, x = a + o2 := ⟨_, rfl⟩
      have hwao : IntKind.i64.wrap ((a : Int) + (o2 : Int)) = (ao : Int) := by rw [wrap_in (by omega)]; omega
      have hgi := rowsD_get (d := d1) (i := idx) (by omega)
      have hli : idx < d.size := by omega
      have hga := rowsD_get (d := d1) (i := ao) (by omega)
      have hla : ao < d.size := by omega
      obtain ⟨r3, hr3⟩ := rowsD_get2 (d := d1) (i := idx) (j := ao) (by omega) d1[ao]!
      have h92 : s2.t 9 = .int .i64 idx := by rw [hf2.t 9 rfl]; simp -implicitDefEqProofs [go_sem, h9]
      simp -implicitDefEqProofs [go_sem, h92, h10, hh2, hf2.t, hf2.m, hf1.t, hf1.m]
      refine iwp_drawn_of mixed [0,1,2,3,4,5,6,7,8,9,10,11,12,13,14,15,16,17,18,19] (by kernel_rfl) ?_
      simp -implicitDefEqProofs [go_sem, h92, h10, hh2, hf2.t, hf2.m, hf1.t, hf1.m, hwao, hgi, hli, hga, hla, hr3, SH_at, hne, hw, hfa]
      refine hJ _ ⟨idx + 1, swp d1 idx ao, r', by omega, by omega, ?_, by simp -implicitDefEqProofs [go_sem, hw], ?_⟩ (by simp [go_sem, h9, hw]; omega)
      · exact Go.Sort.permIn_trans _ _ _ _ _ hP (Go.Sort.swp_permIn _ _ _ _ _ (by omega) (by omega) (by omega) (by omega) (by omega))
      · simp -implicitDefEqProofs [go_sem, hh2]
        rw [rowsD_swp]
        funext j
        simp only [SH, upd]
        by_cases e1 : j = bk
        · subst e1; simp [hne]
        · simp [e1]
    · simp -implicitDefEqProofs [go_sem, h9, hh, hf1.t, hf1.m]
      refine ⟨SH h bk cap d1, ?_, d1, hP, rfl, rfl⟩
      intro j o hj
      have : j ≠ q := by
        rintro rfl
        have e2 := SH_at h bk cap d
        simp only [SH, upd] at hj hq
        rw [if_neg (fun e => hne e.symm)] at hj hq
        rw [hq] at hj; cases hj
      simp [upd, this, hj]
  · simp -implicitDefEqProofs [go_sem]
    exact ⟨_, Sub.refl _, d, Go.Sort.permIn_refl d a b, rfl, rfl⟩
end Go.Proofs

set_option linter.unusedVariables false
set_option linter.unusedSimpArgs false
set_option pp.deepTerms false
set_option pp.maxSteps 400
namespace Go.Proofs
open Go.Idl
open Go.Sort (swp ltInt PermIn SortedIn insertionSort heapSort partition partitionEqual partialInsertionSort choosePivot reverseRange)

def pdqR (d : Array Int) (a b bk cap : Nat) (h : Heap) (e : IEnd) (h' : Heap) : Prop := ∃ d' : Array Int, PermIn a b d d' ∧ SortedIn ltInt a b d' ∧ retP (.tup []) (SH h bk cap d') e h'
/-- what is left to be sorted, when the rest stands -/
structure Left (a b : Nat) (d : Array Int) (a1 b1 : Nat) (d1 : Array Int) : Prop where
  la : a ≤ a1
  lb : b1 ≤ b
  ab : a1 ≤ b1
  sz : d1.size = d.size
  bl : Go.Sort.Below ltInt a1 b1 d1
  go : ∀ d', PermIn a1 b1 d1 d' → SortedIn ltInt a1 b1 d' → PermIn a b d d' ∧ SortedIn ltInt a b d'
theorem Left.perm {a b : Nat} {d : Array Int} {a1 b1 : Nat} {d1 d2 : Array Int} (h : Left a b d a1 b1 d1) (hb : b ≤ d.size) (hp : PermIn a1 b1 d1 d2) : Left a b d a1 b1 d2 :=
  ⟨h.la, h.lb, h.ab, by rw [hp.1, h.sz], Go.Sort.Below.perm h.bl (by rw [h.sz]; have := h.lb; omega) hp, fun d' h1 h2 => h.go d' (Go.Sort.permIn_trans _ _ _ _ _ hp h1) h2⟩
theorem Left.eq {a b : Nat} {d : Array Int} {a1 b1 pv mid : Nat} {d1 d2 : Array Int} (h : Left a b d a1 b1 d1) (hb : b ≤ d.size) (h0 : 0 < a1) (hp1 : a1 ≤ pv) (hp2 : pv < b1) (hnl : ltInt d1[a1 - 1]! d1[pv]! = false) (hx : partitionEqual ltInt d1 a1 b1 pv = (mid, d2)) :
    a1 < mid ∧ Left a b d mid b1 d2 := by
  obtain ⟨h1, h2, h3, h4, h5⟩ := Go.Sort.round_eq Go.Sort.swo_ltInt (Go.Sort.partitionEqual_holds ltInt) h0 hp1 hp2 (by rw [h.sz]; have := h.lb; omega) h.bl hnl hx
  exact ⟨h1, ⟨by have := h.la; omega, h.lb, h2, by rw [h3, h.sz], h4, fun d' k1 k2 => let ⟨m1, m2⟩ := h5 d' k1 k2; h.go d' m1 m2⟩⟩

theorem Left.part {a b : Nat} {d : Array Int} {a1 b1 pv mid : Nat} {ap : Bool} {d1 d2 : Array Int} (h : Left a b d a1 b1 d1) (hb : b ≤ d.size) (hp1 : a1 ≤ pv) (hp2 : pv < b1) (hx : partition ltInt d1 a1 b1 pv = (mid, ap, d2)) :
    a1 ≤ mid ∧ mid < b1 ∧ d2.size = d.size ∧ Go.Sort.Below ltInt a1 mid d2 ∧ Go.Sort.Below ltInt (mid + 1) b1 d2 ∧
    (∀ L, PermIn a1 mid d2 L → SortedIn ltInt a1 mid L → Left a b d (mid + 1) b1 L) ∧ (∀ L, PermIn (mid + 1) b1 d2 L → SortedIn ltInt (mid + 1) b1 L → Left a b d a1 mid L) := by
  have hlb := h.lb
  have hla := h.la
  obtain ⟨h1, h2, h3, h4, h5, h6, h7⟩ := Go.Sort.round_part Go.Sort.swo_ltInt (Go.Sort.partition_holds ltInt) hp1 hp2 (by rw [h.sz]; omega) h.bl hx
  refine ⟨h1, h2, by rw [h3, h.sz], h4, h5, fun L k1 k2 => ?_, fun L k1 k2 => ?_⟩
  · obtain ⟨m1, m2⟩ := h6 L k1 k2
    exact ⟨by omega, hlb, by omega, by rw [k1.1, h3, h.sz], m1, fun d' n1 n2 => let ⟨p1, p2⟩ := m2 d' n1 n2; h.go d' p1 p2⟩
  · obtain ⟨m1, m2⟩ := h7 L k1 k2
    exact ⟨hla, by omega, h1, by rw [k1.1, h3, h.sz], m1, fun d' n1 n2 => let ⟨p1, p2⟩ := m2 d' n1 n2; h.go d' p1 p2⟩

theorem seq1E {P : Program} {hint : Nat → Nat} {A C : Code} {Q : IExit → St → Prop} {st : St} (M MM : Nat → Bool) (E : St → Prop)
    (h : ∀ Q2 : IExit → St → Prop, (∀ s', Fr M MM st s' → E s' → Q2 .normal s') → (∀ s', Q .ret s' → Q2 .ret s') → iwp P hint A Q2 st) (hrest : ∀ s', Fr M MM st s' → E s' → iwp P hint C Q s') :
    iwp P hint (.seq A C) Q st := h (seqQ (iwp P hint C Q) Q) hrest (fun _ h => h)
theorem seq1F {P : Program} {hint : Nat → Nat} {A C : Code} {Q : IExit → St → Prop} {st : St} (M MM : Nat → Bool) (E : St → Prop)
    (h : ∀ Q2 : IExit → St → Prop, (∀ s', Fr M MM st s' → E s' → Q2 .normal s') → (∀ id s', Q (.exit id) s' → Q2 (.exit id) s') → iwp P hint A Q2 st) (hrest : ∀ s', Fr M MM st s' → E s' → iwp P hint C Q s') :
    iwp P hint (.seq A C) Q st := h (seqQ (iwp P hint C Q) Q) hrest (fun _ _ h => h)
set_option maxRecDepth 20000 in
set_option maxHeartbeats 8000000 in
theorem pdq_c : ∀ (m a b lim : Nat) (d : Array Int) (bk cap : Nat) (h : Heap), b - a ≤ m → a ≤ b → b ≤ d.size → d.size < 10000000000 → lim < 1000 → Go.Sort.Below ltInt a b d →
    ICall Tryz.prog 80 [.sl 1 bk 0 d.size cap, .int .i64 a, .int .i64 b, .int .i64 lim] (SH h bk cap d) (pdqR d a b bk cap h) := by
  intro m
  induction m using Nat.strongRecOn with
  | _ m ih =>
  intro a b lim d bk cap h hm hab hb hs hlim hbl
  obtain ⟨n, hn⟩ : ∃ n, n = d.size := ⟨_, rfl⟩
  rw [← hn] at hb hs ⊢
  refine icall_of_iwp (fun _ => 0) Tryz.func80 rfl (by kernel_rfl) (Nat.le_of_ble_eq_true rfl) ?_
  rw [Tryz.results80]
  simp -implicitDefEqProofs [go_sem]
  refine iwp_loopF (rng [1,2,3,8,9,10,11,12,13,14,15,16,17,18] 19 134) nom (fun s => ∃ (a1 b1 l1 : Nat) (d1 : Array Int) (wb wp : Bool), l1 < 1000 ∧ Left a b d a1 b1 d1 ∧ s.t 1 = .int .i64 a1 ∧ s.t 2 = .int .i64 b1 ∧ s.t 3 = .int .i64 l1 ∧ s.t 8 = .bool wb ∧ s.t 9 = .bool wp ∧ s.h = SH h bk cap d1) (fun s => tn (s.t 2) - tn (s.t 1)) ?_ ?_
  · exact ⟨a, b, lim, d, true, true, hlim, ⟨Nat.le_refl _, Nat.le_refl _, hab, rfl, hbl, fun d' h1 h2 => ⟨h1, h2⟩⟩, by simp -implicitDefEqProofs [go_sem], by simp -implicitDefEqProofs [go_sem], by simp -implicitDefEqProofs [go_sem], by simp -implicitDefEqProofs [go_sem], by simp -implicitDefEqProofs [go_sem], by simp -implicitDefEqProofs [go_sem]⟩
  rintro J s1 hJ hf1 ⟨a1, b1, l1, d1, wb, wp, hl1, HL, h1, h2, h3, h8, h9, hh⟩
  have hla := HL.la
  have hlb := HL.lb
  have hlab := HL.ab
  have hsz1 : d1.size = n := by rw [HL.sz, hn]
  have hw1 : IntKind.i64.wrap ((b1 : Int) - (a1 : Int)) = ((b1 - a1 : Nat) : Int) := by rw [wrap_in (by omega)]; omega
  simp -implicitDefEqProofs [go_sem, h1, h2, h3, h8, h9, hh, hf1.t, hf1.m, hw1]
  refine cK_dec (fun h12 => ?_) (fun h12 => ?_)
  · have hc := insSort_c d1 a1 b1 bk cap h (by omega) (by omega) (by omega)
    rw [hsz1] at hc
    simp -implicitDefEqProofs [go_sem, h1, h2, hh, hf1.t, hf1.m]
    refine ICall.mono hc ?_
    rintro e h' ⟨rfl, he⟩
    rw [he]
    simp -implicitDefEqProofs [go_sem]
    obtain ⟨k1, k2⟩ := Go.Sort.insertionSort_holds Go.Sort.swo_ltInt d1 a1 b1 hlab (by omega)
    obtain ⟨m1, m2⟩ := HL.go _ k1 k2
    exact ⟨_, Sub.refl _, _, m1, m2, rfl, rfl⟩
  simp -implicitDefEqProofs [go_sem, h1, h2, h3, hh, hf1.t, hf1.m]
  refine cK_beq (fun hz => ?_) (fun hz => ?_)
  · have hc := heapSort_c d1 a1 b1 bk cap h (by omega) (by omega) (by omega)
    rw [hsz1] at hc
    simp -implicitDefEqProofs [go_sem, h1, h2, hh, hf1.t, hf1.m]
    refine ICall.mono hc ?_
    rintro e h' ⟨rfl, he⟩
    rw [he]
    simp -implicitDefEqProofs [go_sem]
    obtain ⟨k1, k2⟩ := Go.Sort.heapSort_holds Go.Sort.swo_ltInt d1 a1 b1 hlab (by omega)
    obtain ⟨m1, m2⟩ := HL.go _ k1 k2
    exact ⟨_, Sub.refl _, _, m1, m2, rfl, rfl⟩
  have hlz : 1 ≤ l1 := by omega
  have hwl : IntKind.i64.wrap ((l1 : Int) - 1) = ((l1 - 1 : Nat) : Int) := by rw [wrap_in (by omega)]; omega
  simp -implicitDefEqProofs [go_sem, h1, h2, h3, h8, hh, hf1.t, hf1.m]
  refine ifE (rng [3] 36 42) nom (fun s => ∃ (l2 : Nat) (d2 : Array Int), l2 < 1000 ∧ PermIn a1 b1 d1 d2 ∧ s.t 3 = .int .i64 l2 ∧ s.h = SH h bk cap d2) ?_ ?_
  · intro Q2 hE
    refine cK_any (fun k1 => ?_) (fun k1 => ?_)
    · have hc := breakPatterns_c d1 a1 b1 bk cap h (by omega) (by omega) (by omega)
      rw [hsz1] at hc
      simp -implicitDefEqProofs [go_sem, h1, h2, h3, hh, hf1.t, hf1.m]
      refine ICall.mono hc ?_
      rintro e h' ⟨d2, hP, rfl, he⟩
      rw [he]
      simp -implicitDefEqProofs [go_sem, h1, h2, h3, hh, hf1.t, hf1.m, hwl]
      exact hE _ (by simp -implicitDefEqProofs [go_sem]) ⟨l1 - 1, d2, by omega, hP, by simp -implicitDefEqProofs [go_sem, hwl], by simp -implicitDefEqProofs [go_sem]⟩
    · simp -implicitDefEqProofs [go_sem]
      exact hE _ (by simp -implicitDefEqProofs [go_sem]) ⟨l1, d1, hl1, Go.Sort.permIn_refl d1 a1 b1, by simp -implicitDefEqProofs [go_sem, h3], by simp -implicitDefEqProofs [go_sem, hh]⟩
  rintro s2 hf2 ⟨l2, d2, hl2, hP2, h32, hh2⟩
  have HL2 := HL.perm (by omega) hP2
  have hsz2 : d2.size = n := by rw [HL2.sz, hn]
  have hfa := Fr.trans2 hf1 hf2 (by simp -implicitDefEqProofs [go_sem]) (rng_sub (by decide)) nom_sub
  simp -implicitDefEqProofs [go_sem, h1, h2, hh2, hf2.t, hf2.m, hf1.t, hf1.m]
  have hcp := choosePivot_c d2 a1 b1 bk cap h (by omega) (by omega) (by omega)
  rw [hsz2] at hcp
  refine ICall.mono hcp ?_
  rintro e h' ⟨rfl, he⟩
  rw [he]
  obtain ⟨cp, hcpd⟩ : ∃ x, x = choosePivot ltInt d2 a1 b1 := ⟨_, rfl⟩
  rw [← hcpd]
  obtain ⟨hp1, hp2⟩ := Go.Sort.choosePivot_holds ltInt d2 a1 b1 (by omega)
  rw [← hcpd] at hp1 hp2
  simp -implicitDefEqProofs [go_sem, h1, h2, hh2, hf2.t, hf2.m, hf1.t, hf1.m]
  refine ifE (rng [11,12] 51 61) nom (fun s => ∃ (pv : Nat) (hv : Int) (d3 : Array Int), a1 ≤ pv ∧ pv < b1 ∧ PermIn a1 b1 d1 d3 ∧ s.t 11 = .int .i64 pv ∧ s.t 12 = .int .i64 hv ∧ s.h = SH h bk cap d3) ?_ ?_
  · intro Q2 hE
    refine cK_beq (fun k1 => ?_) (fun k1 => ?_)
    · have hc := reverseRange_c d2 a1 b1 bk cap h (by omega) (by omega) (by omega)
      rw [hsz2] at hc
      obtain ⟨p, hp⟩ : ∃ x, x = b1 - 1 := ⟨_, rfl⟩
      obtain ⟨o, ho⟩ : ∃ x, x = cp.1 - a1 := ⟨_, rfl⟩
      obtain ⟨pv, hpv⟩ : ∃ x, x = p - o := ⟨_, rfl⟩
      have w1 : IntKind.i64.wrap ((b1 : Int) - 1) = (p : Int) := by rw [wrap_in (by omega)]; omega
      have w2 : IntKind.i64.wrap ((cp.1 : Int) - (a1 : Int)) = (o : Int) := by rw [wrap_in (by omega)]; omega
      have w3 : IntKind.i64.wrap ((p : Int) - (o : Int)) = (pv : Int) := by rw [wrap_in (by omega)]; omega
      simp -implicitDefEqProofs [go_sem, h1, h2, hh2, hf2.t, hf2.m, hf1.t, hf1.m]
      refine ICall.mono hc ?_
      rintro e h' ⟨rfl, he⟩
      rw [he]
      simp -implicitDefEqProofs [go_sem, h1, h2, hh2, hf2.t, hf2.m, hf1.t, hf1.m, w1, w2, w3]
      exact hE _ (by simp -implicitDefEqProofs [go_sem]) ⟨pv, 1, reverseRange d2 a1 b1, by omega, by omega, Go.Sort.permIn_trans _ _ _ _ _ hP2 (Go.Sort.reverseRange_holds d2 a1 b1 hlab (by omega)), by simp -implicitDefEqProofs [go_sem], by simp -implicitDefEqProofs [go_sem], by simp -implicitDefEqProofs [go_sem]⟩
    · simp -implicitDefEqProofs [go_sem]
      exact hE _ (by simp -implicitDefEqProofs [go_sem]) ⟨cp.1, hintN cp.2, d2, hp1, hp2, hP2, by simp -implicitDefEqProofs [go_sem], by simp -implicitDefEqProofs [go_sem], by simp -implicitDefEqProofs [go_sem]⟩
  rintro s3 hf3 ⟨pv, hv, d3, hpv1, hpv2, hP3, h11, h12', hh3⟩
  show iwp _ _ (Code.seq _ _) _ _
  have HL3 := HL.perm (by omega) hP3
  have hsz3 : d3.size = n := by rw [HL3.sz, hn]
  refine seq1E (rng [] 61 73) nom (fun s => ∃ d4 : Array Int, PermIn a1 b1 d1 d4 ∧ s.h = SH h bk cap d4) ?_ ?_
  · intro Q2 hE hR
    have hpi := partialIns_c d3 a1 b1 bk cap h (by omega) (by omega) (by omega)
    rw [hsz3] at hpi
    have hph := Go.Sort.partialInsertionSort_holds Go.Sort.swo_ltInt d3 a1 b1 (by omega) (by omega) HL3.bl
    by_cases hv1 : hv = 1
    · cases wb
      · simp -implicitDefEqProofs [go_sem, h8, h9, h11, h12', hv1, hh3, hf3.t, hf3.m, hf2.t, hf2.m, hf1.t, hf1.m]
        exact hE _ (by simp -implicitDefEqProofs [go_sem]) ⟨d3, hP3, by simp -implicitDefEqProofs [go_sem, hh3]⟩
      · cases wp
        · simp -implicitDefEqProofs [go_sem, h8, h9, h11, h12', hv1, hh3, hf3.t, hf3.m, hf2.t, hf2.m, hf1.t, hf1.m]
          exact hE _ (by simp -implicitDefEqProofs [go_sem]) ⟨d3, hP3, by simp -implicitDefEqProofs [go_sem, hh3]⟩
        · simp -implicitDefEqProofs [go_sem, h1, h2, h8, h9, h11, h12', hv1, hh3, hf3.t, hf3.m, hf2.t, hf2.m, hf1.t, hf1.m]
          refine ICall.mono hpi ?_
          rintro e h' ⟨rfl, he⟩
          rw [he]
          simp -implicitDefEqProofs [go_sem]
          refine cK_any (fun k1 => ?_) (fun k1 => ?_) <;> simp -implicitDefEqProofs [go_sem]
          · refine hR _ ?_
            obtain ⟨m1, m2⟩ := HL3.go _ hph.1 (hph.2 k1)
            simp -implicitDefEqProofs [go_sem]
            exact ⟨_, Sub.refl _, _, m1, m2, rfl, rfl⟩
          · exact hE _ (by simp -implicitDefEqProofs [go_sem]) ⟨_, Go.Sort.permIn_trans _ _ _ _ _ hP3 hph.1, by simp -implicitDefEqProofs [go_sem]⟩
    · have hv2 : (hv == 1) = false := by simpa using hv1
      cases wb
      · simp -implicitDefEqProofs [go_sem, h8, h9, h11, h12', hv2, hh3, hf3.t, hf3.m, hf2.t, hf2.m, hf1.t, hf1.m]
        exact hE _ (by simp -implicitDefEqProofs [go_sem]) ⟨d3, hP3, by simp -implicitDefEqProofs [go_sem, hh3]⟩
      · cases wp
        · simp -implicitDefEqProofs [go_sem, h8, h9, h11, h12', hv2, hh3, hf3.t, hf3.m, hf2.t, hf2.m, hf1.t, hf1.m]
          exact hE _ (by simp -implicitDefEqProofs [go_sem]) ⟨d3, hP3, by simp -implicitDefEqProofs [go_sem, hh3]⟩
        · simp -implicitDefEqProofs [go_sem, h8, h9, h11, h12', hv2, hh3, hf3.t, hf3.m, hf2.t, hf2.m, hf1.t, hf1.m]
          exact hE _ (by simp -implicitDefEqProofs [go_sem]) ⟨d3, hP3, by simp -implicitDefEqProofs [go_sem, hh3]⟩
  rintro s4 hf4 ⟨d4, hP4, hh4⟩
  have HL4 := HL.perm (by omega) hP4
  have hsz4 : d4.size = n := by rw [HL4.sz, hn]
  have hfb := Fr.trans2 hfa hf3 (by simp -implicitDefEqProofs [go_sem]) (rng_sub (by decide)) nom_sub
  have hfc := Fr.trans2 hfb hf4 (by simp -implicitDefEqProofs [go_sem]) (rng_sub (by decide)) nom_sub
  have e1 : s4.t 1 = .int .i64 a1 := by rw [hf4.t 1 rfl, hf3.t 1 rfl]; simp -implicitDefEqProofs [go_sem, hf2.t, h1]
  have e2 : s4.t 2 = .int .i64 b1 := by rw [hf4.t 2 rfl, hf3.t 2 rfl]; simp -implicitDefEqProofs [go_sem, hf2.t, h2]
  have e3 : s4.t 3 = .int .i64 l2 := by rw [hf4.t 3 rfl, hf3.t 3 rfl]; simp -implicitDefEqProofs [go_sem, h32]
  have e11 : s4.t 11 = .int .i64 pv := by rw [hf4.t 11 rfl]; exact h11
  have e0 : s4.t 0 = .sl 1 bk 0 n cap := by rw [hf4.t 0 rfl, hf3.t 0 rfl]; simp -implicitDefEqProofs [go_sem, hf2.t, hf1.t]
  have e8 : s4.t 8 = .bool wb := by rw [hf4.t 8 rfl, hf3.t 8 rfl]; simp -implicitDefEqProofs [go_sem, hf2.t, h8]
  have e9 : s4.t 9 = .bool wp := by rw [hf4.t 9 rfl, hf3.t 9 rfl]; simp -implicitDefEqProofs [go_sem, hf2.t, h9]
  show iwp _ _ (Code.seq _ _) _ _
  refine seq1F (rng [1,13] 73 94) nom (fun s => s.t 1 = .int .i64 a1 ∧ s.h = SH h bk cap d4) ?_ ?_
  · intro Q2 hE hX
    simp -implicitDefEqProofs [go_sem]
    refine iwp_drawn_of mixed [0,1,2,3,4,5,6,7,8,9,10,11,12,13,14] (by kernel_rfl) ?_
    simp -implicitDefEqProofs [go_sem, e0, e1, e2, e11, hh4]
    refine cK_dec (fun ha0 => ?_) (fun ha0 => ?_)
    · obtain ⟨k, hk⟩ : ∃ k, a1 = k + 1 := ⟨a1 - 1, by omega⟩
      have hw1' : IntKind.i64.wrap ((a1 : Int) - 1) = (k : Int) := by rw [wrap_in (by omega)]; omega
      have hg1 := rowsD_get (d := d4) (i := k) (by omega)
      have hg0 := rowsD_get (d := d4) (i := pv) (by omega)
      have hl1' : k < n := by omega
      have hl0 : pv < n := by omega
      simp -implicitDefEqProofs [go_sem, e0, e1, e2, e11, hh4, ha0, hw1', hg1, hg0, hl1', hl0, SH_at]
      refine ⟨_, less_c _ _ _, ?_⟩
      simp -implicitDefEqProofs [go_sem, e0, e1, e2, e11, hh4, ha0, hw1', hg1, hg0, hl1', hl0, SH_at]
      have hpe := partitionEqual_c d4 a1 b1 pv bk cap h hpv1 hpv2 (by omega) (by omega)
      rw [hsz4] at hpe
      refine cK_any (fun k1 => ?_) (fun k1 => ?_)
      · simp -implicitDefEqProofs [go_sem, e0, e1, e2, e11, hh4]
        refine ICall.mono hpe ?_
        rintro e h' ⟨rfl, he⟩
        rw [he]
        obtain ⟨pe, hpeq⟩ : ∃ x, x = partitionEqual ltInt d4 a1 b1 pv := ⟨_, rfl⟩
        rw [← hpeq]
        simp -implicitDefEqProofs [go_sem]
        refine hX _ _ ?_
        obtain ⟨hm1, hm2⟩ := HL4.eq (by omega) (by omega) hpv1 hpv2 (by rw [hk]; simpa [hk] using k1) (show partitionEqual ltInt d4 a1 b1 pv = (pe.1, pe.2) from by rw [← hpeq])
        have hm3 := hm2.ab
        simp -implicitDefEqProofs [go_sem, hfc]
        exact hJ _ ⟨pe.1, b1, l2, pe.2, wb, wp, hl2, hm2, by simp -implicitDefEqProofs [go_sem], by simp -implicitDefEqProofs [go_sem, e2], by simp -implicitDefEqProofs [go_sem, e3], by simp -implicitDefEqProofs [go_sem, e8], by simp -implicitDefEqProofs [go_sem, e9], by simp -implicitDefEqProofs [go_sem]⟩ (by simp [go_sem, e2, h1, h2]; omega)
      · simp -implicitDefEqProofs [go_sem]
        exact hE _ (by simp -implicitDefEqProofs [go_sem]) ⟨by simp -implicitDefEqProofs [go_sem, e1], by simp -implicitDefEqProofs [go_sem, hh4]⟩
    · simp -implicitDefEqProofs [go_sem, e0, e1, e2, e11, hh4, ha0]
      exact hE _ (by simp -implicitDefEqProofs [go_sem]) ⟨by simp -implicitDefEqProofs [go_sem, e1], by simp -implicitDefEqProofs [go_sem, hh4]⟩
  rintro s5 hf5 ⟨i1, hh5⟩
  have i2 : s5.t 2 = .int .i64 b1 := by rw [hf5.t 2 rfl]; exact e2
  have i3 : s5.t 3 = .int .i64 l2 := by rw [hf5.t 3 rfl]; exact e3
  have i11 : s5.t 11 = .int .i64 pv := by rw [hf5.t 11 rfl]; exact e11
  have i0 : s5.t 0 = .sl 1 bk 0 n cap := by rw [hf5.t 0 rfl]; exact e0
  have i10 : s5.t 10 = .int .i64 ((b1 - a1 : Nat) : Int) := by
    rw [hf5.t 10 rfl, hf4.t 10 rfl, hf3.t 10 rfl]; simp -implicitDefEqProofs [go_sem, hf2.t]
  have hfd := Fr.trans2 hfc hf5 (by simp -implicitDefEqProofs [go_sem]) (rng_sub (by decide)) nom_sub
  have hpc := partition_c d4 a1 b1 pv bk cap h hpv1 hpv2 (by omega) (by omega)
  rw [hsz4] at hpc
  obtain ⟨pp, hpp⟩ : ∃ x, x = partition ltInt d4 a1 b1 pv := ⟨_, rfl⟩
  rw [← hpp] at hpc
  obtain ⟨mid, ap, d5⟩ := pp
  obtain ⟨g1, g2, g3, g4, g5, g6, g7⟩ := HL4.part (by omega) hpv1 hpv2 hpp.symm
  have hsz5 : d5.size = n := by rw [g3, hn]
  have w1 : IntKind.i64.wrap ((mid : Int) - (a1 : Int)) = ((mid - a1 : Nat) : Int) := by rw [wrap_in (by omega)]; omega
  have w2 : IntKind.i64.wrap ((b1 : Int) - (mid : Int)) = ((b1 - mid : Nat) : Int) := by rw [wrap_in (by omega)]; omega
  have w3 : IntKind.i64.wrap ((mid : Int) + 1) = ((mid + 1 : Nat) : Int) := wrap_succ (by omega)
  simp -implicitDefEqProofs [go_sem, i0, i1, i2, i3, i10, i11, hh5]
  refine ICall.mono hpc ?_
  rintro e h' ⟨rfl, he⟩
  rw [he]
  simp -implicitDefEqProofs [go_sem, i0, i1, i2, i3, i10, i11, hh5, w1, w2]
  have hszd : d5.size = d.size := by rw [g3]
  refine cK_dec (fun k1 => ?_) (fun k1 => ?_)
  · have hc := ih (mid - a1) (by omega) a1 mid l2 d5 bk cap h (Nat.le_refl _) g1 (by omega) (by omega) hl2 g4
    rw [hsz5] at hc
    simp -implicitDefEqProofs [go_sem, i0, i1, i2, i3]
    refine ICall.mono hc ?_
    rintro e h' ⟨d6, p1, p2, rfl, he⟩
    rw [he]
    have HL6 := g6 d6 p1 p2
    have := HL6.ab
    simp -implicitDefEqProofs [go_sem, i0, i1, i2, i3, hfd, w3]
    exact hJ _ ⟨mid + 1, b1, l2, d6, _, ap, hl2, HL6, by simp -implicitDefEqProofs [go_sem, w3], by simp -implicitDefEqProofs [go_sem, i2], by simp -implicitDefEqProofs [go_sem, i3], by simp -implicitDefEqProofs [go_sem]; rfl, by simp -implicitDefEqProofs [go_sem], by simp -implicitDefEqProofs [go_sem]⟩ (by simp [go_sem, i2, h1, h2, w3]; omega)
  · have hc := ih (b1 - (mid + 1)) (by omega) (mid + 1) b1 l2 d5 bk cap h (Nat.le_refl _) (by omega) (by omega) (by omega) hl2 g5
    rw [hsz5] at hc
    simp -implicitDefEqProofs [go_sem, i0, i1, i2, i3, w3]
    refine ICall.mono hc ?_
    rintro e h' ⟨d6, p1, p2, rfl, he⟩
    rw [he]
    have HL6 := g7 d6 p1 p2
    have := HL6.ab
    simp -implicitDefEqProofs [go_sem, i0, i1, i2, i3, hfd, w3]
    exact hJ _ ⟨a1, mid, l2, d6, _, ap, hl2, HL6, by simp -implicitDefEqProofs [go_sem, i1], by simp -implicitDefEqProofs [go_sem], by simp -implicitDefEqProofs [go_sem, i3], by simp -implicitDefEqProofs [go_sem]; rfl, by simp -implicitDefEqProofs [go_sem], by simp -implicitDefEqProofs [go_sem]⟩ (by simp [go_sem, i1, h1, h2, w3]; omega)
end Go.Proofs

set_option linter.unusedVariables false
set_option linter.unusedSimpArgs false
set_option pp.deepTerms false
set_option pp.maxSteps 400
namespace Go.Proofs
open Go.Idl
open Go.Sort (swp ltInt PermIn SortedIn)

def sortL (l : List Int) : List Int := l.mergeSort fun x y => decide (x ≤ y)
theorem sortL_len (l : List Int) : (sortL l).length = l.length := List.length_mergeSort _
theorem sortL_perm (l : List Int) : (sortL l).Perm l := List.mergeSort_perm _ _
theorem sorted_is (d d' : Array Int) (h1 : PermIn 0 d.size d d') (h2 : SortedIn ltInt 0 d.size d') : d' = (sortL d.toList).toArray := by
  have h := Go.Sort.sorted_unique_holds Go.Sort.swo_ltInt (fun x y h1 h2 => by simp only [ltInt, decide_eq_false_iff_not] at h1 h2; omega) d _ h1 h2
  have e : (fun x y => !ltInt y x) = (fun x y : Int => decide (x ≤ y)) := by
    funext x y
    by_cases h : x ≤ y
    · simp [ltInt, h]
    · simp [ltInt, h]; omega
  rw [e] at h
  rw [sortL, ← h]

theorem insSort_nil (h : Heap) : ICall Tryz.prog 139 [.list .plain [], .int .i64 0, .int .i64 0] h (retP (.tup []) h) := by
  refine icall_of_iwp (fun _ => 0) Tryz.func139 rfl (by kernel_rfl) (Nat.le_of_ble_eq_true rfl) ?_
  rw [Tryz.results139]
  have w1 : IntKind.i64.wrap 1 = 1 := wrap_in (by omega)
  simp -implicitDefEqProofs [go_sem, w1]
  refine iwp_loopF (rng [] 3 100) nom (fun s => s.t 6 = .int .i64 1 ∧ s.h = h) (fun s => 0) ⟨by simp -implicitDefEqProofs [go_sem, w1], by simp -implicitDefEqProofs [go_sem]⟩ ?_
  rintro J s hJ hf ⟨h6, hh⟩
  simp -implicitDefEqProofs [go_sem, h6, hh, hf.t, hf.m]
  exact ⟨_, Sub.refl _, rfl, rfl⟩

theorem pdq_nil (L : Int) (h : Heap) : ICall Tryz.prog 80 [.list .plain [], .int .i64 0, .int .i64 0, .int .i64 L] h (retP (.tup []) h) := by
  refine icall_of_iwp (fun _ => 0) Tryz.func80 rfl (by kernel_rfl) (Nat.le_of_ble_eq_true rfl) ?_
  rw [Tryz.results80]
  have w1 : IntKind.i64.wrap 0 = 0 := wrap_in (by omega)
  simp -implicitDefEqProofs [go_sem]
  refine iwp_loopF (rng [] 0 200) nom (fun s => s.t 0 = .list .plain [] ∧ s.t 1 = .int .i64 0 ∧ s.t 2 = .int .i64 0 ∧ s.h = h) (fun s => 0) ⟨by simp -implicitDefEqProofs [go_sem], by simp -implicitDefEqProofs [go_sem], by simp -implicitDefEqProofs [go_sem], by simp -implicitDefEqProofs [go_sem]⟩ ?_
  rintro J s hJ hf ⟨h0, h1, h2, hh⟩
  simp -implicitDefEqProofs [go_sem, h0, h1, h2, hh, hf.t, hf.m, w1]
  refine (insSort_nil h).mono ?_
  rintro e h' ⟨rfl, he⟩
  rw [he]
  simp -implicitDefEqProofs [go_sem]
  exact ⟨_, Sub.refl _, rfl, rfl⟩

theorem sort_c (d : Array Int) (bk cap : Nat) (h : Heap) (hs : d.size < 10000000000) :
    ICall Tryz.prog 49 [.sl 1 bk 0 d.size cap] (SH h bk cap d) (retP (.tup []) (SH h bk cap (sortL d.toList).toArray)) := by
  obtain ⟨n, hn⟩ : ∃ n, n = d.size := ⟨_, rfl⟩
  refine icall_of_iwp (fun _ => 0) Tryz.func49 rfl (by kernel_rfl) (Nat.le_of_ble_eq_true rfl) ?_
  rw [Tryz.results49, ← hn]
  have hw : IntKind.u64.wrap (n : Int) = (n : Int) := Go.IntWalk.u64_in _ (by omega)
  simp -implicitDefEqProofs [go_sem, hw]
  refine (len_c n _ (by omega)).mono ?_
  rintro e h' ⟨L, ⟨rfl, he⟩, l1, l2, l3⟩
  rw [he]
  simp -implicitDefEqProofs [go_sem]
  have hp := pdq_c d.size 0 d.size L d bk cap h (Nat.le_refl _) (Nat.zero_le _) (Nat.le_refl _) hs (by omega) (.inl rfl)
  rw [← hn] at hp
  refine hp.mono ?_
  rintro e h' ⟨d', p1, p2, rfl, he⟩
  rw [he]
  simp -implicitDefEqProofs [go_sem]
  exact ⟨_, Sub.refl _, rfl, by rw [sorted_is d d' (by rw [← hn]; exact p1) (by rw [← hn]; exact p2)]⟩
theorem sort_nil (h : Heap) : ICall Tryz.prog 49 [.list .plain []] h (retP (.tup []) h) := by
  refine icall_of_iwp (fun _ => 0) Tryz.func49 rfl (by kernel_rfl) (Nat.le_of_ble_eq_true rfl) ?_
  rw [Tryz.results49]
  have hw : IntKind.u64.wrap 0 = 0 := Go.IntWalk.u64_in _ (by omega)
  simp -implicitDefEqProofs [go_sem, hw]
  refine (len_c 0 _ (by omega)).mono ?_
  rintro e h' ⟨L, ⟨rfl, he⟩, l1, l2, l3⟩
  rw [he]
  simp -implicitDefEqProofs [go_sem]
  refine (pdq_nil _ h).mono ?_
  rintro e h' ⟨rfl, he⟩
  rw [he]
  simp -implicitDefEqProofs [go_sem]
  exact ⟨_, Sub.refl _, rfl, rfl⟩
end Go.Proofs

set_option linter.unusedVariables false
set_option linter.unusedSimpArgs false
set_option pp.deepTerms false
set_option pp.maxSteps 400
namespace Go.Proofs
open Go.Idl

/-- a pane -/
structure Pn where
  id : Int
  r : Rct
def Pn.row (p : Pn) : List IV := .int .i64 p.id :: p.r.row
@[go_sem] theorem Pn.row_len (p : Pn) : p.row.length = 5 := by simp [Pn.row, Rct.row]
@[go_sem] theorem Pn.row_take (p : Pn) : p.row.take 5 = p.row := by simp [Pn.row, Rct.row]
@[go_sem] theorem Pn.row_strip (p : Pn) : p.row.map strip = p.row := by simp [Pn.row, Rct.row, strip]
@[go_sem] theorem Pn.row_strC (p : Pn) : p.row.map strC = p.row := by simp [Pn.row, Rct.row, strC]
@[go_sem] theorem Pn.row_okV (p : Pn) : okV (.agg p.row) = true := rfl
@[go_sem high] theorem Pn.at0 (p : Pn) : p.row.take 1 = [.int .i64 p.id] := by simp [Pn.row]
@[go_sem high] theorem Pn.at1 (p : Pn) : (p.row.drop 1).take 4 = p.r.row := by simp [Pn.row, Rct.row]
@[go_sem high] theorem Pn.at1t (p : Pn) : p.row.tail.take 4 = p.r.row := by simp [Pn.row, Rct.row]
@[go_sem high] theorem Pn.rows_uni (l : List Pn) : uni 5 (l.map Pn.row) = true := by simp [uni, Pn.row_len]
def Cel.pn (d : Cel) : Pn := ⟨d.id, d.r⟩
def Cel.panes (c : Cel) : List Pn := c.leaves.map Cel.pn
theorem panes_len (c : Cel) : c.panes.length = c.leaves.length := by simp [Cel.panes]
@[go_sem] theorem Cel.pn_row (d : Cel) : IV.int .i64 d.id :: d.r.row = d.pn.row := rfl

end Go.Proofs

set_option linter.unusedVariables false
set_option linter.unusedSimpArgs false
set_option pp.deepTerms false
set_option pp.maxSteps 400
namespace Go.Proofs
open Go.Idl

def mm2 (f : Int → Int → Int) : IV → IV → Option IV
  | .int k x, .int k' y => if k = k' then some (.int k (f x y)) else none
  | _, _ => none
@[go_sem] theorem mm2_int (f : Int → Int → Int) (k : IntKind) (x y : Int) : mm2 f (.int k x) (.int k y) = some (.int k (f x y)) := by simp [mm2]
@[go_sem] theorem pop_max' (P : Program) (st : St) (a b : Operand) (ts : Array TypeId) : pop P st (.call ⟨.builtin .max, #[a, b], ts⟩) = mm2 max (st.ev a) (st.ev b) := by
  simp only [pop, List.map_cons, List.map_nil]; cases st.ev a <;> cases st.ev b <;> rfl
@[go_sem] theorem pop_min' (P : Program) (st : St) (a b : Operand) (ts : Array TypeId) : pop P st (.call ⟨.builtin .min, #[a, b], ts⟩) = mm2 min (st.ev a) (st.ev b) := by
  simp only [pop, List.map_cons, List.map_nil]; cases st.ev a <;> cases st.ev b <;> rfl

/-- a window -/
structure Wn where
  tree : Cel
  act : Int
  z : Bool

def Wn.row (w : Wn) : List IV := w.tree.row ++ [.int .i64 w.act, .bool w.z]
theorem Wn.row_eq (w : Wn) : w.row = [.int .u8 w.tree.kind, .int .i64 w.tree.r.x, .int .i64 w.tree.r.y, .int .i64 w.tree.r.w, .int .i64 w.tree.r.h, .int .i64 w.tree.id, .list .plain (w.tree.kids.map Cel.row), .int .i64 w.act, .bool w.z] := by
  rw [Wn.row, Cel.row_eq]; rfl
@[go_sem] theorem Wn.row_len (w : Wn) : w.row.length = 9 := by rw [w.row_eq]; rfl
@[go_sem high] theorem Wn.at0 (w : Wn) : w.row.take 7 = w.tree.row := by rw [w.row_eq, Cel.row_eq]; rfl
@[go_sem high] theorem Wn.at7 (w : Wn) : (w.row.drop 7).take 1 = [.int .i64 w.act] := by rw [w.row_eq]; rfl
@[go_sem high] theorem Wn.at8 (w : Wn) : (w.row.drop 8).take 1 = [.bool w.z] := by rw [w.row_eq]; rfl
@[go_sem high] theorem Wn.atk (w : Wn) : w.row.take 1 = [.int .u8 w.tree.kind] := by rw [w.row_eq]; rfl
@[go_sem high] theorem Wn.atx (w : Wn) : (w.row.drop 1).take 1 = [.int .i64 w.tree.r.x] := by rw [w.row_eq]; rfl
@[go_sem high] theorem Wn.aty (w : Wn) : (w.row.drop 2).take 1 = [.int .i64 w.tree.r.y] := by rw [w.row_eq]; rfl
@[go_sem high] theorem Wn.atxt (w : Wn) : w.row.tail.take 1 = [.int .i64 w.tree.r.x] := by rw [w.row_eq]; rfl
@[go_sem high] theorem Wn.atrt (w : Wn) : w.row.tail.take 4 = w.tree.r.row := by rw [w.row_eq]; rfl
@[go_sem high] theorem Wn.atr (w : Wn) : (w.row.drop 1).take 4 = w.tree.r.row := by rw [w.row_eq]; rfl
@[go_sem high] theorem Wn.at9 (w : Wn) : w.row.take 9 = w.row := by rw [w.row_eq]; rfl
@[go_sem high] theorem Wn.put0 (w : Wn) (c : Cel) : splice w.row 0 c.row = (Wn.mk c w.act w.z).row := by rw [w.row_eq, (Wn.mk c w.act w.z).row_eq, c.row_eq]; rfl
@[go_sem high] theorem Wn.put7 (w : Wn) (n : Int) : splice w.row 7 [.int .i64 n] = (Wn.mk w.tree n w.z).row := by rw [w.row_eq, Wn.row_eq]; rfl
@[go_sem high] theorem Wn.put8 (w : Wn) (b : Bool) : splice w.row 8 [.bool b] = (Wn.mk w.tree w.act b).row := by rw [w.row_eq, Wn.row_eq]; rfl
@[go_sem] theorem Wn.row_strip (w : Wn) : w.row.map strip = w.row := by rw [w.row_eq]; rfl
@[go_sem] theorem Wn.row_strC (w : Wn) : w.row.map strC = w.row := by rw [w.row_eq]; rfl
@[go_sem high] theorem Wn.row_drop7 (w : Wn) (c : Cel) : c.row ++ w.row.drop 7 = (Wn.mk c w.act w.z).row := by rw [w.row_eq, c.row_eq, Wn.row_eq]; rfl
@[go_sem] theorem Cel.row_strT (c : Cel) : c.row.map strT = c.row := by rw [c.row_eq]; rfl
@[go_sem] theorem Wn.row_strT (w : Wn) : w.row.map strT = w.row := by rw [w.row_eq]; rfl
@[go_sem] theorem upd_upd {α : Type} (f : Nat → α) (b : Nat) (x y : α) : upd (upd f b x) b y = upd f b y := by funext j; simp only [upd]; split <;> rfl
@[go_sem] theorem Wn.row_okV (w : Wn) : okV (.agg w.row) = true := by rw [w.row_eq]; rfl

/-- a window that may be -/
def Wn.may (w : Wn) : Bool := w.tree.tiles && (w.tree.r.x == 0) && (w.tree.r.y == 0) && decide (w.act ∈ w.tree.ids) && (!w.z || decide (1 < w.tree.ids.length))

/-- the same cells, set anew -/
def stepX (k : Int) (c : Cel) (x : Int) : Int := if k = 2 then IntKind.i64.wrap (x + IntKind.i64.wrap (c.r.w + 1)) else x
def stepY (k : Int) (c : Cel) (y : Int) : Int := if k = 2 then y else if k = 3 then IntKind.i64.wrap (y + IntKind.i64.wrap (c.r.h + 1)) else y
mutual
def Cel.setp : Cel → Int → Int → Cel
  | .mk k r id kids, x, y => .mk k ⟨x, y, r.w, r.h⟩ id (Cel.setps k kids x y)
def Cel.setps : Int → List Cel → Int → Int → List Cel
  | _, [], _, _ => []
  | k, c :: cs, x, y => c.setp x y :: Cel.setps k cs (stepX k c x) (stepY k c y)
end
theorem Cel.setp_eq (c : Cel) (x y : Int) : c.setp x y = .mk c.kind ⟨x, y, c.r.w, c.r.h⟩ c.id (Cel.setps c.kind c.kids x y) := by cases c; rw [Cel.setp]; rfl
theorem Cel.setps_length (k : Int) (l : List Cel) (x y : Int) : (Cel.setps k l x y).length = l.length := by
  induction l generalizing x y with
  | nil => simp [Cel.setps]
  | cons c cs ih => simp [Cel.setps, ih]
def posX (k : Int) (l : List Cel) (x : Int) : Int := l.foldl (fun x c => stepX k c x) x
def posY (k : Int) (l : List Cel) (y : Int) : Int := l.foldl (fun y c => stepY k c y) y
theorem posX_take (k : Int) (l : List Cel) (x : Int) (i : Nat) (h : i < l.length) : posX k (l.take (i + 1)) x = stepX k l[i] (posX k (l.take i) x) := by
  rw [posX, List.take_add_one, List.getElem?_eq_getElem h, List.foldl_append]; rfl
theorem posY_take (k : Int) (l : List Cel) (x : Int) (i : Nat) (h : i < l.length) : posY k (l.take (i + 1)) x = stepY k l[i] (posY k (l.take i) x) := by
  rw [posY, List.take_add_one, List.getElem?_eq_getElem h, List.foldl_append]; rfl
theorem Cel.setps_append (k : Int) (l m : List Cel) (x y : Int) : Cel.setps k (l ++ m) x y = Cel.setps k l x y ++ Cel.setps k m (posX k l x) (posY k l y) := by
  induction l generalizing x y with
  | nil => simp [Cel.setps, posX, posY]
  | cons c cs ih => simp [Cel.setps, ih, posX, posY]
theorem Cel.setps_take (k : Int) (l : List Cel) (x y : Int) (i : Nat) (h : i < l.length) :
    Cel.setps k (l.take (i + 1)) x y = Cel.setps k (l.take i) x y ++ [l[i].setp (posX k (l.take i) x) (posY k (l.take i) y)] := by
  rw [List.take_add_one, List.getElem?_eq_getElem h, Cel.setps_append]; simp [Cel.setps]

def Cel.withX (c : Cel) (x : Int) : Cel := .mk c.kind ⟨x, c.r.y, c.r.w, c.r.h⟩ c.id c.kids
def Cel.withY (c : Cel) (y : Int) : Cel := .mk c.kind ⟨c.r.x, y, c.r.w, c.r.h⟩ c.id c.kids
@[go_sem high] theorem Cel.put1 (c : Cel) (x : Int) : splice c.row 1 [.int .i64 x] = (c.withX x).row := by rw [c.row_eq, (c.withX x).row_eq]; rfl
@[go_sem high] theorem Cel.put2 (c : Cel) (y : Int) : splice c.row 2 [.int .i64 y] = (c.withY y).row := by rw [c.row_eq, (c.withY y).row_eq]; rfl
@[go_sem] theorem Cel.withX_kids (c : Cel) (x : Int) : (c.withX x).kids = c.kids := rfl
@[go_sem] theorem Cel.withY_kids (c : Cel) (x : Int) : (c.withY x).kids = c.kids := rfl
@[go_sem] theorem Cel.withX_kind (c : Cel) (x : Int) : (c.withX x).kind = c.kind := rfl
@[go_sem] theorem Cel.withY_kind (c : Cel) (x : Int) : (c.withY x).kind = c.kind := rfl

/-- what a function that hands back a cell with kids of its own comes to -/
def ownK (d : Cel) (h : Heap) (e : IEnd) (h' : Heap) : Prop :=
  (e = .ret (.agg d.row) ∧ h' = h) ∨
  (∃ b cap, h b = none ∧ e = .ret (.agg (d.rowK (.sl 7 b 0 d.kids.length cap))) ∧ h' = upd h b (some (.arr 128 7 (d.kids.map Cel.row) cap)))
theorem ownK_fz {d : Cel} {h : Heap} {P : Program} {f : FuncId} {args : List IV} (hc : ICall P f args h (ownK d h)) : ICall P f args h (retP (.agg d.row) h) := by
  refine hc.fz ?_
  rintro e h' (⟨rfl, rfl⟩ | ⟨b, cap, hb, rfl, rfl⟩)
  · exact .inl ⟨rfl, rfl⟩
  · refine .inr ⟨_, b, 128, 7, d.kids.map Cel.row, cap, rfl, by simp [upd], ?_, ?_⟩
    · have h1 := d.rowK_fz b d.kids cap
      have h2 : d.withKids d.kids = d := by cases d; rfl
      rw [h2] at h1
      simp only [fz3, fz2, h1]
    · funext j
      simp only [dropH, upd]
      split
      · rename_i e; rw [e, hb]
      · rfl
end Go.Proofs

set_option linter.unusedVariables false
set_option linter.unusedSimpArgs false
set_option pp.deepTerms false
set_option pp.maxSteps 400
namespace Go.Proofs
open Go.Idl

theorem Cel.withKids_self (c : Cel) : c.withKids c.kids = c := by cases c; rfl
theorem Cel.row_drop7 (c : Cel) : c.row.drop 7 = [] := by rw [c.row_eq]; rfl
theorem Cel.rowK_nil (d : Cel) : d.rowK (.list .plain []) = (d.withKids []).row := by rw [d.rowK_eq, (d.withKids []).row_eq]; rfl

set_option maxRecDepth 20000 in
set_option maxHeartbeats 4000000 in
theorem clone_c (c : Cel) : ∀ (h : Heap), c.size < 100000000000 → ICall Tryz.prog 217 [.agg c.row] h (retP (.agg c.row) h) := by
  induction c using Cel.induct
  rename_i c ih
  intro h hs
  have hlen := Cel.len_le c.kids
  rw [c.size_eq] at hs
  refine ownK_fz ?_
  refine icall_of_iwp (fun _ => 0) Tryz.func217 rfl (by kernel_rfl) (Nat.le_of_ble_eq_true rfl) ?_
  rw [Tryz.results217]
  simp -implicitDefEqProofs [go_sem]
  refine (cloneCel_c c.kids h (by omega)).mono ?_
  rintro e h' (⟨hkn, rfl, he⟩ | ⟨hkn, b, cap, hb, hcap, rfl, he⟩)
  · rw [he]
    have hkl : c.kids.length = 0 := by rw [hkn]; rfl
    simp -implicitDefEqProofs [go_sem, Cel.rowK_nil, hkl]
    refine iwp_loop (fun s => s = _) (fun _ => 0) rfl ?_
    rintro _ rfl
    simp -implicitDefEqProofs [go_sem, hkl]
    refine ⟨h, Sub.refl _, .inl ⟨?_, rfl⟩⟩
    rw [← hkn, Cel.withKids_self]
  · rw [he]
    simp -implicitDefEqProofs [go_sem]
    refine iwp_loopF (rng [3,4] 12 24) (fun k => k == 4) (fun s => ∃ i, i ≤ c.kids.length ∧ s.t 12 = .int .i64 i ∧ s.h = upd h b (some (.arr 128 7 (c.kids.map Cel.row) cap))) (fun s => c.kids.length - tn (s.t 12)) ?_ ?_
    · exact ⟨0, Nat.zero_le _, by simp -implicitDefEqProofs [go_sem], by simp -implicitDefEqProofs [go_sem]⟩
    rintro J s hJ hf ⟨i, hi, h12, hh⟩
    simp -implicitDefEqProofs [go_sem, h12, hf.t, hf.m]
    refine cK_dec (fun hlt => ?_) (fun hge => ?_)
    · have hg : c.kids[i]? = some c.kids[i] := List.getElem?_eq_getElem hlt
      have hw := wrap_succ (i := i) (by omega)
      have hst := Cel.sizes_take c.kids i hlt
      have hle := Cel.sizes_le c.kids (i + 1)
      obtain ⟨rowsI, hrowsI⟩ : ∃ r, r = c.kids.map Cel.row := ⟨_, rfl⟩
      rw [← hrowsI] at hh
      have hrow : rowsI[i]? = some c.kids[i].row := by rw [hrowsI, List.getElem?_map, hg]; rfl
      have hset : rowsI.set i c.kids[i].row = c.kids.map Cel.row := by
        rw [← hrowsI]
        have hil : i < rowsI.length := by rw [hrowsI]; simpa using hlt
        have : rowsI[i] = c.kids[i].row := by
          have := List.getElem?_eq_getElem hil
          rw [hrow] at this
          exact (Option.some.inj this).symm
        rw [← this, List.set_getElem_self]
      simp -implicitDefEqProofs [go_sem, h12, hf.t, hf.m, hh, hrow, hlt, hg]
      refine iwp_drawn_of mixed [0, 1, 2, 3, 4, 5, 6] (by kernel_rfl) ?_
      simp -implicitDefEqProofs [go_sem, h12, hh, hf.t, hf.m, hlt, hg, hrow]
      refine ⟨_, ih _ (List.getElem_mem hlt) _ (by omega), ?_⟩
      simp -implicitDefEqProofs [go_sem, h12, hh, hf.t, hf.m, hf, hlt, hg, hrow, hset, hw]
      refine hJ _ ⟨i + 1, by omega, by simp -implicitDefEqProofs [go_sem, hw], ?_⟩ (by simp [go_sem, h12, hw]; omega)
      funext j
      simp -implicitDefEqProofs [go_sem, hh, Cel.row_drop7, hset]
      try (split <;> rfl)
    · obtain rfl : i = c.kids.length := by omega
      simp -implicitDefEqProofs [go_sem, h12, hh, hf.t, hf.m]
      exact ⟨_, Sub.refl _, .inr ⟨b, cap, hb, rfl, rfl⟩⟩

set_option maxRecDepth 20000 in
set_option maxHeartbeats 4000000 in
theorem set_c (c : Cel) : ∀ (x y : Int) (h : Heap), c.size < 100000000000 → ICall Tryz.prog 154 [.agg c.row, .int .i64 x, .int .i64 y] h (retP (.agg (c.setp x y).row) h) := by
  induction c using Cel.induct
  rename_i c ih
  intro x y h hs
  have hlen := Cel.len_le c.kids
  rw [c.size_eq] at hs
  refine ownK_fz ?_
  have hcs : c.setp x y = ((c.withX x).withY y).withKids (Cel.setps c.kind c.kids x y) := by rw [c.setp_eq]; rfl
  refine icall_of_iwp (fun _ => 0) Tryz.func154 rfl (by kernel_rfl) (Nat.le_of_ble_eq_true rfl) ?_
  rw [Tryz.results154]
  simp -implicitDefEqProofs [go_sem]
  refine (cloneCel_c c.kids h (by omega)).mono ?_
  rintro e h' (⟨hkn, rfl, he⟩ | ⟨hkn, b, cap, hb, hcap, rfl, he⟩)
  · rw [he]
    have hkl : c.kids.length = 0 := by rw [hkn]; rfl
    simp -implicitDefEqProofs [go_sem, Cel.rowK_nil, hkl]
    refine iwp_loop (fun s => s = _) (fun _ => 0) rfl ?_
    rintro _ rfl
    simp -implicitDefEqProofs [go_sem, hkl]
    refine ⟨h, Sub.refl _, .inl ⟨?_, rfl⟩⟩
    rw [hcs, hkn]; simp [Cel.setps]
  · rw [he]
    simp -implicitDefEqProofs [go_sem]
    refine iwp_loopF (rng [1,2,7,8] 22 54) (fun k => k == 8) (fun s => ∃ i, i ≤ c.kids.length ∧ s.t 22 = .int .i64 i ∧ s.t 1 = .int .i64 (posX c.kind (c.kids.take i) x) ∧ s.t 2 = .int .i64 (posY c.kind (c.kids.take i) y) ∧ s.h = upd h b (some (.arr 128 7 ((Cel.setps c.kind (c.kids.take i) x y ++ c.kids.drop i).map Cel.row) cap))) (fun s => c.kids.length - tn (s.t 22)) ?_ ?_
    · exact ⟨0, Nat.zero_le _, by simp -implicitDefEqProofs [go_sem], by simp -implicitDefEqProofs [go_sem, posX], by simp -implicitDefEqProofs [go_sem, posY], by simp -implicitDefEqProofs [go_sem, Cel.setps]⟩
    rintro J s hJ hf ⟨i, hi, h22, h1, h2, hh⟩
    simp -implicitDefEqProofs [go_sem, h22, h1, h2, hf.t, hf.m]
    refine cK_dec (fun hlt => ?_) (fun hge => ?_)
    · have hg : c.kids[i]? = some c.kids[i] := List.getElem?_eq_getElem hlt
      have hw := wrap_succ (i := i) (by omega)
      have hst := Cel.sizes_take c.kids i hlt
      have hle := Cel.sizes_le c.kids (i + 1)
      have hnmt := Cel.setps_take c.kind c.kids x y i hlt
      have hx := posX_take c.kind c.kids x i hlt
      have hy := posY_take c.kind c.kids y i hlt
      have hnl : (Cel.setps c.kind (c.kids.take i) x y).length = i := by rw [Cel.setps_length]; simp; omega
      have hdk2 : c.kids.drop i = c.kids[i] :: c.kids.drop (i + 1) := List.drop_eq_getElem_cons hlt
      obtain ⟨rowsI, hrowsI⟩ : ∃ r, r = (Cel.setps c.kind (c.kids.take i) x y ++ c.kids.drop i).map Cel.row := ⟨_, rfl⟩
      rw [← hrowsI] at hh
      obtain ⟨px, hpx⟩ : ∃ p, p = posX c.kind (c.kids.take i) x := ⟨_, rfl⟩
      obtain ⟨py, hpy⟩ : ∃ p, p = posY c.kind (c.kids.take i) y := ⟨_, rfl⟩
      rw [← hpx] at h1 hx hnmt
      rw [← hpy] at h2 hy hnmt
      have hrow : rowsI[i]? = some c.kids[i].row := by
        rw [hrowsI, List.getElem?_map, List.getElem?_append_right (by omega), hnl, Nat.sub_self, hdk2]; rfl
      have hset : rowsI.set i (c.kids[i].setp px py).row = (Cel.setps c.kind (c.kids.take (i + 1)) x y ++ c.kids.drop (i + 1)).map Cel.row := by
        have h5 := set_mid (Cel.setps c.kind (c.kids.take i) x y) (c.kids.drop (i + 1)) c.kids[i] (c.kids[i].setp px py)
        rw [hnl] at h5
        rw [hrowsI, hdk2, ← List.map_set, h5, hnmt, List.append_assoc]; rfl
      simp -implicitDefEqProofs [go_sem, h22, h1, h2, hf.t, hf.m, hh, hrow, hlt, hg]
      refine iwp_drawn_of mixed [0, 1, 2, 3, 4, 5, 6, 7, 8] (by kernel_rfl) ?_
      simp -implicitDefEqProofs [go_sem, h22, h1, h2, hh, hf.t, hf.m, hlt, hg, hrow]
      refine ⟨_, ih _ (List.getElem_mem hlt) px py _ (by omega), ?_⟩
      simp -implicitDefEqProofs [go_sem, h22, h1, h2, hh, hf.t, hf.m, hf, hlt, hg, hrow, hset, hw]
      have fin : ∀ st : St, st.t 22 = .int .i64 ((i + 1 : Nat) : Int) → st.t 1 = .int .i64 (stepX c.kind c.kids[i] px) → st.t 2 = .int .i64 (stepY c.kind c.kids[i] py) → st.h = upd h b (some (.arr 128 7 ((Cel.setps c.kind (c.kids.take (i + 1)) x y ++ c.kids.drop (i + 1)).map Cel.row) cap)) → ∃ i, i ≤ c.kids.length ∧ st.t 22 = .int .i64 i ∧ st.t 1 = .int .i64 (posX c.kind (c.kids.take i) x) ∧ st.t 2 = .int .i64 (posY c.kind (c.kids.take i) y) ∧ st.h = upd h b (some (.arr 128 7 ((Cel.setps c.kind (c.kids.take i) x y ++ c.kids.drop i).map Cel.row) cap)) :=
        fun st a1 a2 a3 a4 => ⟨i + 1, by omega, a1, by rw [a2, hx], by rw [a3, hy], a4⟩
      refine cK_beq (fun k2 => ?_) (fun k2 => ?_) <;> simp -implicitDefEqProofs [go_sem, h22, h1, h2, hh, hf.t, hf.m, hf, hw]
      · refine hJ _ (fin _ (by simp -implicitDefEqProofs [go_sem, hw]) (by simp -implicitDefEqProofs [go_sem, stepX, k2]) (by simp -implicitDefEqProofs [go_sem, stepY, k2, h2]) ?_) (by simp [go_sem, h22, hw]; omega)
        funext j
        simp -implicitDefEqProofs [go_sem, hh, Cel.row_drop7, hset]
        try (split <;> rfl)
      refine cK_beq (fun k3 => ?_) (fun k3 => ?_) <;> simp -implicitDefEqProofs [go_sem, h22, h1, h2, hh, hf.t, hf.m, hf, hw]
      · refine hJ _ (fin _ (by simp -implicitDefEqProofs [go_sem, hw]) (by simp -implicitDefEqProofs [go_sem, stepX, k2, h1]) (by simp -implicitDefEqProofs [go_sem, stepY, k2, k3]) ?_) (by simp [go_sem, h22, hw]; omega)
        funext j
        simp -implicitDefEqProofs [go_sem, hh, Cel.row_drop7, hset]
        try (split <;> rfl)
      · refine hJ _ (fin _ (by simp -implicitDefEqProofs [go_sem, hw]) (by simp -implicitDefEqProofs [go_sem, stepX, k2, h1]) (by simp -implicitDefEqProofs [go_sem, stepY, k2, k3, h2]) ?_) (by simp [go_sem, h22, hw]; omega)
        funext j
        simp -implicitDefEqProofs [go_sem, hh, Cel.row_drop7, hset]
        try (split <;> rfl)
    · obtain rfl : i = c.kids.length := by omega
      rw [List.take_length, List.drop_length, List.append_nil] at hh
      simp -implicitDefEqProofs [go_sem, h22, h1, h2, hh, hf.t, hf.m]
      have hkk : (c.setp x y).kids = Cel.setps c.kind c.kids x y := by rw [hcs]; rfl
      refine ⟨_, Sub.refl _, .inr ⟨b, cap, hb, ?_, by rw [hkk]⟩⟩
      rw [hkk, Cel.setps_length, hcs, Cel.withKids_rowK]
end Go.Proofs

set_option linter.unusedVariables false
set_option linter.unusedSimpArgs false
set_option pp.deepTerms false
set_option pp.maxSteps 400
namespace Go.Proofs
open Go.Idl

theorem _root_.Go.Idl.Sub.upd' {h h2 : Heap} (hs : Sub h h2) {b : Nat} (hb : h2 b = none) (o : Option IObj) : Sub h (upd h2 b o) := by
  intro b' o' hb'
  have h1 := hs b' o' hb'
  have hne : b' ≠ b := by rintro rfl; rw [hb] at h1; cases h1
  simp [upd, hne, h1]

def idxF (l : List Int) (x : Int) (h : Heap) (e : IEnd) (h' : Heap) : Prop := h' = h ∧ ((x ∉ l ∧ e = .ret (.int .i64 (-1))) ∨ ∃ (i : Nat) (hi : i < l.length), l[i] = x ∧ e = .ret (.int .i64 i))
theorem indexF_c (l : List Int) (x : Int) (h : Heap) (hl : l.length < 100000000000) :
    ICall Tryz.prog 92 [.list .plain (l.map intRow), .int .i64 x] h (idxF l x h) := by
  refine icall_of_iwp (fun _ => 0) Tryz.func92 rfl (by kernel_rfl) (Nat.le_of_ble_eq_true rfl) ?_
  rw [Tryz.results92]
  simp -implicitDefEqProofs [go_sem]
  refine iwp_loopF (rng [4,5] 8 18) nom (fun s => ∃ i : Nat, i ≤ l.length ∧ s.t 8 = .int .i64 i ∧ x ∉ l.take i ∧ s.h = h) (fun s => l.length - tn (s.t 8)) ?_ ?_
  · exact ⟨0, Nat.zero_le _, by simp -implicitDefEqProofs [go_sem], by simp, by simp -implicitDefEqProofs [go_sem]⟩
  rintro J s hJ hf ⟨i, hi, h8, hnx, hh⟩
  simp -implicitDefEqProofs [go_sem, h8, hh, hf.t, hf.m]
  refine cK_dec (fun hlt => ?_) (fun hge => ?_)
  · have hg : l[i]? = some l[i] := List.getElem?_eq_getElem hlt
    have hw := wrap_succ (i := i) (by omega)
    simp -implicitDefEqProofs [go_sem, h8, hh, hf.t, hf.m, hlt, hg]
    refine cK_beq (fun k1 => ?_) (fun k1 => ?_) <;> simp -implicitDefEqProofs [go_sem, h8, hh, hf.t, hf.m, hf, hw]
    · exact ⟨h, Sub.refl _, rfl, .inr ⟨i, hlt, k1.symm, rfl⟩⟩
    · refine hJ _ ⟨i + 1, by omega, by simp -implicitDefEqProofs [go_sem, hw], ?_, by simp -implicitDefEqProofs [go_sem, hh]⟩ (by simp [go_sem, h8, hw]; omega)
      rw [List.take_add_one, hg]
      simp only [List.mem_append, not_or]
      exact ⟨hnx, by simp; exact k1⟩
  · simp -implicitDefEqProofs [go_sem, h8, hh, hf.t, hf.m]
    rw [List.take_of_length_le (by omega)] at hnx
    exact ⟨h, Sub.refl _, rfl, .inl ⟨hnx, rfl⟩⟩

theorem contains_c (l : List Int) (x : Int) (h : Heap) (hl : l.length < 100000000000) :
    ICall Tryz.prog 83 [.list .plain (l.map intRow), .int .i64 x] h (retP (.bool (decide (x ∈ l))) h) := by
  refine icall_of_iwp (fun _ => 0) Tryz.func83 rfl (by kernel_rfl) (Nat.le_of_ble_eq_true rfl) ?_
  rw [Tryz.results83]
  simp -implicitDefEqProofs [go_sem]
  refine (indexF_c l x h hl).mono ?_
  rintro e h' ⟨rfl, ⟨hn, rfl⟩ | ⟨i, hi, hx, rfl⟩⟩
  · simp -implicitDefEqProofs [go_sem]
    exact ⟨h', Sub.refl _, by rw [decide_eq_false hn], rfl⟩
  · have h0 : (0 : Int) ≤ (i : Int) := by omega
    simp -implicitDefEqProofs [go_sem, h0]
    exact ⟨h', Sub.refl _, by rw [decide_eq_true (hx ▸ List.getElem_mem hi)], rfl⟩

theorem idsz_le (c : Cel) : c.ids.length ≤ c.size := by
  have h1 := Cel.all_length c
  rw [Cel.ids, List.length_map, Cel.leaves]
  have := List.length_filter_le (fun d => d.kind == 1) c.all
  omega

set_option maxRecDepth 20000 in
theorem wmay_c (w : Wn) (h : Heap) (hs : w.tree.size < 100000000) : ICall Tryz.prog 151 [.agg w.row] h (retP (.bool w.may) h) := by
  have hl := idsz_le w.tree
  refine icall_of_iwp (fun _ => 0) Tryz.func151 rfl (by kernel_rfl) (Nat.le_of_ble_eq_true rfl) ?_
  rw [Tryz.results151]
  simp -implicitDefEqProofs [go_sem]
  refine (cLeaves_c w.tree h (by omega)).mono ?_
  rintro e h' ⟨rfl, he⟩
  rw [he]
  simp -implicitDefEqProofs [go_sem]
  refine (tTiles_c w.tree h (by omega)).mono ?_
  rintro e h' ⟨rfl, he⟩
  rw [he]
  cases ht : w.tree.tiles with
  | false =>
    have hm : w.may = false := by simp [Wn.may, ht]
    simp -implicitDefEqProofs [go_sem]
    exact ⟨h, Sub.refl _, by rw [hm], rfl⟩
  | true =>
    by_cases hx : w.tree.r.x = 0
    · by_cases hy : w.tree.r.y = 0
      · simp -implicitDefEqProofs [go_sem, hx, hy]
        refine (contains_c w.tree.ids w.act h (by omega)).mono ?_
        rintro e h' ⟨rfl, he⟩
        rw [he]
        by_cases ha : w.act ∈ w.tree.ids
        · cases hz : w.z with
          | false =>
            have hm : w.may = true := by simp [Wn.may, ht, hx, hy, ha, hz]
            simp -implicitDefEqProofs [go_sem, ha, hz]
            exact ⟨h, Sub.refl _, by rw [hm], rfl⟩
          | true =>
            have hm : w.may = decide (1 < w.tree.ids.length) := by simp [Wn.may, ht, hx, hy, ha, hz]
            simp -implicitDefEqProofs [go_sem, ha, hz]
            refine ⟨h, Sub.refl _, by rw [hm]; congr 1; simp; try omega, rfl⟩
        · have hm : w.may = false := by simp [Wn.may, ha]
          simp -implicitDefEqProofs [go_sem, ha]
          exact ⟨h, Sub.refl _, by rw [hm], rfl⟩
      · have hm : w.may = false := by simp [Wn.may, hy]
        have hyb : (w.tree.r.y == 0) = false := by simpa using hy
        simp -implicitDefEqProofs [go_sem, hx, hyb]
        exact ⟨h, Sub.refl _, by rw [hm], rfl⟩
    · have hm : w.may = false := by simp [Wn.may, hx]
      have hxb : (w.tree.r.x == 0) = false := by simpa using hx
      simp -implicitDefEqProofs [go_sem, hxb]
      exact ⟨h, Sub.refl _, by rw [hm], rfl⟩

def chgV (w w2 : Wn) (er : Int) : IV := if w.may = true then (if er = 0 then .tup [.agg w2.row, .int .i64 0] else .tup [.agg w.row, .int .i64 er]) else .tup [.agg w.row, .int .i64 1]

set_option maxRecDepth 20000 in
theorem changed_c (w : Wn) (f : FuncId) (cap : List IV) (w2 : Wn) (er : Int) (h : Heap) (hs : w.tree.size < 100000000)
    (hf : w.may = true → ∀ b, h b = none → ICall Tryz.prog f (.ptr b 0 :: cap) (upd h b (some (.cells (Wn.mk w.tree w.act false).row))) (retP (.int .i64 er) (upd h b (some (.cells w2.row))))) :
    ICall Tryz.prog 87 [.agg w.row, .fn (.func f) [] cap] h (retP (chgV w w2 er) h) := by
  refine icall_of_iwp (fun d => if d = 6 then 1 else 0) Tryz.func87 rfl (by kernel_rfl) (Nat.le_of_ble_eq_true rfl) ?_
  rw [Tryz.results87]
  simp -implicitDefEqProofs [go_sem]
  refine (wmay_c w h hs).mono ?_
  rintro e h' ⟨rfl, he⟩
  rw [he]
  cases hm : w.may with
  | false =>
    simp -implicitDefEqProofs [go_sem]
    exact ⟨h, Sub.refl _, by rw [chgV, if_neg (by rw [hm]; simp)], rfl⟩
  | true =>
    simp -implicitDefEqProofs [go_sem]
    intro b hb
    refine (hf hm b hb).mono ?_
    rintro e h' ⟨rfl, he⟩
    rw [he]
    by_cases her : er = 0
    · subst her
      simp -implicitDefEqProofs [go_sem]
      exact ⟨h, (Sub.refl _).upd hb _, by rw [chgV, if_pos hm, if_pos rfl], rfl⟩
    · have hb1 : (er != 0) = true := by simpa using her
      simp -implicitDefEqProofs [go_sem, hb1]
      exact ⟨h, (Sub.refl _).upd hb _, by rw [chgV, if_pos hm, if_neg her], rfl⟩

end Go.Proofs

set_option linter.unusedVariables false
set_option linter.unusedSimpArgs false
set_option pp.deepTerms false
set_option pp.maxSteps 400
namespace Go.Proofs
open Go.Idl

noncomputable def Wn.same (a b : Wn) : Bool := (a.act == b.act) && (a.z == b.z) && a.tree.beq b.tree
theorem leaf_c (r : Rct) (id : Int) (h : Heap) : ICall Tryz.prog 271 [.agg r.row, .int .i64 id] h (retP (.agg (Cel.mk 1 r id []).row) h) := by
  refine icall_of_iwp (fun _ => 0) Tryz.func271 rfl (by kernel_rfl) (Nat.le_of_ble_eq_true rfl) ?_
  rw [Tryz.results271, Cel.row_mk]
  simp -implicitDefEqProofs [go_sem]
  exact ⟨h, Sub.refl _, rfl, rfl⟩

theorem lsize_c (r : Rct) (h : Heap) : ICall Tryz.prog 155 [.agg r.row, .int .u8 1] h (retP (.int .i64 r.w) h) := by
  refine icall_of_iwp (fun _ => 0) Tryz.func155 rfl (by kernel_rfl) (Nat.le_of_ble_eq_true rfl) ?_
  rw [Tryz.results155]
  simp -implicitDefEqProofs [go_sem]
  exact ⟨h, Sub.refl _, rfl, rfl⟩

theorem wrm1 : IntKind.i64.wrap (-1) = -1 := by decide
theorem wrn1 : IntKind.i64.wrap (0 - 1) = -1 := by decide
theorem sizes80_c (h : Heap) : ICall Tryz.prog 312 [.int .i64 80, .int .i64 0] h (retP (.tup [.int .i64 40, .int .i64 39, .bool true]) h) := by
  refine icall_of_iwp (fun _ => 0) Tryz.func312 rfl (by kernel_rfl) (Nat.le_of_ble_eq_true rfl) ?_
  rw [Tryz.results312]
  simp -implicitDefEqProofs [go_sem]
  exact ⟨h, Sub.refl _, rfl, rfl⟩

theorem sized_c (r : Rct) (n id : Int) (h : Heap) : ICall Tryz.prog 313 [.agg r.row, .int .u8 1, .int .i64 n, .int .i64 id] h (retP (.agg (Cel.mk 1 ⟨r.x, r.y, n, r.h⟩ id []).row) h) := by
  refine icall_of_iwp (fun _ => 0) Tryz.func313 rfl (by kernel_rfl) (Nat.le_of_ble_eq_true rfl) ?_
  rw [Tryz.results313]
  have hsp : splice r.row 2 [.int .i64 n] = (Rct.mk r.x r.y n r.h).row := rfl
  simp -implicitDefEqProofs [go_sem, hsp]
  refine (leaf_c ⟨r.x, r.y, n, r.h⟩ id h).mono ?_
  rintro e h' ⟨rfl, he⟩
  rw [he]
  simp -implicitDefEqProofs [go_sem]
  exact ⟨h, Sub.refl _, rfl, rfl⟩

def rA : Rct := ⟨0, 0, 80, 24⟩
def tA : Cel := .mk 1 rA 0 []
def lA : Cel := .mk 1 ⟨0, 0, 40, 24⟩ 0 []
def lB : Cel := .mk 1 ⟨0, 0, 39, 24⟩ 1 []
def tB : Cel := .mk 2 rA 0 [lA, lB]
def tC : Cel := tB.setp 0 0
def wA : Wn := ⟨tA, 0, false⟩
def wB : Wn := ⟨tC, 1, false⟩
theorem two_c (h : Heap) : ICall Tryz.prog 275 [.agg tA.row, .int .u8 1, .int .i64 0, .int .i64 1, .bool false] h (retP (.list .plain [lA.row, lB.row]) h) := by
  refine icall_of_iwp (fun _ => 0) Tryz.func275 rfl (by kernel_rfl) (Nat.le_of_ble_eq_true rfl) ?_
  rw [Tryz.results275]
  have hr : tA.r = rA := rfl
  have hid : tA.id = 0 := rfl
  simp -implicitDefEqProofs [go_sem, hr, hid]
  refine (lsize_c rA h).mono ?_
  rintro e h' ⟨rfl, he⟩
  rw [he]
  simp -implicitDefEqProofs [go_sem]
  refine (sizes80_c h).mono ?_
  rintro e h' ⟨rfl, he⟩
  rw [he]
  simp -implicitDefEqProofs [go_sem]
  refine iwp_drawn_of mixed [0, 1, 2, 3, 4, 5, 6, 7, 8, 9, 10, 11, 12, 13, 14] (by kernel_rfl) ?_
  simp -implicitDefEqProofs [go_sem, hr, hid]
  refine ⟨_, sized_c rA 40 0 h, ?_⟩
  simp -implicitDefEqProofs [go_sem, hr, hid]
  refine ⟨_, sized_c rA 39 1 h, ?_⟩
  simp -implicitDefEqProofs [go_sem, hr, hid]
  exact ⟨h, Sub.refl _, rfl, rfl⟩

theorem put0_c (c k : Cel) (h : Heap) (hs : k.size < 100000000000) : ICall Tryz.prog 157 [.agg c.row, .agg k.row, .list .plain []] h (retP (.tup [.agg k.row, .bool true]) h) := by
  refine icall_of_iwp (fun _ => 0) Tryz.func157 rfl (by kernel_rfl) (Nat.le_of_ble_eq_true rfl) ?_
  rw [Tryz.results157]
  simp -implicitDefEqProofs [go_sem]
  refine (clone_c k h hs).mono ?_
  rintro e h' ⟨rfl, he⟩
  rw [he]
  simp -implicitDefEqProofs [go_sem]
  exact ⟨h, Sub.refl _, rfl, rfl⟩

theorem at0_c (c : Cel) (h : Heap) (hs : c.size < 100000000000) : ICall Tryz.prog 161 [.agg c.row, .list .plain []] h (retP (.tup [.agg c.row, .bool true]) h) := by
  refine icall_of_iwp (fun _ => 0) Tryz.func161 rfl (by kernel_rfl) (Nat.le_of_ble_eq_true rfl) ?_
  rw [Tryz.results161]
  simp -implicitDefEqProofs [go_sem]
  refine iwp_loop (fun s => s = _) (fun _ => 0) rfl ?_
  rintro _ rfl
  simp -implicitDefEqProofs [go_sem]
  refine (clone_c c h hs).mono ?_
  rintro e h' ⟨rfl, he⟩
  rw [he]
  simp -implicitDefEqProofs [go_sem]
  exact ⟨h, Sub.refl _, rfl, rfl⟩

theorem findLeaf_c (c : Cel) (id : Int) (h : Heap) (hk : c.kind = 1) (hid : c.id = id) : ICall Tryz.prog 213 [.agg c.row, .int .i64 id] h (retP (.tup [.list .plain [], .bool true]) h) := by
  refine icall_of_iwp (fun _ => 0) Tryz.func213 rfl (by kernel_rfl) (Nat.le_of_ble_eq_true rfl) ?_
  rw [Tryz.results213]
  simp -implicitDefEqProofs [go_sem, hk, hid]
  exact ⟨h, Sub.refl _, rfl, rfl⟩

theorem join_c (h : Heap) : ICall Tryz.prog 274 [.agg tA.row, .list .plain [], .agg tA.row, .int .u8 1, .list .plain [lA.row, lB.row]] h (retP (.agg tB.row) h) := by
  refine icall_of_iwp (fun _ => 0) Tryz.func274 rfl (by kernel_rfl) (Nat.le_of_ble_eq_true rfl) ?_
  rw [Tryz.results274]
  have hneg : ¬ ((0 : Int) ≤ -1) := by omega
  have hr : tA.r = rA := rfl
  have hrow : [IV.int .u8 2, .int .i64 rA.x, .int .i64 rA.y, .int .i64 rA.w, .int .i64 rA.h, .int .i64 0, .list .plain [lA.row, lB.row]] = tB.row := by rw [Cel.row_eq]; rfl
  have hrow2 : [IV.int .u8 2, .int .i64 0, .int .i64 0, .int .i64 80, .int .i64 24, .int .i64 0, .list .plain [lA.row, lB.row]] = tB.row := by rw [Cel.row_eq]; rfl
  simp -implicitDefEqProofs [go_sem, hr, wrm1, wrn1, hneg]
  first | rw [hrow] | rw [hrow2] | skip
  refine (put0_c tA tB h (by decide +kernel)).mono ?_
  rintro e h' ⟨rfl, he⟩
  rw [he]
  simp -implicitDefEqProofs [go_sem]
  exact ⟨h, Sub.refl _, rfl, rfl⟩
end Go.Proofs

set_option linter.unusedVariables false
set_option linter.unusedSimpArgs false
set_option pp.deepTerms false
set_option pp.maxSteps 400
namespace Go.Proofs
open Go.Idl

set_option maxRecDepth 20000 in
theorem sizeL_c (l : List Cel) (hs : Cel.sizes l < 100000000000) (ih : ∀ d ∈ l, ∀ h, ICall Tryz.prog 276 [.list .plain (d.kids.map Cel.row)] h (retP (.int .i64 (Cel.sizes d.kids)) h)) (h : Heap) :
    ICall Tryz.prog 276 [.list .plain (l.map Cel.row)] h (retP (.int .i64 (Cel.sizes l)) h) := by
  have hlen := Cel.len_le l
  refine icall_of_iwp (fun _ => 0) Tryz.func276 rfl (by kernel_rfl) (Nat.le_of_ble_eq_true rfl) ?_
  rw [Tryz.results276]
  simp -implicitDefEqProofs [go_sem]
  refine iwp_loopF (rng [3,5] 10 20) (fun k => k == 5) (fun s => ∃ i n : Nat, i ≤ l.length ∧ s.t 10 = .int .i64 i ∧ s.t 3 = .int .i64 n ∧ n + i = l.length + Cel.sizes (l.take i) ∧ s.h = h) (fun s => l.length - tn (s.t 10)) ?_ ?_
  · exact ⟨0, l.length, Nat.zero_le _, by simp -implicitDefEqProofs [go_sem], by simp -implicitDefEqProofs [go_sem], by simp [Cel.sizes], by simp -implicitDefEqProofs [go_sem]⟩
  rintro J s hJ hf ⟨i, n, hi, h10, h3, hn, hh⟩
  simp -implicitDefEqProofs [go_sem, h10, h3, hh, hf.t, hf.m]
  refine cK_dec (fun hlt => ?_) (fun hge => ?_)
  · have hg : l[i]? = some l[i] := List.getElem?_eq_getElem hlt
    have hw := wrap_succ (i := i) (by omega)
    have hst := Cel.sizes_take l i hlt
    have hle := Cel.sizes_le l (i + 1)
    have hse := l[i].size_eq
    have hw2 : IntKind.i64.wrap ((n : Int) + (Cel.sizes l[i].kids : Int)) = ((n + Cel.sizes l[i].kids : Nat) : Int) := by rw [wrap_in (by omega)]; rfl
    simp -implicitDefEqProofs [go_sem, h10, h3, hh, hf.t, hf.m, hlt, hg]
    refine (ih _ (List.getElem_mem hlt) h).mono ?_
    rintro e h' ⟨rfl, he⟩
    rw [he]
    simp -implicitDefEqProofs [go_sem, h10, h3, hh, hf.t, hf.m, hf, hlt, hg, hw, hw2]
    exact hJ _ ⟨i + 1, n + Cel.sizes l[i].kids, by omega, by simp -implicitDefEqProofs [go_sem, hw], by simp -implicitDefEqProofs [go_sem, hw2], by omega, by simp -implicitDefEqProofs [go_sem, hh]⟩ (by simp [go_sem, h10, hw]; omega)
  · obtain rfl : i = l.length := by omega
    rw [List.take_length] at hn
    obtain rfl : n = Cel.sizes l := by omega
    simp -implicitDefEqProofs [go_sem, h10, h3, hh, hf.t, hf.m]
    exact ⟨h, Sub.refl _, rfl, rfl⟩

theorem sizeK_c (c : Cel) : ∀ h, c.size < 100000000000 → ICall Tryz.prog 276 [.list .plain (c.kids.map Cel.row)] h (retP (.int .i64 (Cel.sizes c.kids)) h) := by
  induction c using Cel.induct
  rename_i c ih
  intro h hs
  rw [c.size_eq] at hs
  exact sizeL_c c.kids (by omega) (fun d hd h => ih d hd h (by have := Cel.mem_le hd; omega)) h

theorem size_c (c : Cel) (h : Heap) (hs : c.size < 100000000000) : ICall Tryz.prog 276 [.list .plain [c.row]] h (retP (.int .i64 c.size) h) := by
  have := sizeL_c [c] (by simpa [Cel.sizes] using hs) (fun d hd h => by simp at hd; subst hd; exact sizeK_c _ h hs) h
  have e : Cel.sizes [c] = c.size := by simp [Cel.sizes]
  rw [e] at this
  exact this

theorem tA_tiles : tA.tiles = true := by decide +kernel
theorem tA_ids : tA.ids = [0] := by decide +kernel
theorem wA_may : wA.may = true := by decide +kernel
set_option maxRecDepth 20000 in
set_option maxHeartbeats 4000000 in
theorem splitLeaf_c (h : Heap) : ICall Tryz.prog 228 [.agg tA.row, .int .i64 0, .int .u8 1, .int .i64 0, .int .i64 1, .bool false] h (retP (.tup [.agg tC.row, .int .i64 0]) h) := by
  refine icall_of_iwp (fun _ => 0) Tryz.func228 rfl (by kernel_rfl) (Nat.le_of_ble_eq_true rfl) ?_
  rw [Tryz.results228]
  have hr : tA.r = rA := rfl
  have hrw : rA.w = 80 := rfl
  have hrx : rA.x = 0 := rfl
  have hry : rA.y = 0 := rfl
  simp -implicitDefEqProofs [go_sem]
  refine (tTiles_c tA h (by decide +kernel)).mono ?_
  rintro e h' ⟨rfl, he⟩
  rw [he, tA_tiles]
  simp -implicitDefEqProofs [go_sem]
  refine (cLeaves_c tA h (by decide +kernel)).mono ?_
  rintro e h' ⟨rfl, he⟩
  rw [he, tA_ids]
  simp -implicitDefEqProofs [go_sem]
  refine (contains_c [0] 1 h (by simp)).mono ?_
  rintro e h' ⟨rfl, he⟩
  rw [he]
  simp -implicitDefEqProofs [go_sem]
  refine (findLeaf_c tA 0 h rfl rfl).mono ?_
  rintro e h' ⟨rfl, he⟩
  rw [he]
  simp -implicitDefEqProofs [go_sem]
  refine (at0_c tA h (by decide +kernel)).mono ?_
  rintro e h' ⟨rfl, he⟩
  rw [he]
  simp -implicitDefEqProofs [go_sem, hr]
  refine (lsize_c rA h).mono ?_
  rintro e h' ⟨rfl, he⟩
  rw [he]
  simp -implicitDefEqProofs [go_sem, hrw]
  refine iwp_drawn_alloc mixed 11 [0, 1, 2, 3, 4, 5, 6, 7, 8, 9, 10, 12] (by kernel_rfl) ?_
  simp -implicitDefEqProofs [go_sem]
  refine ⟨_, two_c h, ?_⟩
  simp -implicitDefEqProofs [go_sem]
  refine ⟨_, join_c h, ?_⟩
  simp -implicitDefEqProofs [go_sem]
  refine (size_c tB h (by decide +kernel)).mono ?_
  rintro e h' ⟨rfl, he⟩
  have hsz : tB.size = 3 := by decide +kernel
  rw [he, hsz]
  simp -implicitDefEqProofs [go_sem, hr, hrx, hry]
  refine (set_c tB 0 0 h (by decide +kernel)).mono ?_
  rintro e h' ⟨rfl, he⟩
  rw [he]
  simp -implicitDefEqProofs [go_sem]
  exact ⟨h, Sub.refl _, rfl, rfl⟩

theorem wset_c (w : Wn) (c : Cel) (b : Nat) (h : Heap) (hb : h b = some (.cells w.row)) : ICall Tryz.prog 91 [.ptr b 0, .agg c.row, .int .i64 0] h (retP (.int .i64 0) (upd h b (some (.cells (Wn.mk c w.act w.z).row)))) := by
  refine icall_of_iwp (fun _ => 0) Tryz.func91 rfl (by kernel_rfl) (Nat.le_of_ble_eq_true rfl) ?_
  rw [Tryz.results91]
  simp -implicitDefEqProofs [go_sem, hb]
  exact ⟨_, Sub.refl _, rfl, rfl⟩

set_option maxRecDepth 20000 in
set_option maxHeartbeats 4000000 in
theorem split1_c (b q1 q2 q3 q4 q5 : Nat) (h : Heap) (hbn : h b = none) (h1 : h q1 = some (.cells [.int .i64 0])) (h2 : h q2 = some (.cells [.int .u8 1])) (h3 : h q3 = some (.cells [.int .i64 0])) (h4 : h q4 = some (.cells [.int .i64 1])) (h5 : h q5 = some (.cells [.bool false])) :
    ICall Tryz.prog 227 [.ptr b 0, .ptr q1 0, .ptr q2 0, .ptr q3 0, .ptr q4 0, .ptr q5 0] (upd h b (some (.cells (Wn.mk tA 0 false).row))) (retP (.int .i64 0) (upd h b (some (.cells wB.row)))) := by
  have n1 : q1 ≠ b := by rintro rfl; rw [hbn] at h1; cases h1
  have n2 : q2 ≠ b := by rintro rfl; rw [hbn] at h2; cases h2
  have n3 : q3 ≠ b := by rintro rfl; rw [hbn] at h3; cases h3
  have n4 : q4 ≠ b := by rintro rfl; rw [hbn] at h4; cases h4
  have n5 : q5 ≠ b := by rintro rfl; rw [hbn] at h5; cases h5
  refine icall_of_iwp (fun _ => 0) Tryz.func227 rfl (by kernel_rfl) (Nat.le_of_ble_eq_true rfl) ?_
  rw [Tryz.results227]
  simp -implicitDefEqProofs [go_sem]
  refine iwp_drawn_alloc mixed 13 [0, 1, 2, 3, 4, 5, 6, 7, 8, 9, 10, 11, 12, 14, 15] (by kernel_rfl) ?_
  simp -implicitDefEqProofs [go_sem, h1, h2, h3, h4, h5, n1, n2, n3, n4, n5]
  refine ⟨_, splitLeaf_c _, ?_⟩
  simp -implicitDefEqProofs [go_sem, h1, h2, h3, h4, h5, n1, n2, n3, n4, n5]
  refine (wset_c ⟨tA, 1, false⟩ tC b _ (by simp [upd])).mono ?_
  rintro e h' ⟨rfl, he⟩
  rw [he]
  simp -implicitDefEqProofs [go_sem]
  exact ⟨_, Sub.refl _, rfl, rfl⟩
end Go.Proofs

set_option linter.unusedVariables false
set_option linter.unusedSimpArgs false
set_option pp.deepTerms false
set_option pp.maxSteps 400
namespace Go.Proofs
open Go.Idl

theorem upd_old {h : Heap} {q b : Nat} {x : IObj} (hq : h q = some x) (hb : h b = none) {o : Option IObj} : upd h b o q = some x := by
  have : q ≠ b := by rintro rfl; rw [hb] at hq; cases hq
  simp [upd, this, hq]

set_option maxRecDepth 20000 in
set_option maxHeartbeats 4000000 in
theorem split_c (h : Heap) : ICall Tryz.prog 178 [.agg wA.row, .int .i64 0, .int .u8 1, .int .i64 0, .int .i64 1, .bool false] h (retP (.tup [.agg wB.row, .int .i64 0]) h) := by
  refine icall_of_iwp (fun d => if d = 7 ∨ d = 8 ∨ d = 9 ∨ d = 10 ∨ d = 11 then 1 else 0) Tryz.func178 rfl (by kernel_rfl) (Nat.le_of_ble_eq_true rfl) ?_
  rw [Tryz.results178]
  simp -implicitDefEqProofs [go_sem]
  intro q1 e1 q2 e2 q3 e3 q4 e4 q5 e5
  have E2 : upd h q1 (some (.cells [.int .i64 0])) q2 = none := e2
  have a1 : upd h q1 (some (.cells [.int .i64 0])) q1 = some (.cells [.int .i64 0]) := by simp [upd]
  have s1 : Sub h (upd h q1 (some (.cells [.int .i64 0]))) := (Sub.refl _).upd e1 _
  have E3 : upd (upd h q1 (some (.cells [.int .i64 0]))) q2 (some (.cells [.int .u8 1])) q3 = none := e3
  have E4 : upd (upd (upd h q1 (some (.cells [.int .i64 0]))) q2 (some (.cells [.int .u8 1]))) q3 (some (.cells [.int .i64 0])) q4 = none := e4
  have E5 : upd (upd (upd (upd h q1 (some (.cells [.int .i64 0]))) q2 (some (.cells [.int .u8 1]))) q3 (some (.cells [.int .i64 0]))) q4 (some (.cells [.int .i64 1])) q5 = none := e5
  clear e2 e3 e4 e5
  generalize upd h q1 (some (.cells [.int .i64 0])) = H1 at *
  have b1 := upd_old a1 E2 (o := some (.cells [.int .u8 1]))
  have b2 : upd H1 q2 (some (.cells [.int .u8 1])) q2 = some (.cells [.int .u8 1]) := by simp [upd]
  have s2 := s1.upd' E2 (some (.cells [.int .u8 1]))
  clear a1 s1 E2
  generalize upd H1 q2 (some (.cells [.int .u8 1])) = H2 at *
  have c1 := upd_old b1 E3 (o := some (.cells [.int .i64 0]))
  have c2 := upd_old b2 E3 (o := some (.cells [.int .i64 0]))
  have c3 : upd H2 q3 (some (.cells [.int .i64 0])) q3 = some (.cells [.int .i64 0]) := by simp [upd]
  have s3 := s2.upd' E3 (some (.cells [.int .i64 0]))
  clear b1 b2 s2 E3
  generalize upd H2 q3 (some (.cells [.int .i64 0])) = H3 at *
  have d1 := upd_old c1 E4 (o := some (.cells [.int .i64 1]))
  have d2 := upd_old c2 E4 (o := some (.cells [.int .i64 1]))
  have d3 := upd_old c3 E4 (o := some (.cells [.int .i64 1]))
  have d4 : upd H3 q4 (some (.cells [.int .i64 1])) q4 = some (.cells [.int .i64 1]) := by simp [upd]
  have s4 := s3.upd' E4 (some (.cells [.int .i64 1]))
  clear c1 c2 c3 s3 E4
  generalize upd H3 q4 (some (.cells [.int .i64 1])) = H4 at *
  have f1 := upd_old d1 E5 (o := some (.cells [.bool false]))
  have f2 := upd_old d2 E5 (o := some (.cells [.bool false]))
  have f3 := upd_old d3 E5 (o := some (.cells [.bool false]))
  have f4 := upd_old d4 E5 (o := some (.cells [.bool false]))
  have f5 : upd H4 q5 (some (.cells [.bool false])) q5 = some (.cells [.bool false]) := by simp [upd]
  have s5 := s4.upd' E5 (some (.cells [.bool false]))
  clear d1 d2 d3 d4 s4 E5
  generalize upd H4 q5 (some (.cells [.bool false])) = H5 at *
  refine (changed_c wA 227 [.ptr q1 0, .ptr q2 0, .ptr q3 0, .ptr q4 0, .ptr q5 0] wB 0 H5 (by decide +kernel) (fun _ b hb => split1_c b q1 q2 q3 q4 q5 H5 hb f1 f2 f3 f4 f5)).mono ?_
  rintro e h' ⟨rfl, he⟩
  rw [he, chgV, if_pos wA_may, if_pos rfl]
  simp -implicitDefEqProofs [go_sem]
  exact ⟨h, s5, rfl, rfl⟩

theorem eqI_pn (a b : Pn) (n : Nat) : eqI Tryz.prog (n + 3) 250 (.agg a.row) (.agg b.row) = some (decide (a.id = b.id) && decide (a.r = b.r)) := by
  have := eqI_rct a.r b.r n
  simp [eqI, eqFs, prt, Tryz.underlying250, Tryz.underlying3, stood_250, aggT_3, szT_3, aggT_125, szT_125, Pn.row, Rct.row, stood_125, Tryz.underlying125, Bool.decide_and] at this ⊢
  rw [this]
  congr 1
@[go_sem high] theorem eqI_pn' (a b : Pn) : eqI Tryz.prog 10000 250 (.agg a.row) (.agg b.row) = some (decide (a.id = b.id) && decide (a.r = b.r)) := eqI_pn a b 9997

end Go.Proofs

set_option linter.unusedVariables false
set_option linter.unusedSimpArgs false
set_option pp.deepTerms false
set_option pp.maxSteps 400
namespace Go.Proofs
open Go.Idl

end Go.Proofs

set_option linter.unusedVariables false
set_option linter.unusedSimpArgs false
set_option pp.deepTerms false
set_option pp.maxSteps 400
namespace Go.Proofs
open Go.Idl

def panesL (l : List Cel) : List Pn := ((Cel.alls l).filter fun d => d.kind == 1).map Cel.pn
theorem panes_eq (c : Cel) : c.panes = (if c.kind = 1 then [c.pn] else []) ++ panesL c.kids := by
  rw [Cel.panes, Cel.leaves, c.all_eq, panesL, List.filter_cons]
  by_cases hk : c.kind = 1
  · simp [hk]
  · simp [hk]
theorem panesL_take (l : List Cel) (i : Nat) (h : i < l.length) : panesL (l.take (i + 1)) = panesL (l.take i) ++ l[i].panes := by
  rw [panesL, Cel.alls_take l i h, List.filter_append, List.map_append]; rfl
theorem panesL_len (l : List Cel) : (panesL l).length ≤ Cel.sizes l := by
  rw [panesL, List.length_map, ← Cel.alls_length]; exact List.length_filter_le _ _
theorem panes_size (c : Cel) : c.panes.length ≤ c.size := by
  rw [panes_len, ← c.all_length]; exact List.length_filter_le _ _

set_option maxRecDepth 20000 in
set_option maxHeartbeats 4000000 in
theorem list_c (c : Cel) : ∀ h, c.size < 100000000 → ICall Tryz.prog 158 [.agg c.row] h (retP (.list .plain (c.panes.map Pn.row)) h) := by
  induction c using Cel.induct
  rename_i c ih
  intro h hs
  have hlen := Cel.len_le c.kids
  rw [c.size_eq] at hs
  refine icall_of_iwp (fun _ => 0) Tryz.func158 rfl (by kernel_rfl) (Nat.le_of_ble_eq_true rfl) ?_
  rw [Tryz.results158]
  simp -implicitDefEqProofs [go_sem]
  refine cK_beq (fun hk => ?_) (fun hk => ?_)
  · obtain ⟨P0, hP0⟩ : ∃ P, P = [c.pn] := ⟨_, rfl⟩
    have hpe : c.panes = P0 ++ panesL c.kids := by rw [panes_eq, if_pos hk, hP0]
    have hP1 : P0.length ≤ 1 := by rw [hP0]; simp
    simp -implicitDefEqProofs [go_sem]
    refine aK_own (z := 5) (S := [16, 27]) Own.tight (by simp) elT_197 elZ_250 (by simp [roomy, byT_250]) (by simp [uni]) (by simp [uni, Pn.row_len, Rct.row_len]) ?_
    intro v0 x0 ho0 _
    have ho0 : Own [16, 27] x0 250 v0 (P0.map Pn.row) := by rw [hP0]; exact ho0
    obtain ⟨tk0, hv0⟩ := ho0.list
    simp -implicitDefEqProofs [go_sem]
    refine iwp_loopF (rng [3,5] 20 28) (fun k => k == 5) (fun s => ∃ i, i ≤ c.kids.length ∧ s.t 20 = .int .i64 i ∧ Own [16, 27] s.x 250 (s.t 3) ((P0 ++ panesL (c.kids.take i)).map Pn.row) ∧ s.h = h) (fun s => c.kids.length - tn (s.t 20)) ?_ ?_
    · exact ⟨0, Nat.zero_le _, by simp -implicitDefEqProofs [go_sem], by first | (simpa -implicitDefEqProofs [go_sem, panesL, Cel.alls] using ho0) | (simp -implicitDefEqProofs [go_sem, panesL, Cel.alls]; exact ho0 _), by simp -implicitDefEqProofs [go_sem]⟩
    rintro J s hJ hf ⟨i, hi, h20, ho, hh⟩
    obtain ⟨rowsI, hrowsI⟩ : ∃ r, r = (P0 ++ panesL (c.kids.take i)).map Pn.row := ⟨_, rfl⟩
    rw [← hrowsI] at ho
    have hl1 := panesL_len (c.kids.take i)
    have hrl : rowsI.length = P0.length + (panesL (c.kids.take i)).length := by rw [hrowsI, List.length_map, List.length_append]
    have hru : uni 5 rowsI = true := by rw [hrowsI]; exact Pn.rows_uni _
    obtain ⟨tk, h3⟩ := ho.list
    simp -implicitDefEqProofs [go_sem, h20, h3, hh, hf.t, hf.m]
    refine cK_dec (fun hlt => ?_) (fun hge => ?_)
    · have hg : c.kids[i]? = some c.kids[i] := List.getElem?_eq_getElem hlt
      have hw := wrap_succ (i := i) (by omega)
      have hst := Cel.sizes_take c.kids i hlt
      have hle := Cel.sizes_le c.kids (i + 1)
      have hl2 := panes_size c.kids[i]
      have htk := panesL_take c.kids i hlt
      simp -implicitDefEqProofs [go_sem, h20, h3, hh, hf.t, hf.m, hlt, hg]
      refine (ih _ (List.getElem_mem hlt) h (by omega)).mono ?_
      rintro e h' ⟨rfl, he⟩
      rw [he]
      simp -implicitDefEqProofs [go_sem, h20, h3, hh, hf.t, hf.m, hf, hw]
      refine aK_own (z := 5) (S := [16, 27]) (rows := rowsI) (by simpa -implicitDefEqProofs [go_sem, h3] using ho) (by simp) elT_197 elZ_250 (by simp only [roomy, byT_250, hrl, List.length_map]; omega) hru (Pn.rows_uni _) ?_
      intro r2 x2 ho2 _
      simp -implicitDefEqProofs [go_sem, h20, h3, hh, hf.t, hf.m, hf, hw]
      exact hJ _ ⟨i + 1, by omega, by simp -implicitDefEqProofs [go_sem, hw], by rw [htk, ← List.append_assoc, List.map_append, ← hrowsI]; exact ho2, by simp -implicitDefEqProofs [go_sem, hh]⟩ (by simp [go_sem, h20, hw]; omega)
    · obtain rfl : i = c.kids.length := by omega
      rw [List.take_length, ← hpe] at hrowsI
      simp -implicitDefEqProofs [go_sem, h20, h3, hh, hf.t, hf.m]
      exact ⟨h, Sub.refl _, by rw [hrowsI], rfl⟩
  · obtain ⟨P0, hP0⟩ : ∃ P : List Pn, P = [] := ⟨_, rfl⟩
    have hpe : c.panes = P0 ++ panesL c.kids := by rw [panes_eq, if_neg hk, hP0]
    have hP1 : P0.length ≤ 1 := by rw [hP0]; simp
    have ho0 : ∀ x, Own [16, 27] x 250 (.list .tight []) (P0.map Pn.row) := fun x => by rw [hP0]; exact Own.tight
    simp -implicitDefEqProofs [go_sem]
    refine iwp_loopF (rng [3,5] 20 28) (fun k => k == 5) (fun s => ∃ i, i ≤ c.kids.length ∧ s.t 20 = .int .i64 i ∧ Own [16, 27] s.x 250 (s.t 3) ((P0 ++ panesL (c.kids.take i)).map Pn.row) ∧ s.h = h) (fun s => c.kids.length - tn (s.t 20)) ?_ ?_
    · exact ⟨0, Nat.zero_le _, by simp -implicitDefEqProofs [go_sem], by first | (simpa -implicitDefEqProofs [go_sem, panesL, Cel.alls] using ho0) | (simp -implicitDefEqProofs [go_sem, panesL, Cel.alls]; exact ho0 _), by simp -implicitDefEqProofs [go_sem]⟩
    rintro J s hJ hf ⟨i, hi, h20, ho, hh⟩
    obtain ⟨rowsI, hrowsI⟩ : ∃ r, r = (P0 ++ panesL (c.kids.take i)).map Pn.row := ⟨_, rfl⟩
    rw [← hrowsI] at ho
    have hl1 := panesL_len (c.kids.take i)
    have hrl : rowsI.length = P0.length + (panesL (c.kids.take i)).length := by rw [hrowsI, List.length_map, List.length_append]
    have hru : uni 5 rowsI = true := by rw [hrowsI]; exact Pn.rows_uni _
    obtain ⟨tk, h3⟩ := ho.list
    simp -implicitDefEqProofs [go_sem, h20, h3, hh, hf.t, hf.m]
    refine cK_dec (fun hlt => ?_) (fun hge => ?_)
    · have hg : c.kids[i]? = some c.kids[i] := List.getElem?_eq_getElem hlt
      have hw := wrap_succ (i := i) (by omega)
      have hst := Cel.sizes_take c.kids i hlt
      have hle := Cel.sizes_le c.kids (i + 1)
      have hl2 := panes_size c.kids[i]
      have htk := panesL_take c.kids i hlt
      simp -implicitDefEqProofs [go_sem, h20, h3, hh, hf.t, hf.m, hlt, hg]
      refine (ih _ (List.getElem_mem hlt) h (by omega)).mono ?_
      rintro e h' ⟨rfl, he⟩
      rw [he]
      simp -implicitDefEqProofs [go_sem, h20, h3, hh, hf.t, hf.m, hf, hw]
      refine aK_own (z := 5) (S := [16, 27]) (rows := rowsI) (by simpa -implicitDefEqProofs [go_sem, h3] using ho) (by simp) elT_197 elZ_250 (by simp only [roomy, byT_250, hrl, List.length_map]; omega) hru (Pn.rows_uni _) ?_
      intro r2 x2 ho2 _
      simp -implicitDefEqProofs [go_sem, h20, h3, hh, hf.t, hf.m, hf, hw]
      exact hJ _ ⟨i + 1, by omega, by simp -implicitDefEqProofs [go_sem, hw], by rw [htk, ← List.append_assoc, List.map_append, ← hrowsI]; exact ho2, by simp -implicitDefEqProofs [go_sem, hh]⟩ (by simp [go_sem, h20, hw]; omega)
    · obtain rfl : i = c.kids.length := by omega
      rw [List.take_length, ← hpe] at hrowsI
      simp -implicitDefEqProofs [go_sem, h20, h3, hh, hf.t, hf.m]
      exact ⟨h, Sub.refl _, by rw [hrowsI], rfl⟩
end Go.Proofs

set_option linter.unusedVariables false
set_option linter.unusedSimpArgs false
set_option pp.deepTerms false
set_option pp.maxSteps 400
namespace Go.Proofs
open Go.Idl

@[go_sem high] theorem Wn.rows_uni (l : List Wn) : uni 9 (l.map Wn.row) = true := by simp [uni, Wn.row_len]

def Wn.shown (w : Wn) : List Pn := if w.may = true then (if w.z = true then [⟨w.act, w.tree.r⟩] else w.tree.panes) else []

set_option maxRecDepth 20000 in
theorem shown_c (w : Wn) (h : Heap) (hs : w.tree.size < 100000000) : ICall Tryz.prog 95 [.agg w.row] h (retP (.list .plain (w.shown.map Pn.row)) h) := by
  refine icall_of_iwp (fun _ => 0) Tryz.func95 rfl (by kernel_rfl) (Nat.le_of_ble_eq_true rfl) ?_
  rw [Tryz.results95]
  simp -implicitDefEqProofs [go_sem]
  refine (wmay_c w h hs).mono ?_
  rintro e h' ⟨rfl, he⟩
  rw [he]
  cases hm : w.may with
  | false =>
    simp -implicitDefEqProofs [go_sem]
    exact ⟨h, Sub.refl _, by rw [Wn.shown, if_neg (by rw [hm]; simp)]; rfl, rfl⟩
  | true =>
    cases hz : w.z with
    | true =>
      simp -implicitDefEqProofs [go_sem, hz]
      exact ⟨h, Sub.refl _, by rw [Wn.shown, if_pos hm, if_pos hz]; rfl, rfl⟩
    | false =>
      simp -implicitDefEqProofs [go_sem, hz]
      refine (list_c w.tree h hs).mono ?_
      rintro e h' ⟨rfl, he⟩
      rw [he]
      simp -implicitDefEqProofs [go_sem]
      exact ⟨h, Sub.refl _, by rw [Wn.shown, if_pos hm, if_neg (by rw [hz]; simp)], rfl⟩
end Go.Proofs

set_option linter.unusedVariables false
set_option linter.unusedSimpArgs false
set_option pp.deepTerms false
set_option pp.maxSteps 400
namespace Go.Proofs
open Go.Idl

end Go.Proofs

set_option linter.unusedVariables false
set_option linter.unusedSimpArgs false
set_option pp.deepTerms false
set_option pp.maxSteps 400
namespace Go.Proofs
open Go.Idl

end Go.Proofs

set_option linter.unusedVariables false
set_option linter.unusedSimpArgs false
set_option pp.deepTerms false
set_option pp.maxSteps 400
namespace Go.Proofs
open Go.Idl

end Go.Proofs

set_option linter.unusedVariables false
set_option linter.unusedSimpArgs false
set_option pp.deepTerms false
set_option pp.maxSteps 400
namespace Go.Proofs
open Go.Idl

def Cel.zero : Cel := .mk 0 ⟨0, 0, 0, 0⟩ 0 []
theorem Cel.zero_row : Cel.zero.row = [.int .u8 0, .int .i64 0, .int .i64 0, .int .i64 0, .int .i64 0, .int .i64 0, .list .plain []] := by rw [Cel.row_eq]; rfl
end Go.Proofs

set_option linter.unusedVariables false
set_option linter.unusedSimpArgs false
set_option pp.deepTerms false
set_option pp.maxSteps 400
namespace Go.Proofs
open Go.Idl

/-! what tiles: the leaves' rectangles and the lines part the whole -/
def Rct.apart (a b : Rct) : Prop := a.x + a.w ≤ b.x ∨ b.x + b.w ≤ a.x ∨ a.y + a.h ≤ b.y ∨ b.y + b.h ≤ a.y
def Rct.inside (o r : Rct) : Prop := o.x ≤ r.x ∧ o.y ≤ r.y ∧ r.x + r.w ≤ o.x + o.w ∧ r.y + r.h ≤ o.y + o.h
def areaL (l : List Rct) : Int := (l.map fun r => r.w * r.h).sum
structure Til (r : Rct) (l : List Rct) : Prop where
  pos : ∀ s ∈ l, 0 < s.w ∧ 0 < s.h ∧ r.inside s
  pw : l.Pairwise Rct.apart
  ar : areaL l = r.w * r.h

theorem Rct.apart_symm {a b : Rct} (h : a.apart b) : b.apart a := by unfold Rct.apart at *; omega
theorem areaL_perm {l m : List Rct} (h : l.Perm m) : areaL l = areaL m := by
  unfold areaL
  induction h with
  | nil => rfl
  | cons x _ ih => simp [ih]
  | swap x y l => simp; omega
  | trans _ _ h1 h2 => exact h1.trans h2
theorem Til.perm {r : Rct} {l m : List Rct} (h : Til r l) (hp : l.Perm m) : Til r m :=
  ⟨fun s hs => h.pos s (hp.mem_iff.2 hs), (hp.pairwise_iff (fun h => Rct.apart_symm h)).1 h.pw, by rw [← areaL_perm hp]; exact h.ar⟩

/-! a cut -/
def dimO (a1 : Bool) (r : Rct) : Int := if a1 = true then r.h else r.w
structure CutI (a1 : Bool) (r : Rct) (off : Int) (ps ls : List Rct) : Prop where
  o0 : 0 ≤ off
  pos : ∀ s ∈ ps ++ ls, 0 < s.w ∧ 0 < s.h ∧ (cutP a1 r 0 off).inside s
  pw : (ps ++ ls).Pairwise Rct.apart
  ar : areaL (ps ++ ls) = off * dimO a1 r

theorem cutP_inside (a1 : Bool) (r : Rct) {o n : Int} (h0 : 0 ≤ o) {m : Int} (hm : o + n ≤ m) : (cutP a1 r 0 m).inside (cutP a1 r o n) := by
  unfold cutP Rct.inside; cases a1 <;> simp <;> omega
theorem cutP_mono (a1 : Bool) (r : Rct) {m m' : Int} (h : m ≤ m') {s : Rct} (hs : (cutP a1 r 0 m).inside s) : (cutP a1 r 0 m').inside s := by
  unfold cutP Rct.inside at *; cases a1 <;> simp at * <;> omega
theorem cutP_apart (a1 : Bool) (r : Rct) {m o n : Int} (h : m ≤ o) {s : Rct} (hs : (cutP a1 r 0 m).inside s) : s.apart (cutP a1 r o n) := by
  unfold cutP Rct.inside Rct.apart at *; cases a1 <;> simp at * <;> omega
theorem cutP_area (a1 : Bool) (r : Rct) (o n : Int) : (cutP a1 r o n).w * (cutP a1 r o n).h = n * dimO a1 r := by
  unfold cutP dimO; cases a1 <;> simp [Int.mul_comm]
theorem cutP_pos (a1 : Bool) (r : Rct) (hw : 0 < r.w) (hh : 0 < r.h) {o n : Int} (hn : 0 < n) : 0 < (cutP a1 r o n).w ∧ 0 < (cutP a1 r o n).h := by
  unfold cutP; cases a1 <;> simp <;> omega

/-- one more rectangle at the end -/
theorem CutI.add (a1 : Bool) (r : Rct) (hw : 0 < r.w) (hh : 0 < r.h) {m : Int} {l : List Rct} {o n : Int} (h0 : 0 ≤ m) (hmo : m = o) (hn : 0 < n)
    (pos : ∀ s ∈ l, 0 < s.w ∧ 0 < s.h ∧ (cutP a1 r 0 m).inside s) (pw : l.Pairwise Rct.apart) (ar : areaL l = m * dimO a1 r) :
    (∀ s ∈ cutP a1 r o n :: l, 0 < s.w ∧ 0 < s.h ∧ (cutP a1 r 0 (o + n)).inside s) ∧ (cutP a1 r o n :: l).Pairwise Rct.apart ∧ areaL (cutP a1 r o n :: l) = (o + n) * dimO a1 r := by
  subst hmo
  have hp := cutP_pos a1 r hw hh (o := m) hn
  refine ⟨fun s hs => ?_, ?_, ?_⟩
  · rcases List.mem_cons.1 hs with rfl | hs
    · exact ⟨hp.1, hp.2, cutP_inside a1 r h0 (Int.le_refl _)⟩
    · have := pos s hs
      exact ⟨this.1, this.2.1, cutP_mono a1 r (by omega) this.2.2⟩
  · rw [List.pairwise_cons]
    exact ⟨fun s hs => Rct.apart_symm (cutP_apart a1 r (Int.le_refl _) (pos s hs).2.2), pw⟩
  · have : areaL (cutP a1 r m n :: l) = (cutP a1 r m n).w * (cutP a1 r m n).h + areaL l := by simp [areaL]
    rw [this, cutP_area, ar, Int.add_mul]; omega

theorem CutI.step (a1 : Bool) (r : Rct) (hw : 0 < r.w) (hh : 0 < r.h) {off : Int} {ps ls : List Rct} {n : Int} (h : CutI a1 r off ps ls) (hn : 1 ≤ n) :
    CutI a1 r (cutO off ps + n) (ps ++ [cutP a1 r (cutO off ps) n]) (cutL a1 r off ps ls) := by
  have h0 := h.o0
  have ho : off ≤ cutO off ps := by unfold cutO; split <;> omega
  -- what stands, with the line
  have key : (∀ s ∈ ps ++ cutL a1 r off ps ls, 0 < s.w ∧ 0 < s.h ∧ (cutP a1 r 0 (cutO off ps)).inside s) ∧ (ps ++ cutL a1 r off ps ls).Pairwise Rct.apart ∧ areaL (ps ++ cutL a1 r off ps ls) = cutO off ps * dimO a1 r := by
    cases ps with
    | nil => exact ⟨h.pos, h.pw, h.ar⟩
    | cons p ps =>
      obtain ⟨k1, k2, k3⟩ := CutI.add a1 r hw hh (o := off) (n := 1) h0 rfl (by omega) h.pos h.pw h.ar
      have hp : (cutP a1 r off 1 :: ((p :: ps) ++ ls)).Perm ((p :: ps) ++ (ls ++ [cutP a1 r off 1])) := by
        rw [← List.append_assoc]; exact (List.perm_append_comm (l₁ := [cutP a1 r off 1]))
      refine ⟨fun s hs => k1 s (hp.mem_iff.2 hs), (hp.pairwise_iff (fun h => Rct.apart_symm h)).1 k2, ?_⟩
      have e := areaL_perm hp
      exact e.symm.trans k3
  obtain ⟨k1, k2, k3⟩ := key
  obtain ⟨m1, m2, m3⟩ := CutI.add a1 r hw hh (o := cutO off ps) (n := n) (by omega) rfl (by omega) k1 k2 k3
  have hp : (cutP a1 r (cutO off ps) n :: (ps ++ cutL a1 r off ps ls)).Perm ((ps ++ [cutP a1 r (cutO off ps) n]) ++ cutL a1 r off ps ls) := by
    rw [List.append_assoc]; exact (List.perm_middle (l₁ := ps) (a := cutP a1 r (cutO off ps) n)).symm
  exact ⟨by omega, fun s hs => m1 s (hp.mem_iff.2 hs), (hp.pairwise_iff (fun h => Rct.apart_symm h)).1 m2, by rw [← areaL_perm hp]; exact m3⟩

/-! a tree -/
def lnsL (l : List Cel) : List Rct := (l.map fun d => d.one.getD []).flatten
theorem fold_lns : ∀ (l : List Cel) (acc ls : List Rct), l.foldlM oneStep acc = some ls → ls = acc ++ lnsL l ∧ ∀ d ∈ l, d.one.isSome = true := by
  intro l
  induction l with
  | nil => intro acc ls h; simp at h; subst h; exact ⟨by simp [lnsL], fun d hd => nomatch hd⟩
  | cons d l ih =>
    intro acc ls h
    rw [List.foldlM_cons] at h
    cases ho : d.one with
    | none => rw [oneStep, ho] at h; cases h
    | some l1 =>
      rw [oneStep, ho] at h
      obtain ⟨h1, h2⟩ := ih _ _ h
      refine ⟨by rw [h1]; simp [lnsL, ho], fun x hx => ?_⟩
      rcases List.mem_cons.1 hx with rfl | hx
      · rw [ho]; rfl
      · exact h2 x hx

theorem Til.may {r : Rct} {l : List Rct} (h : Til r l) (hr : r.may = true) {s : Rct} (hs : s ∈ l) : s.may = true := by
  obtain ⟨h1, h2, h3⟩ := h.pos s hs
  rw [Rct.may, decide_eq_true_eq] at hr ⊢
  unfold Rct.inside at h3
  omega
end Go.Proofs

set_option linter.unusedVariables false
set_option linter.unusedSimpArgs false
namespace Go.Proofs
open Go.Idl

/-! a tree that tiles, node by node -/
def Cel.fine (c : Cel) : Prop := ∀ d ∈ c.all, d.Ok ∧ d.one.isSome = true
theorem mem_alls_of {d k : Cel} : ∀ {l : List Cel}, k ∈ l → d ∈ k.all → d ∈ Cel.alls l
  | c :: cs, h, hd => by
    rw [Cel.alls]
    rcases List.mem_cons.1 h with rfl | h
    · exact List.mem_append_left _ hd
    · exact List.mem_append_right _ (mem_alls_of h hd)
theorem fine_iff (c : Cel) : c.fine ↔ c.Ok ∧ c.one.isSome = true ∧ ∀ k ∈ c.kids, k.fine := by
  unfold Cel.fine
  constructor
  · intro h
    rw [c.all_eq] at h
    exact ⟨(h c List.mem_cons_self).1, (h c List.mem_cons_self).2, fun k hk d hd => h d (List.mem_cons_of_mem _ (mem_alls_of hk hd))⟩
  · rintro ⟨h1, h2, h3⟩ d hd
    rw [c.all_eq] at hd
    rcases List.mem_cons.1 hd with rfl | hd
    · exact ⟨h1, h2⟩
    · obtain ⟨k, hk, hd⟩ := mem_alls hd
      exact h3 k hk d hd
theorem fold_some : ∀ (l : List Cel) (acc : List Rct), (∀ d ∈ l, d.one.isSome = true) → (l.foldlM oneStep acc).isSome = true
  | [], acc, _ => rfl
  | d :: l, acc, h => by
    obtain ⟨x, hx⟩ := Option.isSome_iff_exists.1 (h d List.mem_cons_self)
    rw [List.foldlM_cons, oneStep, hx]
    exact fold_some l _ fun y hy => h y (List.mem_cons_of_mem _ hy)
theorem tiles_iff (c : Cel) : c.tiles = true ↔ c.size ≤ 20000 ∧ c.fine ∧ c.ids.Nodup := by
  rw [tiles_fold, Bool.and_eq_true, Cel.may, decide_eq_true_eq]
  constructor
  · rintro ⟨⟨h1, h2, h3⟩, h4⟩
    obtain ⟨ls, hls⟩ := Option.isSome_iff_exists.1 h4
    obtain ⟨_, h5⟩ := fold_lns _ _ _ hls
    exact ⟨h1, fun d hd => ⟨h2 d hd, h5 d hd⟩, h3⟩
  · rintro ⟨h1, h2, h3⟩
    exact ⟨⟨h1, fun d hd => (h2 d hd).1, h3⟩, fold_some _ _ fun d hd => (h2 d hd).2⟩
/-! the parts of a cut -/
theorem fine_leaf {r : Rct} {id : Int} (hr : r.may = true) (h0 : 0 ≤ id) (h1 : id ≤ 2147483647) : (Cel.mk 1 r id []).fine := by
  rw [fine_iff]
  refine ⟨⟨hr, .inl ⟨rfl, rfl, h0, h1⟩⟩, ?_, fun k hk => nomatch hk⟩
  rw [Cel.one, if_pos (show (Cel.mk 1 r id []).kind = 1 from rfl)]; rfl
end Go.Proofs

set_option linter.unusedVariables false
set_option linter.unusedSimpArgs false
namespace Go.Proofs
open Go.Idl Go.ChangeShapes Go.WideShapes Go.ChangeAt Go.RowKit
open Go.Proofs.YtejjnaibgimiaaaGreatDoor.Rows (uptoBulk uptoBulkAll)

/-- all old memory stands -/
def oldF (W : World) : Nat → Nat → Prop := fun b _ => b < W.heap.size

theorem cell_lt {W : World} {a : Addr} {v : Value} (h : W.cell? a = some v) : a.block < W.heap.size := by
  unfold World.cell? at h
  split at h
  · rename_i h1; exact (Array.getElem?_eq_some_iff.1 h1).1
  · cases h
theorem kept {W W' : World} {F' X'} (hk : Keep (oldF W) (fun _ => False) W F' X' W') : W.keptBut W' (fun _ => False) := by
  refine ⟨hk.os, hk.out, fun i hi => ?_⟩
  rw [hk.ub i hi (fun h => h)]
  cases hb : W.heap[i]? with
  | none => rfl
  | some o => cases o <;> simp

section
variable {H : Type} {enc : TypeId × Value → H} {W : World}

end
end Go.Proofs
