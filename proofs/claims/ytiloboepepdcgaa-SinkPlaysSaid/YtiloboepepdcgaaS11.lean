/- This text is a part of the proofs of the statements of this seat: the ideal states and their rules, or what one of the functions that the statements reach comes to. Conditions: none beyond those that each theorem names. -/
import Derived.Test.YtiloboepepdcgaaS10
set_option linter.unusedVariables false
set_option linter.unusedSimpArgs false
set_option pp.deepTerms false
set_option pp.maxSteps 400
namespace Go.Proofs
open Go.Idl
open Go.Sort (swp ltInt PermIn)

def brkR (d : Array Int) (a b bk cap : Nat) (h : Heap) (e : IEnd) (h' : Heap) : Prop := ∃ d' : Array Int, PermIn a b d d' ∧ retP (.tup []) (SH h bk cap d') e h'

set_option maxRecDepth 20000 in
set_option maxHeartbeats 8000000 in
theorem breakPatterns_c (d : Array Int) (a b bk cap : Nat) (h : Heap) (hab : a < b) (hb : b ≤ d.size) (hs : d.size < 10000000000) :
    ICall Try.prog 114 [.sl 1 bk 0 d.size cap, .int .i64 a, .int .i64 b] (SH h bk cap d) (brkR d a b bk cap h) := by
  obtain ⟨n, hn⟩ : ∃ n, n = d.size := ⟨_, rfl⟩
  obtain ⟨l, hl⟩ : ∃ x, x = b - a := ⟨_, rfl⟩
  obtain ⟨q4, hq4⟩ : ∃ x, x = l / 4 := ⟨_, rfl⟩
  have hw1 : IntKind.i64.wrap ((b : Int) - (a : Int)) = (l : Int) := by rw [wrap_in (by omega)]; omega
  refine icall_of_iwp (fun d => if d = 7 then 1 else 0) Try.func114 rfl (by kernel_rfl) (Nat.le_of_ble_eq_true rfl) ?_
  rw [Try.results114]
  simp -implicitDefEqProofs [go_sem, hw1]
  refine cK_dec (fun h8 => ?_) (fun h8 => ?_)
  · obtain ⟨lo, hlo⟩ : ∃ x, x = a + q4 * 2 - 1 := ⟨_, rfl⟩
    obtain ⟨hi, hhi⟩ : ∃ x, x = a + q4 * 2 + 1 := ⟨_, rfl⟩
    have hw2 : ((l : Int)).tdiv 4 = (q4 : Int) := by rw [Int.tdiv_eq_ediv_of_nonneg (by omega)]; omega
    have hw2' : ((l : Int)) / 4 = (q4 : Int) := by omega
    have hw3 : IntKind.i64.wrap (q4 : Int) = (q4 : Int) := wrap_in (by omega)
    have hw6 : IntKind.i64.wrap ((q4 : Int) * 2) = (q4 : Int) * 2 := wrap_in (by omega)
    have hw7 : IntKind.i64.wrap ((a : Int) + (q4 : Int) * 2) = (a : Int) + (q4 : Int) * 2 := wrap_in (by omega)
    have hw8 : IntKind.i64.wrap ((a : Int) + (q4 : Int) * 2 - 1) = (lo : Int) := by rw [wrap_in (by omega)]; omega
    have hw9 : IntKind.i64.wrap ((a : Int) + (q4 : Int) * 2 + 1) = (hi : Int) := by rw [wrap_in (by omega)]; omega
    have hwu : IntKind.u64.wrap (l : Int) = (l : Int) := Go.IntWalk.u64_in _ (by omega)
    simp -implicitDefEqProofs [go_sem, hwu]
    intro q hq
    have hne : bk ≠ q := by rintro rfl; rw [SH_at] at hq; cases hq
    refine (pow_c l _ (by omega) (by omega)).mono ?_
    rintro e h' ⟨M, ⟨rfl, he⟩, hM1, hM2⟩
    rw [he]
    simp -implicitDefEqProofs [go_sem, hw2, hw2', hw3, hw6, hw7, hw8]
    refine iwp_loopF (rng [9,10] 26 65) nom (fun s => ∃ (idx : Nat) (d1 : Array Int) (r : Int), lo ≤ idx ∧ idx ≤ hi + 1 ∧ PermIn a b d d1 ∧ s.t 9 = .int .i64 idx ∧ s.h = upd (SH h bk cap d1) q (some (.cells [.int .u64 r]))) (fun s => hi + 1 - tn (s.t 9)) ?_ ?_
    · exact ⟨lo, d, (l : Int), by omega, by omega, Go.Sort.permIn_refl d a b, by simp -implicitDefEqProofs [go_sem, hw8], by simp -implicitDefEqProofs [go_sem]; first | rfl | exact upd_upd2 _ _ _ _⟩
    rintro J s1 hJ hf1 ⟨idx, d1, r, hi1, hi2, hP, h9, hh⟩
    have hd1 : d1.size = n := by rw [hP.1, hn]
    simp -implicitDefEqProofs [go_sem, h9, hh, hf1.t, hf1.m, hw2, hw2', hw3, hw6, hw7, hw9]
    refine cK_dec (fun hle => ?_) (fun hle => ?_)
    · simp -implicitDefEqProofs [go_sem, h9, hh, hf1.t, hf1.m]
      refine (next_c r q _ (by simp [upd])).mono ?_
      rintro e h' ⟨r', rfl, he⟩
      rw [upd_upd2] at he
      rw [he]
      obtain ⟨m1, hm1⟩ : ∃ x, x = M - 1 := ⟨_, rfl⟩
      have hwm : IntKind.u64.wrap ((M : Int) - 1) = (m1 : Int) := by rw [show (M : Int) - 1 = ((m1 : Nat) : Int) by omega]; exact Go.IntWalk.u64_in _ (by omega)
      obtain ⟨o, ho, hole⟩ := and_le r' m1 (by omega)
      rw [BitVec.ofInt_natCast] at ho
      have hwo : IntKind.i64.wrap (o : Int) = (o : Int) := wrap_in (by omega)
      obtain ⟨o2, ho2⟩ : ∃ x, x = if l ≤ o then o - l else o := ⟨_, rfl⟩
      have ho2b : o2 < l := by rw [ho2]; split <;> omega
      have hw := wrap_succ (i := idx) (by omega)
      simp -implicitDefEqProofs [go_sem, h9, hh, hf1.t, hf1.m, hwm, ho, hwo]
      erw [ho]
      rw [hwo]
      refine ifE (rng [10] 44 47) nom (fun s => s.t 10 = .int .i64 o2 ∧ s.h = upd (SH h bk cap d1) q (some (.cells [.int .u64 r']))) ?_ ?_
      · intro Q3 hE3
        refine cK_dec (fun hc2 => ?_) (fun hc2 => ?_)
        · have e : o2 = o - l := by rw [ho2, if_pos (by omega)]
          have hwol : IntKind.i64.wrap ((o : Int) - (l : Int)) = (o2 : Int) := by rw [wrap_in (by omega)]; omega
          simp -implicitDefEqProofs [go_sem, h9, hh, hf1.t, hf1.m, hwol]
          exact hE3 _ (by simp -implicitDefEqProofs [go_sem]) ⟨by simp -implicitDefEqProofs [go_sem, hwol], by simp -implicitDefEqProofs [go_sem]⟩
        · have e : o2 = o := by rw [ho2, if_neg (by omega)]
          simp -implicitDefEqProofs [go_sem]
          exact hE3 _ (by simp -implicitDefEqProofs [go_sem]) ⟨by simp -implicitDefEqProofs [go_sem, e], by simp -implicitDefEqProofs [go_sem]⟩
      rintro s2 hf2 ⟨h10, hh2⟩
      have hfa := Fr.trans2 hf1 hf2 (by simp -implicitDefEqProofs [go_sem]) (rng_sub (by decide)) nom_sub
      obtain ⟨ao, hao⟩ : ∃ x, x = a + o2 := ⟨_, rfl⟩
      have hwao : IntKind.i64.wrap ((a : Int) + (o2 : Int)) = (ao : Int) := by rw [wrap_in (by omega)]; omega
      have hgi := rowsD_get (d := d1) (i := idx) (by omega)
      have hli : idx < d.size := by omega
      have hga := rowsD_get (d := d1) (i := ao) (by omega)
      have hla : ao < d.size := by omega
      obtain ⟨r3, hr3⟩ := rowsD_get2 (d := d1) (i := idx) (j := ao) (by omega) d1[ao]!
      have h92 : s2.t 9 = .int .i64 idx := by rw [hf2.t 9 rfl]; simp -implicitDefEqProofs [go_sem, h9]
      simp -implicitDefEqProofs [go_sem, h92, h10, hh2, hf2.t, hf2.m, hf1.t, hf1.m]
      refine iwp_drawn_of mixed [0,1,2,3,4,5,6,7,8,9,10,11,12,13,14,15,16,17,18,19] (by kernel_rfl) ?_
      simp -implicitDefEqProofs [go_sem, h92, h10, hh2, hf2.t, hf2.m, hf1.t, hf1.m, hwao, hgi, hli, hga, hla, hr3, SH_at, hne, hw, hfa]
      refine hJ _ ⟨idx + 1, swp d1 idx ao, r', by omega, by omega, ?_, by simp -implicitDefEqProofs [go_sem, hw], ?_⟩ (by simp [go_sem, h9, hw]; omega)
      · exact Go.Sort.permIn_trans _ _ _ _ _ hP (Go.Sort.swp_permIn _ _ _ _ _ (by omega) (by omega) (by omega) (by omega) (by omega))
      · simp -implicitDefEqProofs [go_sem, hh2]
        rw [rowsD_swp]
        funext j
        simp only [SH, upd]
        by_cases e1 : j = bk
        · subst e1; simp [hne]
        · simp [e1]
    · simp -implicitDefEqProofs [go_sem, h9, hh, hf1.t, hf1.m]
      refine ⟨SH h bk cap d1, ?_, d1, hP, rfl, rfl⟩
      intro j o hj
      have : j ≠ q := by
        rintro rfl
        have e2 := SH_at h bk cap d
        simp only [SH, upd] at hj hq
        rw [if_neg (fun e => hne e.symm)] at hj hq
        rw [hq] at hj; cases hj
      simp [upd, this, hj]
  · simp -implicitDefEqProofs [go_sem]
    exact ⟨_, Sub.refl _, d, Go.Sort.permIn_refl d a b, rfl, rfl⟩
end Go.Proofs
