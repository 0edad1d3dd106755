/- This text is a part of the proofs of the statements of this seat: the ideal states and their rules, or what one of the functions that the statements reach comes to. Conditions: none beyond those that each theorem names. -/
import Derived.Test.YtiloboepepdcgaaS4
set_option linter.unusedVariables false
set_option linter.unusedSimpArgs false
set_option pp.deepTerms false
set_option pp.maxSteps 400
namespace Go.Proofs
open Go.Idl
open Go.Sort (swp ltInt scanUp scanDown partEqLoop partitionEqual)

theorem partEqLoop_stop {a i j i2 j2 : Nat} {d : Array Int} (h1 : i2 = scanUp (fun x => !ltInt d[a]! x) d j i) (h2 : j2 = scanDown (fun x => ltInt d[a]! x) d i2 j) (h : i2 > j2) : partEqLoop ltInt a i j d = (i2, d) := by
  subst h1; subst h2; rw [partEqLoop]; exact if_pos h
theorem partEqLoop_go {a i j i2 j2 : Nat} {d : Array Int} (h1 : i2 = scanUp (fun x => !ltInt d[a]! x) d j i) (h2 : j2 = scanDown (fun x => ltInt d[a]! x) d i2 j) (h : ¬ i2 > j2) (hg : (j2 - 1) + 1 - (i2 + 1) < j + 1 - i) :
    partEqLoop ltInt a i j d = partEqLoop ltInt a (i2 + 1) (j2 - 1) (swp d i2 j2) := by
  subst h1; subst h2; rw [partEqLoop]; exact (if_neg h).trans (dif_pos hg)

set_option maxRecDepth 20000 in
set_option maxHeartbeats 8000000 in
theorem partitionEqual_c (d : Array Int) (a b pv bk cap : Nat) (h : Heap) (hap : a ≤ pv) (hpb : pv < b) (hb : b ≤ d.size) (hs : d.size < 10000000000) :
    ICall Try.prog 119 [.sl 1 bk 0 d.size cap, .int .i64 a, .int .i64 b, .int .i64 pv] (SH h bk cap d)
      (retP (.int .i64 (partitionEqual ltInt d a b pv).1) (SH h bk cap (partitionEqual ltInt d a b pv).2)) := by
  obtain ⟨n, hn⟩ : ∃ n, n = d.size := ⟨_, rfl⟩
  rw [← hn] at hb hs ⊢
  refine icall_of_iwp (fun _ => 0) Try.func119 rfl (by kernel_rfl) (Nat.le_of_ble_eq_true rfl) ?_
  rw [Try.results119]
  obtain ⟨d0, hd0⟩ : ∃ x, x = swp d a pv := ⟨_, rfl⟩
  have hs0 : d0.size = n := by rw [hd0, swp_size, hn]
  obtain ⟨p, hp⟩ : ∃ x, x = b - 1 := ⟨_, rfl⟩
  have hwa := wrap_succ (i := a) (by omega)
  have hw1 : IntKind.i64.wrap ((b : Int) - 1) = (p : Int) := by rw [wrap_in (by omega)]; omega
  obtain ⟨R, hR⟩ : ∃ x, x = partEqLoop ltInt a (a + 1) p d0 := ⟨_, rfl⟩
  have hpart : partitionEqual ltInt d a b pv = R := by rw [hR, partitionEqual, ← hd0, ← hp]
  have hga := rowsD_get (d := d) (i := a) (by omega)
  have hgp := rowsD_get (d := d) (i := pv) (by omega)
  have hla : a < n := by omega
  have hlp : pv < n := by omega
  obtain ⟨r2, hr2⟩ := rowsD_get2 (d := d) (i := a) (j := pv) (by omega) d[pv]!
  simp -implicitDefEqProofs [go_sem]
  refine iwp_drawn_of mixed [0,1,2,3,4,5,6,7,8,9,10,11,12,13,14,15] (by kernel_rfl) ?_
  simp -implicitDefEqProofs [go_sem, hga, hgp, hla, hlp, hr2, SH_at, hwa, hw1]
  refine iwp_loopE 0 (rng [9,10] 29 83) nom (fun s => ∃ (i j : Nat) (d1 : Array Int), a + 1 ≤ i ∧ i ≤ b ∧ j < b ∧ d1.size = n ∧ s.t 9 = .int .i64 i ∧ s.t 10 = .int .i64 j ∧ partEqLoop ltInt a i j d1 = R ∧ s.h = SH h bk cap d1) (fun s => s.t 9 = .int .i64 R.1 ∧ R.2.size = n ∧ s.h = SH h bk cap R.2) (fun s => tn (s.t 10) + 1 - tn (s.t 9)) ?_ ?_ ?_
  · exact ⟨a + 1, p, d0, by omega, by omega, by omega, hs0, by simp -implicitDefEqProofs [go_sem, hwa], by simp -implicitDefEqProofs [go_sem, hw1], by rw [hR], by simp -implicitDefEqProofs [go_sem]; rw [hd0]; exact SH_swp _ _ _ _ _ _ _⟩
  · rintro Q3 J3 s3 hE3 hJ3 hf3 ⟨i0, j0, d1, hi01, hi02, hj01, hd1, h10, h11, hfin3, hh3⟩
    obtain ⟨i2, hi2d⟩ : ∃ x, x = scanUp (fun x => !ltInt d1[a]! x) d1 j0 i0 := ⟨_, rfl⟩
    obtain ⟨j2, hj2d⟩ : ∃ x, x = scanDown (fun x => ltInt d1[a]! x) d1 i2 j0 := ⟨_, rfl⟩
    have hga0 := rowsD_get (d := d1) (i := a) (by omega)
    simp -implicitDefEqProofs [go_sem, h10, h11, hh3, hf3.t, hf3.m]
    refine iwp_loopE 2 (rng [9] 29 46) nom (fun s => ∃ i : Nat, a + 1 ≤ i ∧ i ≤ b ∧ s.t 9 = .int .i64 i ∧ scanUp (fun x => !ltInt d1[a]! x) d1 j0 i = i2 ∧ s.h = SH h bk cap d1) (fun s => s.t 9 = .int .i64 i2 ∧ a + 1 ≤ i2 ∧ i2 ≤ b ∧ s.h = SH h bk cap d1) (fun s => b - tn (s.t 9)) ?_ ?_ ?_
    · exact ⟨i0, by omega, by omega, by simp -implicitDefEqProofs [go_sem, h10], hi2d.symm, by simp -implicitDefEqProofs [go_sem, hh3]⟩
    · rintro Q2 J s4 hE hJ hf4 ⟨i, hi1, hi2, hx10, hfin, hh⟩
      simp -implicitDefEqProofs [go_sem, hx10, hh, hf3.t, hf3.m, hf4.t, hf4.m, h11]
      refine iwp_drawn_of mixed [0,1,2,3,4,5,6,7,8,9,10,11,12,13,14] (by kernel_rfl) ?_
      simp -implicitDefEqProofs [go_sem, hx10, hh, hf3.t, hf3.m, hf4.t, hf4.m, h11]
      refine cK_dec (fun hle => ?_) (fun hle => ?_)
      · have hgi := rowsD_get (d := d1) (i := i) (by omega)
        have hli : i < n := by omega
        have hw := wrap_succ (i := i) (by omega)
        simp -implicitDefEqProofs [go_sem, hx10, hh, hf3.t, hf3.m, hf4.t, hf4.m, h11, hle, hgi, hli, hla, hga0, SH_at]
        refine ⟨_, less_c _ _ _, ?_⟩
        simp -implicitDefEqProofs [go_sem, hx10, hh, hf3.t, hf3.m, hf4.t, hf4.m, h11, hle]
        refine cK_any (fun k1 => ?_) (fun k1 => ?_)
        · simp -implicitDefEqProofs [go_sem, hx10, hh, hf3.t, hf3.m, hf4.t, hf4.m, h11, hf4, hle, hw]
          refine hJ _ ⟨i + 1, by omega, by omega, by simp -implicitDefEqProofs [go_sem, hw], ?_, by simp -implicitDefEqProofs [go_sem, hh]⟩ (by simp [go_sem, hx10, hw]; omega)
          rw [scanUp, if_pos (by simpa [hle] using k1)] at hfin; exact hfin
        · simp -implicitDefEqProofs [go_sem, hx10, hh, hf3.t, hf3.m, hf4.t, hf4.m, h11, hf4, hle]
          rw [scanUp, if_neg (by simpa [hle] using k1)] at hfin
          exact hE _ (by simp -implicitDefEqProofs [go_sem, hf4]) ⟨by simp -implicitDefEqProofs [go_sem, hx10, hfin], by omega, by omega, by simp -implicitDefEqProofs [go_sem, hh]⟩
      · simp -implicitDefEqProofs [go_sem, hx10, hh, hf3.t, hf3.m, hf4.t, hf4.m, h11, hf4, hle]
        rw [scanUp, if_neg (by simp [hle])] at hfin
        exact hE _ (by simp -implicitDefEqProofs [go_sem, hf4]) ⟨by simp -implicitDefEqProofs [go_sem, hx10, hfin], by omega, by omega, by simp -implicitDefEqProofs [go_sem, hh]⟩
    rintro s4 hf4 ⟨h10', hi21, hi22, hh4⟩
    simp -implicitDefEqProofs [go_sem, h10', h11, hh4, hf4.t, hf4.m, hf3.t, hf3.m]
    refine iwp_loopE 4 (rng [10] 46 62) nom (fun s => ∃ j : Nat, j < b ∧ s.t 10 = .int .i64 j ∧ scanDown (fun x => ltInt d1[a]! x) d1 i2 j = j2 ∧ s.h = SH h bk cap d1) (fun s => s.t 10 = .int .i64 j2 ∧ j2 < b ∧ s.h = SH h bk cap d1) (fun s => tn (s.t 10)) ?_ ?_ ?_
    · exact ⟨j0, by omega, by simp -implicitDefEqProofs [go_sem, hf4.t, h11], hj2d.symm, by simp -implicitDefEqProofs [go_sem, hh4]⟩
    · rintro Q2 J s5 hE hJ hf5 ⟨j, hi1, hx11, hfin, hh⟩
      simp -implicitDefEqProofs [go_sem, hx11, hh, hf4.t, hf4.m, hf3.t, hf3.m, hf5.t, hf5.m, h10']
      refine iwp_drawn_of mixed [0,1,2,3,4,5,6,7,8,9,10,11,12,13] (by kernel_rfl) ?_
      simp -implicitDefEqProofs [go_sem, hx11, hh, hf4.t, hf4.m, hf3.t, hf3.m, hf5.t, hf5.m, h10']
      refine cK_dec (fun hle => ?_) (fun hle => ?_)
      · have hgi := rowsD_get (d := d1) (i := j) (by omega)
        have hli : j < n := by omega
        obtain ⟨k, hk⟩ : ∃ k, j = k + 1 := ⟨j - 1, by omega⟩
        have hw : IntKind.i64.wrap ((j : Int) - 1) = (k : Int) := by rw [wrap_in (by omega)]; omega
        simp -implicitDefEqProofs [go_sem, hx11, hh, hf4.t, hf4.m, hf3.t, hf3.m, hf5.t, hf5.m, h10', hle, hgi, hli, hla, hga0, SH_at]
        refine ⟨_, less_c _ _ _, ?_⟩
        simp -implicitDefEqProofs [go_sem, hx11, hh, hf4.t, hf4.m, hf3.t, hf3.m, hf5.t, hf5.m, h10', hle]
        refine cK_any (fun k1 => ?_) (fun k1 => ?_)
        · simp -implicitDefEqProofs [go_sem, hx11, hh, hf4.t, hf4.m, hf3.t, hf3.m, hf5.t, hf5.m, h10', hf5, hle, hw]
          refine hJ _ ⟨k, by omega, by simp -implicitDefEqProofs [go_sem, hw], ?_, by simp -implicitDefEqProofs [go_sem, hh]⟩ (by simp [go_sem, hx11, hw]; omega)
          subst hk; rw [scanDown, if_pos (by simpa [hle] using k1)] at hfin; exact hfin
        · simp -implicitDefEqProofs [go_sem, hx11, hh, hf4.t, hf4.m, hf3.t, hf3.m, hf5.t, hf5.m, h10', hf5, hle]
          have hfin2 : j = j2 := by subst hk; rw [scanDown, if_neg (by simpa [hle] using k1)] at hfin; exact hfin
          exact hE _ (by simp -implicitDefEqProofs [go_sem, hf5]) ⟨by simp -implicitDefEqProofs [go_sem, hx11, hfin2], by omega, by simp -implicitDefEqProofs [go_sem, hh]⟩
      · simp -implicitDefEqProofs [go_sem, hx11, hh, hf4.t, hf4.m, hf3.t, hf3.m, hf5.t, hf5.m, h10', hf5, hle]
        have hfin2 : j = j2 := by
          cases j with
          | zero => exact hfin
          | succ j => rw [scanDown, if_neg (by simp; omega)] at hfin; exact hfin
        exact hE _ (by simp -implicitDefEqProofs [go_sem, hf5]) ⟨by simp -implicitDefEqProofs [go_sem, hx11, hfin2], by omega, by simp -implicitDefEqProofs [go_sem, hh]⟩
    rintro s5 hf5 ⟨h11', hj21, hh5⟩
    have hfa := Fr.trans2 hf3 hf4 (by simp -implicitDefEqProofs [go_sem]) (rng_sub (by decide)) nom_sub
    have hfb := Fr.trans2 hfa hf5 (by simp -implicitDefEqProofs [go_sem]) (rng_sub (by decide)) nom_sub
    have hle1 := (scanUp_le (fun x => !ltInt d1[a]! x) d1 j0 _ i0 (Nat.le_refl _)).1
    rw [← hi2d] at hle1
    have hle2 := (scanDown_le (fun x => ltInt d1[a]! x) d1 i2 (by omega) j0).1
    rw [← hj2d] at hle2
    have h10'' : s5.t 9 = .int .i64 i2 := by rw [hf5.t 9 rfl]; simp -implicitDefEqProofs [go_sem, h10']
    simp -implicitDefEqProofs [go_sem, h10', h10'', h11', hh5, hf5.t, hf5.m, hf4.t, hf4.m, hf3.t, hf3.m]
    refine cK_dec (fun hg3 => ?_) (fun hg3 => ?_)
    · rw [partEqLoop_stop hi2d hj2d hg3] at hfin3
      simp -implicitDefEqProofs [go_sem, h10', h11', hh5, hfb]
      exact hE3 _ (by simp -implicitDefEqProofs [go_sem, hfb]) (by rw [← hfin3]; exact ⟨by simp -implicitDefEqProofs [go_sem, h10''], hd1, by simp -implicitDefEqProofs [go_sem, hh5]⟩)
    · rw [partEqLoop_go hi2d hj2d (by omega) (by omega)] at hfin3
      have hgj2 := rowsD_get (d := d1) (i := j2) (by omega)
      have hlj2 : j2 < n := by omega
      have hgi2 := rowsD_get (d := d1) (i := i2) (by omega)
      have hli2 : i2 < n := by omega
      obtain ⟨r4, hr4⟩ := rowsD_get2 (d := d1) (i := i2) (j := j2) (by omega) d1[j2]!
      have hwi2 := wrap_succ (i := i2) (by omega)
      obtain ⟨jm2, hjm2⟩ : ∃ x, x = j2 - 1 := ⟨_, rfl⟩
      have hwj2 : IntKind.i64.wrap ((j2 : Int) - 1) = (jm2 : Int) := by rw [wrap_in (by omega)]; omega
      simp -implicitDefEqProofs [go_sem, h10', h10'', h11', hh5, hf5.t, hf5.m, hf4.t, hf4.m, hf3.t, hf3.m]
      refine iwp_drawn_of mixed [0,1,2,3,4,5,6,7,8,9,10,11,12,13,14,15] (by kernel_rfl) ?_
      simp -implicitDefEqProofs [go_sem, h10', h10'', h11', hh5, hf5.t, hf5.m, hf4.t, hf4.m, hf3.t, hf3.m, hgi2, hgj2, hli2, hlj2, hr4, SH_at, hwi2, hwj2, hfb]
      refine hJ3 _ ⟨i2 + 1, jm2, swp d1 i2 j2, by omega, by omega, by omega, by rw [swp_size, hd1], by simp -implicitDefEqProofs [go_sem, hwi2], by simp -implicitDefEqProofs [go_sem, hwj2], by rw [hjm2]; exact hfin3, by simp -implicitDefEqProofs [go_sem, hh5]; exact SH_swp _ _ _ _ _ _ _⟩ (by simp [go_sem, h10, h11, hwi2, hwj2]; omega)
  rintro s3 hf3 ⟨h9, hR2, hh3⟩
  simp -implicitDefEqProofs [go_sem, h9, hh3, hf3.t, hf3.m]
  rw [hpart]
  exact ⟨_, Sub.refl _, rfl, rfl⟩
end Go.Proofs
