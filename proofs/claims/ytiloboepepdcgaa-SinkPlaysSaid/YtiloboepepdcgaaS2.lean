/- This text is a part of the proofs of the statements of this seat: the ideal states and their rules, or what one of the functions that the statements reach comes to. Conditions: none beyond those that each theorem names. -/
import Derived.Test.YtiloboepepdcgaaS1
set_option linter.unusedVariables false
set_option linter.unusedSimpArgs false
set_option pp.deepTerms false
set_option pp.maxSteps 400
namespace Go.Proofs
open Go.Idl
open Go.Sort (swp ltInt siftDown heapBuild heapPop heapSort)

theorem sift_a {hi first r : Nat} {d : Array Int} (h : ¬ 2 * r + 1 ≥ hi) (h2 : 2 * r + 2 < hi) (h3 : ltInt d[first + (2 * r + 1)]! d[first + (2 * r + 2)]! = true) :
    siftDown ltInt hi first r d = if ltInt d[first + r]! d[first + (2 * r + 2)]! = true then siftDown ltInt hi first (2 * r + 2) (swp d (first + r) (first + (2 * r + 2))) else d := by
  rw [siftDown, dif_neg h, if_pos (by simp only [Bool.and_eq_true, decide_eq_true_eq]; exact ⟨by omega, by rw [show first + (2 * r + 1) + 1 = first + (2 * r + 2) by omega]; exact h3⟩)]
  cases hl : ltInt d[first + r]! d[first + (2 * r + 2)]! with
  | true => rw [if_neg (by simp), dif_pos h2, if_pos rfl]
  | false => rw [if_pos (by simp), if_neg (by simp)]
theorem sift_b {hi first r : Nat} {d : Array Int} (h : ¬ 2 * r + 1 ≥ hi) (h2 : ¬ (2 * r + 2 < hi ∧ ltInt d[first + (2 * r + 1)]! d[first + (2 * r + 2)]! = true)) :
    siftDown ltInt hi first r d = if ltInt d[first + r]! d[first + (2 * r + 1)]! = true then siftDown ltInt hi first (2 * r + 1) (swp d (first + r) (first + (2 * r + 1))) else d := by
  rw [siftDown, dif_neg h, if_neg (by simp only [Bool.and_eq_true, decide_eq_true_eq]; intro hh; exact h2 ⟨by omega, by rw [show first + (2 * r + 2) = first + (2 * r + 1) + 1 by omega]; exact hh.2⟩)]
  cases hl : ltInt d[first + r]! d[first + (2 * r + 1)]! with
  | true => rw [if_neg (by simp), if_pos rfl]
  | false => rw [if_pos (by simp), if_neg (by simp)]

set_option maxRecDepth 20000 in
set_option maxHeartbeats 8000000 in
theorem sift_c (d : Array Int) (root hi first bk cap : Nat) (h : Heap) (hb : first + hi ≤ d.size) (hs : d.size < 10000000000) (hr : root < 10000000000) :
    ICall Try.prog 140 [.sl 1 bk 0 d.size cap, .int .i64 root, .int .i64 hi, .int .i64 first] (SH h bk cap d) (retP (.tup []) (SH h bk cap (siftDown ltInt hi first root d))) := by
  obtain ⟨n, hn⟩ : ∃ n, n = d.size := ⟨_, rfl⟩
  rw [← hn] at hb hs ⊢
  refine icall_of_iwp (fun _ => 0) Try.func140 rfl (by kernel_rfl) (Nat.le_of_ble_eq_true rfl) ?_
  rw [Try.results140]
  simp -implicitDefEqProofs [go_sem]
  refine iwp_loopF (rng [8,9] 11 76) nom (fun s => ∃ (r1 : Nat) (d1 : Array Int), r1 < 10000000000 ∧ d1.size = n ∧ s.t 8 = .int .i64 r1 ∧ siftDown ltInt hi first r1 d1 = siftDown ltInt hi first root d ∧ s.h = SH h bk cap d1) (fun s => hi - tn (s.t 8)) ?_ ?_
  · exact ⟨root, d, hr, hn.symm, by simp -implicitDefEqProofs [go_sem], rfl, by simp -implicitDefEqProofs [go_sem]⟩
  rintro J s hJ hf ⟨r1, d1, hr1, hd1, h8, hfin, hh⟩
  obtain ⟨c1, hc1⟩ : ∃ c, c = 2 * r1 + 1 := ⟨_, rfl⟩
  obtain ⟨c2, hc2⟩ : ∃ c, c = 2 * r1 + 2 := ⟨_, rfl⟩
  have hw0 : IntKind.i64.wrap (2 * (r1 : Int)) = ((2 * r1 : Nat) : Int) := by rw [wrap_in (by omega)]; rfl
  have hw1 : IntKind.i64.wrap (((2 * r1 : Nat) : Int) + 1) = (c1 : Int) := by rw [wrap_in (by omega), hc1]; rfl
  have hw2 : IntKind.i64.wrap ((c1 : Int) + 1) = (c2 : Int) := by rw [wrap_in (by omega)]; omega
  have hw1' : IntKind.i64.wrap (2 * (r1 : Int) + 1) = (c1 : Int) := by rw [wrap_in (by omega)]; omega
  simp -implicitDefEqProofs [go_sem, h8, hh, hf.t, hf.m, hw0, hw1, hw1']
  refine cK_dec (fun hge => ?_) (fun hlt => ?_)
  · have hx : siftDown ltInt hi first root d = d1 := by rw [← hfin, siftDown, dif_pos (by omega)]
    simp -implicitDefEqProofs [go_sem, h8, hh, hf.t, hf.m]
    exact ⟨_, Sub.refl _, rfl, by rw [hx]⟩
  obtain ⟨f1, hf1⟩ : ∃ x, x = first + c1 := ⟨_, rfl⟩
  obtain ⟨f2, hf2⟩ : ∃ x, x = first + c2 := ⟨_, rfl⟩
  obtain ⟨fr, hfr⟩ : ∃ x, x = first + r1 := ⟨_, rfl⟩
  have hwD : IntKind.i64.wrap ((first : Int) + (c2 : Int)) = (f2 : Int) := by rw [wrap_in (by omega), hf2]; rfl
  have hwE : IntKind.i64.wrap ((f1 : Int) + 1) = (f2 : Int) := by rw [wrap_in (by omega)]; omega
  have hwC : IntKind.i64.wrap ((first : Int) + (c1 : Int)) = (f1 : Int) := by rw [wrap_in (by omega), hf1]; rfl
  have hg1' := rowsD_get (d := d1) (i := f1) (by omega)
  have hl1' : f1 < n := by omega
  simp -implicitDefEqProofs [go_sem, h8, hh, hf.t, hf.m, hw1, hw2]
  refine iwp_drawn_of mixed [0,1,2,3,4,5,6,7,8,9,10,11,12,13,14,15,16,17,18,19] (by kernel_rfl) ?_
  simp -implicitDefEqProofs [go_sem, h8, hh, hf.t, hf.m, hw1, hw2]
  refine cK_dec (fun h2 => ?_) (fun h2 => ?_)
  · have hg2' := rowsD_get (d := d1) (i := f2) (by omega)
    have hl2' : f2 < n := by omega
    have eA : ltInt d1[f1]! d1[f2]! = true → siftDown ltInt hi first r1 d1 = if ltInt d1[fr]! d1[f2]! = true then siftDown ltInt hi first c2 (swp d1 fr f2) else d1 := fun k0 => by
      subst hf1; subst hf2; subst hfr; subst hc1; subst hc2
      exact sift_a (by omega) h2 k0
    simp -implicitDefEqProofs [go_sem, h8, hh, hf.t, hf.m, hw1, hw2, h2, hwC, hwE, hg1', hg2', hl1', hl2', SH_at]
    refine ⟨_, less_c _ _ _, ?_⟩
    simp -implicitDefEqProofs [go_sem, h8, hh, hf.t, hf.m, hw1, hw2, h2, hwC, hwE]
    refine cK_any (fun k0 => ?_) (fun k0 => ?_)
    · have hwA : IntKind.i64.wrap ((first : Int) + (r1 : Int)) = (fr : Int) := by rw [wrap_in (by omega), hfr]; rfl
      have hg1 := rowsD_get (d := d1) (i := fr) (by omega)
      have hg2 := rowsD_get (d := d1) (i := f2) (by omega)
      have hl1 : fr < n := by omega
      have hl2 : f2 < n := by omega
      simp -implicitDefEqProofs [go_sem, h8, hh, hf.t, hf.m, hwA, hw1, hw2]
      refine iwp_drawn_of mixed [0,1,2,3,4,5,6,7,8,9,10,11,12,13] (by kernel_rfl) ?_
      simp -implicitDefEqProofs [go_sem, h8, hh, hf.t, hf.m, hwA, hwC, hwD, hg1, hg2, hl1, hl2, SH_at]
      refine ⟨_, less_c _ _ _, ?_⟩
      simp -implicitDefEqProofs [go_sem, h8, hh, hf.t, hf.m]
      refine cK_any (fun k1 => ?_) (fun k1 => ?_)
      · have hx : siftDown ltInt hi first root d = d1 := by
          have k1' : ltInt d1[fr]! d1[f2]! = false := by simpa using k1
          rw [eA k0, if_neg (by rw [k1']; simp)] at hfin; exact hfin.symm
        simp -implicitDefEqProofs [go_sem, h8, hh, hf.t, hf.m]
        exact ⟨_, Sub.refl _, rfl, by rw [hx]⟩
      · have k1' : ltInt d1[fr]! d1[f2]! = true := by simpa using k1
        obtain ⟨r2, hr2⟩ := rowsD_get2 (d := d1) (i := fr) (j := f2) (by omega) d1[f2]!
        simp -implicitDefEqProofs [go_sem, h8, hh, hf.t, hf.m]
        refine iwp_drawn_of mixed [0,1,2,3,4,5,6,7,8,9,10,11,12,13,14,15,16,17,18,19,20,21,22,23] (by kernel_rfl) ?_
        simp -implicitDefEqProofs [go_sem, h8, hh, hf.t, hf.m, hf, hwA, hwC, hwD, hg1, hg2, hl1, hl2, hr2, SH_at]
        rw [eA k0, if_pos k1'] at hfin
        refine hJ _ ⟨c2, swp d1 fr f2, by omega, by rw [swp_size, hd1], by simp -implicitDefEqProofs [go_sem], hfin, ?_⟩ (by simp [go_sem, h8]; omega)
        funext q
        simp -implicitDefEqProofs [go_sem, hh, SH, rowsD_swp]
        try (split <;> rfl)
    · have eB : siftDown ltInt hi first r1 d1 = if ltInt d1[fr]! d1[f1]! = true then siftDown ltInt hi first c1 (swp d1 fr f1) else d1 := by
        subst hf1; subst hf2; subst hfr; subst hc1; subst hc2
        exact sift_b (by omega) (fun hh => by rw [hh.2] at k0; cases k0)
      have hwA : IntKind.i64.wrap ((first : Int) + (r1 : Int)) = (fr : Int) := by rw [wrap_in (by omega), hfr]; rfl
      have hg1 := rowsD_get (d := d1) (i := fr) (by omega)
      have hg2 := rowsD_get (d := d1) (i := f1) (by omega)
      have hl1 : fr < n := by omega
      have hl2 : f1 < n := by omega
      simp -implicitDefEqProofs [go_sem, h8, hh, hf.t, hf.m, hwA, hw1, hw2]
      refine iwp_drawn_of mixed [0,1,2,3,4,5,6,7,8,9,10,11,12,13] (by kernel_rfl) ?_
      simp -implicitDefEqProofs [go_sem, h8, hh, hf.t, hf.m, hwA, hwC, hwD, hg1, hg2, hl1, hl2, SH_at]
      refine ⟨_, less_c _ _ _, ?_⟩
      simp -implicitDefEqProofs [go_sem, h8, hh, hf.t, hf.m]
      refine cK_any (fun k1 => ?_) (fun k1 => ?_)
      · have hx : siftDown ltInt hi first root d = d1 := by
          have k1' : ltInt d1[fr]! d1[f1]! = false := by simpa using k1
          rw [eB, if_neg (by rw [k1']; simp)] at hfin; exact hfin.symm
        simp -implicitDefEqProofs [go_sem, h8, hh, hf.t, hf.m]
        exact ⟨_, Sub.refl _, rfl, by rw [hx]⟩
      · have k1' : ltInt d1[fr]! d1[f1]! = true := by simpa using k1
        obtain ⟨r2, hr2⟩ := rowsD_get2 (d := d1) (i := fr) (j := f1) (by omega) d1[f1]!
        simp -implicitDefEqProofs [go_sem, h8, hh, hf.t, hf.m]
        refine iwp_drawn_of mixed [0,1,2,3,4,5,6,7,8,9,10,11,12,13,14,15,16,17,18,19,20,21,22,23] (by kernel_rfl) ?_
        simp -implicitDefEqProofs [go_sem, h8, hh, hf.t, hf.m, hf, hwA, hwC, hwD, hg1, hg2, hl1, hl2, hr2, SH_at]
        rw [eB, if_pos k1'] at hfin
        refine hJ _ ⟨c1, swp d1 fr f1, by omega, by rw [swp_size, hd1], by simp -implicitDefEqProofs [go_sem], hfin, ?_⟩ (by simp [go_sem, h8]; omega)
        funext q
        simp -implicitDefEqProofs [go_sem, hh, SH, rowsD_swp]
        try (split <;> rfl)
  · have eB : siftDown ltInt hi first r1 d1 = if ltInt d1[fr]! d1[f1]! = true then siftDown ltInt hi first c1 (swp d1 fr f1) else d1 := by
      subst hf1; subst hf2; subst hfr; subst hc1; subst hc2
      exact sift_b (by omega) (fun hh => h2 hh.1)
    have hwA : IntKind.i64.wrap ((first : Int) + (r1 : Int)) = (fr : Int) := by rw [wrap_in (by omega), hfr]; rfl
    have hg1 := rowsD_get (d := d1) (i := fr) (by omega)
    have hg2 := rowsD_get (d := d1) (i := f1) (by omega)
    have hl1 : fr < n := by omega
    have hl2 : f1 < n := by omega
    simp -implicitDefEqProofs [go_sem, h8, hh, hf.t, hf.m, hwA, hw1, hw2, h2]
    refine iwp_drawn_of mixed [0,1,2,3,4,5,6,7,8,9,10,11,12,13] (by kernel_rfl) ?_
    simp -implicitDefEqProofs [go_sem, h8, hh, hf.t, hf.m, hwA, hwC, hwD, hg1, hg2, hl1, hl2, SH_at]
    refine ⟨_, less_c _ _ _, ?_⟩
    simp -implicitDefEqProofs [go_sem, h8, hh, hf.t, hf.m]
    refine cK_any (fun k1 => ?_) (fun k1 => ?_)
    · have hx : siftDown ltInt hi first root d = d1 := by
        have k1' : ltInt d1[fr]! d1[f1]! = false := by simpa using k1
        rw [eB, if_neg (by rw [k1']; simp)] at hfin; exact hfin.symm
      simp -implicitDefEqProofs [go_sem, h8, hh, hf.t, hf.m]
      exact ⟨_, Sub.refl _, rfl, by rw [hx]⟩
    · have k1' : ltInt d1[fr]! d1[f1]! = true := by simpa using k1
      obtain ⟨r2, hr2⟩ := rowsD_get2 (d := d1) (i := fr) (j := f1) (by omega) d1[f1]!
      simp -implicitDefEqProofs [go_sem, h8, hh, hf.t, hf.m]
      refine iwp_drawn_of mixed [0,1,2,3,4,5,6,7,8,9,10,11,12,13,14,15,16,17,18,19,20,21,22,23] (by kernel_rfl) ?_
      simp -implicitDefEqProofs [go_sem, h8, hh, hf.t, hf.m, hf, hwA, hwC, hwD, hg1, hg2, hl1, hl2, hr2, SH_at]
      rw [eB, if_pos k1'] at hfin
      refine hJ _ ⟨c1, swp d1 fr f1, by omega, by rw [swp_size, hd1], by simp -implicitDefEqProofs [go_sem], hfin, ?_⟩ (by simp [go_sem, h8]; omega)
      funext q
      simp -implicitDefEqProofs [go_sem, hh, SH, rowsD_swp]
      try (split <;> rfl)
end Go.Proofs
