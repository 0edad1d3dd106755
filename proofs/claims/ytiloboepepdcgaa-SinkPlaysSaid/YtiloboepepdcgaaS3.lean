/- This text is a part of the proofs of the statements of this seat: the ideal states and their rules, or what one of the functions that the statements reach comes to. Conditions: none beyond those that each theorem names. -/
import Derived.Test.YtiloboepepdcgaaS2
set_option linter.unusedVariables false
set_option linter.unusedSimpArgs false
set_option pp.deepTerms false
set_option pp.maxSteps 400
namespace Go.Proofs
open Go.Idl
open Go.Sort (swp ltInt siftDown heapBuild heapPop heapSort reverseLoop reverseRange)

theorem SH_swp (h : Heap) (b cap : Nat) (d : Array Int) (i j : Nat) (x : Option IObj) :
    upd (upd (SH h b cap d) b x) b (some (.arr 3 1 (((rowsD d).set i [.int .i64 d[j]!]).set j [.int .i64 d[i]!]) cap)) = SH h b cap (swp d i j) := by
  rw [rowsD_swp]; funext q; simp only [SH, upd]; split <;> rfl

def tz : IV → Nat
  | .int _ n => (n + 1).toNat
  | _ => 0
theorem tz_int (k : IntKind) (n : Int) : tz (.int k n) = (n + 1).toNat := rfl

theorem sift_size (hi first : Nat) : ∀ (m root : Nat) (d : Array Int), hi - root ≤ m → (siftDown ltInt hi first root d).size = d.size := by
  intro m
  induction m with
  | zero => intro root d h; rw [siftDown, dif_pos (by omega)]
  | succ m ih =>
    intro root d h
    rw [siftDown]
    split
    · rfl
    · split
      · split
        · rfl
        · split
          · rw [ih _ _ (by omega), swp_size]
          · rfl
      · split
        · rfl
        · rw [ih _ _ (by omega), swp_size]

set_option maxRecDepth 20000 in
set_option maxHeartbeats 4000000 in
theorem heapSort_c (d : Array Int) (a b bk cap : Nat) (h : Heap) (hab : a < b) (hb : b ≤ d.size) (hs : d.size < 10000000000) :
    ICall Try.prog 113 [.sl 1 bk 0 d.size cap, .int .i64 a, .int .i64 b] (SH h bk cap d) (retP (.tup []) (SH h bk cap (heapSort ltInt d a b))) := by
  obtain ⟨n, hn⟩ : ∃ n, n = d.size := ⟨_, rfl⟩
  rw [← hn] at hb hs ⊢
  refine icall_of_iwp (fun _ => 0) Try.func113 rfl (by kernel_rfl) (Nat.le_of_ble_eq_true rfl) ?_
  rw [Try.results113]
  obtain ⟨hi, hhi⟩ : ∃ x, x = b - a := ⟨_, rfl⟩
  have hw1 : IntKind.i64.wrap ((b : Int) - (a : Int)) = (hi : Int) := by rw [wrap_in (by omega)]; omega
  obtain ⟨p, hp⟩ : ∃ x, x = hi - 1 := ⟨_, rfl⟩
  obtain ⟨q, hq⟩ : ∃ x, x = (hi - 1) / 2 := ⟨_, rfl⟩
  have hw2 : IntKind.i64.wrap ((hi : Int) - 1) = (p : Int) := by rw [wrap_in (by omega)]; omega
  have hw4 : ((p : Int)).tdiv 2 = (q : Int) := by rw [Int.tdiv_eq_ediv_of_nonneg (by omega)]; omega
  have hw4' : (p : Int) / 2 = (q : Int) := by omega
  have hw3 : IntKind.i64.wrap (q : Int) = (q : Int) := wrap_in (by omega)
  have hd0 : heapSort ltInt d a b = heapPop ltInt a hi (heapBuild ltInt hi a (q + 1) d) := by rw [heapSort, ← hhi, hq]
  simp -implicitDefEqProofs [go_sem, hw1, hw2, hw3, hw4, hw4']
  refine iwp_loopF (rng [9] 18 27) nom (fun s => ∃ (k : Nat) (d1 : Array Int), k ≤ q + 1 ∧ d1.size = n ∧ s.t 9 = .int .i64 ((k : Int) - 1) ∧ heapBuild ltInt hi a k d1 = heapBuild ltInt hi a (q + 1) d ∧ s.h = SH h bk cap d1) (fun s => tz (s.t 9)) ?_ ?_
  · refine ⟨q + 1, d, Nat.le_refl _, hn.symm, ?_, rfl, by simp -implicitDefEqProofs [go_sem]⟩
    simp -implicitDefEqProofs [go_sem, hw3, hw4, hw4']
    try omega
  rintro J s hJ hf ⟨k, d1, hk, hd1, h9, hfin, hh⟩
  simp -implicitDefEqProofs [go_sem, h9, hh, hf.t, hf.m]
  refine cK_dec (fun hge => ?_) (fun hlt => ?_)
  · obtain ⟨m, hm⟩ : ∃ m, k = m + 1 := ⟨k - 1, by omega⟩
    have e1 : (k : Int) - 1 = (m : Int) := by omega
    have hw5 : IntKind.i64.wrap ((m : Int) - 1) = (m : Int) - 1 := wrap_in (by omega)
    rw [e1] at h9
    simp -implicitDefEqProofs [go_sem, h9, e1, hh, hf.t, hf.m]
    have hc := sift_c d1 m hi a bk cap h (by omega) (by omega) (by omega)
    rw [hd1] at hc
    refine hc.mono ?_
    rintro e h' ⟨rfl, he⟩
    rw [he]
    simp -implicitDefEqProofs [go_sem, h9, e1, hh, hf.t, hf.m, hf, hw5]
    refine hJ _ ⟨m, siftDown ltInt hi a m d1, by omega, by rw [sift_size _ _ _ _ _ (Nat.le_refl _), hd1], by simp -implicitDefEqProofs [go_sem, hw5], by rw [← hfin, hm, heapBuild], by simp -implicitDefEqProofs [go_sem]⟩ (by simp [go_sem, h9, hw5, tz_int])
  · obtain rfl : k = 0 := by omega
    rw [heapBuild] at hfin
    simp -implicitDefEqProofs [go_sem, h9, hh, hf.t, hf.m, hw2]
    clear hJ J
    refine iwp_loopF (rng [10] 29 56) nom (fun s => ∃ (k : Nat) (d2 : Array Int), k ≤ hi ∧ d2.size = n ∧ s.t 10 = .int .i64 ((k : Int) - 1) ∧ heapPop ltInt a k d2 = heapSort ltInt d a b ∧ s.h = SH h bk cap d2) (fun s => tz (s.t 10)) ?_ ?_
    · refine ⟨hi, d1, Nat.le_refl _, hd1, ?_, by rw [hd0, ← hfin], by simp -implicitDefEqProofs [go_sem, hh]⟩
      simp -implicitDefEqProofs [go_sem, hw2]
      omega
    rintro J s2 hJ hf2 ⟨k, d2, hk, hd2, h10, hfin2, hh2⟩
    simp -implicitDefEqProofs [go_sem, h10, hh2, hf2.t, hf2.m, hf.t, hf.m]
    refine cK_dec (fun hge2 => ?_) (fun hlt2 => ?_)
    · obtain ⟨m, hm⟩ : ∃ m, k = m + 1 := ⟨k - 1, by omega⟩
      have e1 : (k : Int) - 1 = (m : Int) := by omega
      have hw5 : IntKind.i64.wrap ((m : Int) - 1) = (m : Int) - 1 := wrap_in (by omega)
      obtain ⟨am, ham⟩ : ∃ x, x = a + m := ⟨_, rfl⟩
      have hw6 : IntKind.i64.wrap ((a : Int) + (m : Int)) = (am : Int) := by rw [wrap_in (by omega)]; omega
      rw [e1] at h10
      have hg1 := rowsD_get (d := d2) (i := a) (by omega)
      have hg2 := rowsD_get (d := d2) (i := am) (by omega)
      have hl1 : a < n := by omega
      have hl2 : am < n := by omega
      obtain ⟨r2, hr2⟩ := rowsD_get2 (d := d2) (i := a) (j := am) (by omega) d2[am]!
      simp -implicitDefEqProofs [go_sem, h10, e1, hh2, hf2.t, hf2.m, hf.t, hf.m]
      refine iwp_drawn_of mixed [0,1,2,3,4,5,6,7,8,9,10,11,12,13,14,15,16,17,18,19] (by kernel_rfl) ?_
      simp -implicitDefEqProofs [go_sem, h10, e1, hh2, hf2.t, hf2.m, hf.t, hf.m, hw6, hg1, hg2, hl1, hl2, hr2, SH_at]
      rw [SH_swp]
      have hc := sift_c (swp d2 a am) 0 m a bk cap h (by rw [swp_size]; omega) (by rw [swp_size]; omega) (by omega)
      rw [swp_size, hd2] at hc
      refine ICall.mono hc ?_
      rintro e h' ⟨rfl, he⟩
      rw [he]
      simp -implicitDefEqProofs [go_sem, h10, e1, hh2, hf2.t, hf2.m, hf2, hf.t, hf.m, hw5]
      refine hJ _ ⟨m, siftDown ltInt m a 0 (swp d2 a am), by omega, by rw [sift_size _ _ _ _ _ (Nat.le_refl _), swp_size, hd2], by simp -implicitDefEqProofs [go_sem, hw5], by rw [← hfin2, hm, heapPop, ham], by simp -implicitDefEqProofs [go_sem]⟩ (by simp [go_sem, h10, hw5, tz_int])
    · obtain rfl : k = 0 := by omega
      rw [heapPop] at hfin2
      simp -implicitDefEqProofs [go_sem, h10, hh2, hf2.t, hf2.m, hf.t, hf.m]
      exact ⟨_, Sub.refl _, rfl, by rw [hfin2]⟩

set_option maxRecDepth 20000 in
set_option maxHeartbeats 4000000 in
theorem reverseRange_c (d : Array Int) (a b bk cap : Nat) (h : Heap) (hab : a < b) (hb : b ≤ d.size) (hs : d.size < 10000000000) :
    ICall Try.prog 116 [.sl 1 bk 0 d.size cap, .int .i64 a, .int .i64 b] (SH h bk cap d) (retP (.tup []) (SH h bk cap (reverseRange d a b))) := by
  obtain ⟨n, hn⟩ : ∃ n, n = d.size := ⟨_, rfl⟩
  rw [← hn] at hb hs ⊢
  refine icall_of_iwp (fun _ => 0) Try.func116 rfl (by kernel_rfl) (Nat.le_of_ble_eq_true rfl) ?_
  rw [Try.results116]
  obtain ⟨p, hp⟩ : ∃ x, x = b - 1 := ⟨_, rfl⟩
  have hw1 : IntKind.i64.wrap ((b : Int) - 1) = (p : Int) := by rw [wrap_in (by omega)]; omega
  simp -implicitDefEqProofs [go_sem, hw1]
  refine iwp_loopF (rng [6,7] 11 32) nom (fun s => ∃ (i j : Nat) (d1 : Array Int), j < b ∧ i ≤ n ∧ d1.size = n ∧ s.t 6 = .int .i64 i ∧ s.t 7 = .int .i64 j ∧ reverseLoop i j d1 = reverseRange d a b ∧ s.h = SH h bk cap d1) (fun s => tn (s.t 7) - tn (s.t 6)) ?_ ?_
  · exact ⟨a, p, d, by omega, by omega, hn.symm, by simp -implicitDefEqProofs [go_sem], by simp -implicitDefEqProofs [go_sem, hw1], by rw [reverseRange, hp], by simp -implicitDefEqProofs [go_sem]⟩
  rintro J s hJ hf ⟨i, j, d1, hj, hi, hd1, h6, h7, hfin, hh⟩
  simp -implicitDefEqProofs [go_sem, h6, h7, hh, hf.t, hf.m]
  refine cK_dec (fun hlt => ?_) (fun hge => ?_)
  · have hg1 := rowsD_get (d := d1) (i := i) (by omega)
    have hg2 := rowsD_get (d := d1) (i := j) (by omega)
    have hl1 : i < n := by omega
    have hl2 : j < n := by omega
    have hw2 := wrap_succ (i := i) (by omega)
    obtain ⟨k, hk⟩ : ∃ x, x = j - 1 := ⟨_, rfl⟩
    have hw3 : IntKind.i64.wrap ((j : Int) - 1) = (k : Int) := by rw [wrap_in (by omega)]; omega
    obtain ⟨r2, hr2⟩ := rowsD_get2 (d := d1) (i := i) (j := j) (by omega) d1[j]!
    simp -implicitDefEqProofs [go_sem, h6, h7, hh, hf.t, hf.m]
    refine iwp_drawn_of mixed [0,1,2,3,4,5,6,7,8,9,10,11,12,13,14,15] (by kernel_rfl) ?_
    simp -implicitDefEqProofs [go_sem, h6, h7, hh, hf.t, hf.m, hf, hg1, hg2, hl1, hl2, hr2, SH_at, hw2, hw3]
    refine hJ _ ⟨i + 1, k, swp d1 i j, by omega, by omega, by rw [swp_size, hd1], by simp -implicitDefEqProofs [go_sem, hw2], by simp -implicitDefEqProofs [go_sem, hw3], by rw [← hfin, reverseLoop.eq_def i j, if_pos hlt, hk], ?_⟩ (by simp [go_sem, h6, h7, hw2, hw3]; omega)
    simp -implicitDefEqProofs [go_sem, hh]
    exact SH_swp _ _ _ _ _ _ _
  · rw [reverseLoop, if_neg (by omega)] at hfin
    simp -implicitDefEqProofs [go_sem, h6, h7, hh, hf.t, hf.m]
    exact ⟨_, Sub.refl _, rfl, by rw [hfin]⟩
end Go.Proofs
