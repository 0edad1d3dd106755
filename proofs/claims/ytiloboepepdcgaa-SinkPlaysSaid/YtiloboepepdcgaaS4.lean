/- This text is a part of the proofs of the statements of this seat: the ideal states and their rules, or what one of the functions that the statements reach comes to. Conditions: none beyond those that each theorem names. -/
import Derived.Test.YtiloboepepdcgaaS3
set_option linter.unusedVariables false
set_option linter.unusedSimpArgs false
set_option pp.deepTerms false
set_option pp.maxSteps 400
namespace Go.Proofs
open Go.Idl
open Go.Sort (swp ltInt scanUp scanDown partLoop partition partEqLoop partitionEqual)

/-- a loop with one way out: what holds there is said once -/
theorem iwp_loopE {P : Program} {hint : Nat → Nat} {a : Code} {Q : IExit → St → Prop} {st : St} (id : Nat) (M MM : Nat → Bool) (I : St → Prop) (E : St → Prop) (μ : St → Nat) (h0 : I st)
    (h : ∀ (Q2 : IExit → St → Prop) (J : St → Prop) s, (∀ s', Fr M MM st s' → E s' → Q2 (.exit id) s') → (∀ s', I s' → μ s' < μ s → J s') → Fr M MM st s → I s → iwp P hint a (seqQ (fun s' => Fr M MM st s' ∧ J s') Q2) s)
    (hrest : ∀ s', Fr M MM st s' → E s' → Q (.exit id) s') : iwp P hint (.loop a) Q st :=
  iwp_loopF M MM I μ h0 fun J s hJ hf hI => h Q J s hrest hJ hf hI

theorem scanUp_le (p : Int → Bool) (d : Array Int) (j : Nat) : ∀ (m i : Nat), j + 1 - i ≤ m → i ≤ scanUp p d j i ∧ (i ≤ j + 1 → scanUp p d j i ≤ j + 1) := by
  intro m
  induction m with
  | zero => intro i h; rw [scanUp, if_neg (by simp; omega)]; exact ⟨Nat.le_refl _, fun h => h⟩
  | succ m ih =>
    intro i h
    rw [scanUp]
    split
    · rename_i hc
      simp only [Bool.and_eq_true, decide_eq_true_eq] at hc
      have := ih (i + 1) (by omega)
      exact ⟨by omega, fun _ => this.2 (by omega)⟩
    · exact ⟨Nat.le_refl _, fun h => h⟩
theorem scanDown_le (p : Int → Bool) (d : Array Int) (i : Nat) (hi : 1 ≤ i) : ∀ (j : Nat), scanDown p d i j ≤ j ∧ (i ≤ j + 1 → i ≤ scanDown p d i j + 1) := by
  intro j
  induction j with
  | zero => exact ⟨Nat.le_refl _, fun h => h⟩
  | succ j ih =>
    rw [scanDown]
    split
    · rename_i hc
      simp only [Bool.and_eq_true, decide_eq_true_eq] at hc
      exact ⟨by omega, fun _ => ih.2 (by omega)⟩
    · exact ⟨Nat.le_refl _, fun h => h⟩

theorem partLoop_stop {a i j i2 j2 : Nat} {d : Array Int} (h1 : i2 = scanUp (fun x => ltInt x d[a]!) d j i) (h2 : j2 = scanDown (fun x => !ltInt x d[a]!) d i2 j) (h : i2 > j2) : partLoop ltInt a i j d = (j2, d) := by
  subst h1; subst h2; rw [partLoop]; exact if_pos h
theorem partLoop_go {a i j i2 j2 : Nat} {d : Array Int} (h1 : i2 = scanUp (fun x => ltInt x d[a]!) d j i) (h2 : j2 = scanDown (fun x => !ltInt x d[a]!) d i2 j) (h : ¬ i2 > j2) (hg : (j2 - 1) + 1 - (i2 + 1) < j + 1 - i) :
    partLoop ltInt a i j d = partLoop ltInt a (i2 + 1) (j2 - 1) (swp d i2 j2) := by
  subst h1; subst h2; rw [partLoop]; exact (if_neg h).trans (dif_pos hg)

set_option maxRecDepth 20000 in
set_option maxHeartbeats 8000000 in
theorem partition_c (d : Array Int) (a b pv bk cap : Nat) (h : Heap) (hap : a ≤ pv) (hpb : pv < b) (hb : b ≤ d.size) (hs : d.size < 10000000000) :
    ICall Try.prog 120 [.sl 1 bk 0 d.size cap, .int .i64 a, .int .i64 b, .int .i64 pv] (SH h bk cap d)
      (retP (.tup [.int .i64 (partition ltInt d a b pv).1, .bool (partition ltInt d a b pv).2.1]) (SH h bk cap (partition ltInt d a b pv).2.2)) := by
  obtain ⟨n, hn⟩ : ∃ n, n = d.size := ⟨_, rfl⟩
  rw [← hn] at hb hs ⊢
  refine icall_of_iwp (fun _ => 0) Try.func120 rfl (by kernel_rfl) (Nat.le_of_ble_eq_true rfl) ?_
  rw [Try.results120]
  obtain ⟨d0, hd0⟩ : ∃ x, x = swp d a pv := ⟨_, rfl⟩
  have hs0 : d0.size = n := by rw [hd0, swp_size, hn]
  obtain ⟨p, hp⟩ : ∃ x, x = b - 1 := ⟨_, rfl⟩
  have hwa := wrap_succ (i := a) (by omega)
  have hw1 : IntKind.i64.wrap ((b : Int) - 1) = (p : Int) := by rw [wrap_in (by omega)]; omega
  obtain ⟨ia, hia⟩ : ∃ x, x = scanUp (fun x => ltInt x d0[a]!) d0 p (a + 1) := ⟨_, rfl⟩
  obtain ⟨ja, hja⟩ : ∃ x, x = scanDown (fun x => !ltInt x d0[a]!) d0 ia p := ⟨_, rfl⟩
  have hpart : partition ltInt d a b pv = if ia > ja then (ja, true, swp d0 ja a) else ((partLoop ltInt a (ia + 1) (ja - 1) (swp d0 ia ja)).1, false, swp (partLoop ltInt a (ia + 1) (ja - 1) (swp d0 ia ja)).2 (partLoop ltInt a (ia + 1) (ja - 1) (swp d0 ia ja)).1 a) := by
    rw [partition, ← hd0, ← hp]; simp only; rw [← hia, ← hja]
  have hga := rowsD_get (d := d) (i := a) (by omega)
  have hgp := rowsD_get (d := d) (i := pv) (by omega)
  have hla : a < n := by omega
  have hlp : pv < n := by omega
  obtain ⟨r2, hr2⟩ := rowsD_get2 (d := d) (i := a) (j := pv) (by omega) d[pv]!
  simp -implicitDefEqProofs [go_sem]
  refine iwp_drawn_of mixed [0,1,2,3,4,5,6,7,8,9,10,11,12,13,14,15] (by kernel_rfl) ?_
  simp -implicitDefEqProofs [go_sem, hga, hgp, hla, hlp, hr2, SH_at, hwa, hw1]
  -- the first scan
  have hga0 := rowsD_get (d := d0) (i := a) (by omega)
  refine iwp_loopE 0 (rng [10] 30 46) nom (fun s => ∃ i : Nat, a + 1 ≤ i ∧ i ≤ b ∧ s.t 10 = .int .i64 i ∧ scanUp (fun x => ltInt x d0[a]!) d0 p i = ia ∧ s.h = SH h bk cap d0) (fun s => s.t 10 = .int .i64 ia ∧ a + 1 ≤ ia ∧ ia ≤ b ∧ s.h = SH h bk cap d0) (fun s => b - tn (s.t 10)) ?_ ?_ ?_
  · exact ⟨(a + 1), by omega, by omega, by simp -implicitDefEqProofs [go_sem, hwa], hia.symm, by simp -implicitDefEqProofs [go_sem]; rw [hd0]; exact SH_swp _ _ _ _ _ _ _⟩
  · rintro Q2 J s1 hE hJ hf1 ⟨i, hi1, hi2, hx10, hfin, hh⟩
    simp -implicitDefEqProofs [go_sem, hx10, hh, hf1.t, hf1.m]
    refine iwp_drawn_of mixed [0,1,2,3,4,5,6,7,8,9,10,11,12,13] (by kernel_rfl) ?_
    simp -implicitDefEqProofs [go_sem, hx10, hh, hf1.t, hf1.m]
    refine cK_dec (fun hle => ?_) (fun hle => ?_)
    · have hgi := rowsD_get (d := d0) (i := i) (by omega)
      have hli : i < n := by omega
      have hw := wrap_succ (i := i) (by omega)
      simp -implicitDefEqProofs [go_sem, hx10, hh, hf1.t, hf1.m, hle, hgi, hli, hla, hga0, SH_at]
      refine ⟨_, less_c _ _ _, ?_⟩
      simp -implicitDefEqProofs [go_sem, hx10, hh, hf1.t, hf1.m, hle]
      refine cK_any (fun k1 => ?_) (fun k1 => ?_)
      · simp -implicitDefEqProofs [go_sem, hx10, hh, hf1.t, hf1.m, hf1, hle, hw]
        refine hJ _ ⟨i + 1, by omega, by omega, by simp -implicitDefEqProofs [go_sem, hw], ?_, by simp -implicitDefEqProofs [go_sem, hh]⟩ (by simp [go_sem, hx10, hw]; omega)
        rw [scanUp, if_pos (by simpa [hle] using k1)] at hfin; exact hfin
      · simp -implicitDefEqProofs [go_sem, hx10, hh, hf1.t, hf1.m, hf1, hle]
        rw [scanUp, if_neg (by simpa [hle] using k1)] at hfin
        exact hE _ (by simp -implicitDefEqProofs [go_sem, hf1]) ⟨by simp -implicitDefEqProofs [go_sem, hx10, hfin], by omega, by omega, by simp -implicitDefEqProofs [go_sem, hh]⟩
    · simp -implicitDefEqProofs [go_sem, hx10, hh, hf1.t, hf1.m, hf1, hle]
      rw [scanUp, if_neg (by simp [hle])] at hfin
      exact hE _ (by simp -implicitDefEqProofs [go_sem, hf1]) ⟨by simp -implicitDefEqProofs [go_sem, hx10, hfin], by omega, by omega, by simp -implicitDefEqProofs [go_sem, hh]⟩
  rintro s1 hf1 ⟨hx10, hi1, hi2, hh⟩
  simp -implicitDefEqProofs [go_sem, hx10, hh, hf1.t, hf1.m]
  refine iwp_loopE 2 (rng [11] 46 63) nom (fun s => ∃ j : Nat, j < b ∧ s.t 11 = .int .i64 j ∧ scanDown (fun x => !ltInt x d0[a]!) d0 ia j = ja ∧ s.h = SH h bk cap d0) (fun s => s.t 11 = .int .i64 ja ∧ ja < b ∧ s.h = SH h bk cap d0) (fun s => tn (s.t 11)) ?_ ?_ ?_
  · exact ⟨p, by omega, by simp -implicitDefEqProofs [go_sem, hf1.t, hw1], hja.symm, by simp -implicitDefEqProofs [go_sem, hh]⟩
  · rintro Q2 J s2 hE hJ hf2 ⟨j, hi1, hx11, hfin, hh⟩
    simp -implicitDefEqProofs [go_sem, hx11, hh, hf1.t, hf1.m, hf2.t, hf2.m, hx10]
    refine iwp_drawn_of mixed [0,1,2,3,4,5,6,7,8,9,10,11,12,13,14] (by kernel_rfl) ?_
    simp -implicitDefEqProofs [go_sem, hx11, hh, hf1.t, hf1.m, hf2.t, hf2.m, hx10]
    refine cK_dec (fun hle => ?_) (fun hle => ?_)
    · have hgi := rowsD_get (d := d0) (i := j) (by omega)
      have hli : j < n := by omega
      obtain ⟨k, hk⟩ : ∃ k, j = k + 1 := ⟨j - 1, by omega⟩
      have hw : IntKind.i64.wrap ((j : Int) - 1) = (k : Int) := by rw [wrap_in (by omega)]; omega
      simp -implicitDefEqProofs [go_sem, hx11, hh, hf1.t, hf1.m, hf2.t, hf2.m, hx10, hle, hgi, hli, hla, hga0, SH_at]
      refine ⟨_, less_c _ _ _, ?_⟩
      simp -implicitDefEqProofs [go_sem, hx11, hh, hf1.t, hf1.m, hf2.t, hf2.m, hx10, hle]
      refine cK_any (fun k1 => ?_) (fun k1 => ?_)
      · simp -implicitDefEqProofs [go_sem, hx11, hh, hf1.t, hf1.m, hf2.t, hf2.m, hx10, hf2, hle, hw]
        refine hJ _ ⟨k, by omega, by simp -implicitDefEqProofs [go_sem, hw], ?_, by simp -implicitDefEqProofs [go_sem, hh]⟩ (by simp [go_sem, hx11, hw]; omega)
        subst hk; rw [scanDown, if_pos (by simpa [hle] using k1)] at hfin; exact hfin
      · simp -implicitDefEqProofs [go_sem, hx11, hh, hf1.t, hf1.m, hf2.t, hf2.m, hx10, hf2, hle]
        have hfin2 : j = ja := by subst hk; rw [scanDown, if_neg (by simpa [hle] using k1)] at hfin; exact hfin
        exact hE _ (by simp -implicitDefEqProofs [go_sem, hf2]) ⟨by simp -implicitDefEqProofs [go_sem, hx11, hfin2], by omega, by simp -implicitDefEqProofs [go_sem, hh]⟩
    · simp -implicitDefEqProofs [go_sem, hx11, hh, hf1.t, hf1.m, hf2.t, hf2.m, hx10, hf2, hle]
      have hfin2 : j = ja := by
        cases j with
        | zero => exact hfin
        | succ j => rw [scanDown, if_neg (by simp; omega)] at hfin; exact hfin
      exact hE _ (by simp -implicitDefEqProofs [go_sem, hf2]) ⟨by simp -implicitDefEqProofs [go_sem, hx11, hfin2], by omega, by simp -implicitDefEqProofs [go_sem, hh]⟩
  rintro s2 hf2 ⟨hx11, hj1, hh⟩
  simp -implicitDefEqProofs [go_sem, hx10, hx11, hh, hf2.t, hf2.m, hf1.t, hf1.m]
  refine cK_dec (fun hgt => ?_) (fun hgt => ?_)
  · rw [if_pos hgt] at hpart
    have hgj := rowsD_get (d := d0) (i := ja) (by omega)
    have hlj : ja < n := by omega
    obtain ⟨r3, hr3⟩ := rowsD_get2 (d := d0) (i := ja) (j := a) (by omega) d0[a]!
    simp -implicitDefEqProofs [go_sem, hx10, hx11, hh, hf2.t, hf2.m, hf1.t, hf1.m]
    refine iwp_drawn_of mixed [0,1,2,3,4,5,6,7,8,9,10,11,12,13,14,15] (by kernel_rfl) ?_
    simp -implicitDefEqProofs [go_sem, hx10, hx11, hh, hf2.t, hf2.m, hf1.t, hf1.m, hga0, hgj, hla, hlj, hr3, SH_at]
    rw [SH_swp, hpart]
    exact ⟨_, Sub.refl _, rfl, rfl⟩
  rw [if_neg (by omega)] at hpart
  obtain ⟨R, hR⟩ : ∃ x, x = partLoop ltInt a (ia + 1) (ja - 1) (swp d0 ia ja) := ⟨_, rfl⟩
  rw [← hR] at hpart
  have hgj := rowsD_get (d := d0) (i := ja) (by omega)
  have hlj : ja < n := by omega
  have hgi := rowsD_get (d := d0) (i := ia) (by omega)
  have hli : ia < n := by omega
  obtain ⟨r3, hr3⟩ := rowsD_get2 (d := d0) (i := ia) (j := ja) (by omega) d0[ja]!
  have hwi := wrap_succ (i := ia) (by omega)
  obtain ⟨jm, hjm⟩ : ∃ x, x = ja - 1 := ⟨_, rfl⟩
  have hwj : IntKind.i64.wrap ((ja : Int) - 1) = (jm : Int) := by rw [wrap_in (by omega)]; omega
  simp -implicitDefEqProofs [go_sem, hx10, hx11, hh, hf2.t, hf2.m, hf1.t, hf1.m]
  refine iwp_drawn_of mixed [0,1,2,3,4,5,6,7,8,9,10,11,12,13,14,15] (by kernel_rfl) ?_
  simp -implicitDefEqProofs [go_sem, hx10, hx11, hh, hf2.t, hf2.m, hf1.t, hf1.m, hgi, hgj, hli, hlj, hr3, SH_at, hwi, hwj]
  refine iwp_loopE 4 (rng [10,11] 99 153) nom (fun s => ∃ (i j : Nat) (d1 : Array Int), a + 1 ≤ i ∧ i ≤ b ∧ j < b ∧ d1.size = n ∧ s.t 10 = .int .i64 i ∧ s.t 11 = .int .i64 j ∧ partLoop ltInt a i j d1 = R ∧ s.h = SH h bk cap d1) (fun s => s.t 11 = .int .i64 R.1 ∧ R.1 < b ∧ R.2.size = n ∧ s.h = SH h bk cap R.2) (fun s => tn (s.t 11) + 1 - tn (s.t 10)) ?_ ?_ ?_
  · exact ⟨ia + 1, jm, swp d0 ia ja, by omega, by omega, by omega, by rw [swp_size, hs0], by simp -implicitDefEqProofs [go_sem, hwi], by simp -implicitDefEqProofs [go_sem, hwj], by rw [hR, hjm], by simp -implicitDefEqProofs [go_sem, hh]; exact SH_swp _ _ _ _ _ _ _⟩
  · rintro Q3 J3 s3 hE3 hJ3 hf3 ⟨i0, j0, d1, hi01, hi02, hj01, hd1, h10, h11, hfin3, hh3⟩
    obtain ⟨i2, hi2d⟩ : ∃ x, x = scanUp (fun x => ltInt x d1[a]!) d1 j0 i0 := ⟨_, rfl⟩
    obtain ⟨j2, hj2d⟩ : ∃ x, x = scanDown (fun x => !ltInt x d1[a]!) d1 i2 j0 := ⟨_, rfl⟩
    have hga0 := rowsD_get (d := d1) (i := a) (by omega)
    simp -implicitDefEqProofs [go_sem, h10, h11, hh3, hf3.t, hf3.m, hx10, hx11, hf2.t, hf2.m, hf1.t, hf1.m]
    refine iwp_loopE 6 (rng [10] 99 115) nom (fun s => ∃ i : Nat, a + 1 ≤ i ∧ i ≤ b ∧ s.t 10 = .int .i64 i ∧ scanUp (fun x => ltInt x d1[a]!) d1 j0 i = i2 ∧ s.h = SH h bk cap d1) (fun s => s.t 10 = .int .i64 i2 ∧ a + 1 ≤ i2 ∧ i2 ≤ b ∧ s.h = SH h bk cap d1) (fun s => b - tn (s.t 10)) ?_ ?_ ?_
    · exact ⟨i0, by omega, by omega, by simp -implicitDefEqProofs [go_sem, h10], hi2d.symm, by simp -implicitDefEqProofs [go_sem, hh3]⟩
    · rintro Q2 J s4 hE hJ hf4 ⟨i, hi1, hi2, hx10, hfin, hh⟩
      simp -implicitDefEqProofs [go_sem, hx10, hh, hf3.t, hf3.m, hf2.t, hf2.m, hf1.t, hf1.m, hf4.t, hf4.m, h11]
      refine iwp_drawn_of mixed [0,1,2,3,4,5,6,7,8,9,10,11,12,13] (by kernel_rfl) ?_
      simp -implicitDefEqProofs [go_sem, hx10, hh, hf3.t, hf3.m, hf2.t, hf2.m, hf1.t, hf1.m, hf4.t, hf4.m, h11]
      refine cK_dec (fun hle => ?_) (fun hle => ?_)
      · have hgi := rowsD_get (d := d1) (i := i) (by omega)
        have hli : i < n := by omega
        have hw := wrap_succ (i := i) (by omega)
        simp -implicitDefEqProofs [go_sem, hx10, hh, hf3.t, hf3.m, hf2.t, hf2.m, hf1.t, hf1.m, hf4.t, hf4.m, h11, hle, hgi, hli, hla, hga0, SH_at]
        refine ⟨_, less_c _ _ _, ?_⟩
        simp -implicitDefEqProofs [go_sem, hx10, hh, hf3.t, hf3.m, hf2.t, hf2.m, hf1.t, hf1.m, hf4.t, hf4.m, h11, hle]
        refine cK_any (fun k1 => ?_) (fun k1 => ?_)
        · simp -implicitDefEqProofs [go_sem, hx10, hh, hf3.t, hf3.m, hf2.t, hf2.m, hf1.t, hf1.m, hf4.t, hf4.m, h11, hf4, hle, hw]
          refine hJ _ ⟨i + 1, by omega, by omega, by simp -implicitDefEqProofs [go_sem, hw], ?_, by simp -implicitDefEqProofs [go_sem, hh]⟩ (by simp [go_sem, hx10, hw]; omega)
          rw [scanUp, if_pos (by simpa [hle] using k1)] at hfin; exact hfin
        · simp -implicitDefEqProofs [go_sem, hx10, hh, hf3.t, hf3.m, hf2.t, hf2.m, hf1.t, hf1.m, hf4.t, hf4.m, h11, hf4, hle]
          rw [scanUp, if_neg (by simpa [hle] using k1)] at hfin
          exact hE _ (by simp -implicitDefEqProofs [go_sem, hf4]) ⟨by simp -implicitDefEqProofs [go_sem, hx10, hfin], by omega, by omega, by simp -implicitDefEqProofs [go_sem, hh]⟩
      · simp -implicitDefEqProofs [go_sem, hx10, hh, hf3.t, hf3.m, hf2.t, hf2.m, hf1.t, hf1.m, hf4.t, hf4.m, h11, hf4, hle]
        rw [scanUp, if_neg (by simp [hle])] at hfin
        exact hE _ (by simp -implicitDefEqProofs [go_sem, hf4]) ⟨by simp -implicitDefEqProofs [go_sem, hx10, hfin], by omega, by omega, by simp -implicitDefEqProofs [go_sem, hh]⟩
    rintro s4 hf4 ⟨h10', hi21, hi22, hh4⟩
    simp -implicitDefEqProofs [go_sem, h10', h11, hh4, hf4.t, hf4.m, hf3.t, hf3.m, hf2.t, hf2.m, hf1.t, hf1.m]
    refine iwp_loopE 8 (rng [11] 115 132) nom (fun s => ∃ j : Nat, j < b ∧ s.t 11 = .int .i64 j ∧ scanDown (fun x => !ltInt x d1[a]!) d1 i2 j = j2 ∧ s.h = SH h bk cap d1) (fun s => s.t 11 = .int .i64 j2 ∧ j2 < b ∧ s.h = SH h bk cap d1) (fun s => tn (s.t 11)) ?_ ?_ ?_
    · exact ⟨j0, by omega, by simp -implicitDefEqProofs [go_sem, hf4.t, h11], hj2d.symm, by simp -implicitDefEqProofs [go_sem, hh4]⟩
    · rintro Q2 J s5 hE hJ hf5 ⟨j, hi1, hx11, hfin, hh⟩
      simp -implicitDefEqProofs [go_sem, hx11, hh, hf4.t, hf4.m, hf3.t, hf3.m, hf2.t, hf2.m, hf1.t, hf1.m, hf5.t, hf5.m, h10']
      refine iwp_drawn_of mixed [0,1,2,3,4,5,6,7,8,9,10,11,12,13,14] (by kernel_rfl) ?_
      simp -implicitDefEqProofs [go_sem, hx11, hh, hf4.t, hf4.m, hf3.t, hf3.m, hf2.t, hf2.m, hf1.t, hf1.m, hf5.t, hf5.m, h10']
      refine cK_dec (fun hle => ?_) (fun hle => ?_)
      · have hgi := rowsD_get (d := d1) (i := j) (by omega)
        have hli : j < n := by omega
        obtain ⟨k, hk⟩ : ∃ k, j = k + 1 := ⟨j - 1, by omega⟩
        have hw : IntKind.i64.wrap ((j : Int) - 1) = (k : Int) := by rw [wrap_in (by omega)]; omega
        simp -implicitDefEqProofs [go_sem, hx11, hh, hf4.t, hf4.m, hf3.t, hf3.m, hf2.t, hf2.m, hf1.t, hf1.m, hf5.t, hf5.m, h10', hle, hgi, hli, hla, hga0, SH_at]
        refine ⟨_, less_c _ _ _, ?_⟩
        simp -implicitDefEqProofs [go_sem, hx11, hh, hf4.t, hf4.m, hf3.t, hf3.m, hf2.t, hf2.m, hf1.t, hf1.m, hf5.t, hf5.m, h10', hle]
        refine cK_any (fun k1 => ?_) (fun k1 => ?_)
        · simp -implicitDefEqProofs [go_sem, hx11, hh, hf4.t, hf4.m, hf3.t, hf3.m, hf2.t, hf2.m, hf1.t, hf1.m, hf5.t, hf5.m, h10', hf5, hle, hw]
          refine hJ _ ⟨k, by omega, by simp -implicitDefEqProofs [go_sem, hw], ?_, by simp -implicitDefEqProofs [go_sem, hh]⟩ (by simp [go_sem, hx11, hw]; omega)
          subst hk; rw [scanDown, if_pos (by simpa [hle] using k1)] at hfin; exact hfin
        · simp -implicitDefEqProofs [go_sem, hx11, hh, hf4.t, hf4.m, hf3.t, hf3.m, hf2.t, hf2.m, hf1.t, hf1.m, hf5.t, hf5.m, h10', hf5, hle]
          have hfin2 : j = j2 := by subst hk; rw [scanDown, if_neg (by simpa [hle] using k1)] at hfin; exact hfin
          exact hE _ (by simp -implicitDefEqProofs [go_sem, hf5]) ⟨by simp -implicitDefEqProofs [go_sem, hx11, hfin2], by omega, by simp -implicitDefEqProofs [go_sem, hh]⟩
      · simp -implicitDefEqProofs [go_sem, hx11, hh, hf4.t, hf4.m, hf3.t, hf3.m, hf2.t, hf2.m, hf1.t, hf1.m, hf5.t, hf5.m, h10', hf5, hle]
        have hfin2 : j = j2 := by
          cases j with
          | zero => exact hfin
          | succ j => rw [scanDown, if_neg (by simp; omega)] at hfin; exact hfin
        exact hE _ (by simp -implicitDefEqProofs [go_sem, hf5]) ⟨by simp -implicitDefEqProofs [go_sem, hx11, hfin2], by omega, by simp -implicitDefEqProofs [go_sem, hh]⟩
    rintro s5 hf5 ⟨h11', hj21, hh5⟩
    have hfa := Fr.trans2 hf3 hf4 (by simp -implicitDefEqProofs [go_sem]) (rng_sub (by decide)) nom_sub
    have hfb := Fr.trans2 hfa hf5 (by simp -implicitDefEqProofs [go_sem]) (rng_sub (by decide)) nom_sub
    have hle1 := (scanUp_le (fun x => ltInt x d1[a]!) d1 j0 _ i0 (Nat.le_refl _)).1
    rw [← hi2d] at hle1
    have hle2 := (scanDown_le (fun x => !ltInt x d1[a]!) d1 i2 (by omega) j0).1
    rw [← hj2d] at hle2
    simp -implicitDefEqProofs [go_sem, h10', h11', hh5, hf5.t, hf5.m, hf4.t, hf4.m, hf3.t, hf3.m, hf2.t, hf2.m, hf1.t, hf1.m]
    refine cK_dec (fun hg3 => ?_) (fun hg3 => ?_)
    · rw [partLoop_stop hi2d hj2d hg3] at hfin3
      simp -implicitDefEqProofs [go_sem, h10', h11', hh5, hfb]
      exact hE3 _ (by simp -implicitDefEqProofs [go_sem, hfb]) (by rw [← hfin3]; exact ⟨by simp -implicitDefEqProofs [go_sem, h11'], hj21, hd1, by simp -implicitDefEqProofs [go_sem, hh5]⟩)
    · rw [partLoop_go hi2d hj2d (by omega) (by omega)] at hfin3
      have hgj2 := rowsD_get (d := d1) (i := j2) (by omega)
      have hlj2 : j2 < n := by omega
      have hgi2 := rowsD_get (d := d1) (i := i2) (by omega)
      have hli2 : i2 < n := by omega
      obtain ⟨r4, hr4⟩ := rowsD_get2 (d := d1) (i := i2) (j := j2) (by omega) d1[j2]!
      have hwi2 := wrap_succ (i := i2) (by omega)
      obtain ⟨jm2, hjm2⟩ : ∃ x, x = j2 - 1 := ⟨_, rfl⟩
      have hwj2 : IntKind.i64.wrap ((j2 : Int) - 1) = (jm2 : Int) := by rw [wrap_in (by omega)]; omega
      simp -implicitDefEqProofs [go_sem, h10', h11', hh5, hf5.t, hf5.m, hf4.t, hf4.m, hf3.t, hf3.m, hf2.t, hf2.m, hf1.t, hf1.m]
      refine iwp_drawn_of mixed [0,1,2,3,4,5,6,7,8,9,10,11,12,13,14,15] (by kernel_rfl) ?_
      simp -implicitDefEqProofs [go_sem, h10', h11', hh5, hf5.t, hf5.m, hf4.t, hf4.m, hf3.t, hf3.m, hf2.t, hf2.m, hf1.t, hf1.m, hgi2, hgj2, hli2, hlj2, hr4, SH_at, hwi2, hwj2, hfb]
      refine hJ3 _ ⟨i2 + 1, jm2, swp d1 i2 j2, by omega, by omega, by omega, by rw [swp_size, hd1], by simp -implicitDefEqProofs [go_sem, hwi2], by simp -implicitDefEqProofs [go_sem, hwj2], by rw [hjm2]; exact hfin3, by simp -implicitDefEqProofs [go_sem, hh5]; exact SH_swp _ _ _ _ _ _ _⟩ (by simp [go_sem, h10, h11, hwi2, hwj2]; omega)
  rintro s3 hf3 ⟨h11, hR1, hR2, hh3⟩
  have hgR := rowsD_get (d := R.2) (i := R.1) (by omega)
  have hlR : R.1 < n := by omega
  have hgA := rowsD_get (d := R.2) (i := a) (by omega)
  obtain ⟨r5, hr5⟩ := rowsD_get2 (d := R.2) (i := R.1) (j := a) (by omega) R.2[a]!
  simp -implicitDefEqProofs [go_sem, h11, hh3, hf3.t, hf3.m, hf2.t, hf2.m, hf1.t, hf1.m]
  refine iwp_drawn_of mixed [0,1,2,3,4,5,6,7,8,9,10,11,12,13,14,15] (by kernel_rfl) ?_
  simp -implicitDefEqProofs [go_sem, h11, hh3, hf3.t, hf3.m, hf2.t, hf2.m, hf1.t, hf1.m, hgR, hgA, hla, hlR, hr5, SH_at]
  rw [SH_swp, hpart]
  exact ⟨_, Sub.refl _, rfl, rfl⟩
end Go.Proofs
