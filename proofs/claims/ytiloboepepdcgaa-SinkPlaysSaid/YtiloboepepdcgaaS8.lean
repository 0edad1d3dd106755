/- This text is a part of the proofs of the statements of this seat: the ideal states and their rules, or what one of the functions that the statements reach comes to. Conditions: none beyond those that each theorem names. -/
import Derived.Test.YtiloboepepdcgaaS4
set_option linter.unusedVariables false
set_option linter.unusedSimpArgs false
set_option pp.deepTerms false
set_option pp.maxSteps 400
namespace Go.Proofs
open Go.Idl
open Go.Sort (swp ltInt scanSorted shiftDown shiftUp partialIns partialInsertionSort)

/-- two branches that join: what holds behind them is said once -/
theorem ifE {P : Program} {hint : Nat → Nat} {a b : Code} {Q : IExit → St → Prop} {st : St} {t : Bool} (M MM : Nat → Bool) (E : St → Prop)
    (h : ∀ Q2 : IExit → St → Prop, (∀ s', Fr M MM st s' → E s' → Q2 .normal s') → condK t (ifC P hint a b Q2 st)) (hrest : ∀ s', Fr M MM st s' → E s' → Q .normal s') : condK t (ifC P hint a b Q st) := h Q hrest

theorem shiftDown_size (j : Nat) : ∀ d : Array Int, (shiftDown ltInt j d).size = d.size := by
  induction j with
  | zero => intro d; rfl
  | succ j ih => intro d; rw [shiftDown]; split
                 · rfl
                 · rw [ih, swp_size]
theorem shiftUp_size (b : Nat) : ∀ (m j : Nat) (d : Array Int), b - j ≤ m → (shiftUp ltInt b j d).size = d.size := by
  intro m
  induction m with
  | zero => intro j d h; rw [shiftUp, if_neg (by omega)]
  | succ m ih =>
    intro j d h
    rw [shiftUp]
    split
    · split
      · rfl
      · rw [ih _ _ (by omega), swp_size]
    · rfl

set_option maxRecDepth 20000 in
set_option maxHeartbeats 8000000 in
theorem partialIns_c (d : Array Int) (a b bk cap : Nat) (h : Heap) (hab : a < b) (hb : b ≤ d.size) (hs : d.size < 10000000000) :
    ICall Try.prog 117 [.sl 1 bk 0 d.size cap, .int .i64 a, .int .i64 b] (SH h bk cap d)
      (retP (.bool (partialInsertionSort ltInt d a b).2) (SH h bk cap (partialInsertionSort ltInt d a b).1)) := by
  obtain ⟨n, hn⟩ : ∃ n, n = d.size := ⟨_, rfl⟩
  rw [← hn] at hb hs ⊢
  refine icall_of_iwp (fun _ => 0) Try.func117 rfl (by kernel_rfl) (Nat.le_of_ble_eq_true rfl) ?_
  rw [Try.results117]
  obtain ⟨R, hR⟩ : ∃ x, x = partialInsertionSort ltInt d a b := ⟨_, rfl⟩
  rw [← hR]
  have hwa := wrap_succ (i := a) (by omega)
  have hwba : IntKind.i64.wrap ((b : Int) - (a : Int)) = ((b - a : Nat) : Int) := by rw [wrap_in (by omega)]; omega
  simp -implicitDefEqProofs [go_sem, hwa]
  refine iwp_loopF (rng [7,8,9,10] 13 133) nom (fun s => ∃ (jn st i : Nat) (d1 : Array Int), jn + st = 5 ∧ a + 1 ≤ i ∧ i ≤ b ∧ d1.size = n ∧ s.t 8 = .int .i64 jn ∧ s.t 7 = .int .i64 i ∧ partialIns ltInt a b st i d1 = R ∧ s.h = SH h bk cap d1) (fun s => 5 - tn (s.t 8)) ?_ ?_
  · exact ⟨0, 5, a + 1, d, rfl, by omega, by omega, hn.symm, by simp -implicitDefEqProofs [go_sem], by simp -implicitDefEqProofs [go_sem, hwa], by rw [hR, partialInsertionSort], by simp -implicitDefEqProofs [go_sem]⟩
  rintro J s1 hJ hf1 ⟨jn, st, i0, d1, hjn, hi01, hi02, hd1, h8, h7, hfin, hh⟩
  simp -implicitDefEqProofs [go_sem, h8, h7, hh, hf1.t, hf1.m]
  refine cK_dec (fun hlt5 => ?_) (fun hge5 => ?_)
  · obtain ⟨st', rfl⟩ : ∃ x, st = x + 1 := ⟨st - 1, by omega⟩
    obtain ⟨i2, hi2⟩ : ∃ x, x = scanSorted ltInt d1 b i0 := ⟨_, rfl⟩
    have hwj := wrap_succ (i := jn) (by omega)
    simp -implicitDefEqProofs [go_sem, h8, h7, hh, hf1.t, hf1.m]
    refine iwp_loopE 2 (rng [7] 17 35) nom (fun s => ∃ i : Nat, a + 1 ≤ i ∧ i ≤ b ∧ s.t 7 = .int .i64 i ∧ scanSorted ltInt d1 b i = i2 ∧ s.h = SH h bk cap d1) (fun s => s.t 7 = .int .i64 i2 ∧ a + 1 ≤ i2 ∧ i2 ≤ b ∧ s.h = SH h bk cap d1) (fun s => b - tn (s.t 7)) ?_ ?_ ?_
    · exact ⟨i0, hi01, hi02, by simp -implicitDefEqProofs [go_sem, h7], hi2.symm, by simp -implicitDefEqProofs [go_sem, hh]⟩
    · rintro Q2 J2 s2 hE hJ2 hf2 ⟨i, hi1, hi2', hx7, hsc, hh2⟩
      simp -implicitDefEqProofs [go_sem, hx7, hh2, hf2.t, hf2.m, hf1.t, hf1.m]
      refine iwp_drawn_of mixed [0,1,2,3,4,5,6,7,8,9,10,11,12,13,14,15] (by kernel_rfl) ?_
      simp -implicitDefEqProofs [go_sem, hx7, hh2, hf2.t, hf2.m, hf1.t, hf1.m]
      refine cK_dec (fun hle => ?_) (fun hle => ?_)
      · have hgi := rowsD_get (d := d1) (i := i) (by omega)
        have hli : i < n := by omega
        obtain ⟨k, hk⟩ : ∃ x, x = i - 1 := ⟨_, rfl⟩
        have hgk := rowsD_get (d := d1) (i := k) (by omega)
        have hlk : k < n := by omega
        have hwk : IntKind.i64.wrap ((i : Int) - 1) = (k : Int) := by rw [wrap_in (by omega)]; omega
        have hw := wrap_succ (i := i) (by omega)
        simp -implicitDefEqProofs [go_sem, hx7, hh2, hf2.t, hf2.m, hf1.t, hf1.m, hle, hgi, hli, hgk, hlk, hwk, SH_at]
        refine ⟨_, less_c _ _ _, ?_⟩
        simp -implicitDefEqProofs [go_sem, hx7, hh2, hf2.t, hf2.m, hf1.t, hf1.m, hle]
        refine cK_any (fun k1 => ?_) (fun k1 => ?_)
        · simp -implicitDefEqProofs [go_sem, hx7, hh2, hf2.t, hf2.m, hf1.t, hf1.m, hf2, hle, hw]
          refine hJ2 _ ⟨i + 1, by omega, by omega, by simp -implicitDefEqProofs [go_sem, hw], ?_, by simp -implicitDefEqProofs [go_sem, hh2]⟩ (by simp [go_sem, hx7, hw]; omega)
          rw [scanSorted, if_pos (by rw [← hk]; simpa [hle] using k1)] at hsc; exact hsc
        · simp -implicitDefEqProofs [go_sem, hx7, hh2, hf2.t, hf2.m, hf1.t, hf1.m, hf2, hle]
          rw [scanSorted, if_neg (by rw [← hk]; simpa [hle] using k1)] at hsc
          exact hE _ (by simp -implicitDefEqProofs [go_sem, hf2]) ⟨by simp -implicitDefEqProofs [go_sem, hx7, hsc], by omega, by omega, by simp -implicitDefEqProofs [go_sem, hh2]⟩
      · simp -implicitDefEqProofs [go_sem, hx7, hh2, hf2.t, hf2.m, hf1.t, hf1.m, hf2, hle]
        rw [scanSorted, if_neg (by simp [hle])] at hsc
        exact hE _ (by simp -implicitDefEqProofs [go_sem, hf2]) ⟨by simp -implicitDefEqProofs [go_sem, hx7, hsc], by omega, by omega, by simp -implicitDefEqProofs [go_sem, hh2]⟩
    rintro s2 hf2 ⟨hx7, hb1, hb2, hh2⟩
    have hfa := Fr.trans2 hf1 hf2 (by simp -implicitDefEqProofs [go_sem]) (rng_sub (by decide)) nom_sub
    rw [partialIns] at hfin
    simp only [← hi2] at hfin
    simp -implicitDefEqProofs [go_sem, hx7, hh2, hf2.t, hf2.m, hf1.t, hf1.m]
    refine cK_beq (fun heq => ?_) (fun hne => ?_)
    · rw [if_pos (by omega)] at hfin
      simp -implicitDefEqProofs [go_sem, hx7, hh2, hf2.t, hf2.m, hf1.t, hf1.m]
      exact ⟨_, Sub.refl _, by rw [← hfin], by rw [← hfin]⟩
    rw [if_neg (by omega)] at hfin
    simp -implicitDefEqProofs [go_sem, hx7, hh2, hf2.t, hf2.m, hf1.t, hf1.m, hwba]
    refine cK_dec (fun h50 => ?_) (fun h50 => ?_)
    · rw [if_pos (by omega)] at hfin
      simp -implicitDefEqProofs [go_sem, hx7, hh2, hf2.t, hf2.m, hf1.t, hf1.m]
      exact ⟨_, Sub.refl _, by rw [← hfin], by rw [← hfin]⟩
    rw [if_neg (by omega)] at hfin
    obtain ⟨k2, hk2⟩ : ∃ x, x = i2 - 1 := ⟨_, rfl⟩
    obtain ⟨d2, hd2⟩ : ∃ x, x = swp d1 i2 k2 := ⟨_, rfl⟩
    have hs2 : d2.size = n := by rw [hd2, swp_size, hd1]
    obtain ⟨d3, hd3⟩ : ∃ x, x = if i2 - a ≥ 2 then shiftDown ltInt k2 d2 else d2 := ⟨_, rfl⟩
    have hs3 : d3.size = n := by
      rw [hd3]; split
      · rw [shiftDown_size, hs2]
      · exact hs2
    obtain ⟨d4, hd4⟩ : ∃ x, x = if b - i2 ≥ 2 then shiftUp ltInt b (i2 + 1) d3 else d3 := ⟨_, rfl⟩
    have hs4 : d4.size = n := by
      rw [hd4]; split
      · rw [shiftUp_size _ _ _ _ (Nat.le_refl _), hs3]
      · exact hs3
    rw [← hk2, ← hd2, ← hd3, ← hd4] at hfin
    have hgi := rowsD_get (d := d1) (i := i2) (by omega)
    have hli : i2 < n := by omega
    have hgk := rowsD_get (d := d1) (i := k2) (by omega)
    have hlk : k2 < n := by omega
    have hwk : IntKind.i64.wrap ((i2 : Int) - 1) = (k2 : Int) := by rw [wrap_in (by omega)]; omega
    have hwi : IntKind.i64.wrap ((i2 : Int) - (a : Int)) = (i2 : Int) - (a : Int) := wrap_in (by omega)
    have hwb : IntKind.i64.wrap ((b : Int) - (i2 : Int)) = (b : Int) - (i2 : Int) := wrap_in (by omega)
    obtain ⟨r3, hr3⟩ := rowsD_get2 (d := d1) (i := i2) (j := k2) (by omega) d1[k2]!
    simp -implicitDefEqProofs [go_sem, hx7, hh2, hf2.t, hf2.m, hf1.t, hf1.m]
    refine iwp_drawn_of mixed [0,1,2,3,4,5,6,7,8,9,10,11,12,13,14,15,16,17] (by kernel_rfl) ?_
    simp -implicitDefEqProofs [go_sem, hx7, hh2, hf2.t, hf2.m, hf1.t, hf1.m, hgi, hli, hgk, hlk, hwk, hwi, hr3, SH_at]
    refine ifE (rng [9] 62 95) nom (fun s => s.h = SH h bk cap d3) ?_ ?_
    · intro Q3 hE3
      refine cK_dec (fun hc2 => ?_) (fun hc2 => ?_)
      · have hd3' : d3 = shiftDown ltInt k2 d2 := by rw [hd3, if_pos (by omega)]
        simp -implicitDefEqProofs [go_sem, hx7, hh2, hf2.t, hf2.m, hf1.t, hf1.m, hwk]
        refine iwp_loopE 4 (rng [9] 64 95) nom (fun s => ∃ (j : Nat) (d5 : Array Int), j < n ∧ d5.size = n ∧ s.t 9 = .int .i64 j ∧ shiftDown ltInt j d5 = d3 ∧ s.h = SH h bk cap d5) (fun s => s.h = SH h bk cap d3) (fun s => tn (s.t 9)) ?_ ?_ ?_
        · exact ⟨k2, d2, hlk, hs2, by simp -implicitDefEqProofs [go_sem, hwk], hd3'.symm, by simp -implicitDefEqProofs [go_sem, hh2]; rw [hd2]; exact SH_swp _ _ _ _ _ _ _⟩
        · rintro Q4 J4 s4 hE4 hJ4 hf4 ⟨j, d5, hj, hs5, h9, hsd, hh4⟩
          simp -implicitDefEqProofs [go_sem, hx7, h9, hh4, hf4.t, hf4.m, hf2.t, hf2.m, hf1.t, hf1.m]
          refine cK_dec (fun hj1 => ?_) (fun hj1 => ?_)
          · obtain ⟨m, hm⟩ : ∃ x, j = x + 1 := ⟨j - 1, by omega⟩
            have hgj := rowsD_get (d := d5) (i := j) (by omega)
            have hgm := rowsD_get (d := d5) (i := m) (by omega)
            have hlm : m < n := by omega
            have hwm : IntKind.i64.wrap ((j : Int) - 1) = (m : Int) := by rw [wrap_in (by omega)]; omega
            obtain ⟨r4, hr4⟩ := rowsD_get2 (d := d5) (i := j) (j := m) (by omega) d5[m]!
            simp -implicitDefEqProofs [go_sem, hx7, h9, hh4, hf4.t, hf4.m, hf2.t, hf2.m, hf1.t, hf1.m]
            refine iwp_drawn_of mixed [0,1,2,3,4,5,6,7,8,9,10] (by kernel_rfl) ?_
            simp -implicitDefEqProofs [go_sem, hx7, h9, hh4, hf4.t, hf4.m, hf2.t, hf2.m, hf1.t, hf1.m, hgj, hgm, hj, hlm, hwm, SH_at]
            refine ⟨_, less_c _ _ _, ?_⟩
            simp -implicitDefEqProofs [go_sem, hx7, h9, hh4, hf4.t, hf4.m, hf2.t, hf2.m, hf1.t, hf1.m]
            refine cK_any (fun k1 => ?_) (fun k1 => ?_)
            · have hx : d5 = d3 := by subst hm; rw [shiftDown, if_pos (by simpa using k1)] at hsd; exact hsd
              simp -implicitDefEqProofs [go_sem, hx7, h9, hh4, hf4.t, hf4.m, hf4, hf2.t, hf2.m, hf1.t, hf1.m]
              exact hE4 _ (by simp -implicitDefEqProofs [go_sem, hf4]) (by simp -implicitDefEqProofs [go_sem, hh4, hx])
            · simp -implicitDefEqProofs [go_sem, hx7, h9, hh4, hf4.t, hf4.m, hf2.t, hf2.m, hf1.t, hf1.m]
              refine iwp_drawn_of mixed [0,1,2,3,4,5,6,7,8,9,10,11,12,13,14,15,16,17] (by kernel_rfl) ?_
              simp -implicitDefEqProofs [go_sem, hx7, h9, hh4, hf4.t, hf4.m, hf4, hf2.t, hf2.m, hf1.t, hf1.m, hgj, hgm, hj, hlm, hwm, hr4, SH_at]
              have hstep : shiftDown ltInt m (swp d5 j m) = d3 := by subst hm; rw [shiftDown, if_neg (by simpa using k1)] at hsd; exact hsd
              exact hJ4 _ ⟨m, swp d5 j m, hlm, by rw [swp_size, hs5], by simp -implicitDefEqProofs [go_sem, hwm], hstep, by simp -implicitDefEqProofs [go_sem, hh4]; exact SH_swp _ _ _ _ _ _ _⟩ (by simp [go_sem, h9, hwm]; omega)
          · obtain rfl : j = 0 := by omega
            rw [shiftDown] at hsd
            simp -implicitDefEqProofs [go_sem, hx7, h9, hh4, hf4.t, hf4.m, hf4, hf2.t, hf2.m, hf1.t, hf1.m]
            exact hE4 _ (by simp -implicitDefEqProofs [go_sem, hf4]) (by simp -implicitDefEqProofs [go_sem, hh4, hsd])
        · rintro s4 hf4 hh4
          simp -implicitDefEqProofs [go_sem]
          exact hE3 _ (Fr.trans2 (Fr.refl _ _ _) hf4 (by simp -implicitDefEqProofs [go_sem]) (rng_sub (by decide)) nom_sub) hh4
      · have hd3' : d3 = d2 := by rw [hd3, if_neg (by omega)]
        simp -implicitDefEqProofs [go_sem]
        exact hE3 _ (by simp -implicitDefEqProofs [go_sem]) (by simp -implicitDefEqProofs [go_sem, hh2]; rw [hd3', hd2]; exact SH_swp _ _ _ _ _ _ _)
    rintro s3 hf3 hh3
    have hfb := Fr.trans2 hfa hf3 (by simp -implicitDefEqProofs [go_sem]) (rng_sub (by decide)) nom_sub
    simp -implicitDefEqProofs [go_sem, hx7, hh3, hf3.t, hf3.m, hf2.t, hf2.m, hf1.t, hf1.m, hwb]
    refine ifE (rng [10] 99 133) nom (fun s => s.h = SH h bk cap d4) ?_ ?_
    · intro Q3 hE3
      refine cK_dec (fun hc2 => ?_) (fun hc2 => ?_)
      · have hd4' : d4 = shiftUp ltInt b (i2 + 1) d3 := by rw [hd4, if_pos (by omega)]
        have hwi1 := wrap_succ (i := i2) (by omega)
        simp -implicitDefEqProofs [go_sem, hx7, hh3, hf3.t, hf3.m, hf2.t, hf2.m, hf1.t, hf1.m, hwi1]
        refine iwp_loopE 6 (rng [10] 101 133) nom (fun s => ∃ (j : Nat) (d5 : Array Int), 1 ≤ j ∧ j ≤ b ∧ d5.size = n ∧ s.t 10 = .int .i64 j ∧ shiftUp ltInt b j d5 = d4 ∧ s.h = SH h bk cap d5) (fun s => s.h = SH h bk cap d4) (fun s => b - tn (s.t 10)) ?_ ?_ ?_
        · exact ⟨i2 + 1, d3, by omega, by omega, hs3, by simp -implicitDefEqProofs [go_sem, hwi1], hd4'.symm, by simp -implicitDefEqProofs [go_sem, hh3]⟩
        · rintro Q4 J4 s4 hE4 hJ4 hf4 ⟨j, d5, hj0, hjb, hs5, h10, hsd, hh4⟩
          simp -implicitDefEqProofs [go_sem, hx7, h10, hh4, hf4.t, hf4.m, hf3.t, hf3.m, hf2.t, hf2.m, hf1.t, hf1.m]
          refine cK_dec (fun hj1 => ?_) (fun hj1 => ?_)
          · obtain ⟨m, hm⟩ : ∃ x, x = j - 1 := ⟨_, rfl⟩
            have hj : j < n := by omega
            have hgj := rowsD_get (d := d5) (i := j) (by omega)
            have hgm := rowsD_get (d := d5) (i := m) (by omega)
            have hlm : m < n := by omega
            have hwm : IntKind.i64.wrap ((j : Int) - 1) = (m : Int) := by rw [wrap_in (by omega)]; omega
            have hwj2 := wrap_succ (i := j) (by omega)
            obtain ⟨r4, hr4⟩ := rowsD_get2 (d := d5) (i := j) (j := m) (by omega) d5[m]!
            simp -implicitDefEqProofs [go_sem, hx7, h10, hh4, hf4.t, hf4.m, hf3.t, hf3.m, hf2.t, hf2.m, hf1.t, hf1.m]
            refine iwp_drawn_of mixed [0,1,2,3,4,5,6,7,8,9,10] (by kernel_rfl) ?_
            simp -implicitDefEqProofs [go_sem, hx7, h10, hh4, hf4.t, hf4.m, hf3.t, hf3.m, hf2.t, hf2.m, hf1.t, hf1.m, hgj, hgm, hj, hlm, hwm, SH_at]
            refine ⟨_, less_c _ _ _, ?_⟩
            simp -implicitDefEqProofs [go_sem, hx7, h10, hh4, hf4.t, hf4.m, hf3.t, hf3.m, hf2.t, hf2.m, hf1.t, hf1.m]
            refine cK_any (fun k1 => ?_) (fun k1 => ?_)
            · have hx : d5 = d4 := by rw [shiftUp, if_pos hj1, if_pos (by rw [← hm]; simpa using k1)] at hsd; exact hsd
              simp -implicitDefEqProofs [go_sem, hx7, h10, hh4, hf4.t, hf4.m, hf4, hf3.t, hf3.m, hf2.t, hf2.m, hf1.t, hf1.m]
              exact hE4 _ (by simp -implicitDefEqProofs [go_sem, hf4]) (by simp -implicitDefEqProofs [go_sem, hh4, hx])
            · simp -implicitDefEqProofs [go_sem, hx7, h10, hh4, hf4.t, hf4.m, hf3.t, hf3.m, hf2.t, hf2.m, hf1.t, hf1.m]
              refine iwp_drawn_of mixed [0,1,2,3,4,5,6,7,8,9,10,11,12,13,14,15,16,17] (by kernel_rfl) ?_
              simp -implicitDefEqProofs [go_sem, hx7, h10, hh4, hf4.t, hf4.m, hf4, hf3.t, hf3.m, hf2.t, hf2.m, hf1.t, hf1.m, hgj, hgm, hj, hlm, hwm, hwj2, hr4, SH_at]
              have hstep : shiftUp ltInt b (j + 1) (swp d5 j m) = d4 := by rw [shiftUp, if_pos hj1, if_neg (by rw [← hm]; simpa using k1), ← hm] at hsd; exact hsd
              exact hJ4 _ ⟨j + 1, swp d5 j m, by omega, by omega, by rw [swp_size, hs5], by simp -implicitDefEqProofs [go_sem, hwj2], hstep, by simp -implicitDefEqProofs [go_sem, hh4]; exact SH_swp _ _ _ _ _ _ _⟩ (by simp [go_sem, h10, hwj2]; omega)
          · rw [shiftUp, if_neg (by omega)] at hsd
            simp -implicitDefEqProofs [go_sem, hx7, h10, hh4, hf4.t, hf4.m, hf4, hf3.t, hf3.m, hf2.t, hf2.m, hf1.t, hf1.m]
            exact hE4 _ (by simp -implicitDefEqProofs [go_sem, hf4]) (by simp -implicitDefEqProofs [go_sem, hh4, hsd])
        · rintro s4 hf4 hh4
          simp -implicitDefEqProofs [go_sem]
          exact hE3 _ (Fr.trans2 (Fr.refl _ _ _) hf4 (by simp -implicitDefEqProofs [go_sem]) (rng_sub (by decide)) nom_sub) hh4
      · have hd4' : d4 = d3 := by rw [hd4, if_neg (by omega)]
        simp -implicitDefEqProofs [go_sem]
        exact hE3 _ (by simp -implicitDefEqProofs [go_sem]) (by simp -implicitDefEqProofs [go_sem, hh3, hd4'])
    rintro s4 hf4 hh4
    have hfc := Fr.trans2 hfb hf4 (by simp -implicitDefEqProofs [go_sem]) (rng_sub (by decide)) nom_sub
    have h84 : s4.t 8 = .int .i64 jn := by rw [hf4.t 8 rfl]; simp -implicitDefEqProofs [go_sem, hf3.t, hf2.t, hf2.m, hf1.t, hf1.m, h8]
    have h74 : s4.t 7 = .int .i64 i2 := by rw [hf4.t 7 rfl]; simp -implicitDefEqProofs [go_sem, hf3.t, hx7, hf2.t, hf2.m, hf1.t, hf1.m]
    simp -implicitDefEqProofs [go_sem, h84, h74, hh4, hwj, hfc]
    exact hJ _ ⟨jn + 1, st', i2, d4, by omega, hb1, hb2, hs4, by simp -implicitDefEqProofs [go_sem, hwj], by simp -implicitDefEqProofs [go_sem, h74], hfin, by simp -implicitDefEqProofs [go_sem, hh4]⟩ (by simp [go_sem, h8, hwj]; omega)
  · obtain rfl : st = 0 := by omega
    rw [partialIns] at hfin
    simp -implicitDefEqProofs [go_sem, h8, h7, hh, hf1.t, hf1.m]
    exact ⟨_, Sub.refl _, by rw [← hfin], by rw [← hfin]⟩
end Go.Proofs
