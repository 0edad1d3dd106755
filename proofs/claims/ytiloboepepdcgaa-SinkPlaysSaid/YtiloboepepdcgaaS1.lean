/- This text is a part of the proofs of the statements of this seat: the ideal states and their rules, or what one of the functions that the statements reach comes to. Conditions: none beyond those that each theorem names. -/
import Derived.Test.YtiloboepepdcgaaF15
import Derived.Test.YtiloboepepdcgaaB0
import Derived.Sort.AssemblyPlain
set_option linter.unusedVariables false
set_option linter.unusedSimpArgs false
set_option pp.deepTerms false
set_option pp.maxSteps 400
namespace Go.Proofs
open Go.Idl
open Go.Sort (swp ltInt insInner insOuter insertionSort)

/-- the array of a slice of numbers, in the heap -/
def rowsD (d : Array Int) : List (List IV) := d.toList.map intRow
def SH (h : Heap) (b cap : Nat) (d : Array Int) : Heap := upd h b (some (.arr 3 1 (rowsD d) cap))
theorem rowsD_len (d : Array Int) : (rowsD d).length = d.size := by simp [rowsD]
theorem rowsD_get {d : Array Int} {i : Nat} (hi : i < d.size) : (rowsD d)[i]? = some [.int .i64 d[i]!] := by
  rw [rowsD, List.getElem?_map, Array.getElem?_toList, Array.getElem?_eq_getElem hi, getElem!_pos d i hi]; rfl
theorem rowsD_set (d : Array Int) (i : Nat) (x : Int) : (rowsD d).set i [.int .i64 x] = rowsD (d.setIfInBounds i x) := by
  rw [rowsD, rowsD, Array.toList_setIfInBounds, List.map_set]; rfl
theorem rowsD_swp (d : Array Int) (i j : Nat) : ((rowsD d).set i [.int .i64 d[j]!]).set j [.int .i64 d[i]!] = rowsD (swp d i j) := by
  rw [rowsD_set, rowsD_set]; rfl
theorem rowsD_uni (d : Array Int) : uni 1 (rowsD d) = true := by simp [uni, rowsD, intRow]
theorem rowsD_get2 {d : Array Int} {i j : Nat} (hj : j < d.size) (x : Int) : ∃ r, ((rowsD d).set i [.int .i64 x])[j]? = some [r] := by
  rw [rowsD_set]
  exact ⟨_, rowsD_get (by simpa using hj)⟩
theorem swp_size (d : Array Int) (i j : Nat) : (swp d i j).size = d.size := by simp [swp]
theorem SH_upd (h : Heap) (b cap : Nat) (d : Array Int) (x : Option IObj) : upd (SH h b cap d) b x = upd h b x := by funext j; simp only [SH, upd]; split <;> rfl
theorem SH_at (h : Heap) (b cap : Nat) (d : Array Int) : SH h b cap d b = some (.arr 3 1 (rowsD d) cap) := by simp [SH, upd]

theorem isNaN_c (x : Int) (h : Heap) : ICall Try.prog 145 [.int .i64 x] h (retP (.bool false) h) := by
  refine icall_of_iwp (fun _ => 0) Try.func145 rfl (by kernel_rfl) (Nat.le_of_ble_eq_true rfl) ?_
  rw [Try.results145]
  simp -implicitDefEqProofs [go_sem]
  exact ⟨h, Sub.refl _, rfl, rfl⟩
theorem less_c (x y : Int) (h : Heap) : ICall Try.prog 118 [.int .i64 x, .int .i64 y] h (retP (.bool (ltInt x y)) h) := by
  refine icall_of_iwp (fun _ => 0) Try.func118 rfl (by kernel_rfl) (Nat.le_of_ble_eq_true rfl) ?_
  rw [Try.results118]
  simp -implicitDefEqProofs [go_sem]
  refine (isNaN_c x h).mono ?_
  rintro e h' ⟨rfl, he⟩
  rw [he]
  simp -implicitDefEqProofs [go_sem]
  exact ⟨h, Sub.refl _, rfl, rfl⟩

set_option maxRecDepth 20000 in
set_option maxHeartbeats 4000000 in
theorem insSort_c (d : Array Int) (a b bk cap : Nat) (h : Heap) (hb : b ≤ d.size) (hs : d.size < 100000000000) (ha : a < 100000000000) :
    ICall Try.prog 112 [.sl 1 bk 0 d.size cap, .int .i64 a, .int .i64 b] (SH h bk cap d) (retP (.tup []) (SH h bk cap (insertionSort ltInt d a b))) := by
  obtain ⟨n, hn⟩ : ∃ n, n = d.size := ⟨_, rfl⟩
  rw [← hn] at hb hs ⊢
  refine icall_of_iwp (fun _ => 0) Try.func112 rfl (by kernel_rfl) (Nat.le_of_ble_eq_true rfl) ?_
  rw [Try.results112]
  have hwa := wrap_succ (i := a) (by omega)
  simp -implicitDefEqProofs [go_sem, hwa]
  refine iwp_loopF (rng [6,7] 10 49) nom (fun s => ∃ (i : Nat) (d1 : Array Int), a + 1 ≤ i ∧ (i ≤ b ∨ i = a + 1) ∧ d1.size = n ∧ s.t 6 = .int .i64 i ∧ insOuter ltInt a b i d1 = insertionSort ltInt d a b ∧ s.h = SH h bk cap d1) (fun s => b - tn (s.t 6)) ?_ ?_
  · exact ⟨a + 1, d, Nat.le_refl _, .inr rfl, hn.symm, by simp -implicitDefEqProofs [go_sem, hwa], rfl, by simp -implicitDefEqProofs [go_sem]⟩
  rintro J s hJ hf2 ⟨i, d1, hi1, hi2, hd1, h6, hfin, hh⟩
  simp -implicitDefEqProofs [go_sem, h6, hh, hf2.t, hf2.m]
  refine cK_dec (fun hlt => ?_) (fun hge => ?_)
  · have hw := wrap_succ (i := i) (by omega)
    simp -implicitDefEqProofs [go_sem, h6, hh, hf2.t, hf2.m]
    refine iwp_loopF (rng [7] 16 49) nom (fun s => ∃ (j : Nat) (d2 : Array Int), a ≤ j ∧ j ≤ i ∧ d2.size = n ∧ s.t 7 = .int .i64 j ∧ insInner ltInt a j d2 = insInner ltInt a i d1 ∧ s.h = SH h bk cap d2) (fun s => tn (s.t 7)) ?_ ?_
    · exact ⟨i, d1, by omega, Nat.le_refl _, hd1, by simp -implicitDefEqProofs [go_sem], rfl, by simp -implicitDefEqProofs [go_sem, hh]⟩
    rintro J2 s3 hJ2 hf3 ⟨j, d2, hj1, hj2, hd2, h7, hin, hh3⟩
    simp -implicitDefEqProofs [go_sem, h7, hh3, hf3.t, hf3.m, hf2.t, hf2.m, h6]
    have hend : insInner ltInt a j d2 = d2 → insOuter ltInt a b (i + 1) d2 = insertionSort ltInt d a b := fun hx => by
      rw [insOuter, if_pos hlt, ← hin, hx] at hfin; exact hfin
    have hf4 := Fr.trans2 hf2 hf3 (by simp -implicitDefEqProofs [go_sem]) (rng_sub (by decide)) nom_sub
    refine iwp_drawn_of mixed [0,1,2,3,4,5,6,7,8,9,10,11,12,13,14] (by kernel_rfl) ?_
    simp -implicitDefEqProofs [go_sem, h7, hh3, hf3.t, hf3.m, hf2.t, hf2.m, h6]
    refine cK_dec (fun hja => ?_) (fun hja => ?_)
    · obtain ⟨k, hk⟩ : ∃ k, j = k + 1 := ⟨j - 1, by omega⟩
      have hw1 : IntKind.i64.wrap ((j : Int) - 1) = (k : Int) := by rw [wrap_in (by omega)]; omega
      have hg1 := rowsD_get (d := d2) (i := j) (by omega)
      have hg0 := rowsD_get (d := d2) (i := k) (by omega)
      have hl1 : j < n := by omega
      have hl0 : k < n := by omega
      simp -implicitDefEqProofs [go_sem, h7, hh3, hf3.t, hf3.m, hf2.t, hf2.m, h6, hja, hw1, hg1, hg0, hl1, hl0, SH_at]
      refine ⟨_, less_c _ _ _, ?_⟩
      simp -implicitDefEqProofs [go_sem, h7, hh3, hf3.t, hf3.m, hf2.t, hf2.m, h6, hja, hw1, hg1, hg0, hl1, hl0, SH_at]
      refine cK_any (fun k1 => ?_) (fun k1 => ?_)
      · obtain ⟨r2, hr2⟩ := rowsD_get2 (d := d2) (i := j) (j := k) (by omega) d2[k]!
        simp -implicitDefEqProofs [go_sem, h7, hh3, hf3.t, hf3.m, hf2.t, hf2.m, h6, hja, hw1, hg1, hg0, hl1, hl0, SH_at]
        refine iwp_drawn_of mixed [0,1,2,3,4,5,6,7,8,9,10,11,12,13,14,15,16,17] (by kernel_rfl) ?_
        simp -implicitDefEqProofs [go_sem, h7, hh3, hf3.t, hf3.m, hf3, hf2.t, hf2.m, h6, hja, hw1, hg1, hg0, hl1, hl0, hr2, SH_at]
        have hstep : insInner ltInt a k (swp d2 j k) = insInner ltInt a i d1 := by
          rw [← hin]; subst hk; rw [insInner, if_pos (by simp [k1]; omega)]
        refine hJ2 _ ⟨k, swp d2 j k, by omega, by omega, by rw [swp_size, hd2], by simp -implicitDefEqProofs [go_sem, hw1], hstep, ?_⟩ (by simp [go_sem, h7, hw1]; omega)
        funext q
        simp -implicitDefEqProofs [go_sem, hh3, SH, rowsD_swp]
        try (split <;> rfl)
      · have hx : insInner ltInt a j d2 = d2 := by subst hk; rw [insInner, if_neg (by simp [k1])]
        simp -implicitDefEqProofs [go_sem, h7, hh3, hf3.t, hf3.m, hf2.t, hf2.m, hf4, h6, hw]
        exact hJ _ ⟨i + 1, d2, by omega, .inl (by omega), hd2, by simp -implicitDefEqProofs [go_sem, hf3.t, h6, hw], hend hx, by simp -implicitDefEqProofs [go_sem, hh3]⟩ (by simp [go_sem, h6, hf3.t, hw]; omega)
    · have hx : insInner ltInt a j d2 = d2 := by
        cases j with
        | zero => rfl
        | succ j => rw [insInner, if_neg (by simp; omega)]
      simp -implicitDefEqProofs [go_sem, h7, hh3, hf3.t, hf3.m, hf2.t, hf2.m, hf4, h6, hw, hja]
      exact hJ _ ⟨i + 1, d2, by omega, .inl (by omega), hd2, by simp -implicitDefEqProofs [go_sem, hf3.t, h6, hw], hend hx, by simp -implicitDefEqProofs [go_sem, hh3]⟩ (by simp [go_sem, h6, hf3.t, hw]; omega)
  · simp -implicitDefEqProofs [go_sem, h6, hh, hf2.t, hf2.m]
    rw [insOuter, if_neg (by omega)] at hfin
    exact ⟨_, Sub.refl _, rfl, by rw [hfin]⟩
end Go.Proofs
