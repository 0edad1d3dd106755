/- This text is a part of the proofs of the statements of this seat: the ideal states and their rules, or what one of the functions that the statements reach comes to. Conditions: none beyond those that each theorem names. -/
import Derived.Test.YtiloboepepdcgaaC25o
import Derived.Test.YtiloboepepdcgaaM3
set_option linter.unusedVariables false
set_option linter.unusedSimpArgs false
set_option pp.deepTerms false
set_option pp.maxSteps 400
namespace Go.Proofs
open Go.Idl

/-! slices.Equal of two arrays in the heap -/
set_option maxRecDepth 20000 in
theorem equalH_c (a b : Array Int) (ba ca bb cb : Nat) (H : Heap) (hba : H ba = some (.arr 3 1 (rowsD a) ca)) (hbb : H bb = some (.arr 3 1 (rowsD b) cb)) (ha : a.size < 100000000) (hl : a.size = b.size) :
    ICall Try.prog 67 [.sl 1 ba 0 a.size ca, .sl 1 bb 0 b.size cb] H (retP (.bool (decide (a = b))) H) := by
  refine icall_of_iwp (fun _ => 0) Try.func67 rfl (by kernel_rfl) (Nat.le_of_ble_eq_true rfl) ?_
  rw [Try.results67]
  rw [← hl]
  simp -implicitDefEqProofs [go_sem]
  refine iwp_loopF (rng [5] 13 26) nom (fun s => ∃ i : Nat, i ≤ a.size ∧ s.t 13 = .int .i64 i ∧ s.h = H ∧ ∀ j, j < i → a[j]! = b[j]!) (fun s => a.size - tn (s.t 13)) ?_ ?_
  · exact ⟨0, Nat.zero_le _, by simp -implicitDefEqProofs [go_sem], by simp -implicitDefEqProofs [go_sem], fun j hj => by omega⟩
  rintro J s hJ hf ⟨i, hi, h13, hh, hpre⟩
  simp -implicitDefEqProofs [go_sem, h13, hh, hf.t, hf.m]
  refine cK_dec (fun hlt => ?_) (fun hlt => ?_)
  · have hlt' : i < a.size := by omega
    have hw := wrap_succ (i := i) (by omega)
    have hga := rowsD_get (d := a) (i := i) hlt'
    have hgb := rowsD_get (d := b) (i := i) (by omega)
    simp -implicitDefEqProofs [go_sem, h13, hh, hf.t, hf.m]
    refine iwp_drawn_of mixed [0,1,2,3,4,5,6,7,8] (by kernel_rfl) ?_
    simp -implicitDefEqProofs [go_sem, h13, hh, hf.t, hf.m, hlt', hba, hbb, hga, hgb]
    refine cK_any (fun hq => ?_) (fun hq => ?_)
    · have hab : a ≠ b := by
        rintro rfl
        have e1 : a[i]! = a[i] := getElem!_pos a i hlt'
        simp [e1] at hq
      simp -implicitDefEqProofs [go_sem]
      exact ⟨_, Sub.refl _, by simp [hab], hh⟩
    · have hab : a[i]! = b[i]! := by
        rw [getElem!_pos a i hlt']
        simpa using hq
      simp -implicitDefEqProofs [go_sem, h13, hh, hf.t, hf.m, hf, hw]
      refine hJ _ ⟨i + 1, by omega, by simp -implicitDefEqProofs [go_sem, hw], by simp -implicitDefEqProofs [go_sem, hh], fun j hj => ?_⟩ (by simp [go_sem, h13, hw]; omega)
      by_cases hji : j < i
      · exact hpre j hji
      · obtain rfl : j = i := by omega
        exact hab
  · simp -implicitDefEqProofs [go_sem, h13, hh, hf.t, hf.m]
    have hab : a = b := by
      apply Array.ext hl
      intro j h1 h2
      have := hpre j (by omega)
      rwa [getElem!_pos a j h1, getElem!_pos b j h2] at this
    exact ⟨_, Sub.refl _, by simp [hab], rfl⟩

def valuesR (tk : Tok) (l : List Int) (h : Heap) (e : IEnd) (h' : Heap) : Prop := ∃ bx, h bx = none ∧ e = .ret (.fn (.func 81) [] [.ptr bx 0]) ∧ h' = upd h bx (some (.cells [.list tk (l.map intRow)]))
theorem values_c (l : List Int) (h : Heap) : ICall Try.prog 54 [.list .plain (l.map intRow)] h (valuesR .plain l h) := by
  refine icall_of_iwp (fun d => if d = 1 then 1 else 0) Try.func54 rfl (by kernel_rfl) (Nat.le_of_ble_eq_true rfl) ?_
  rw [Try.results54]
  simp -implicitDefEqProofs [go_sem]
  intro b hb
  exact ⟨_, Sub.refl _, b, hb, rfl, rfl⟩

def order1V (ids l : List Int) : IV := if ids.length ≠ l.length then .tup [.list .plain [], .int .i64 9] else if sortL l = sortL ids then .tup [.list .plain (l.map intRow), .int .i64 0] else .tup [.list .plain [], .int .i64 6]
set_option maxRecDepth 20000 in
set_option maxHeartbeats 4000000 in
theorem order1_c (ids l : List Int) (qb ab cap : Nat) (h : Heap) (hq : h qb = some (.cells [.list .plain (l.map intRow)])) (hab : h ab = none) (hne : ids ≠ []) (hc : ids.length ≤ cap) (hl : ids.length < 100000000) (hll : l.length < 100000000) :
    ICall Try.prog 65 [.sl 1 ab 0 ids.length cap, .ptr qb 0] (SH h ab cap ids.toArray) (retP (order1V ids l) h) := by
  have hqa : qb ≠ ab := by rintro rfl; rw [hab] at hq; cases hq
  have hq2 : ∀ d, SH h ab cap d qb = some (.cells [.list .plain (l.map intRow)]) := fun d => by rw [SH, upd_ne _ _ hqa]; exact hq
  refine icall_of_iwp (fun _ => 0) Try.func65 rfl (by kernel_rfl) (Nat.le_of_ble_eq_true rfl) ?_
  rw [Try.results65]
  have hsub : ∀ d, Sub h (SH h ab cap d) := fun d => (Sub.refl h).upd hab _
  by_cases hlen : ids.length = l.length
  · have hle : ((ids.length : Int) != (l.length : Int)) = false := by simp [hlen]
    simp -implicitDefEqProofs [go_sem, hq2, hle]
    have hsc := sort_c ids.toArray ab cap h (by simp; omega)
    simp only [List.size_toArray, List.toList_toArray] at hsc
    refine hsc.mono ?_
    rintro e h' ⟨rfl, he⟩
    rw [he]
    simp -implicitDefEqProofs [go_sem, hq2]
    refine (values_c l _).mono ?_
    rintro e h2 ⟨bx, hbx, rfl, hh2⟩
    simp -implicitDefEqProofs [go_sem, hq2]
    have hbx2 : h2 bx = some (.cells [.list .plain (l.map intRow)]) := by rw [hh2, upd_same]
    refine (sorted_c (values_it hbx2 (by omega)) (by omega) (by rintro ss rfl; exact Nat.le_refl _) rfl).mono ?_
    rintro e h3 ⟨ss, hss, hcase⟩
    rw [hss] at hcase
    clear hss ss
    rcases hcase with ⟨hl0, _, _⟩ | ⟨hne2, b, cp, hb, hle2, rfl, hh3⟩
    · rw [hl0] at hlen; exact absurd (List.eq_nil_of_length_eq_zero hlen) hne
    have hbab : b ≠ ab := by
      rintro rfl
      rw [hh2] at hb
      have : b ≠ bx := by rintro rfl; rw [upd_same] at hb; cases hb
      rw [upd_ne _ _ this, SH_at] at hb; cases hb
    have e1 : h3 b = some (.arr 3 1 (rowsD (sortL l).toArray) cp) := by rw [hh3, SH_at]
    have hbxab : ab ≠ bx := by rintro rfl; rw [SH_at] at hbx; cases hbx
    have e2 : h3 ab = some (.arr 3 1 (rowsD (sortL ids).toArray) cap) := by rw [hh3, SH, upd_ne _ _ (Ne.symm hbab), hh2, upd_ne _ _ hbxab, SH_at]
    have hqbx : qb ≠ bx := by rintro rfl; rw [hq2] at hbx; cases hbx
    have hqb : qb ≠ b := by
      rintro rfl
      rw [hh2, upd_ne _ _ hqbx, hq2] at hb; cases hb
    have e3 : h3 qb = some (.cells [.list .plain (l.map intRow)]) := by rw [hh3, SH, upd_ne _ _ hqb, hh2, upd_ne _ _ hqbx]; exact hq2 _
    have hs3 : Sub h h3 := by
      intro j o hj
      have n1 : j ≠ ab := by rintro rfl; rw [hab] at hj; cases hj
      have n2 : j ≠ bx := by rintro rfl; rw [SH, upd_ne _ _ n1, hj] at hbx; cases hbx
      have n3 : j ≠ b := by rintro rfl; rw [hh2, upd_ne _ _ n2, SH, upd_ne _ _ n1, hj] at hb; cases hb
      rw [hh3, SH, upd_ne _ _ n3, hh2, upd_ne _ _ n2, SH, upd_ne _ _ n1]; exact hj
    have heq := equalH_c (sortL l).toArray (sortL ids).toArray b cp ab cap h3 e1 e2 (by simp [sortL_len]; omega) (by simp [sortL_len]; omega)
    simp only [List.size_toArray, sortL_len] at heq
    simp -implicitDefEqProofs [go_sem]
    refine heq.mono ?_
    rintro e h4 ⟨rfl, he4⟩
    rw [he4]
    by_cases hsl : sortL l = sortL ids
    · simp -implicitDefEqProofs [go_sem, hsl, e3]
      exact ⟨h, hs3, by rw [order1V, if_neg (by simpa using hlen), if_pos hsl], rfl⟩
    · simp -implicitDefEqProofs [go_sem, hsl, e3]
      exact ⟨h, hs3, by rw [order1V, if_neg (by simpa using hlen), if_neg hsl], rfl⟩
  · have hle : ((ids.length : Int) != (l.length : Int)) = true := by simp; omega
    simp -implicitDefEqProofs [go_sem, hq2, hle]
    exact ⟨h, hsub _, by rw [order1V, if_pos hlen], rfl⟩
end Go.Proofs
