/- This text is a part of the proofs of the statements of this seat: the ideal states and their rules, or what one of the functions that the statements reach comes to. Conditions: none beyond those that each theorem names. -/
import Derived.Test.YtfelioeeeimfeaaD7
import Derived.Test.YtfelioeeeimfeaaP3
import Derived.Test.YtfelioeeeimfeaaP4
import Derived.Test.YtfelioeeeimfeaaP5
set_option linter.unusedVariables false
set_option linter.unusedSimpArgs false
set_option pp.deepTerms false
set_option pp.maxSteps 400
namespace Go.Proofs
open Go.Idl

theorem may_bd {r : Rct} (h : r.may = true) : 0 ≤ r.x ∧ r.x ≤ 10000 ∧ 0 ≤ r.y ∧ r.y ≤ 10000 ∧ 0 < r.w ∧ r.w ≤ 10000 ∧ 0 < r.h ∧ r.h ≤ 10000 ∧ r.x + r.w ≤ 10000 ∧ r.y + r.h ≤ 10000 := by
  rwa [Rct.may, decide_eq_true_eq] at h

set_option maxRecDepth 20000 in
theorem inside_c (o r : Rct) (h : Heap) (ho : o.may = true) (hr : r.may = true) (hi : o.inside r) : ICall Try.prog 13 [.agg o.row, .agg r.row] h (retP (.bool true) h) := by
  have bo := may_bd ho
  have br := may_bd hr
  have w1 : IntKind.i64.wrap (r.x + r.w) = r.x + r.w := wrap_in (by omega)
  have w2 : IntKind.i64.wrap (o.x + o.w) = o.x + o.w := wrap_in (by omega)
  have w3 : IntKind.i64.wrap (r.y + r.h) = r.y + r.h := wrap_in (by omega)
  have w4 : IntKind.i64.wrap (o.y + o.h) = o.y + o.h := wrap_in (by omega)
  obtain ⟨i1, i2, i3, i4⟩ := hi
  refine icall_of_iwp (fun _ => 0) Try.func13 rfl (by kernel_rfl) (Nat.le_of_ble_eq_true rfl) ?_
  rw [Try.results13]
  simp -implicitDefEqProofs [go_sem]
  refine (may04_c o h).mono ?_
  rintro e h' ⟨rfl, he⟩
  rw [he, ho]
  simp -implicitDefEqProofs [go_sem]
  refine (may04_c r h).mono ?_
  rintro e h' ⟨rfl, he⟩
  rw [he, hr]
  simp -implicitDefEqProofs [go_sem, w1, w2, w3, w4, i1, i2, i3, i4]
  exact ⟨h, Sub.refl _, rfl, rfl⟩

set_option maxRecDepth 20000 in
theorem apart_c (o r : Rct) (h : Heap) (ho : o.may = true) (hr : r.may = true) (hi : o.apart r) : ICall Try.prog 36 [.agg o.row, .agg r.row] h (retP (.bool true) h) := by
  have bo := may_bd ho
  have br := may_bd hr
  have w1 : IntKind.i64.wrap (r.x + r.w) = r.x + r.w := wrap_in (by omega)
  have w2 : IntKind.i64.wrap (o.x + o.w) = o.x + o.w := wrap_in (by omega)
  have w3 : IntKind.i64.wrap (r.y + r.h) = r.y + r.h := wrap_in (by omega)
  have w4 : IntKind.i64.wrap (o.y + o.h) = o.y + o.h := wrap_in (by omega)
  unfold Rct.apart at hi
  refine icall_of_iwp (fun _ => 0) Try.func36 rfl (by kernel_rfl) (Nat.le_of_ble_eq_true rfl) ?_
  rw [Try.results36]
  by_cases c1 : o.x + o.w ≤ r.x
  · simp -implicitDefEqProofs [go_sem, w1, w2, w3, w4, c1]
    exact ⟨h, Sub.refl _, rfl, rfl⟩
  by_cases c2 : r.x + r.w ≤ o.x
  · simp -implicitDefEqProofs [go_sem, w1, w2, w3, w4, c1, c2]
    exact ⟨h, Sub.refl _, rfl, rfl⟩
  by_cases c3 : o.y + o.h ≤ r.y
  · simp -implicitDefEqProofs [go_sem, w1, w2, w3, w4, c1, c2, c3]
    exact ⟨h, Sub.refl _, rfl, rfl⟩
  have c4 : r.y + r.h ≤ o.y := by omega
  simp -implicitDefEqProofs [go_sem, w1, w2, w3, w4, c1, c2, c3, c4]
  exact ⟨h, Sub.refl _, rfl, rfl⟩

theorem rall_c (l : List Rct) (h : Heap) (hl : l.length < 100000000000) (hm : ∀ r ∈ l, r.may = true) : ICall Try.prog 37 [.list .plain (l.map Rct.row)] h (retP (.bool true) h) := by
  refine icall_of_iwp (fun _ => 0) Try.func37 rfl (by kernel_rfl) (Nat.le_of_ble_eq_true rfl) ?_
  rw [Try.results37]
  simp -implicitDefEqProofs [go_sem]
  refine iwp_loopF (rng [2,3] 6 16) nom (fun s => ∃ i : Nat, i ≤ l.length ∧ s.t 6 = .int .i64 i ∧ s.h = h) (fun s => l.length - tn (s.t 6)) ?_ ?_
  · exact ⟨0, Nat.zero_le _, by simp -implicitDefEqProofs [go_sem], by simp -implicitDefEqProofs [go_sem]⟩
  rintro J s hJ hf ⟨i, hi, h6, hh⟩
  simp -implicitDefEqProofs [go_sem, h6, hh, hf.t, hf.m]
  refine cK_dec (fun hlt => ?_) (fun hge => ?_)
  · have hg : l[i]? = some l[i] := List.getElem?_eq_getElem hlt
    have hw := wrap_succ (i := i) (by omega)
    simp -implicitDefEqProofs [go_sem, h6, hh, hf.t, hf.m, hlt, hg]
    refine (may04_c l[i] h).mono ?_
    rintro e h' ⟨rfl, he⟩
    rw [he, hm _ (List.getElem_mem hlt)]
    simp -implicitDefEqProofs [go_sem, h6, hh, hf.t, hf.m, hlt, hg, hf, hw]
    exact hJ _ ⟨i + 1, by omega, by simp -implicitDefEqProofs [go_sem, hw], by simp -implicitDefEqProofs [go_sem, hh]⟩ (by simp [go_sem, h6, hw]; omega)
  · simp -implicitDefEqProofs [go_sem, h6, hh, hf.t, hf.m]
    exact ⟨h, Sub.refl _, rfl, rfl⟩

set_option maxRecDepth 20000 in
set_option maxHeartbeats 4000000 in
theorem apartments_c (l : List Rct) (h : Heap) (hl : l.length < 100000000000) (hm : ∀ r ∈ l, r.may = true) (hp : l.Pairwise Rct.apart) : ICall Try.prog 16 [.list .plain (l.map Rct.row)] h (retP (.bool true) h) := by
  refine icall_of_iwp (fun _ => 0) Try.func16 rfl (by kernel_rfl) (Nat.le_of_ble_eq_true rfl) ?_
  rw [Try.results16]
  simp -implicitDefEqProofs [go_sem]
  refine iwp_loopF (rng [2,3,4] 7 26) nom (fun s => ∃ i : Nat, i ≤ l.length ∧ s.t 7 = .int .i64 i ∧ s.h = h) (fun s => l.length - tn (s.t 7)) ?_ ?_
  · exact ⟨0, Nat.zero_le _, by simp -implicitDefEqProofs [go_sem], by simp -implicitDefEqProofs [go_sem]⟩
  rintro J s hJ hf2 ⟨i, hi, h7, hh⟩
  simp -implicitDefEqProofs [go_sem, h7, hh, hf2.t, hf2.m]
  refine cK_dec (fun hlt => ?_) (fun hge => ?_)
  · have hg : l[i]? = some l[i] := List.getElem?_eq_getElem hlt
    have hw := wrap_succ (i := i) (by omega)
    simp -implicitDefEqProofs [go_sem, h7, hh, hf2.t, hf2.m, hlt, hg]
    refine iwp_loopF (rng [2,4] 10 25) nom (fun s => ∃ k : Nat, k ≤ i ∧ s.t 4 = .int .i64 k ∧ s.h = h) (fun s => i - tn (s.t 4)) ?_ ?_
    · exact ⟨0, Nat.zero_le _, by simp -implicitDefEqProofs [go_sem], by simp -implicitDefEqProofs [go_sem, hh]⟩
    rintro J2 s3 hJ2 hf3 ⟨k, hk, h4, hh3⟩
    simp -implicitDefEqProofs [go_sem, h4, hh3, hf3.t, hf3.m, hf2.t, hf2.m, h7]
    refine cK_dec (fun hlt3 => ?_) (fun hge3 => ?_)
    · have hltk : k < l.length := by omega
      have hgk : l[k]? = some l[k] := List.getElem?_eq_getElem hltk
      have hwk := wrap_succ (i := k) (by omega)
      simp -implicitDefEqProofs [go_sem, h4, hh3, hf3.t, hf3.m, hf2.t, hf2.m, h7]
      refine iwp_drawn_of mixed [0,1,2,3,4,5,6,7,8,9] (by kernel_rfl) ?_
      simp -implicitDefEqProofs [go_sem, h4, hh3, hf3.t, hf3.m, hf2.t, hf2.m, h7, hlt, hg, hltk, hgk]
      refine ⟨_, apart_c l[i] l[k] h (hm _ (List.getElem_mem hlt)) (hm _ (List.getElem_mem hltk)) (Rct.apart_symm (List.pairwise_iff_getElem.1 hp k i hltk hlt hlt3)), ?_⟩
      simp -implicitDefEqProofs [go_sem, h4, hh3, hf3.t, hf3.m, hf3, hf2.t, hf2.m, hwk]
      exact hJ2 _ ⟨k + 1, by omega, by simp -implicitDefEqProofs [go_sem, hwk], by simp -implicitDefEqProofs [go_sem, hh3]⟩ (by simp [go_sem, h4, hwk]; omega)
    · have hf4 := Fr.trans2 hf2 hf3 (by simp -implicitDefEqProofs [go_sem]) (rng_sub (by decide)) nom_sub
      simp -implicitDefEqProofs [go_sem, h4, hh3, hf3.t, hf3.m, hf2.t, hf2.m, hf4, h7, hw]
      exact hJ _ ⟨i + 1, by omega, by simp -implicitDefEqProofs [go_sem, hf3.t, h7, hw], by simp -implicitDefEqProofs [go_sem, hh3]⟩ (by simp [go_sem, h7, hf3.t, hw]; omega)
  · simp -implicitDefEqProofs [go_sem, h7, hh, hf2.t, hf2.m]
    refine (rall_c l h hl hm).mono ?_
    rintro e h' ⟨rfl, he⟩
    rw [he]
    simp -implicitDefEqProofs [go_sem, h7, hh, hf2.t, hf2.m]
    exact ⟨h, Sub.refl _, rfl, rfl⟩

theorem areaL_take (l : List Rct) (i : Nat) (h : i < l.length) : areaL (l.take (i + 1)) = areaL (l.take i) + l[i].w * l[i].h := by
  rw [List.take_add_one, List.getElem?_eq_getElem h, areaL_append]; simp [areaL]
theorem areaL_bd (l : List Rct) (hm : ∀ r ∈ l, r.may = true) (i : Nat) : 0 ≤ areaL (l.take i) ∧ areaL (l.take i) ≤ 100000000 * (i : Int) := by
  induction i with
  | zero => simp [areaL]
  | succ i ih =>
    by_cases hlt : i < l.length
    · rw [areaL_take l i hlt]
      have b := may_bd (hm _ (List.getElem_mem hlt))
      have h1 : 0 ≤ l[i].w * l[i].h := Int.mul_nonneg (by omega) (by omega)
      have h2 : l[i].w * l[i].h ≤ 10000 * 10000 := Int.mul_le_mul (by omega) (by omega) (by omega) (by omega)
      omega
    · rw [List.take_of_length_le (by omega)]
      rw [List.take_of_length_le (by omega)] at ih
      omega

set_option maxRecDepth 20000 in
theorem area_c (l : List Rct) (h : Heap) (hl : l.length < 10000000) (hm : ∀ r ∈ l, r.may = true) : ICall Try.prog 17 [.list .plain (l.map Rct.row)] h (retP (.int .i64 (areaL l)) h) := by
  refine icall_of_iwp (fun _ => 0) Try.func17 rfl (by kernel_rfl) (Nat.le_of_ble_eq_true rfl) ?_
  rw [Try.results17]
  simp -implicitDefEqProofs [go_sem]
  refine iwp_loopF (rng [3,4] 7 29) nom (fun s => ∃ i : Nat, i ≤ l.length ∧ s.t 7 = .int .i64 i ∧ s.t 3 = .int .i64 (areaL (l.take i)) ∧ s.h = h) (fun s => l.length - tn (s.t 7)) ?_ ?_
  · exact ⟨0, Nat.zero_le _, by simp -implicitDefEqProofs [go_sem], by simp -implicitDefEqProofs [go_sem, areaL], by simp -implicitDefEqProofs [go_sem]⟩
  rintro J s hJ hf ⟨i, hi, h7, h3, hh⟩
  obtain ⟨ai, hai⟩ : ∃ a, a = areaL (l.take i) := ⟨_, rfl⟩
  rw [← hai] at h3
  simp -implicitDefEqProofs [go_sem, h7, h3, hh, hf.t, hf.m]
  refine cK_dec (fun hlt => ?_) (fun hge => ?_)
  · have hg : l[i]? = some l[i] := List.getElem?_eq_getElem hlt
    have hw := wrap_succ (i := i) (by omega)
    have b := may_bd (hm _ (List.getElem_mem hlt))
    have ht := areaL_take l i hlt
    have hb := areaL_bd l hm i
    have hb2 := areaL_bd l hm (i + 1)
    rw [← hai] at ht hb
    have m1 : IntKind.i64.wrap (l[i].w * l[i].h) = l[i].w * l[i].h := wrap_in (by omega)
    have m2 : IntKind.i64.wrap (ai + l[i].w * l[i].h) = ai + l[i].w * l[i].h := wrap_in (by omega)
    simp -implicitDefEqProofs [go_sem, h7, h3, hh, hf.t, hf.m, hlt, hg]
    refine (may04_c l[i] h).mono ?_
    rintro e h' ⟨rfl, he⟩
    rw [he, hm _ (List.getElem_mem hlt)]
    simp -implicitDefEqProofs [go_sem, h7, h3, hh, hf.t, hf.m, hlt, hg]
    refine iwp_drawn_of mixed [0,1,2,3,4,5,6,7,8,9,10,11,12,13] (by kernel_rfl) ?_
    simp -implicitDefEqProofs [go_sem, h7, h3, hh, hf.t, hf.m, hlt, hg, hf, hw, m1, m2]
    exact hJ _ ⟨i + 1, by omega, by simp -implicitDefEqProofs [go_sem, hw], by simp -implicitDefEqProofs [go_sem, ht, m1, m2], by simp -implicitDefEqProofs [go_sem, hh]⟩ (by simp [go_sem, h7, hw]; omega)
  · obtain rfl : i = l.length := by omega
    rw [List.take_length] at hai
    simp -implicitDefEqProofs [go_sem, h7, h3, hh, hf.t, hf.m]
    exact ⟨h, Sub.refl _, by rw [hai], rfl⟩
end Go.Proofs
