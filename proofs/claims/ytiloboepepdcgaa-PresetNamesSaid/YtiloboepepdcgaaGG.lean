/- This text is a part of the proofs of the statements of this seat: the ideal states and their rules, or what one of the functions that the statements reach comes to. Conditions: none beyond those that each theorem names. -/
import Derived.Test.YtiloboepepdcgaaGF
import Derived.Test.YtiloboepepdcgaaQ1
set_option linter.unusedVariables false
set_option linter.unusedSimpArgs false
set_option pp.deepTerms false
set_option pp.maxSteps 400
namespace Go.Proofs
open Go.Idl

theorem beq_self17 (c : Cel) : c.beq c = true := Cel.beq_iff.2 rfl
theorem line_one {p : Rct} {x : Int} {d : Cel} (h : lineC p 1 [x] = some d) : d.kind = 1 ∧ d.id = x := by
  obtain ⟨hb, h2⟩ := evenC_some h
  unfold ofC at h2
  split at h2
  · cases h2
  · rename_i y hy
    obtain ⟨ps, ls⟩ := y
    obtain ⟨ks, hks, rfl⟩ := Option.map_eq_some_iff.1 h2
    have hl := (cutS_len hy).1
    rw [sizesL_len] at hl
    simp only [List.length_cons, List.length_nil] at hl
    simp only at hks
    have hkl := kidsU_len hks
    obtain ⟨k, h3, h4⟩ := kidsU_get hks 0 (by omega)
    match ks, hkl with
    | [k'], _ =>
      simp only [List.getElem?_cons_zero, Option.some.injEq] at h3
      subst h3
      cases h4
      exact ⟨rfl, rfl⟩
    | [], hkl => simp at hkl; omega
    | _ :: _ :: _, hkl => simp at hkl; omega
theorem awake_lay : ∃ c d : Cel, makeV 5 80 24 0 [4, 3, 2, 1, 0] = (c, 0) ∧ c.kids.length = 3 ∧ c.kids[2]? = some d ∧ d.kind = 1 ∧ d.id = 0 := by
  have hm : (Rct.mk 0 0 80 24).may = true := by decide
  have hg : gcols ([4, 3, 2, 1, 0] : List Int).length = 2 := by decide +kernel
  have hch : chunks 2 [4, 3, 2, 1, 0] = [[4, 3], [2, 1], [0]] := by decide +kernel
  have hri : rightL [4, 3, 2, 1, 0] := ⟨by simp, by simp, by decide, by decide⟩
  have hs : (tiledC ⟨0, 0, 80, 24⟩ [4, 3, 2, 1, 0]).isSome = true := by
    rw [tiledC_isSome hm, hg, hch]
    refine ⟨by unfold sizesBad; simp, fun i hi => ?_⟩
    simp only [List.length_cons, List.length_nil] at hi
    have : i = 0 ∨ i = 1 ∨ i = 2 := by omega
    rcases this with rfl | rfl | rfl <;> (unfold sizesBad; simp)
  obtain ⟨c, hc⟩ := Option.isSome_iff_exists.1 hs
  have hc2 := hc
  rw [tiledC, hg, hch] at hc2
  obtain ⟨_, h2⟩ := evenC_some hc2
  unfold ofC at h2
  split at h2
  · cases h2
  rename_i y hy
  obtain ⟨ps, ls⟩ := y
  obtain ⟨ks, hks, hgr⟩ := Option.map_eq_some_iff.1 h2
  have hl := (cutS_len hy).1
  rw [sizesL_len] at hl
  simp only [List.length_cons, List.length_nil] at hl
  simp only at hks
  have hkl := kidsU_len hks
  rw [hl] at hkl
  obtain ⟨d, h3, h4⟩ := kidsU_get hks 2 (by omega)
  have h5 := line_one (x := 0) h4
  have hkids : c.kids = ks := by
    rw [← hgr]
    match ks, hkl with
    | [_, _, _], _ => rfl
  refine ⟨c, d, ?_, by rw [hkids]; exact hkl, by rw [hkids]; exact h3, h5.1, h5.2⟩
  have hok : 1 ≤ (5 : Int) ∧ (5 : Int) ≤ 5 ∧ (Rct.mk 0 0 80 24).may = true ∧ rightL [4, 3, 2, 1, 0] := ⟨by omega, by omega, hm, hri⟩
  have hmd : madeC 5 ⟨0, 0, 80, 24⟩ 0 [4, 3, 2, 1, 0] = some c := by simp [madeC, hc]
  rw [makeV, if_pos hok, hmd]
theorem grid5 : gridV 5 = .tup [.int .i64 3, .int .i64 2] := by
  rw [gridV, if_neg (by omega)]
  have : gridL 4096 1 1 (5 : Int).toNat = (3, 2) := by decide +kernel
  rw [this]; rfl
set_option maxRecDepth 20000 in
theorem awake17_c (h : Heap) : ICall Try.prog 40 [] h (retP (.bool true) h) := by
  refine icall_of_iwp (fun _ => 0) Try.func40 rfl (by kernel_rfl) (Nat.le_of_ble_eq_true rfl) ?_
  rw [Try.results40]
  obtain ⟨c, d, hv, hk3, hk2, hd1, hd2⟩ := awake_lay
  have hg2 : (c.kids.map Cel.row)[2]? = some d.row := by simp [hk2]
  simp -implicitDefEqProofs [go_sem]
  refine (grid_c 5 h).mono ?_
  rintro e h' ⟨rfl, rfl⟩
  rw [grid5]
  simp -implicitDefEqProofs [go_sem]
  have hmk := pMake_c 5 80 24 0 [4, 3, 2, 1, 0] h' (by simp)
  rw [hv] at hmk
  refine hmk.mono ?_
  rintro e h2 ⟨rfl, rfl⟩
  have hlt : 2 < c.kids.length := by omega
  have hk2' : c.kids[2] = d := by rw [List.getElem?_eq_getElem hlt] at hk2; exact Option.some.inj hk2
  simp -implicitDefEqProofs [go_sem, mkV, hk3, hg2, hk2, hk2', hd1, hd2]
  exact ⟨_, Sub.refl _, rfl, rfl⟩

theorem make_small (p w h size : Int) (ids : List Int) : (makeV p w h size ids).1.size ≤ 20000 := by
  rcases make_err p w h size ids with ⟨c, hc⟩ | hc | hc
  · rw [hc]; exact ((tiles_iff c).1 (make_lay hc).2).1
  · rw [hc]; exact (by decide +kernel : Cel.zero.size ≤ 20000)
  · rw [hc]; exact (by decide +kernel : Cel.zero.size ≤ 20000)
set_option maxRecDepth 20000 in
theorem presetMakes_c (p w hh size : Int) (ids : List Int) (h : Heap) : ICall Try.prog 8 [.int .u8 p, .int .i64 w, .int .i64 hh, .int .i64 size, .list .plain (ids.map intRow)] h (retP (.bool true) h) := by
  refine icall_of_iwp (fun _ => 0) Try.func8 rfl (by kernel_rfl) (Nat.le_of_ble_eq_true rfl) ?_
  rw [Try.results8]
  simp -implicitDefEqProofs [go_sem]
  refine cK_dec (fun hgt => ?_) (fun hgt => ?_)
  · simp -implicitDefEqProofs [go_sem]
    refine (awake17_c h).mono ?_
    rintro e h' ⟨rfl, rfl⟩
    simp -implicitDefEqProofs [go_sem]
    exact ⟨_, Sub.refl _, rfl, rfl⟩
  simp -implicitDefEqProofs [go_sem]
  refine (pMake_c p w hh size ids h (by omega)).mono ?_
  rintro e h' ⟨rfl, rfl⟩
  simp -implicitDefEqProofs [go_sem, mkV]
  refine (rMake_c p w hh size ids h' (by omega)).mono ?_
  rintro e h' ⟨rfl, rfl⟩
  have hsm := make_small p w hh size ids
  simp -implicitDefEqProofs [go_sem, mkV]
  refine (same_c _ _ _ (by omega)).mono ?_
  rintro e h' ⟨rfl, rfl⟩
  rw [beq_self17]
  simp -implicitDefEqProofs [go_sem]
  refine (awake17_c _).mono ?_
  rintro e h' ⟨rfl, rfl⟩
  simp -implicitDefEqProofs [go_sem]
  exact ⟨_, Sub.refl _, rfl, rfl⟩

set_option maxRecDepth 20000 in
theorem presetTiles_c (p w hh size : Int) (ids : List Int) (h : Heap) : ICall Try.prog 9 [.int .u8 p, .int .i64 w, .int .i64 hh, .int .i64 size, .list .plain (ids.map intRow)] h (retP (.bool true) h) := by
  refine icall_of_iwp (fun _ => 0) Try.func9 rfl (by kernel_rfl) (Nat.le_of_ble_eq_true rfl) ?_
  rw [Try.results9]
  simp -implicitDefEqProofs [go_sem]
  refine cK_dec (fun hgt => ?_) (fun hgt => ?_)
  · simp -implicitDefEqProofs [go_sem]
    refine (awake17_c h).mono ?_
    rintro e h' ⟨rfl, rfl⟩
    simp -implicitDefEqProofs [go_sem]
    exact ⟨_, Sub.refl _, rfl, rfl⟩
  simp -implicitDefEqProofs [go_sem]
  refine (pMake_c p w hh size ids h (by omega)).mono ?_
  rintro e h' ⟨rfl, rfl⟩
  have hz := Cel.zero_row
  have hR : [IV.int .i64 0, .int .i64 0, .int .i64 w, .int .i64 hh] = (Rct.mk 0 0 w hh).row := rfl
  have fin : ∀ (c : Cel) (R : IEnd → Heap → Prop), c = Cel.zero → R (.ret (.bool true)) h' → ICall Try.prog 39 [.agg c.row, .agg [.int .u8 0, .int .i64 0, .int .i64 0, .int .i64 0, .int .i64 0, .int .i64 0, .list .plain []]] h' R := fun c R hc hR => by
    rw [hc, ← hz]
    refine (same_c Cel.zero Cel.zero _ (by decide +kernel)).mono ?_
    rintro e h' ⟨rfl, rfl⟩
    rw [beq_self17]; exact hR
  rcases make_err p w hh size ids with ⟨c, hc⟩ | hc | hc
  · obtain ⟨hlay, ht⟩ := make_lay hc
    have hsz := ((tiles_iff c).1 ht).1
    rw [hc]
    simp -implicitDefEqProofs [go_sem, mkV]
    refine (tiles06_c c _ (by omega)).mono ?_
    rintro e h2 ⟨rfl, rfl⟩
    rw [ht]
    simp -implicitDefEqProofs [go_sem, hR, hlay.r]
    refine (ids_c c _ (by omega)).mono ?_
    rintro e h2 ⟨rfl, rfl⟩
    rw [hlay.ids]
    simp -implicitDefEqProofs [go_sem]
    refine (ints_c ids ids _ (by omega)).mono ?_
    rintro e h2 ⟨rfl, rfl⟩
    simp -implicitDefEqProofs [go_sem]
    refine (awake17_c _).mono ?_
    rintro e h' ⟨rfl, rfl⟩
    simp -implicitDefEqProofs [go_sem]
    exact ⟨_, Sub.refl _, rfl, rfl⟩
  · rw [hc]
    simp -implicitDefEqProofs [go_sem, mkV]
    refine fin _ _ rfl ?_
    simp -implicitDefEqProofs [go_sem]
    refine (awake17_c _).mono ?_
    rintro e h' ⟨rfl, rfl⟩
    simp -implicitDefEqProofs [go_sem]
    exact ⟨_, Sub.refl _, rfl, rfl⟩
  · rw [hc]
    simp -implicitDefEqProofs [go_sem, mkV]
    refine fin _ _ rfl ?_
    simp -implicitDefEqProofs [go_sem]
    refine (awake17_c _).mono ?_
    rintro e h' ⟨rfl, rfl⟩
    simp -implicitDefEqProofs [go_sem]
    exact ⟨_, Sub.refl _, rfl, rfl⟩
end Go.Proofs

set_option linter.unusedVariables false
set_option linter.unusedSimpArgs false
set_option pp.deepTerms false
set_option pp.maxSteps 400
namespace Go.Proofs
open Go.Idl

set_option maxRecDepth 20000 in
theorem presetGrids_c (n : Int) (hn : -9223372036854775808 ≤ n ∧ n ≤ 9223372036854775807) (h : Heap) : ICall Try.prog 10 [.int .i64 n] h (retP (.bool true) h) := by
  refine icall_of_iwp (fun _ => 0) Try.func10 rfl (by kernel_rfl) (Nat.le_of_ble_eq_true rfl) ?_
  rw [Try.results10]
  have aw : ∀ (R : IEnd → Heap → Prop), R (.ret (.bool true)) h → ICall Try.prog 40 [] h R := fun R hR => (awake17_c h).mono (by rintro e h' ⟨rfl, rfl⟩; exact hR)
  simp -implicitDefEqProofs [go_sem]
  refine (grid_c n h).mono ?_
  rintro e h' ⟨rfl, he⟩
  rw [he]
  by_cases hb : n < 1 ∨ n > 4096
  · have hv : gridV n = .tup [.int .i64 0, .int .i64 0] := by rw [gridV, if_pos hb]
    rw [hv]
    simp -implicitDefEqProofs [go_sem]
    refine (rgrid_c n h).mono ?_
    rintro e h' ⟨rfl, he⟩
    rw [he, hv]
    simp -implicitDefEqProofs [go_sem]
    refine cK_dec (fun k1 => ?_) (fun k1 => ?_)
    · simp -implicitDefEqProofs [go_sem]
      refine aw _ ?_
      simp -implicitDefEqProofs [go_sem]
      exact ⟨_, Sub.refl _, rfl, rfl⟩
    have k2 : 4096 < n := by omega
    simp -implicitDefEqProofs [go_sem, k2]
    refine aw _ ?_
    simp -implicitDefEqProofs [go_sem]
    exact ⟨_, Sub.refl _, rfl, rfl⟩
  obtain ⟨m, rfl⟩ : ∃ m : Nat, n = m := ⟨n.toNat, by omega⟩
  obtain ⟨r, c, hg, f1, f2, f3, f4, f5, f6⟩ := grid_facts (n := m) (by omega)
  have hv : gridV (m : Int) = .tup [.int .i64 (r : Int), .int .i64 (c : Int)] := by rw [gridV, if_neg hb, Int.toNat_natCast, hg]
  rw [hv]
  simp -implicitDefEqProofs [go_sem]
  refine (rgrid_c m h).mono ?_
  rintro e h' ⟨rfl, he⟩
  rw [he, hv]
  have hrc : r * c ≤ 65 * 64 := Nat.mul_le_mul (by omega) f5
  obtain ⟨q, hq⟩ : ∃ q, r * c = q := ⟨_, rfl⟩
  obtain ⟨q1, hq1⟩ : ∃ q1, (r - 1) * c = q1 := ⟨_, rfl⟩
  obtain ⟨q2, hq2⟩ : ∃ q2, r * (c - 1) = q2 := ⟨_, rfl⟩
  have hq1l : q1 ≤ q := by rw [← hq1, ← hq]; exact Nat.mul_le_mul_right _ (by omega)
  have hq2l : q2 ≤ q := by rw [← hq2, ← hq]; exact Nat.mul_le_mul_left _ (by omega)
  have w1 : IntKind.i64.wrap ((r : Int) * (c : Int)) = (q : Int) := by
    rw [show (r : Int) * (c : Int) = (q : Int) by rw [← hq]; simp, wrap_in (by omega)]
  have w2 : IntKind.i64.wrap ((c : Int) + 1) = ((c + 1 : Nat) : Int) := by rw [wrap_in (by omega)]; rfl
  have w3 : IntKind.i64.wrap ((r : Int) - 1) = ((r - 1 : Nat) : Int) := by rw [wrap_in (by omega)]; omega
  have w4 : IntKind.i64.wrap ((c : Int) - 1) = ((c - 1 : Nat) : Int) := by rw [wrap_in (by omega)]; omega
  have w5 : IntKind.i64.wrap (((r - 1 : Nat) : Int) * (c : Int)) = (q1 : Int) := by
    rw [show ((r - 1 : Nat) : Int) * (c : Int) = (q1 : Int) by rw [← hq1]; simp, wrap_in (by omega)]
  have w6 : IntKind.i64.wrap ((r : Int) * ((c - 1 : Nat) : Int)) = (q2 : Int) := by
    rw [show (r : Int) * ((c - 1 : Nat) : Int) = (q2 : Int) by rw [← hq2]; simp, wrap_in (by omega)]
  rw [hq] at f1 hrc
  rw [hq1, hq2] at f6
  clear hq hq1 hq2
  have d1 : ¬ (m : Int) < 1 := by omega
  have d2 : ¬ 4096 < (m : Int) := by omega
  have f3' : (r : Int) ≤ (c : Int) + 1 := by omega
  simp -implicitDefEqProofs [go_sem, w1, d1, d2, f1, f2, f3', w2]
  refine cK_beq (fun k1 => ?_) (fun k1 => ?_)
  · simp -implicitDefEqProofs [go_sem]
    refine aw _ ?_
    simp -implicitDefEqProofs [go_sem]
    exact ⟨_, Sub.refl _, rfl, rfl⟩
  simp -implicitDefEqProofs [go_sem, w3, w5]
  refine cK_dec (fun k2 => ?_) (fun k2 => ?_)
  · simp -implicitDefEqProofs [go_sem]
    refine aw _ ?_
    simp -implicitDefEqProofs [go_sem]
    exact ⟨_, Sub.refl _, rfl, rfl⟩
  have f7 : q2 < m := by rcases f6 with f6 | f6 | f6 <;> omega
  simp -implicitDefEqProofs [go_sem, w4, w6, f7]
  refine aw _ ?_
  simp -implicitDefEqProofs [go_sem]
  exact ⟨_, Sub.refl _, rfl, rfl⟩
end Go.Proofs

set_option linter.unusedVariables false
set_option linter.unusedSimpArgs false
set_option pp.deepTerms false
set_option pp.maxSteps 400
namespace Go.Proofs
open Go.Idl

def kS (s : ByteArray) (i : Nat) : Int := match (presetNames.take i).findIdx? (fun x => decide (s = x)) with | some j => (j : Int) + 1 | none => 0
theorem kS_succ (s : ByteArray) (i : Nat) (hi : i < presetNames.length) : kS s (i + 1) = if s = presetNames[i] then (i : Int) + 1 else kS s i := by
  have hnd : presetNames.Nodup := by decide +kernel
  rw [kS, List.take_add_one, List.getElem?_eq_getElem hi, List.findIdx?_append]
  by_cases h : s = presetNames[i]
  · rw [if_pos h]
    have hno : (presetNames.take i).findIdx? (fun x => decide (s = x)) = none := by
      rw [List.findIdx?_eq_none_iff]
      intro x hx
      rw [List.mem_take_iff_getElem] at hx
      obtain ⟨j, hj, rfl⟩ := hx
      rw [decide_eq_false_iff_not, h]
      intro e
      rw [List.Nodup, List.pairwise_iff_getElem] at hnd
      exact hnd j i (by omega) hi (by omega) e.symm
    rw [hno]
    have hl : (presetNames.take i).length = i := by simp; omega
    simp [h]
    omega
  · rw [if_neg h, kS]
    have : ([presetNames[i]] : List ByteArray).findIdx? (fun x => decide (s = x)) = none := by simp [h]
    simp only [Option.toList_some, this]
    simp
theorem kS_all (s : ByteArray) : kS s presetNames.length = idxS presetNames s + 1 := by
  rw [kS, List.take_length, idxS]
  cases presetNames.findIdx? (fun x => decide (s = x)) <;> rfl
theorem kS_rng (s : ByteArray) (i : Nat) : 0 ≤ kS s i ∧ kS s i ≤ 5 := by
  unfold kS
  split
  · rename_i j hj
    obtain ⟨hl, _⟩ := List.findIdx?_eq_some_iff_getElem.1 hj
    have : (presetNames.take i).length ≤ 5 := by simp; exact Nat.le_trans (Nat.min_le_right _ _) (by decide)
    omega
  · omega
theorem idx_self (i : Nat) (hi : i < presetNames.length) : idxS presetNames presetNames[i] = i := by
  have h5 : presetNames.length = 5 := rfl
  have : i = 0 ∨ i = 1 ∨ i = 2 ∨ i = 3 ∨ i = 4 := by omega
  rcases this with rfl | rfl | rfl | rfl | rfl
  · exact (by decide +kernel : idxS presetNames (presetNames[0]'(by decide)) = 0)
  · exact (by decide +kernel : idxS presetNames (presetNames[1]'(by decide)) = 1)
  · exact (by decide +kernel : idxS presetNames (presetNames[2]'(by decide)) = 2)
  · exact (by decide +kernel : idxS presetNames (presetNames[3]'(by decide)) = 3)
  · exact (by decide +kernel : idxS presetNames (presetNames[4]'(by decide)) = 4)
set_option maxRecDepth 20000 in
set_option maxHeartbeats 2000000 in
theorem presetNames_c (x : ByteArray) (h : Heap) : ICall Try.prog 12 [.str x] h (retP (.bool true) h) := by
  refine icall_of_iwp (fun _ => 0) Try.func12 rfl (by kernel_rfl) (Nat.le_of_ble_eq_true rfl) ?_
  rw [Try.results12]
  have aw : ∀ (R : IEnd → Heap → Prop), R (.ret (.bool true)) h → ICall Try.prog 40 [] h R := fun R hR => (awake17_c h).mono (by rintro e h' ⟨rfl, rfl⟩; exact hR)
  simp -implicitDefEqProofs [go_sem]
  refine cK_dec (fun hgt => ?_) (fun hgt => ?_)
  · simp -implicitDefEqProofs [go_sem]
    refine aw _ ?_
    simp -implicitDefEqProofs [go_sem]
    exact ⟨_, Sub.refl _, rfl, rfl⟩
  simp -implicitDefEqProofs [go_sem]
  refine (names_c h).mono ?_
  rintro e h' ⟨rfl, he⟩
  rw [he]
  simp -implicitDefEqProofs [go_sem]
  refine (rnames_c h).mono ?_
  rintro e h' ⟨rfl, he⟩
  rw [he]
  obtain ⟨L, hL⟩ : ∃ L, presetNames = L := ⟨_, rfl⟩
  have hlen : L.length = 5 := by rw [← hL]; rfl
  have hks := kS_succ x
  have hall := kS_all x
  have hself := idx_self
  rw [hL] at hks hall hself
  rw [hL]
  simp -implicitDefEqProofs [go_sem]
  refine iwp_loopF (rng [5,6] 18 52) nom (fun s => ∃ i : Nat, i ≤ L.length ∧ s.t 6 = .int .i64 i ∧ s.t 5 = .int .u8 (kS x i) ∧ s.h = h) (fun s => L.length - tn (s.t 6)) ?_ ?_
  · exact ⟨0, Nat.zero_le _, by simp -implicitDefEqProofs [go_sem], by simp -implicitDefEqProofs [go_sem]; rfl, by simp -implicitDefEqProofs [go_sem]⟩
  rintro J s hJ hf ⟨i, hi, h6, h5, hh⟩
  have hw := wrap_succ (i := i) (by omega)
  simp -implicitDefEqProofs [go_sem, h6, h5, hh, hf.t, hf.m]
  refine cK_dec (fun hlt => ?_) (fun hge => ?_)
  · have hlt' : i < L.length := by omega
    have hg : (L.map strRow)[i]? = some [.str L[i]] := by simp [hlt', strRow]
    have hwu : IntKind.u8.wrap ((i + 1 : Nat) : Int) = ((i + 1 : Nat) : Int) := wrapU8 (by omega)
    have hwu2 : IntKind.u8.wrap ((i : Int) + 1) = (i : Int) + 1 := wrapU8 (by omega)
    have hn := named_c L[i] h
    rw [hL, hself i hlt'] at hn
    simp -implicitDefEqProofs [go_sem, h6, h5, hh, hf.t, hf.m]
    refine iwp_drawn_of mixed [0,1,2,3,4,5,6,7,8,9,10,11,12,13,14,15,16,17,18,19] (by kernel_rfl) ?_
    simp -implicitDefEqProofs [go_sem, h6, h5, hh, hf.t, hf.m, strRow, hlt', hg]
    refine ⟨_, hn, ?_⟩
    simp -implicitDefEqProofs [go_sem, h6, h5, hh, hf.t, hf.m, strRow, hlt', hg, hw, hwu, hwu2]
    rw [bstr_eq]
    refine cK_dec (fun hq => ?_) (fun hq => ?_)
    · simp -implicitDefEqProofs [go_sem, h6, h5, hh, hf.t, hf.m, hf, hw, hwu, hwu2]
      exact hJ _ ⟨i + 1, by omega, by simp -implicitDefEqProofs [go_sem, hw], by simp -implicitDefEqProofs [go_sem, hw, hwu, hwu2]; rw [hks i hlt', if_pos hq.symm], by simp -implicitDefEqProofs [go_sem, hh]⟩ (by simp [go_sem, h6, hw]; omega)
    · simp -implicitDefEqProofs [go_sem, h6, h5, hh, hf.t, hf.m, hf, hw]
      exact hJ _ ⟨i + 1, by omega, by simp -implicitDefEqProofs [go_sem, hw], by simp -implicitDefEqProofs [go_sem, h5]; rw [hks i hlt', if_neg (fun e => hq e.symm)], by simp -implicitDefEqProofs [go_sem, hh]⟩ (by simp [go_sem, h6, hw]; omega)
  · obtain rfl : i = L.length := by omega
    have hn := named_c x h
    rw [hL, ← hall] at hn
    simp -implicitDefEqProofs [go_sem, h6, h5, hh, hf.t, hf.m]
    refine hn.mono ?_
    rintro e h' ⟨rfl, he⟩
    rw [he]
    simp -implicitDefEqProofs [go_sem, h6, h5, hh, hf.t, hf.m]
    refine aw _ ?_
    simp -implicitDefEqProofs [go_sem]
    exact ⟨_, Sub.refl _, rfl, rfl⟩
end Go.Proofs

set_option linter.unusedVariables false
set_option linter.unusedSimpArgs false
set_option pp.deepTerms false
set_option pp.maxSteps 400
namespace Go.Proofs
open Go.Idl

def upL (n : Nat) : List Int := (List.range n).map fun (i : Nat) => (i : Int)
@[simp] theorem upL_len (n : Nat) : (upL n).length = n := by simp [upL]
theorem upL_succ (n : Nat) : upL (n + 1) = upL n ++ [(n : Int)] := by simp [upL, List.range_succ]
noncomputable def fitsB (p w hh n : Int) : Bool := decide (1 ≤ n ∧ n ≤ 4096 ∧ (makeV p w hh 1 (upL n.toNat)).2 = 0)
set_option maxRecDepth 20000 in
theorem fits_c (p w hh n : Int) (h : Heap) : ICall Try.prog 47 [.int .u8 p, .int .i64 w, .int .i64 hh, .int .i64 n] h (retP (.bool (fitsB p w hh n)) h) := by
  refine icall_of_iwp (fun _ => 0) Try.func47 rfl (by kernel_rfl) (Nat.le_of_ble_eq_true rfl) ?_
  rw [Try.results47]
  have no : ¬ (1 ≤ n ∧ n ≤ 4096) → fitsB p w hh n = false := fun hn => by rw [fitsB, decide_eq_false_iff_not]; rintro ⟨a, b, _⟩; exact hn ⟨a, b⟩
  simp -implicitDefEqProofs [go_sem]
  refine cK_dec (fun k1 => ?_) (fun k1 => ?_)
  · simp -implicitDefEqProofs [go_sem]
    exact ⟨_, Sub.refl _, by rw [no (by omega)], rfl⟩
  simp -implicitDefEqProofs [go_sem]
  refine cK_dec (fun k2 => ?_) (fun k2 => ?_)
  · simp -implicitDefEqProofs [go_sem]
    exact ⟨_, Sub.refl _, by rw [no (by omega)], rfl⟩
  obtain ⟨m, rfl⟩ : ∃ m : Nat, n = m := ⟨n.toNat, by omega⟩
  simp -implicitDefEqProofs [go_sem]
  refine iwp_loopF (rng [9,10] 20 27) nom (fun s => ∃ i : Nat, i ≤ m ∧ s.t 20 = .int .i64 i ∧ Go.Idl.Own [26] s.x 3 (s.t 9) ((upL i).map intRow) ∧ s.h = h) (fun s => m - tn (s.t 20)) ?_ ?_
  · exact ⟨0, Nat.zero_le _, by simp -implicitDefEqProofs [go_sem], by simp -implicitDefEqProofs [go_sem]; exact Go.Idl.Own.tight, by simp -implicitDefEqProofs [go_sem]⟩
  rintro J s hJ hf ⟨i, hi, h20, ho, hh2⟩
  obtain ⟨tk, h9⟩ := ho.list
  simp -implicitDefEqProofs [go_sem, h20, h9, hh2, hf.t, hf.m]
  refine cK_dec (fun hlt => ?_) (fun hge => ?_)
  · have hw := wrap_succ (i := i) (by omega)
    rw [h9] at ho
    simp -implicitDefEqProofs [go_sem, h20, h9, hh2, hf.t, hf.m]
    refine aK_own (e := 3) (z := 1) (S := [26]) (rows := (upL i).map intRow) (ys := [(i : Int)].map intRow) (by simpa -implicitDefEqProofs [go_sem] using ho) (by simp) elT_45 elZ_3 (by simp [roomy, byT_3]; omega) (intR_uni _) (intR_uni _) ?_
    intro r2 x2 ho2 _
    simp -implicitDefEqProofs [go_sem, h20, h9, hh2, hf.t, hf.m, hf, hw]
    exact hJ _ ⟨i + 1, by omega, by simp -implicitDefEqProofs [go_sem, hw], by rw [upL_succ, List.map_append]; simpa -implicitDefEqProofs [go_sem] using ho2, by simp -implicitDefEqProofs [go_sem, hh2]⟩ (by simp [go_sem, h20, hw]; omega)
  · obtain rfl : i = m := by omega
    simp -implicitDefEqProofs [go_sem, h20, h9, hh2, hf.t, hf.m]
    refine (pMake_c p w hh 1 (upL i) h (by simp; omega)).mono ?_
    rintro e h' ⟨rfl, he⟩
    rw [he]
    have hfb : fitsB p w hh (i : Int) = ((makeV p w hh 1 (upL i)).2 == 0) := by
      rw [fitsB, Int.toNat_natCast, Bool.eq_iff_iff]
      simp only [decide_eq_true_eq, beq_iff_eq]
      exact ⟨fun h => h.2.2, fun h => ⟨by omega, by omega, h⟩⟩
    simp -implicitDefEqProofs [go_sem, mkV]
    exact ⟨_, Sub.refl _, by rw [hfb], rfl⟩
set_option maxRecDepth 20000 in
set_option maxHeartbeats 2000000 in
theorem presetFits_c (p w hh n a : Int) (ha : 0 ≤ a ∧ a ≤ 255) (h : Heap) : ICall Try.prog 11 [.int .u8 p, .int .i64 w, .int .i64 hh, .int .i64 n, .int .u8 a] h (retP (.bool true) h) := by
  refine icall_of_iwp (fun _ => 0) Try.func11 rfl (by kernel_rfl) (Nat.le_of_ble_eq_true rfl) ?_
  rw [Try.results11]
  have aw : ∀ (R : IEnd → Heap → Prop), R (.ret (.bool true)) h → ICall Try.prog 40 [] h R := fun R hR => (awake17_c h).mono (by rintro e h' ⟨rfl, rfl⟩; exact hR)
  simp -implicitDefEqProofs [go_sem]
  refine cK_dec (fun hgt => ?_) (fun hgt => ?_)
  · simp -implicitDefEqProofs [go_sem]
    refine aw _ ?_
    simp -implicitDefEqProofs [go_sem]
    exact ⟨_, Sub.refl _, rfl, rfl⟩
  simp -implicitDefEqProofs [go_sem]
  obtain ⟨m, hm⟩ : ∃ m : Nat, m = n.toNat := ⟨_, rfl⟩
  refine iwp_loopF (rng [11,12] 20 28) nom (fun s => ∃ i : Nat, i ≤ m ∧ s.t 12 = .int .i64 i ∧ Go.Idl.Own [28] s.x 3 (s.t 11) ((upL i).map intRow) ∧ s.h = h) (fun s => m - tn (s.t 12)) ?_ ?_
  · exact ⟨0, Nat.zero_le _, by simp -implicitDefEqProofs [go_sem], by simp -implicitDefEqProofs [go_sem]; exact Go.Idl.Own.tight, by simp -implicitDefEqProofs [go_sem]⟩
  rintro J s hJ hf ⟨i, hi, h12, ho, hh2⟩
  obtain ⟨tk, h11⟩ := ho.list
  simp -implicitDefEqProofs [go_sem, h12, h11, hh2, hf.t, hf.m]
  refine cK_dec (fun hlt => ?_) (fun hge => ?_)
  · have hw := wrap_succ (i := i) (by omega)
    rw [h11] at ho
    simp -implicitDefEqProofs [go_sem, h12, h11, hh2, hf.t, hf.m]
    refine aK_own (e := 3) (z := 1) (S := [28]) (rows := (upL i).map intRow) (ys := [(i : Int)].map intRow) (by simpa -implicitDefEqProofs [go_sem] using ho) (by simp) elT_45 elZ_3 (by simp [roomy, byT_3]; omega) (intR_uni _) (intR_uni _) ?_
    intro r2 x2 ho2 _
    simp -implicitDefEqProofs [go_sem, h12, h11, hh2, hf.t, hf.m, hf, hw]
    exact hJ _ ⟨i + 1, by omega, by simp -implicitDefEqProofs [go_sem, hw], by rw [upL_succ, List.map_append]; simpa -implicitDefEqProofs [go_sem] using ho2, by simp -implicitDefEqProofs [go_sem, hh2]⟩ (by simp [go_sem, h12, hw]; omega)
  · obtain rfl : i = m := by omega
    simp -implicitDefEqProofs [go_sem, h12, h11, hh2, hf.t, hf.m]
    refine (rMake_c p w hh 1 (upL i) h (by simp; omega)).mono ?_
    rintro e h' ⟨rfl, he⟩
    rw [he]
    simp -implicitDefEqProofs [go_sem, mkV, hf.t, hf.m]
    refine (fits_c p w hh n h).mono ?_
    rintro e h' ⟨rfl, he⟩
    rw [he]
    have hfb : ((makeV p w hh 1 (upL i)).2 == 0) = fitsB p w hh n := by
      rw [fitsB, ← hm, Bool.eq_iff_iff]
      simp only [decide_eq_true_eq, beq_iff_eq]
      refine ⟨fun h => ⟨?_, by omega, h⟩, fun h => h.2.2⟩
      have := (make_zero.1 h).1.2.2.2.1
      rw [upL_len] at this
      omega
    simp -implicitDefEqProofs [go_sem, hfb, hf.t, hf.m]
    cases hb : fitsB p w hh n with
    | false =>
      simp -implicitDefEqProofs [go_sem, hfb, hb, hf.t, hf.m]
      refine aw _ ?_
      simp -implicitDefEqProofs [go_sem]
      exact ⟨_, Sub.refl _, rfl, rfl⟩
    | true =>
      have hz : (makeV p w hh 1 (upL i)).2 = 0 := by rw [hb] at hfb; simpa using hfb
      have hr := (make_zero.1 hz).1.2.2.1
      simp only [Rct.may, decide_eq_true_eq] at hr
      have wa : IntKind.i64.wrap a = a := wrap_in (by omega)
      have w1 : IntKind.i64.wrap (w + a) = w + a := wrap_in (by omega)
      have w2 : IntKind.i64.wrap (hh + a) = hh + a := wrap_in (by omega)
      have hn : 1 ≤ n ∧ n ≤ 4096 := by rw [fitsB, decide_eq_true_eq] at hb; omega
      simp -implicitDefEqProofs [go_sem, hfb, hb, hf.t, hf.m, wa, w1]
      refine cK_dec (fun q1 => ?_) (fun q1 => ?_)
      · simp -implicitDefEqProofs [go_sem, hf.t, hf.m]
        refine aw _ ?_
        simp -implicitDefEqProofs [go_sem]
        exact ⟨_, Sub.refl _, rfl, rfl⟩
      simp -implicitDefEqProofs [go_sem, hfb, hb, hf.t, hf.m, wa, w2]
      refine cK_dec (fun q2 => ?_) (fun q2 => ?_)
      · simp -implicitDefEqProofs [go_sem, hf.t, hf.m]
        refine aw _ ?_
        simp -implicitDefEqProofs [go_sem]
        exact ⟨_, Sub.refl _, rfl, rfl⟩
      have f1 : fitsB p (w + a) hh n = true := by
        rw [fitsB, decide_eq_true_eq, ← hm]
        exact ⟨hn.1, hn.2, make_mono (by omega) (Int.le_refl _) (by omega) (by omega) hz⟩
      have f2 : fitsB p w (hh + a) n = true := by
        rw [fitsB, decide_eq_true_eq, ← hm]
        exact ⟨hn.1, hn.2, make_mono (Int.le_refl _) (by omega) (by omega) (by omega) hz⟩
      simp -implicitDefEqProofs [go_sem, hf.t, hf.m, wa, w1]
      refine (fits_c p (w + a) hh n h).mono ?_
      rintro e h' ⟨rfl, he⟩
      rw [he, f1]
      simp -implicitDefEqProofs [go_sem, hf.t, hf.m, wa, w2]
      refine (fits_c p w (hh + a) n h).mono ?_
      rintro e h' ⟨rfl, he⟩
      rw [he, f2]
      simp -implicitDefEqProofs [go_sem]
      refine aw _ ?_
      simp -implicitDefEqProofs [go_sem]
      exact ⟨_, Sub.refl _, rfl, rfl⟩
end Go.Proofs
