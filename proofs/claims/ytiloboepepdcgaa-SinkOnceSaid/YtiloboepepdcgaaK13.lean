/- This text is a part of the proofs of the statements of this seat: the ideal states and their rules, or what one of the functions that the statements reach comes to. Conditions: none beyond those that each theorem names. -/
import Derived.Test.YtiloboepepdcgaaK12
set_option linter.unusedVariables false
set_option linter.unusedSimpArgs false
set_option pp.deepTerms false
set_option pp.maxSteps 400
namespace Go.Proofs
open Go.Idl

theorem psh_len (l : List Pn) : ∀ p : PM, (l.foldl psh p).evs.length ≤ p.evs.length + l.length := by
  induction l with
  | nil => intro p; exact Nat.le_refl _
  | cons x r ih =>
    intro p
    have h1 := ih (psh p x)
    have h2 : (psh p x).evs.length ≤ p.evs.length + 1 := by
      unfold psh; split
      · simp [PM.size]
      · omega
    simp only [List.foldl_cons, List.length_cons]; omega
theorem psend_len (p : PM) (id : Int) (bs : List UInt8) : (psend p id bs).evs.length ≤ p.evs.length + 1 := by
  unfold psend; split
  · simp [PM.put]
  · omega


set_option maxRecDepth 20000 in
set_option maxHeartbeats 4000000 in
theorem sinkOnce_c (l : List Pn) (bs : List UInt8) (id : Int) (h : Heap) : ICall Try.prog 3 [.list .plain (l.map Pn.row), .list .plain (bs.map byteRow), .int .i64 id] h (retP (.bool true) h) := by
  refine icall_of_iwp (fun _ => 0) Try.func3 rfl (by kernel_rfl) (Nat.le_of_ble_eq_true rfl) ?_
  rw [Try.results3]
  simp -implicitDefEqProofs [go_sem]
  refine cK_dec (fun hlt => ?_) (fun hlt => ?_)
  · simp -implicitDefEqProofs [go_sem]
    refine (awake_c h).mono ?_
    rintro e h' ⟨rfl, he⟩
    rw [he]
    simp -implicitDefEqProofs [go_sem]
    exact ⟨_, Sub.refl _, rfl, rfl⟩
  simp -implicitDefEqProofs [go_sem]
  refine (good_c l (by omega) h).mono ?_
  rintro e h' ⟨he, b, rfl, hb⟩
  rw [he]
  cases b with
  | false =>
    simp -implicitDefEqProofs [go_sem]
    refine (awake_c h).mono ?_
    rintro e h' ⟨rfl, he⟩
    rw [he]
    simp -implicitDefEqProofs [go_sem]
    exact ⟨_, Sub.refl _, rfl, rfl⟩
  | true =>
  have hgood := hb.1 rfl
  simp -implicitDefEqProofs [go_sem]
  refine cK_dec (fun hlb => ?_) (fun hlb => ?_)
  · simp -implicitDefEqProofs [go_sem]
    refine (awake_c h).mono ?_
    rintro e h' ⟨rfl, he⟩
    rw [he]
    simp -implicitDefEqProofs [go_sem]
    exact ⟨_, Sub.refl _, rfl, rfl⟩
  simp -implicitDefEqProofs [go_sem]
  refine cK_dec (fun hid => ?_) (fun hid => ?_)
  · simp -implicitDefEqProofs [go_sem]
    refine (awake_c h).mono ?_
    rintro e h' ⟨rfl, he⟩
    rw [he]
    simp -implicitDefEqProofs [go_sem]
    exact ⟨_, Sub.refl _, rfl, rfl⟩
  simp -implicitDefEqProofs [go_sem]
  refine cK_dec (fun hid2 => ?_) (fun hid2 => ?_)
  · simp -implicitDefEqProofs [go_sem]
    refine (awake_c h).mono ?_
    rintro e h' ⟨rfl, he⟩
    rw [he]
    simp -implicitDefEqProofs [go_sem]
    exact ⟨_, Sub.refl _, rfl, rfl⟩
  simp -implicitDefEqProofs [go_sem]
  refine (newBoard_c h).mono ?_
  rintro e h1 ⟨bb, mb, hb1, hb2, hb3, rfl, hh1⟩
  obtain ⟨hB1, hF1⟩ := newB_at (k := 1) (tag := fun _ => (2, 0, 0)) hb1 hb2 hb3
  rw [← hh1] at hB1 hF1
  simp -implicitDefEqProofs [go_sem]
  refine (newRec_c h1).mono ?_
  rintro e h2 ⟨rb, hr1, rfl, hh2⟩
  have hB2 := hB1.grow hr1 (some (.cells [.list .tight []])) (1, 3, 0)
  have hF2 := hF1.trans (Frm.grow (k := 1) hr1 (some (.cells [.list .tight []])) (1, 3, 0))
  have hr2 : h2 rb = some (.cells [.list .tight []]) := by rw [hh2, upd_same]
  rw [← hh2] at hB2 hF2
  simp -implicitDefEqProofs [go_sem]
  refine (add_c hB2 id hr2 (upd_same _ _ _)).mono ?_
  intro e h3 hA
  rw [addR, if_neg (by omega), if_neg (by simp)] at hA
  obtain ⟨rfl, pb, tag3, hB3, hF3, hS3⟩ := hA
  have ho0 : One 1 h tag3 h3 bb mb rb ⟨id, false, 0, 0, [], false⟩ := ⟨newP id pb rb, rfl, rfl, hB3, hF2.trans hF3⟩
  have hI0 : OnceI id ⟨id, false, 0, 0, [], false⟩ := ⟨rfl, rfl, rfl⟩
  have hn0 : (⟨id, false, 0, 0, [], false⟩ : PM).evs.length = 0 := rfl
  generalize (⟨id, false, 0, 0, [], false⟩ : PM) = p0 at *
  have hll : l.length ≤ 20 := hgood.2
  have hbl : bs.length ≤ 100 := by omega
  have n1 := psh_len l p0
  have hI1 := hI0.pshs l hgood.1
  simp -implicitDefEqProofs [go_sem]
  refine (show_one ho0 l (by omega) (by omega)).mono ?_
  rintro e h4 ⟨⟨c4, rfl⟩, tag4, ho1⟩
  generalize l.foldl psh p0 = p1 at *
  have n2 := psend_len p1 id bs
  have hI2 := hI1.psend id bs
  simp -implicitDefEqProofs [go_sem]
  refine (send_one ho1 id bs (by omega) (by omega)).mono ?_
  rintro e h5 ⟨⟨c5, rfl⟩, tag5, ho2⟩
  generalize psend p1 id bs = p2 at *
  have n3 := psh_len l p2
  have hI3 := hI2.pshs l hgood.1
  simp -implicitDefEqProofs [go_sem]
  refine (show_one ho2 l (by omega) (by omega)).mono ?_
  rintro e h6 ⟨⟨c6, rfl⟩, tag6, ho3⟩
  generalize l.foldl psh p2 = p3 at *
  have his : p3.is id = true := by simp [PM.is, hI3.1, hI3.2.1]
  have hg4 : (pdrop p3).gone = true := rfl
  have he4 : (pdrop p3).evs = p3.evs ++ [⟨3, 0, 0, ⟨#[]⟩⟩] := rfl
  simp -implicitDefEqProofs [go_sem]
  refine (drop_one ho3 id his (by omega)).mono ?_
  rintro e h7 ⟨⟨c7, rfl⟩, tag7, ho4⟩
  have n4 : (pdrop p3).evs.length = p3.evs.length + 1 := by rw [he4]; simp
  simp -implicitDefEqProofs [go_sem]
  refine (events_one ho4 (by omega)).mono ?_
  rintro e h' ⟨rfl, he⟩
  rw [he]
  simp -implicitDefEqProofs [go_sem]
  refine (show_one ho4 l (by omega) (by omega)).mono ?_
  rintro e h8 ⟨⟨c8, rfl⟩, tag8, ho5⟩
  rw [psh_gone l hg4] at ho5
  simp -implicitDefEqProofs [go_sem]
  refine (send_one ho5 id bs (by omega) (by omega)).mono ?_
  rintro e h9 ⟨⟨c9, rfl⟩, tag9, ho6⟩
  rw [psend_gone id bs hg4] at ho6
  simp -implicitDefEqProofs [go_sem]
  refine (events_one ho6 (by omega)).mono ?_
  rintro e h' ⟨rfl, he⟩
  rw [he]
  have hsub : Sub h h9 := by obtain ⟨_, _, _, _, hf⟩ := ho6; exact hf.sub
  obtain ⟨n, hn⟩ : ∃ n, n = p3.evs.length := ⟨_, rfl⟩
  have hXl : (pdrop p3).evs.length = n + 1 := by rw [n4, hn]
  have hXc : ∀ hx : n < (pdrop p3).evs.length, (pdrop p3).evs[n] = ⟨3, 0, 0, ⟨#[]⟩⟩ := by
    intro hx; simp only [he4, hn]; simp
  have hXi : ∀ i, (hi : i < p3.evs.length) → ∀ hx : i < (pdrop p3).evs.length, (pdrop p3).evs[i] = p3.evs[i] := by
    intro i hi hx; simp only [he4]; rw [List.getElem_append_left hi]
  have hsc := hI3.2.2
  generalize (pdrop p3).evs = X at *
  have hw1 : IntKind.i64.wrap ((n : Int) + 1 - 1) = (n : Int) := by rw [wrap_in (by omega)]; omega
  have hw2 : IntKind.i64.wrap (n : Int) = (n : Int) := wrap_in (by omega)
  have hn0 : n < X.length := by omega
  have hXc := hXc hn0
  have hne0 : ((n : Int) + 1 == 0) = false := by simp; omega
  have hi1 : (n : Int) < (n : Int) + 1 := by omega
  have hi0 : (0 : Int) ≤ (n : Int) := by omega
  simp -implicitDefEqProofs [go_sem, hXl, hw1, hw2, hXc, hn0, hne0, hi1, hi0, Ev.row_len, Ev.row]
  refine iwp_loopF (rng [11,12,13] 86 140) nom (fun s => ∃ (i : Nat) (w hh : Int), i ≤ n ∧ s.t 13 = .int .i64 i ∧ s.t 11 = .int .i64 w ∧ s.t 12 = .int .i64 hh ∧ s.h = h9 ∧ scanE (0, 0) (p3.evs.take i) = some (w, hh)) (fun s => n - tn (s.t 13)) ?_ ?_
  · exact ⟨0, 0, 0, Nat.zero_le _, by simp -implicitDefEqProofs [go_sem], by simp -implicitDefEqProofs [go_sem], by simp -implicitDefEqProofs [go_sem], by simp -implicitDefEqProofs [go_sem], rfl⟩
  rintro J s hJ hf ⟨i, w, hgt, hi, h13, h11, h12, hh, hsi⟩
  simp -implicitDefEqProofs [go_sem, h13, h11, h12, hh, hf.t, hf.m, hw1, hw2]
  refine cK_dec (fun hlt => ?_) (fun hlt => ?_)
  · have hlt' : i < p3.evs.length := by omega
    have hiX : i < X.length := by omega
    have hw := wrap_succ (i := i) (by omega)
    have hx := hXi i hlt' hiX
    have hnx : ∃ s', scanE (0, 0) (p3.evs.take (i + 1)) = some s' := by
      rw [← List.take_append_drop (i + 1) p3.evs, scanE_append] at hsc
      cases hq : scanE (0, 0) (p3.evs.take (i + 1)) with
      | none => rw [hq] at hsc; cases hsc
      | some s' => exact ⟨s', rfl⟩
    rw [List.take_add_one, List.getElem?_eq_getElem hlt', scanE_append, hsi] at hnx
    simp only [Option.toList_some, Option.bind_some, scanE] at hnx
    obtain ⟨s', hnx⟩ := hnx
    have htk : scanE (0, 0) (p3.evs.take (i + 1)) = some s' := by
      rw [List.take_add_one, List.getElem?_eq_getElem hlt', scanE_append, hsi]; simpa only [Option.toList_some, Option.bind_some, scanE] using hnx
    generalize p3.evs[i] = ev at *
    split at hnx
    · cases hnx
    rename_i hok
    have hk3 : ¬ ev.kind = 3 := fun h => hok (.inl h)
    have hk3' : (ev.kind == 3) = false := by simpa using hk3
    by_cases hk1 : ev.kind = 1
    · have hk1' : (ev.kind == 1) = true := by simpa using hk1
      have hsame : ¬ (ev.w = w ∧ ev.h = hgt) := fun h => hok (.inr ⟨hk1, h⟩)
      rw [if_pos hk1] at hnx
      simp -implicitDefEqProofs [go_sem, h13, h11, h12, hh, hf.t, hf.m, hw1, hw2, hx, hiX, Ev.row_len, Ev.row, hk3', hk1']
      have fin : ∀ s' : St, s'.t 13 = .int .i64 ((i + 1 : Nat) : Int) → s'.t 11 = .int .i64 ev.w → s'.t 12 = .int .i64 ev.h → s'.h = h9 → J s' := fun s' g1 g2 g3 g4 => hJ _ ⟨i + 1, ev.w, ev.h, by omega, g1, g2, g3, g4, by rw [htk]; exact hnx.symm⟩ (by simp [go_sem, h13, g1]; omega)
      refine cK_any (fun hqw => ?_) (fun hqw => ?_)
      · have hqh : (ev.h == hgt) = false := by
          have h1 : ev.w = w := by simpa using hqw
          have : ¬ ev.h = hgt := fun h2 => hsame ⟨h1, h2⟩
          simpa using this
        simp -implicitDefEqProofs [go_sem, h13, h11, h12, hh, hf.t, hf.m, hw1, hw2, hx, hiX, Ev.row_len, Ev.row, hk3', hk1', hqh]
        refine iwp_drawn_of mixed [0,1,2,3,4,5,6,7,8,9,10,11] (by kernel_rfl) ?_
        simp -implicitDefEqProofs [go_sem, h13, h11, h12, hh, hf.t, hf.m, hf, hw1, hw2, hw, hx, hiX, Ev.row_len, Ev.row, hk3', hk1']
        exact fin _ (by simp -implicitDefEqProofs [go_sem, hw]) (by simp -implicitDefEqProofs [go_sem]) (by simp -implicitDefEqProofs [go_sem]) (by simp -implicitDefEqProofs [go_sem, hh])
      · simp -implicitDefEqProofs [go_sem, h13, h11, h12, hh, hf.t, hf.m, hw1, hw2, hx, hiX, Ev.row_len, Ev.row, hk3', hk1']
        refine iwp_drawn_of mixed [0,1,2,3,4,5,6,7,8,9,10,11] (by kernel_rfl) ?_
        simp -implicitDefEqProofs [go_sem, h13, h11, h12, hh, hf.t, hf.m, hf, hw1, hw2, hw, hx, hiX, Ev.row_len, Ev.row, hk3', hk1']
        exact fin _ (by simp -implicitDefEqProofs [go_sem, hw]) (by simp -implicitDefEqProofs [go_sem]) (by simp -implicitDefEqProofs [go_sem]) (by simp -implicitDefEqProofs [go_sem, hh])
    · have hk1' : (ev.kind == 1) = false := by simpa using hk1
      rw [if_neg hk1] at hnx
      simp -implicitDefEqProofs [go_sem, h13, h11, h12, hh, hf.t, hf.m, hf, hw1, hw2, hw, hx, hiX, Ev.row_len, Ev.row, hk3', hk1']
      refine hJ _ ⟨i + 1, w, hgt, by omega, by simp -implicitDefEqProofs [go_sem, hw], by simp -implicitDefEqProofs [go_sem, h11], by simp -implicitDefEqProofs [go_sem, h12], by simp -implicitDefEqProofs [go_sem, hh], by rw [htk]; exact hnx.symm⟩ (by simp [go_sem, h13, hw]; omega)
  · simp -implicitDefEqProofs [go_sem, h13, h11, h12, hh, hf.t, hf.m]
    refine (awake_c h9).mono ?_
    rintro e h' ⟨rfl, he⟩
    rw [he]
    simp -implicitDefEqProofs [go_sem, h13, h11, h12, hh, hf.t, hf.m]
    exact ⟨_, hsub, rfl, rfl⟩
end Go.Proofs
