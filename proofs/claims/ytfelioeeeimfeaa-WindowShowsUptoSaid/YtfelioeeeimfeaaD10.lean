/- This text is a part of the proofs of the statements of this seat: the ideal states and their rules, or what one of the functions that the statements reach comes to. Conditions: none beyond those that each theorem names. -/
import Derived.Test.YtfelioeeeimfeaaD9
set_option linter.unusedVariables false
set_option linter.unusedSimpArgs false
set_option pp.deepTerms false
set_option pp.maxSteps 400
namespace Go.Proofs
open Go.Idl

theorem shown_in {w : Wn} (hm : w.may = true) : w.tree.r.may = true ∧ ∀ p ∈ w.shown, p.r.may = true ∧ w.tree.r.inside p.r := by
  have ht : w.tree.tiles = true := by
    simp only [Wn.may, Bool.and_eq_true] at hm
    exact hm.1.1.1.1
  obtain ⟨h1, h2⟩ := tiles_til ht
  refine ⟨h2, fun p hp => ?_⟩
  rw [Wn.shown, if_pos hm] at hp
  split at hp
  · simp at hp
    subst hp
    exact ⟨h2, ⟨Int.le_refl _, Int.le_refl _, Int.le_refl _, Int.le_refl _⟩⟩
  · have hmem : p.r ∈ w.tree.leaves.map Cel.r ++ w.tree.check.1 := by
      rw [Cel.panes] at hp
      obtain ⟨d, hd, rfl⟩ := List.mem_map.1 hp
      exact List.mem_append_left _ (List.mem_map.2 ⟨d, hd, rfl⟩)
    exact ⟨h1.may h2 hmem, (h1.pos _ hmem).2.2⟩

set_option maxRecDepth 20000 in
set_option maxHeartbeats 4000000 in
theorem windowShows_c (w : Wn) (h : Heap) (hs : w.tree.size < 10000000) :
    ICall Try.prog 4 [.agg w.row] h (retP (.bool true) h) := by
  refine icall_of_iwp (fun _ => 0) Try.func4 rfl (by kernel_rfl) (Nat.le_of_ble_eq_true rfl) ?_
  rw [Try.results4]
  have aw : ∀ (R : IEnd → Heap → Prop), R (.ret (.bool true)) h → ICall Try.prog 6 [] h R := fun R hR => (awake18_c h).mono (by rintro e h' ⟨rfl, rfl⟩; exact hR)
  simp -implicitDefEqProofs [go_sem]
  refine (great_c w.tree h (by omega)).mono ?_
  rintro e h' ⟨b, rfl, he, _⟩
  rw [he]
  simp -implicitDefEqProofs [go_sem]
  refine cK_any (fun k1 => ?_) (fun k1 => ?_) <;> simp -implicitDefEqProofs [go_sem]
  · refine aw _ ?_
    simp -implicitDefEqProofs [go_sem]
    exact ⟨h, Sub.refl _, rfl, rfl⟩
  refine (shown_c w h (by omega)).mono ?_
  rintro e h' ⟨rfl, he⟩
  rw [he]
  simp -implicitDefEqProofs [go_sem]
  refine (may18_c w h (by omega)).mono ?_
  rintro e h' ⟨rfl, he⟩
  rw [he]
  cases hm : w.may with
  | false =>
    have hsh : w.shown = [] := by rw [Wn.shown, if_neg (by rw [hm]; simp)]
    simp -implicitDefEqProofs [go_sem, hsh]
    refine (wMay_c w h (by omega)).mono ?_
    rintro e h' ⟨rfl, he⟩
    rw [he, hm]
    simp -implicitDefEqProofs [go_sem]
    refine aw _ ?_
    simp -implicitDefEqProofs [go_sem]
    exact ⟨h, Sub.refl _, rfl, rfl⟩
  | true =>
    obtain ⟨hr, hin⟩ := shown_in hm
    have hsl : w.shown.length ≤ w.tree.size + 1 := by
      rw [Wn.shown, if_pos hm]; split
      · simp
      · have := panes_size w.tree; omega
    simp -implicitDefEqProofs [go_sem]
    refine iwp_loopF (rng [4,5] 31 55) nom (fun s => ∃ i : Nat, i ≤ w.shown.length ∧ s.t 5 = .int .i64 i ∧ Own [44, 92] s.x 23 (s.t 4) (((w.shown.map Pn.r).take i).map Rct.row) ∧ s.h = h) (fun s => w.shown.length - tn (s.t 5)) ?_ ?_
    · exact ⟨0, Nat.zero_le _, by simp -implicitDefEqProofs [go_sem], by simp -implicitDefEqProofs [go_sem, Own.tight], by simp -implicitDefEqProofs [go_sem]⟩
    rintro J s hJ hf ⟨i, hi, h5, ho, hh⟩
    obtain ⟨tk, h4⟩ := ho.list
    simp -implicitDefEqProofs [go_sem, h5, h4, hh, hf.t, hf.m]
    refine cK_dec (fun hlt => ?_) (fun hge => ?_)
    · have hg : w.shown[i]? = some w.shown[i] := List.getElem?_eq_getElem hlt
      have hw := wrap_succ (i := i) (by omega)
      have htk : ((w.shown.map Pn.r).take (i + 1)).map Rct.row = ((w.shown.map Pn.r).take i).map Rct.row ++ [w.shown[i].r.row] := by
        rw [List.take_add_one, List.getElem?_map, hg, List.map_append]; rfl
      have hll : (((w.shown.map Pn.r).take i).map Rct.row).length = i := by simp; omega
      simp -implicitDefEqProofs [go_sem, h5, h4, hh, hf.t, hf.m, hlt, hg]
      refine aK_own (z := 4) (S := [44, 92]) (rows := ((w.shown.map Pn.r).take i).map Rct.row) (by simpa -implicitDefEqProofs [go_sem, h4] using ho) (by simp) elT_41 elZ_23 (by simp only [roomy, byT_23, hll]; simp; omega) (Rct.rows_uni _) (by simp [uni, Rct.row_len]) ?_
      intro r2 x2 ho2 _
      simp -implicitDefEqProofs [go_sem, h5, h4, hh, hf.t, hf.m, hlt, hg]
      refine iwp_drawn_of mixed [0,1,2,3,4,5,6,7,8,9] (by kernel_rfl) ?_
      simp -implicitDefEqProofs [go_sem, h5, h4, hh, hf.t, hf.m, hlt, hg]
      have hp := hin w.shown[i] (List.getElem_mem hlt)
      refine ⟨_, inside_c w.tree.r w.shown[i].r h hr hp.1 hp.2, ?_⟩
      simp -implicitDefEqProofs [go_sem, h5, h4, hh, hf.t, hf.m, hf, hlt, hg, hw]
      exact hJ _ ⟨i + 1, by omega, by simp -implicitDefEqProofs [go_sem, hw], by rw [htk]; simpa -implicitDefEqProofs [go_sem] using ho2, by simp -implicitDefEqProofs [go_sem, hh]⟩ (by simp [go_sem, h5, hw]; omega)
    · obtain rfl : i = w.shown.length := by omega
      rw [List.take_of_length_le (by simp)] at ho h4
      cases hz : w.z with
      | true =>
        have hsh : w.shown = [⟨w.act, w.tree.r⟩] := by rw [Wn.shown, if_pos hm, if_pos hz]
        have hrow : IV.int .i64 w.act :: w.tree.r.row = (Pn.mk w.act w.tree.r).row := rfl
        simp -implicitDefEqProofs [go_sem, h5, h4, hh, hf.t, hf.m, hz, hsh]
        refine iwp_drawn_of mixed [0,1,2,3,4,5,6,7,8,9,10,11,12,13,14,15,16,17,18] (by kernel_rfl) ?_
        simp -implicitDefEqProofs [go_sem, h5, h4, hh, hf.t, hf.m, hz, hsh, hrow]
        refine ⟨_, awake18_c h, ?_⟩
        simp -implicitDefEqProofs [go_sem, h5, h4, hh, hf.t, hf.m, hz, hsh, hrow]
        exact ⟨h, Sub.refl _, rfl, rfl⟩
      | false =>
        have hsh : w.shown = w.tree.panes := by rw [Wn.shown, if_pos hm, if_neg (by rw [hz]; simp)]
        have hlen : ((w.shown.length : Int) == (w.tree.ids.length : Int)) = true := by rw [hsh, panes_len, ids_len]; simp
        have hR : w.shown.map Pn.r = w.tree.leaves.map Cel.r := by rw [hsh, Cel.panes, List.map_map]; rfl
        obtain ⟨R, hRd⟩ : ∃ R, R = w.tree.leaves.map Cel.r := ⟨_, rfl⟩
        rw [hR, ← hRd] at ho h4
        simp -implicitDefEqProofs [go_sem, h5, h4, hh, hf.t, hf.m, hz]
        refine (check06_c w.tree h (by omega)).mono ?_
        rintro e h' ⟨rfl, he⟩
        rw [he, checkV]
        simp -implicitDefEqProofs [go_sem, h5, h4, hh, hf.t, hf.m, hz]
        refine iwp_drawn_of mixed [0,1,2,3,4,5,6,7,8,9,10,11,12,13,14,15,16,17,18,19,20,21,22,23,24,25,26,27,28,29] (by kernel_rfl) ?_
        simp -implicitDefEqProofs [go_sem, h5, h4, hh, hf.t, hf.m, hz]
        refine ⟨_, ids_c w.tree h (by omega), ?_⟩
        simp -implicitDefEqProofs [go_sem, h5, h4, hh, hf.t, hf.m, hz, hlen]
        have htl : w.tree.tiles = true := by
          simp only [Wn.may, Bool.and_eq_true] at hm
          exact hm.1.1.1.1
        obtain ⟨T, hTm⟩ := tiles_til htl
        obtain ⟨N, hNd⟩ : ∃ N, N = w.tree.check.1 := ⟨_, rfl⟩
        rw [← hRd, ← hNd] at T
        rw [← hNd]
        have hRl : R.length ≤ w.tree.size := by rw [hRd, List.length_map]; have := panes_size w.tree; rw [panes_len] at this; exact this
        have hNl : N.length + 1 ≤ w.tree.size := by
          have htf := tiles_fold w.tree
          rw [htl] at htf
          have hh2 := (Bool.and_eq_true _ _ ▸ htf.symm : w.tree.may = true ∧ _)
          obtain ⟨ls, hls⟩ := Option.isSome_iff_exists.1 hh2.2
          have h1 := fold_len w.tree [] ls hls
          have hck : w.tree.check.1 = ls := by rw [Cel.check, if_pos hh2.1, chkL_fold, hls]
          rw [hNd, hck]; simpa using h1
        have hmay : ∀ q ∈ R ++ N, q.may = true := fun q hq => T.may hTm hq
        refine aK_own (z := 4) (S := [44, 92]) (rows := R.map Rct.row) (by simpa -implicitDefEqProofs [go_sem, h4] using ho) (by simp) elT_41 elZ_23 (by simp only [roomy, byT_23, List.length_map]; (try simp); omega) (Rct.rows_uni _) (Rct.rows_uni _) ?_
        intro r2 x2 ho2 _
        obtain ⟨tk2, hr2⟩ := ho2.list
        rw [← List.map_append] at hr2
        subst hr2
        simp -implicitDefEqProofs [go_sem, h5, h4, hh, hf.t, hf.m, hz, hlen]
        have ap := apartments_c (R ++ N) h (by simp; omega) hmay T.pw
        rw [List.map_append] at ap
        refine ⟨_, ap, ?_⟩
        simp -implicitDefEqProofs [go_sem, h5, h4, hh, hf.t, hf.m, hz, hlen]
        refine ⟨_, area_c R h (by omega) (fun q hq => hmay q (List.mem_append_left _ hq)), ?_⟩
        simp -implicitDefEqProofs [go_sem, h5, h4, hh, hf.t, hf.m, hz, hlen]
        refine ⟨_, area_c N h (by omega) (fun q hq => hmay q (List.mem_append_right _ hq)), ?_⟩
        have har := T.ar
        rw [areaL_append] at har
        have hbw := may_bd hTm
        have h1 : 0 ≤ w.tree.r.w * w.tree.r.h := Int.mul_nonneg (by omega) (by omega)
        have h2 : w.tree.r.w * w.tree.r.h ≤ 10000 * 10000 := Int.mul_le_mul (by omega) (by omega) (by omega) (by omega)
        have hone : areaL [w.tree.r] = w.tree.r.w * w.tree.r.h := by simp [areaL]
        have hww : IntKind.i64.wrap (areaL R + areaL N) = areaL [w.tree.r] := by rw [hone, ← har]; exact wrap_in (by omega)
        simp -implicitDefEqProofs [go_sem, h5, h4, hh, hf.t, hf.m, hz, hlen, hww]
        have ac := area_c [w.tree.r] h (by simp) (fun q hq => by simp at hq; rw [hq]; exact hTm)
        simp only [List.map_cons, List.map_nil] at ac
        refine ⟨_, ac, ?_⟩
        simp -implicitDefEqProofs [go_sem, h5, h4, hh, hf.t, hf.m, hz, hlen, hww]
        refine ⟨_, awake18_c h, ?_⟩
        simp -implicitDefEqProofs [go_sem, h5, h4, hh, hf.t, hf.m, hz, hlen, hww]
        exact ⟨h, Sub.refl _, rfl, rfl⟩
end Go.Proofs
