/- This text is a part of the proofs of the statements of this seat: the ideal states and their rules, or what one of the functions that the statements reach comes to. Conditions: none beyond those that each theorem names. -/
import Derived.Test.YtiloboepepdcgaaC11
set_option linter.unusedVariables false
set_option linter.unusedSimpArgs false
set_option pp.deepTerms false
set_option pp.maxSteps 400
namespace Go.Proofs
open Go.Idl

set_option maxRecDepth 20000 in
set_option maxHeartbeats 4000000 in
theorem name07_c (c : Cel) : ∀ (ids : List Int) (h : Heap), c.size < 100000000000 → ids.length < 100000000000 → c.lv ≤ ids.length → ICall Try.prog 91 [.agg c.row, .list .plain (ids.map intRow)] h (retP (.tup [.agg (c.nm ids).row, .int .i64 c.lv]) h) := by
  induction c using Cel.induct
  rename_i c ih
  intro ids h hs hids hlv
  have hlen := Cel.len_le c.kids
  rw [c.size_eq] at hs
  rw [c.lv_eq] at hlv
  refine icall_of_iwp (fun _ => 0) Try.func91 rfl (by kernel_rfl) (Nat.le_of_ble_eq_true rfl) ?_
  rw [Try.results91]
  simp -implicitDefEqProofs [go_sem]
  refine cK_beq (fun hk => ?_) (fun hk => ?_) <;> simp -implicitDefEqProofs [go_sem]
  · rw [if_pos hk] at hlv
    have hg0 : ids[0]? = some ids[0] := List.getElem?_eq_getElem (by omega)
    have hl0 : 0 < ids.length := by omega
    simp -implicitDefEqProofs [go_sem, hg0, hl0]
    refine iwp_loopF (rng [6,7,8,9,10] 22 44) (fun k => k == 9) (fun s => ∃ i, i ≤ c.kids.length ∧ s.t 22 = .int .i64 i ∧ Own [40] s.x 72 (s.t 7) ((Cel.nms (c.kids.take i) (ids.drop 1)).map Cel.row) ∧ (∃ n : Nat, s.t 6 = .int .i64 n ∧ n = 1 + Cel.lvs (c.kids.take i)) ∧ s.h = h) (fun s => c.kids.length - tn (s.t 22)) ?_ ?_
    · exact ⟨0, Nat.zero_le _, by simp -implicitDefEqProofs [go_sem], by simp -implicitDefEqProofs [go_sem, Own.tight, Cel.nms], ⟨_, by simp -implicitDefEqProofs [go_sem]; rfl, by simp [Cel.lvs]⟩, by simp -implicitDefEqProofs [go_sem]⟩
    rintro J s hJ hf ⟨i, hi, h22, ho, ⟨n, h6, hn⟩, hh⟩
    obtain ⟨tk, h7⟩ := ho.list
    simp -implicitDefEqProofs [go_sem, h22, h6, h7, hh, hf.t, hf.m]
    refine cK_dec (fun hlt => ?_) (fun hge => ?_)
    · have hg : c.kids[i]? = some c.kids[i] := List.getElem?_eq_getElem hlt
      have hw := wrap_succ (i := i) (by omega)
      have hst := Cel.sizes_take c.kids i hlt
      have hle := Cel.sizes_le c.kids (i + 1)
      have hlt2 := Cel.lvs_take c.kids i hlt
      have hlle := Cel.lvs_le c.kids (i + 1)
      have hlls := Cel.lvs_sizes c.kids
      simp -implicitDefEqProofs [go_sem, h22, h6, h7, hh, hf.t, hf.m]
      refine iwp_drawn_alloc mixed 12 [0, 1, 2, 3, 4, 5, 6, 7, 8, 9, 10, 11, 13, 14] (by kernel_rfl) ?_
      have hn2 : n ≤ ids.length := by omega
      have hdr : List.drop n (List.take ids.length (List.map intRow ids)) = (ids.drop n).map intRow := by rw [List.take_of_length_le (by simp), ← List.map_drop]
      have hids2 : (ids.drop 1).drop (Cel.lvs (c.kids.take i)) = ids.drop n := by rw [List.drop_drop, hn]
      have hnm := Cel.nms_take c.kids (ids.drop 1) i hlt
      rw [hids2] at hnm
      simp -implicitDefEqProofs [go_sem, h22, h6, h7, hh, hf.t, hf.m, hlt, hg, hn2, hdr]
      have hih := ih _ (List.getElem_mem hlt) (ids.drop n) h (by omega) (by simp; omega) (by simp; omega)
      rw [List.map_drop] at hih
      refine ⟨_, hih, ?_⟩
      have hwn : IntKind.i64.wrap ((n : Int) + (c.kids[i].lv : Int)) = ((n + c.kids[i].lv : Nat) : Int) := by rw [wrap_in (by omega)]; rfl
      simp -implicitDefEqProofs [go_sem, h22, h6, h7, hh, hf.t, hf.m, hlt, hg, hwn]
      refine aK_own (z := 7) (S := [40]) (by simpa -implicitDefEqProofs [go_sem, h7] using ho) (by simp) elT_70 elZ_72 (by simp [roomy, byT_72, Cel.nms_length]; omega) (Cel.rows_uni _) (by simp [uni, Cel.row_len]) ?_
      intro r' x' ho' _
      simp -implicitDefEqProofs [go_sem, h22, h6, h7, hh, hf.t, hf.m, hf, hlt, hg, hwn, hw]
      exact hJ _ ⟨i + 1, by omega, by simp -implicitDefEqProofs [go_sem, hw], by rw [hnm, List.map_append]; simpa -implicitDefEqProofs [go_sem] using ho', ⟨_, by simp -implicitDefEqProofs [go_sem]; rfl, by omega⟩, by simp -implicitDefEqProofs [go_sem, hh]⟩ (by simp [go_sem, h22, hw]; omega)
    · have hik : i = c.kids.length := by omega
      rw [hik, List.take_length] at ho hn h7
      simp -implicitDefEqProofs [go_sem, h22, h6, h7, hh, hf.t, hf.m]
      refine ⟨h, Sub.refl _, ?_, rfl⟩
      have e1 : (n : Int) = c.lv := by rw [c.lv_eq]; simp only [hk, if_true, if_false]; omega
      have hd : ids.headD 0 = ids[0] := by cases ids with | nil => simp at hl0 | cons a l => rfl
      rw [c.nm_eq, e1, if_pos hk, if_pos hk, hd, ← List.drop_one]; rfl
  · rw [if_neg hk] at hlv
    refine iwp_loopF (rng [6,7,8,9,10] 22 44) (fun k => k == 9) (fun s => ∃ i, i ≤ c.kids.length ∧ s.t 22 = .int .i64 i ∧ Own [40] s.x 72 (s.t 7) ((Cel.nms (c.kids.take i) (ids.drop 0)).map Cel.row) ∧ (∃ n : Nat, s.t 6 = .int .i64 n ∧ n = 0 + Cel.lvs (c.kids.take i)) ∧ s.h = h) (fun s => c.kids.length - tn (s.t 22)) ?_ ?_
    · exact ⟨0, Nat.zero_le _, by simp -implicitDefEqProofs [go_sem], by simp -implicitDefEqProofs [go_sem, Own.tight, Cel.nms], ⟨_, by simp -implicitDefEqProofs [go_sem]; rfl, by simp [Cel.lvs]⟩, by simp -implicitDefEqProofs [go_sem]⟩
    rintro J s hJ hf ⟨i, hi, h22, ho, ⟨n, h6, hn⟩, hh⟩
    obtain ⟨tk, h7⟩ := ho.list
    simp -implicitDefEqProofs [go_sem, h22, h6, h7, hh, hf.t, hf.m]
    refine cK_dec (fun hlt => ?_) (fun hge => ?_)
    · have hg : c.kids[i]? = some c.kids[i] := List.getElem?_eq_getElem hlt
      have hw := wrap_succ (i := i) (by omega)
      have hst := Cel.sizes_take c.kids i hlt
      have hle := Cel.sizes_le c.kids (i + 1)
      have hlt2 := Cel.lvs_take c.kids i hlt
      have hlle := Cel.lvs_le c.kids (i + 1)
      have hlls := Cel.lvs_sizes c.kids
      simp -implicitDefEqProofs [go_sem, h22, h6, h7, hh, hf.t, hf.m]
      refine iwp_drawn_alloc mixed 12 [0, 1, 2, 3, 4, 5, 6, 7, 8, 9, 10, 11, 13, 14] (by kernel_rfl) ?_
      have hn2 : n ≤ ids.length := by omega
      have hdr : List.drop n (List.take ids.length (List.map intRow ids)) = (ids.drop n).map intRow := by rw [List.take_of_length_le (by simp), ← List.map_drop]
      have hids2 : (ids.drop 0).drop (Cel.lvs (c.kids.take i)) = ids.drop n := by rw [List.drop_drop, hn]
      have hnm := Cel.nms_take c.kids (ids.drop 0) i hlt
      rw [hids2] at hnm
      simp -implicitDefEqProofs [go_sem, h22, h6, h7, hh, hf.t, hf.m, hlt, hg, hn2, hdr]
      have hih := ih _ (List.getElem_mem hlt) (ids.drop n) h (by omega) (by simp; omega) (by simp; omega)
      rw [List.map_drop] at hih
      refine ⟨_, hih, ?_⟩
      have hwn : IntKind.i64.wrap ((n : Int) + (c.kids[i].lv : Int)) = ((n + c.kids[i].lv : Nat) : Int) := by rw [wrap_in (by omega)]; rfl
      simp -implicitDefEqProofs [go_sem, h22, h6, h7, hh, hf.t, hf.m, hlt, hg, hwn]
      refine aK_own (z := 7) (S := [40]) (by simpa -implicitDefEqProofs [go_sem, h7] using ho) (by simp) elT_70 elZ_72 (by simp [roomy, byT_72, Cel.nms_length]; omega) (Cel.rows_uni _) (by simp [uni, Cel.row_len]) ?_
      intro r' x' ho' _
      simp -implicitDefEqProofs [go_sem, h22, h6, h7, hh, hf.t, hf.m, hf, hlt, hg, hwn, hw]
      exact hJ _ ⟨i + 1, by omega, by simp -implicitDefEqProofs [go_sem, hw], by rw [hnm, List.map_append]; simpa -implicitDefEqProofs [go_sem] using ho', ⟨_, by simp -implicitDefEqProofs [go_sem]; rfl, by omega⟩, by simp -implicitDefEqProofs [go_sem, hh]⟩ (by simp [go_sem, h22, hw]; omega)
    · have hik : i = c.kids.length := by omega
      rw [hik, List.take_length] at ho hn h7
      simp -implicitDefEqProofs [go_sem, h22, h6, h7, hh, hf.t, hf.m]
      refine ⟨h, Sub.refl _, ?_, rfl⟩
      have e1 : (n : Int) = c.lv := by rw [c.lv_eq]; simp only [hk, if_true, if_false]; omega
      rw [c.nm_eq, e1]
      simp only [hk, if_false, List.drop_zero, Cel.withKids]
end Go.Proofs
