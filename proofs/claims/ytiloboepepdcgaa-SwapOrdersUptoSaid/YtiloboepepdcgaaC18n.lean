/- This text is a part of the proofs of the statements of this seat: the ideal states and their rules, or what one of the functions that the statements reach comes to. Conditions: none beyond those that each theorem names. -/
import Derived.Test.YtiloboepepdcgaaC18
import Derived.Test.YtiloboepepdcgaaC11n
set_option linter.unusedVariables false
set_option linter.unusedSimpArgs false
set_option pp.deepTerms false
set_option pp.maxSteps 400
namespace Go.Proofs
open Go.Idl

def nameR (c : Cel) (ids : List Int) (h : Heap) (e : IEnd) (h' : Heap) : Prop :=
  (c.kids = [] ∧ e = .ret (.tup [.agg (c.nm ids).row, .list .plain ((ids.drop c.lv).map intRow)]) ∧ h' = h) ∨
  (∃ b cap, h b = none ∧ e = .ret (.tup [.agg ((c.nm ids).rowK (.sl 7 b 0 (c.nm ids).kids.length cap)), .list .plain ((ids.drop c.lv).map intRow)]) ∧ h' = upd h b (some (.arr 72 7 ((c.nm ids).kids.map Cel.row) cap)))

theorem nameR_fz {c : Cel} {ids : List Int} {h : Heap} {P : Program} {f : FuncId} {args : List IV} (hc : ICall P f args h (nameR c ids h)) :
    ICall P f args h (retP (.tup [.agg (c.nm ids).row, .list .plain ((ids.drop c.lv).map intRow)]) h) := by
  refine hc.fz ?_
  rintro e h' (⟨_, rfl, rfl⟩ | ⟨b, cap, hb, rfl, rfl⟩)
  · exact .inl ⟨rfl, rfl⟩
  · refine .inr ⟨_, b, 72, 7, (c.nm ids).kids.map Cel.row, cap, rfl, by simp [upd], ?_, ?_⟩
    · have h1 := (c.nm ids).rowK_fz b (c.nm ids).kids cap
      have h2 : (c.nm ids).withKids (c.nm ids).kids = c.nm ids := by rw [c.nm_eq]; rfl
      rw [h2] at h1
      simp only [fz3, fz2, List.map_cons, List.map_nil, h1, fz1]
    · funext j
      simp only [dropH, upd]
      split
      · rename_i e; rw [e, hb]
      · rfl

set_option maxRecDepth 20000 in
set_option maxHeartbeats 4000000 in
theorem name_c (c : Cel) : ∀ (ids : List Int) (h : Heap), c.size < 100000000000 → ids.length < 100000000000 → c.lv ≤ ids.length → ICall Try.prog 111 [.agg c.row, .list .plain (ids.map intRow)] h (retP (.tup [.agg (c.nm ids).row, .list .plain ((ids.drop c.lv).map intRow)]) h) := by
  induction c using Cel.induct
  rename_i c ih
  intro ids h hs hids hlv
  have hlen := Cel.len_le c.kids
  rw [c.size_eq] at hs
  rw [c.lv_eq] at hlv
  refine nameR_fz ?_
  refine icall_of_iwp (fun _ => 0) Try.func111 rfl (by kernel_rfl) (Nat.le_of_ble_eq_true rfl) ?_
  rw [Try.results111]
  simp -implicitDefEqProofs [go_sem]
  refine cK_beq (fun hk => ?_) (fun hk => ?_) <;> simp -implicitDefEqProofs [go_sem]
  · rw [if_pos hk] at hlv
    have hg0 : ids[0]? = some ids[0] := List.getElem?_eq_getElem (by omega)
    have hl0 : 0 < ids.length := by omega
    have hl1 : (1 : Int) ≤ (ids.length : Int) := by omega
    obtain ⟨ids1, hids1⟩ : ∃ l, l = ids.drop 1 := ⟨_, rfl⟩
    have htl : (List.map intRow ids).tail = ids1.map intRow := by rw [hids1]; simp
    have htl2 : (List.take ids.length (List.map intRow ids)).tail = ids1.map intRow := by rw [List.take_of_length_le (by simp), htl]
    have hil : ids1.length + 1 = ids.length := by rw [hids1]; simp; omega
    refine iwp_drawn_of mixed [0, 1, 2, 3, 4, 5, 6, 7] (by kernel_rfl) ?_
    have hnm : c.nm ids = (c.withId ids[0]).withKids (Cel.nms c.kids ids1) := by
      have hd : ids.headD 0 = ids[0] := by cases ids with | nil => simp at hl0 | cons a l => rfl
      rw [c.nm_eq, if_pos hk, if_pos hk, hd, hids1]; rfl
    have hlv2 : ids.drop c.lv = ids1.drop (Cel.lvs c.kids) := by rw [c.lv_eq, if_pos hk, hids1, List.drop_drop]
    simp -implicitDefEqProofs [go_sem, hg0, hl0, hl1, htl, htl2]
    refine (cloneCel_c c.kids h (by omega)).mono ?_
    rintro e h' (⟨hkn, rfl, he⟩ | ⟨hkn, b, cap, hb, hcap, rfl, he⟩)
    · rw [he]
      have e1 : Cel.nms c.kids ids1 = [] := by rw [hkn]; rfl
      have e2 : Cel.lvs c.kids = 0 := by rw [hkn]; rfl
      have e3 : ∀ d : Cel, d.rowK (.list .plain []) = (d.withKids []).row := fun d => by rw [d.rowK_eq, (d.withKids []).row_eq]; rfl
      have hkl : c.kids.length = 0 := by rw [hkn]; rfl
      simp -implicitDefEqProofs [go_sem, e3, hkl]
      refine iwp_loop (fun s => s = _) (fun _ => 0) rfl ?_
      rintro _ rfl
      simp -implicitDefEqProofs [go_sem, hkl]
      refine ⟨h, Sub.refl _, .inl ⟨hkn, ?_, rfl⟩⟩
      rw [hnm, hlv2, e1, e2]; rfl
    · rw [he]
      simp -implicitDefEqProofs [go_sem]
      refine iwp_loopF (rng [1,6] 23 40) nom (fun s => ∃ i rest, i ≤ c.kids.length ∧ s.t 23 = .int .i64 i ∧ s.t 1 = .list .plain (rest.map intRow) ∧ rest = ids1.drop (Cel.lvs (c.kids.take i)) ∧ s.h = upd h b (some (.arr 72 7 ((Cel.nms (c.kids.take i) ids1 ++ c.kids.drop i).map Cel.row) cap))) (fun s => c.kids.length - tn (s.t 23)) ?_ ?_
      · exact ⟨0, ids1, Nat.zero_le _, by simp -implicitDefEqProofs [go_sem], by simp -implicitDefEqProofs [go_sem], by simp [Cel.lvs], by simp -implicitDefEqProofs [go_sem, Cel.nms]⟩
      rintro J s hJ hf ⟨i, rest, hi, h23, h1, hrest, hh⟩
      simp -implicitDefEqProofs [go_sem, h23, h1, hf.t, hf.m]
      refine cK_dec (fun hlt => ?_) (fun hge => ?_)
      · have hg : c.kids[i]? = some c.kids[i] := List.getElem?_eq_getElem hlt
        have hw := wrap_succ (i := i) (by omega)
        have hst := Cel.sizes_take c.kids i hlt
        have hle := Cel.sizes_le c.kids (i + 1)
        have hlt2 := Cel.lvs_take c.kids i hlt
        have hlle := Cel.lvs_le c.kids (i + 1)
        have hlls := Cel.lvs_sizes c.kids
        have hnmt := Cel.nms_take c.kids ids1 i hlt
        rw [← hrest] at hnmt
        have hnl : (Cel.nms (c.kids.take i) ids1).length = i := by rw [Cel.nms_length]; simp; omega
        have hdk : c.kids.drop i = c.kids[i] :: c.kids.drop (i + 1) := List.drop_eq_getElem_cons hlt
        obtain ⟨rowsI, hrowsI⟩ : ∃ r, r = (Cel.nms (c.kids.take i) ids1 ++ c.kids.drop i).map Cel.row := ⟨_, rfl⟩
        rw [← hrowsI] at hh
        have hrow : rowsI[i]? = some c.kids[i].row := by
          rw [hrowsI, List.getElem?_map, List.getElem?_append_right (by omega), hnl, Nat.sub_self, hdk]; rfl
        have hset : rowsI.set i (c.kids[i].nm rest).row = (Cel.nms (c.kids.take (i + 1)) ids1 ++ c.kids.drop (i + 1)).map Cel.row := by
          have h5 := set_mid (Cel.nms (c.kids.take i) ids1) (c.kids.drop (i + 1)) c.kids[i] (c.kids[i].nm rest)
          rw [hnl] at h5
          rw [hrowsI, hdk, ← List.map_set, h5, hnmt, List.append_assoc]; rfl
        simp -implicitDefEqProofs [go_sem, h23, h1, hf.t, hf.m]
        refine iwp_drawn_of mixed [0, 1, 2, 3, 4, 5, 6, 7, 8, 9, 10, 11, 12, 13, 14, 15] (by kernel_rfl) ?_
        simp -implicitDefEqProofs [go_sem, h23, h1, hh, hf.t, hf.m, hlt, hg, hrow]
        refine ⟨_, ih _ (List.getElem_mem hlt) rest _ (by omega) (by rw [hrest]; simp; omega) (by rw [hrest]; simp; omega), ?_⟩
        simp -implicitDefEqProofs [go_sem, h23, h1, hh, hf.t, hf.m, hf, hlt, hg, hrow, hset, hw]
        refine hJ _ ⟨i + 1, rest.drop c.kids[i].lv, by omega, by simp -implicitDefEqProofs [go_sem, hw], by simp -implicitDefEqProofs [go_sem], by rw [hlt2, hrest, List.drop_drop], ?_⟩ (by simp [go_sem, h23, hw]; omega)
        funext j
        simp -implicitDefEqProofs [go_sem, hh]
        split <;> rfl
      · obtain rfl : i = c.kids.length := by omega
        rw [List.take_length, List.drop_length, List.append_nil] at hh
        rw [List.take_length] at hrest
        simp -implicitDefEqProofs [go_sem, h23, h1, hh, hf.t, hf.m]
        have hkn2 : (c.nm ids).kids = Cel.nms c.kids ids1 := by rw [hnm]; rfl
        refine ⟨_, Sub.refl _, .inr ⟨b, cap, hb, ?_, by rw [hkn2]⟩⟩
        rw [hkn2, Cel.nms_length, hlv2, hrest, hnm, Cel.withKids_rowK]
  · rw [if_neg hk] at hlv
    have hnm : c.nm ids = c.withKids (Cel.nms c.kids ids) := by
      rw [c.nm_eq, if_neg hk, if_neg hk]; rfl
    have hlv2 : ids.drop c.lv = ids.drop (Cel.lvs c.kids) := by rw [c.lv_eq, if_neg hk, Nat.zero_add]
    refine (cloneCel_c c.kids h (by omega)).mono ?_
    rintro e h' (⟨hkn, rfl, he⟩ | ⟨hkn, b, cap, hb, hcap, rfl, he⟩)
    · rw [he]
      have e1 : Cel.nms c.kids ids = [] := by rw [hkn]; rfl
      have e2 : Cel.lvs c.kids = 0 := by rw [hkn]; rfl
      have e3 : ∀ d : Cel, d.rowK (.list .plain []) = (d.withKids []).row := fun d => by rw [d.rowK_eq, (d.withKids []).row_eq]; rfl
      have hkl : c.kids.length = 0 := by rw [hkn]; rfl
      simp -implicitDefEqProofs [go_sem, e3, hkl]
      refine iwp_loop (fun s => s = _) (fun _ => 0) rfl ?_
      rintro _ rfl
      simp -implicitDefEqProofs [go_sem, hkl]
      refine ⟨h, Sub.refl _, .inl ⟨hkn, ?_, rfl⟩⟩
      rw [hnm, hlv2, e1, e2]; rfl
    · rw [he]
      simp -implicitDefEqProofs [go_sem]
      refine iwp_loopF (rng [1,6] 23 40) nom (fun s => ∃ i rest, i ≤ c.kids.length ∧ s.t 23 = .int .i64 i ∧ s.t 1 = .list .plain (rest.map intRow) ∧ rest = ids.drop (Cel.lvs (c.kids.take i)) ∧ s.h = upd h b (some (.arr 72 7 ((Cel.nms (c.kids.take i) ids ++ c.kids.drop i).map Cel.row) cap))) (fun s => c.kids.length - tn (s.t 23)) ?_ ?_
      · exact ⟨0, ids, Nat.zero_le _, by simp -implicitDefEqProofs [go_sem], by simp -implicitDefEqProofs [go_sem], by simp [Cel.lvs], by simp -implicitDefEqProofs [go_sem, Cel.nms]⟩
      rintro J s hJ hf ⟨i, rest, hi, h23, h1, hrest, hh⟩
      simp -implicitDefEqProofs [go_sem, h23, h1, hf.t, hf.m]
      refine cK_dec (fun hlt => ?_) (fun hge => ?_)
      · have hg : c.kids[i]? = some c.kids[i] := List.getElem?_eq_getElem hlt
        have hw := wrap_succ (i := i) (by omega)
        have hst := Cel.sizes_take c.kids i hlt
        have hle := Cel.sizes_le c.kids (i + 1)
        have hlt2 := Cel.lvs_take c.kids i hlt
        have hlle := Cel.lvs_le c.kids (i + 1)
        have hlls := Cel.lvs_sizes c.kids
        have hnmt := Cel.nms_take c.kids ids i hlt
        rw [← hrest] at hnmt
        have hnl : (Cel.nms (c.kids.take i) ids).length = i := by rw [Cel.nms_length]; simp; omega
        have hdk : c.kids.drop i = c.kids[i] :: c.kids.drop (i + 1) := List.drop_eq_getElem_cons hlt
        obtain ⟨rowsI, hrowsI⟩ : ∃ r, r = (Cel.nms (c.kids.take i) ids ++ c.kids.drop i).map Cel.row := ⟨_, rfl⟩
        rw [← hrowsI] at hh
        have hrow : rowsI[i]? = some c.kids[i].row := by
          rw [hrowsI, List.getElem?_map, List.getElem?_append_right (by omega), hnl, Nat.sub_self, hdk]; rfl
        have hset : rowsI.set i (c.kids[i].nm rest).row = (Cel.nms (c.kids.take (i + 1)) ids ++ c.kids.drop (i + 1)).map Cel.row := by
          have h5 := set_mid (Cel.nms (c.kids.take i) ids) (c.kids.drop (i + 1)) c.kids[i] (c.kids[i].nm rest)
          rw [hnl] at h5
          rw [hrowsI, hdk, ← List.map_set, h5, hnmt, List.append_assoc]; rfl
        simp -implicitDefEqProofs [go_sem, h23, h1, hf.t, hf.m]
        refine iwp_drawn_of mixed [0, 1, 2, 3, 4, 5, 6, 7, 8, 9, 10, 11, 12, 13, 14, 15] (by kernel_rfl) ?_
        simp -implicitDefEqProofs [go_sem, h23, h1, hh, hf.t, hf.m, hlt, hg, hrow]
        refine ⟨_, ih _ (List.getElem_mem hlt) rest _ (by omega) (by rw [hrest]; simp; omega) (by rw [hrest]; simp; omega), ?_⟩
        simp -implicitDefEqProofs [go_sem, h23, h1, hh, hf.t, hf.m, hf, hlt, hg, hrow, hset, hw]
        refine hJ _ ⟨i + 1, rest.drop c.kids[i].lv, by omega, by simp -implicitDefEqProofs [go_sem, hw], by simp -implicitDefEqProofs [go_sem], by rw [hlt2, hrest, List.drop_drop], ?_⟩ (by simp [go_sem, h23, hw]; omega)
        funext j
        simp -implicitDefEqProofs [go_sem, hh]
        split <;> rfl
      · obtain rfl : i = c.kids.length := by omega
        rw [List.take_length, List.drop_length, List.append_nil] at hh
        rw [List.take_length] at hrest
        simp -implicitDefEqProofs [go_sem, h23, h1, hh, hf.t, hf.m]
        have hkn2 : (c.nm ids).kids = Cel.nms c.kids ids := by rw [hnm]; rfl
        refine ⟨_, Sub.refl _, .inr ⟨b, cap, hb, ?_, by rw [hkn2]⟩⟩
        rw [hkn2, Cel.nms_length, hlv2, hrest, hnm, Cel.withKids_rowK]
end Go.Proofs
