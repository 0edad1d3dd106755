/- This text is a part of the proofs of the statements of this seat: the ideal states and their rules, or what one of the functions that the statements reach comes to. Conditions: none beyond those that each theorem names. -/
import Derived.Test.YtfelioeeeimfeaaD1
set_option linter.unusedVariables false
set_option linter.unusedSimpArgs false
set_option pp.deepTerms false
set_option pp.maxSteps 400
namespace Go.Proofs
open Go.Idl

theorem Cel.withKids_self (c : Cel) : c.withKids c.kids = c := by cases c; rfl
theorem Cel.row_drop7 (c : Cel) : c.row.drop 7 = [] := by rw [c.row_eq]; rfl
theorem Cel.rowK_nil (d : Cel) : d.rowK (.list .plain []) = (d.withKids []).row := by rw [d.rowK_eq, (d.withKids []).row_eq]; rfl

set_option maxRecDepth 20000 in
set_option maxHeartbeats 4000000 in
theorem clone_c (c : Cel) : ∀ (h : Heap), c.size < 100000000000 → ICall Try.prog 60 [.agg c.row] h (retP (.agg c.row) h) := by
  induction c using Cel.induct
  rename_i c ih
  intro h hs
  have hlen := Cel.len_le c.kids
  rw [c.size_eq] at hs
  refine ownK_fz ?_
  refine icall_of_iwp (fun _ => 0) Try.func60 rfl (by kernel_rfl) (Nat.le_of_ble_eq_true rfl) ?_
  rw [Try.results60]
  simp -implicitDefEqProofs [go_sem]
  refine (cloneCel_c c.kids h (by omega)).mono ?_
  rintro e h' (⟨hkn, rfl, he⟩ | ⟨hkn, b, cap, hb, hcap, rfl, he⟩)
  · rw [he]
    have hkl : c.kids.length = 0 := by rw [hkn]; rfl
    simp -implicitDefEqProofs [go_sem, Cel.rowK_nil, hkl]
    refine iwp_loop (fun s => s = _) (fun _ => 0) rfl ?_
    rintro _ rfl
    simp -implicitDefEqProofs [go_sem, hkl]
    refine ⟨h, Sub.refl _, .inl ⟨?_, rfl⟩⟩
    rw [← hkn, Cel.withKids_self]
  · rw [he]
    simp -implicitDefEqProofs [go_sem]
    refine iwp_loopF (rng [3,4] 12 24) (fun k => k == 4) (fun s => ∃ i, i ≤ c.kids.length ∧ s.t 12 = .int .i64 i ∧ s.h = upd h b (some (.arr 26 7 (c.kids.map Cel.row) cap))) (fun s => c.kids.length - tn (s.t 12)) ?_ ?_
    · exact ⟨0, Nat.zero_le _, by simp -implicitDefEqProofs [go_sem], by simp -implicitDefEqProofs [go_sem]⟩
    rintro J s hJ hf ⟨i, hi, h12, hh⟩
    simp -implicitDefEqProofs [go_sem, h12, hf.t, hf.m]
    refine cK_dec (fun hlt => ?_) (fun hge => ?_)
    · have hg : c.kids[i]? = some c.kids[i] := List.getElem?_eq_getElem hlt
      have hw := wrap_succ (i := i) (by omega)
      have hst := Cel.sizes_take c.kids i hlt
      have hle := Cel.sizes_le c.kids (i + 1)
      obtain ⟨rowsI, hrowsI⟩ : ∃ r, r = c.kids.map Cel.row := ⟨_, rfl⟩
      rw [← hrowsI] at hh
      have hrow : rowsI[i]? = some c.kids[i].row := by rw [hrowsI, List.getElem?_map, hg]; rfl
      have hset : rowsI.set i c.kids[i].row = c.kids.map Cel.row := by
        rw [← hrowsI]
        have hil : i < rowsI.length := by rw [hrowsI]; simpa using hlt
        have : rowsI[i] = c.kids[i].row := by
          have := List.getElem?_eq_getElem hil
          rw [hrow] at this
          exact (Option.some.inj this).symm
        rw [← this, List.set_getElem_self]
      simp -implicitDefEqProofs [go_sem, h12, hf.t, hf.m, hh, hrow, hlt, hg]
      refine iwp_drawn_of mixed [0, 1, 2, 3, 4, 5, 6] (by kernel_rfl) ?_
      simp -implicitDefEqProofs [go_sem, h12, hh, hf.t, hf.m, hlt, hg, hrow]
      refine ⟨_, ih _ (List.getElem_mem hlt) _ (by omega), ?_⟩
      simp -implicitDefEqProofs [go_sem, h12, hh, hf.t, hf.m, hf, hlt, hg, hrow, hset, hw]
      refine hJ _ ⟨i + 1, by omega, by simp -implicitDefEqProofs [go_sem, hw], ?_⟩ (by simp [go_sem, h12, hw]; omega)
      funext j
      simp -implicitDefEqProofs [go_sem, hh, Cel.row_drop7, hset]
      try (split <;> rfl)
    · obtain rfl : i = c.kids.length := by omega
      simp -implicitDefEqProofs [go_sem, h12, hh, hf.t, hf.m]
      exact ⟨_, Sub.refl _, .inr ⟨b, cap, hb, rfl, rfl⟩⟩

set_option maxRecDepth 20000 in
set_option maxHeartbeats 4000000 in
theorem set_c (c : Cel) : ∀ (x y : Int) (h : Heap), c.size < 100000000000 → ICall Try.prog 54 [.agg c.row, .int .i64 x, .int .i64 y] h (retP (.agg (c.setp x y).row) h) := by
  induction c using Cel.induct
  rename_i c ih
  intro x y h hs
  have hlen := Cel.len_le c.kids
  rw [c.size_eq] at hs
  refine ownK_fz ?_
  have hcs : c.setp x y = ((c.withX x).withY y).withKids (Cel.setps c.kind c.kids x y) := by rw [c.setp_eq]; rfl
  refine icall_of_iwp (fun _ => 0) Try.func54 rfl (by kernel_rfl) (Nat.le_of_ble_eq_true rfl) ?_
  rw [Try.results54]
  simp -implicitDefEqProofs [go_sem]
  refine (cloneCel_c c.kids h (by omega)).mono ?_
  rintro e h' (⟨hkn, rfl, he⟩ | ⟨hkn, b, cap, hb, hcap, rfl, he⟩)
  · rw [he]
    have hkl : c.kids.length = 0 := by rw [hkn]; rfl
    simp -implicitDefEqProofs [go_sem, Cel.rowK_nil, hkl]
    refine iwp_loop (fun s => s = _) (fun _ => 0) rfl ?_
    rintro _ rfl
    simp -implicitDefEqProofs [go_sem, hkl]
    refine ⟨h, Sub.refl _, .inl ⟨?_, rfl⟩⟩
    rw [hcs, hkn]; simp [Cel.setps]
  · rw [he]
    simp -implicitDefEqProofs [go_sem]
    refine iwp_loopF (rng [1,2,7,8] 22 54) (fun k => k == 8) (fun s => ∃ i, i ≤ c.kids.length ∧ s.t 22 = .int .i64 i ∧ s.t 1 = .int .i64 (posX c.kind (c.kids.take i) x) ∧ s.t 2 = .int .i64 (posY c.kind (c.kids.take i) y) ∧ s.h = upd h b (some (.arr 26 7 ((Cel.setps c.kind (c.kids.take i) x y ++ c.kids.drop i).map Cel.row) cap))) (fun s => c.kids.length - tn (s.t 22)) ?_ ?_
    · exact ⟨0, Nat.zero_le _, by simp -implicitDefEqProofs [go_sem], by simp -implicitDefEqProofs [go_sem, posX], by simp -implicitDefEqProofs [go_sem, posY], by simp -implicitDefEqProofs [go_sem, Cel.setps]⟩
    rintro J s hJ hf ⟨i, hi, h22, h1, h2, hh⟩
    simp -implicitDefEqProofs [go_sem, h22, h1, h2, hf.t, hf.m]
    refine cK_dec (fun hlt => ?_) (fun hge => ?_)
    · have hg : c.kids[i]? = some c.kids[i] := List.getElem?_eq_getElem hlt
      have hw := wrap_succ (i := i) (by omega)
      have hst := Cel.sizes_take c.kids i hlt
      have hle := Cel.sizes_le c.kids (i + 1)
      have hnmt := Cel.setps_take c.kind c.kids x y i hlt
      have hx := posX_take c.kind c.kids x i hlt
      have hy := posY_take c.kind c.kids y i hlt
      have hnl : (Cel.setps c.kind (c.kids.take i) x y).length = i := by rw [Cel.setps_length]; simp; omega
      have hdk2 : c.kids.drop i = c.kids[i] :: c.kids.drop (i + 1) := List.drop_eq_getElem_cons hlt
      obtain ⟨rowsI, hrowsI⟩ : ∃ r, r = (Cel.setps c.kind (c.kids.take i) x y ++ c.kids.drop i).map Cel.row := ⟨_, rfl⟩
      rw [← hrowsI] at hh
      obtain ⟨px, hpx⟩ : ∃ p, p = posX c.kind (c.kids.take i) x := ⟨_, rfl⟩
      obtain ⟨py, hpy⟩ : ∃ p, p = posY c.kind (c.kids.take i) y := ⟨_, rfl⟩
      rw [← hpx] at h1 hx hnmt
      rw [← hpy] at h2 hy hnmt
      have hrow : rowsI[i]? = some c.kids[i].row := by
        rw [hrowsI, List.getElem?_map, List.getElem?_append_right (by omega), hnl, Nat.sub_self, hdk2]; rfl
      have hset : rowsI.set i (c.kids[i].setp px py).row = (Cel.setps c.kind (c.kids.take (i + 1)) x y ++ c.kids.drop (i + 1)).map Cel.row := by
        have h5 := set_mid (Cel.setps c.kind (c.kids.take i) x y) (c.kids.drop (i + 1)) c.kids[i] (c.kids[i].setp px py)
        rw [hnl] at h5
        rw [hrowsI, hdk2, ← List.map_set, h5, hnmt, List.append_assoc]; rfl
      simp -implicitDefEqProofs [go_sem, h22, h1, h2, hf.t, hf.m, hh, hrow, hlt, hg]
      refine iwp_drawn_of mixed [0, 1, 2, 3, 4, 5, 6, 7, 8] (by kernel_rfl) ?_
      simp -implicitDefEqProofs [go_sem, h22, h1, h2, hh, hf.t, hf.m, hlt, hg, hrow]
      refine ⟨_, ih _ (List.getElem_mem hlt) px py _ (by omega), ?_⟩
      simp -implicitDefEqProofs [go_sem, h22, h1, h2, hh, hf.t, hf.m, hf, hlt, hg, hrow, hset, hw]
      have fin : ∀ st : St, st.t 22 = .int .i64 ((i + 1 : Nat) : Int) → st.t 1 = .int .i64 (stepX c.kind c.kids[i] px) → st.t 2 = .int .i64 (stepY c.kind c.kids[i] py) → st.h = upd h b (some (.arr 26 7 ((Cel.setps c.kind (c.kids.take (i + 1)) x y ++ c.kids.drop (i + 1)).map Cel.row) cap)) → ∃ i, i ≤ c.kids.length ∧ st.t 22 = .int .i64 i ∧ st.t 1 = .int .i64 (posX c.kind (c.kids.take i) x) ∧ st.t 2 = .int .i64 (posY c.kind (c.kids.take i) y) ∧ st.h = upd h b (some (.arr 26 7 ((Cel.setps c.kind (c.kids.take i) x y ++ c.kids.drop i).map Cel.row) cap)) :=
        fun st a1 a2 a3 a4 => ⟨i + 1, by omega, a1, by rw [a2, hx], by rw [a3, hy], a4⟩
      refine cK_beq (fun k2 => ?_) (fun k2 => ?_) <;> simp -implicitDefEqProofs [go_sem, h22, h1, h2, hh, hf.t, hf.m, hf, hw]
      · refine hJ _ (fin _ (by simp -implicitDefEqProofs [go_sem, hw]) (by simp -implicitDefEqProofs [go_sem, stepX, k2]) (by simp -implicitDefEqProofs [go_sem, stepY, k2, h2]) ?_) (by simp [go_sem, h22, hw]; omega)
        funext j
        simp -implicitDefEqProofs [go_sem, hh, Cel.row_drop7, hset]
        try (split <;> rfl)
      refine cK_beq (fun k3 => ?_) (fun k3 => ?_) <;> simp -implicitDefEqProofs [go_sem, h22, h1, h2, hh, hf.t, hf.m, hf, hw]
      · refine hJ _ (fin _ (by simp -implicitDefEqProofs [go_sem, hw]) (by simp -implicitDefEqProofs [go_sem, stepX, k2, h1]) (by simp -implicitDefEqProofs [go_sem, stepY, k2, k3]) ?_) (by simp [go_sem, h22, hw]; omega)
        funext j
        simp -implicitDefEqProofs [go_sem, hh, Cel.row_drop7, hset]
        try (split <;> rfl)
      · refine hJ _ (fin _ (by simp -implicitDefEqProofs [go_sem, hw]) (by simp -implicitDefEqProofs [go_sem, stepX, k2, h1]) (by simp -implicitDefEqProofs [go_sem, stepY, k2, k3, h2]) ?_) (by simp [go_sem, h22, hw]; omega)
        funext j
        simp -implicitDefEqProofs [go_sem, hh, Cel.row_drop7, hset]
        try (split <;> rfl)
    · obtain rfl : i = c.kids.length := by omega
      rw [List.take_length, List.drop_length, List.append_nil] at hh
      simp -implicitDefEqProofs [go_sem, h22, h1, h2, hh, hf.t, hf.m]
      have hkk : (c.setp x y).kids = Cel.setps c.kind c.kids x y := by rw [hcs]; rfl
      refine ⟨_, Sub.refl _, .inr ⟨b, cap, hb, ?_, by rw [hkk]⟩⟩
      rw [hkk, Cel.setps_length, hcs, Cel.withKids_rowK]
end Go.Proofs
