/- This text is a part of the proofs of the statements of this seat: the ideal states and their rules, or what one of the functions that the statements reach comes to. Conditions: none beyond those that each theorem names. -/
import Derived.Test.YtghpaalcedgcaaaGreatCD
import Derived.Test.YtghpaalcedgcaaaGreatP1
set_option linter.unusedVariables false
set_option linter.unusedSimpArgs false
set_option pp.deepTerms false
set_option pp.maxSteps 400
namespace Go.Proofs
open Go.Idl

theorem in_c (l : List Int) (n : Int) (h : Heap) (hl : l.length < 1000000000000) : ICall Tryz.prog 46 [.list .plain (l.map intRow), .int .i64 n] h (retP (.bool (decide (n ∈ l))) h) := by
  refine icall_of_iwp (fun _ => 0) Tryz.func46 rfl (by kernel_rfl) (Nat.le_of_ble_eq_true rfl) ?_
  rw [Tryz.results46]
  simp -implicitDefEqProofs [go_sem]
  refine iwp_loopF (rng [4,5] 8 17) nom (fun s => ∃ i : Nat, i ≤ l.length ∧ s.t 8 = .int .i64 i ∧ n ∉ l.take i ∧ s.h = h) (fun s => l.length - tn (s.t 8)) ?_ ?_
  · exact ⟨0, Nat.zero_le _, by simp -implicitDefEqProofs [go_sem], by simp, by simp -implicitDefEqProofs [go_sem]⟩
  rintro J s hJ hf ⟨i, hi, h8, hn, hh⟩
  simp -implicitDefEqProofs [go_sem, h8, hh, hf.t, hf.m]
  refine cK_dec (fun hlt => ?_) (fun hge => ?_)
  · have hg : l[i]? = some l[i] := List.getElem?_eq_getElem hlt
    have hw : IntKind.i64.wrap ((i : Int) + 1) = ((i + 1 : Nat) : Int) := by rw [wrap_in (by omega)]; rfl
    simp -implicitDefEqProofs [go_sem, h8, hh, hf.t, hf.m, hlt, hg]
    refine cK_beq (fun k1 => ?_) (fun k1 => ?_) <;> simp -implicitDefEqProofs [go_sem, h8, hh, hf.t, hf.m, hf, hw]
    · exact ⟨h, Sub.refl _, by rw [decide_eq_true (by rw [← k1]; exact List.getElem_mem hlt)], rfl⟩
    · refine hJ _ ⟨i + 1, by omega, by simp -implicitDefEqProofs [go_sem, hw], ?_, by simp -implicitDefEqProofs [go_sem, hh]⟩ (by simp [go_sem, h8, hw]; omega)
      rw [List.take_add_one, hg]
      simp only [List.mem_append, not_or]
      exact ⟨hn, by simp; exact fun e => k1 e.symm⟩
  · simp -implicitDefEqProofs [go_sem, h8, hh, hf.t, hf.m]
    rw [List.take_of_length_le (by omega)] at hn
    exact ⟨h, Sub.refl _, by rw [decide_eq_false hn], rfl⟩

end Go.Proofs

set_option linter.unusedVariables false
set_option linter.unusedSimpArgs false
set_option pp.deepTerms false
set_option pp.maxSteps 400
namespace Go.Proofs
open Go.Idl

def panesL (l : List Cel) : List Pn := ((Cel.alls l).filter fun d => d.kind == 1).map Cel.pn
theorem panes_eq (c : Cel) : c.panes = (if c.kind = 1 then [c.pn] else []) ++ panesL c.kids := by
  rw [Cel.panes, Cel.leaves, c.all_eq, panesL, List.filter_cons]
  by_cases hk : c.kind = 1
  · simp [hk]
  · simp [hk]
theorem panesL_take (l : List Cel) (i : Nat) (h : i < l.length) : panesL (l.take (i + 1)) = panesL (l.take i) ++ l[i].panes := by
  rw [panesL, Cel.alls_take l i h, List.filter_append, List.map_append]; rfl
theorem panesL_len (l : List Cel) : (panesL l).length ≤ Cel.sizes l := by
  rw [panesL, List.length_map, ← Cel.alls_length]; exact List.length_filter_le _ _
theorem panes_size (c : Cel) : c.panes.length ≤ c.size := by
  rw [panes_len, ← c.all_length]; exact List.length_filter_le _ _

set_option maxRecDepth 20000 in
set_option maxHeartbeats 4000000 in
theorem list_c (c : Cel) : ∀ h, c.size < 100000000 → ICall Tryz.prog 80 [.agg c.row] h (retP (.list .plain (c.panes.map Pn.row)) h) := by
  induction c using Cel.induct
  rename_i c ih
  intro h hs
  have hlen := Cel.len_le c.kids
  rw [c.size_eq] at hs
  refine icall_of_iwp (fun _ => 0) Tryz.func80 rfl (by kernel_rfl) (Nat.le_of_ble_eq_true rfl) ?_
  rw [Tryz.results80]
  simp -implicitDefEqProofs [go_sem]
  refine cK_beq (fun hk => ?_) (fun hk => ?_)
  · obtain ⟨P0, hP0⟩ : ∃ P, P = [c.pn] := ⟨_, rfl⟩
    have hpe : c.panes = P0 ++ panesL c.kids := by rw [panes_eq, if_pos hk, hP0]
    have hP1 : P0.length ≤ 1 := by rw [hP0]; simp
    simp -implicitDefEqProofs [go_sem]
    refine aK_own (z := 5) (S := [16, 27]) Own.tight (by simp) elT_76 elZ_79 (by simp [roomy, byT_79]) (by simp [uni]) (by simp [uni, Pn.row_len, Rct.row_len]) ?_
    intro v0 x0 ho0 _
    have ho0 : Own [16, 27] x0 79 v0 (P0.map Pn.row) := by rw [hP0]; exact ho0
    obtain ⟨tk0, hv0⟩ := ho0.list
    simp -implicitDefEqProofs [go_sem]
    refine iwp_loopF (rng [3,5] 20 28) (fun k => k == 5) (fun s => ∃ i, i ≤ c.kids.length ∧ s.t 20 = .int .i64 i ∧ Own [16, 27] s.x 79 (s.t 3) ((P0 ++ panesL (c.kids.take i)).map Pn.row) ∧ s.h = h) (fun s => c.kids.length - tn (s.t 20)) ?_ ?_
    · exact ⟨0, Nat.zero_le _, by simp -implicitDefEqProofs [go_sem], by first | (simpa -implicitDefEqProofs [go_sem, panesL, Cel.alls] using ho0) | (simp -implicitDefEqProofs [go_sem, panesL, Cel.alls]; exact ho0 _), by simp -implicitDefEqProofs [go_sem]⟩
    rintro J s hJ hf ⟨i, hi, h20, ho, hh⟩
    obtain ⟨rowsI, hrowsI⟩ : ∃ r, r = (P0 ++ panesL (c.kids.take i)).map Pn.row := ⟨_, rfl⟩
    rw [← hrowsI] at ho
    have hl1 := panesL_len (c.kids.take i)
    have hrl : rowsI.length = P0.length + (panesL (c.kids.take i)).length := by rw [hrowsI, List.length_map, List.length_append]
    have hru : uni 5 rowsI = true := by rw [hrowsI]; exact Pn.rows_uni _
    obtain ⟨tk, h3⟩ := ho.list
    simp -implicitDefEqProofs [go_sem, h20, h3, hh, hf.t, hf.m]
    refine cK_dec (fun hlt => ?_) (fun hge => ?_)
    · have hg : c.kids[i]? = some c.kids[i] := List.getElem?_eq_getElem hlt
      have hw := wrap_succ (i := i) (by omega)
      have hst := Cel.sizes_take c.kids i hlt
      have hle := Cel.sizes_le c.kids (i + 1)
      have hl2 := panes_size c.kids[i]
      have htk := panesL_take c.kids i hlt
      simp -implicitDefEqProofs [go_sem, h20, h3, hh, hf.t, hf.m, hlt, hg]
      refine (ih _ (List.getElem_mem hlt) h (by omega)).mono ?_
      rintro e h' ⟨rfl, he⟩
      rw [he]
      simp -implicitDefEqProofs [go_sem, h20, h3, hh, hf.t, hf.m, hf, hw]
      refine aK_own (z := 5) (S := [16, 27]) (rows := rowsI) (by simpa -implicitDefEqProofs [go_sem, h3] using ho) (by simp) elT_76 elZ_79 (by simp only [roomy, byT_79, hrl, List.length_map]; omega) hru (Pn.rows_uni _) ?_
      intro r2 x2 ho2 _
      simp -implicitDefEqProofs [go_sem, h20, h3, hh, hf.t, hf.m, hf, hw]
      exact hJ _ ⟨i + 1, by omega, by simp -implicitDefEqProofs [go_sem, hw], by rw [htk, ← List.append_assoc, List.map_append, ← hrowsI]; exact ho2, by simp -implicitDefEqProofs [go_sem, hh]⟩ (by simp [go_sem, h20, hw]; omega)
    · obtain rfl : i = c.kids.length := by omega
      rw [List.take_length, ← hpe] at hrowsI
      simp -implicitDefEqProofs [go_sem, h20, h3, hh, hf.t, hf.m]
      exact ⟨h, Sub.refl _, by rw [hrowsI], rfl⟩
  · obtain ⟨P0, hP0⟩ : ∃ P : List Pn, P = [] := ⟨_, rfl⟩
    have hpe : c.panes = P0 ++ panesL c.kids := by rw [panes_eq, if_neg hk, hP0]
    have hP1 : P0.length ≤ 1 := by rw [hP0]; simp
    have ho0 : ∀ x, Own [16, 27] x 79 (.list .tight []) (P0.map Pn.row) := fun x => by rw [hP0]; exact Own.tight
    simp -implicitDefEqProofs [go_sem]
    refine iwp_loopF (rng [3,5] 20 28) (fun k => k == 5) (fun s => ∃ i, i ≤ c.kids.length ∧ s.t 20 = .int .i64 i ∧ Own [16, 27] s.x 79 (s.t 3) ((P0 ++ panesL (c.kids.take i)).map Pn.row) ∧ s.h = h) (fun s => c.kids.length - tn (s.t 20)) ?_ ?_
    · exact ⟨0, Nat.zero_le _, by simp -implicitDefEqProofs [go_sem], by first | (simpa -implicitDefEqProofs [go_sem, panesL, Cel.alls] using ho0) | (simp -implicitDefEqProofs [go_sem, panesL, Cel.alls]; exact ho0 _), by simp -implicitDefEqProofs [go_sem]⟩
    rintro J s hJ hf ⟨i, hi, h20, ho, hh⟩
    obtain ⟨rowsI, hrowsI⟩ : ∃ r, r = (P0 ++ panesL (c.kids.take i)).map Pn.row := ⟨_, rfl⟩
    rw [← hrowsI] at ho
    have hl1 := panesL_len (c.kids.take i)
    have hrl : rowsI.length = P0.length + (panesL (c.kids.take i)).length := by rw [hrowsI, List.length_map, List.length_append]
    have hru : uni 5 rowsI = true := by rw [hrowsI]; exact Pn.rows_uni _
    obtain ⟨tk, h3⟩ := ho.list
    simp -implicitDefEqProofs [go_sem, h20, h3, hh, hf.t, hf.m]
    refine cK_dec (fun hlt => ?_) (fun hge => ?_)
    · have hg : c.kids[i]? = some c.kids[i] := List.getElem?_eq_getElem hlt
      have hw := wrap_succ (i := i) (by omega)
      have hst := Cel.sizes_take c.kids i hlt
      have hle := Cel.sizes_le c.kids (i + 1)
      have hl2 := panes_size c.kids[i]
      have htk := panesL_take c.kids i hlt
      simp -implicitDefEqProofs [go_sem, h20, h3, hh, hf.t, hf.m, hlt, hg]
      refine (ih _ (List.getElem_mem hlt) h (by omega)).mono ?_
      rintro e h' ⟨rfl, he⟩
      rw [he]
      simp -implicitDefEqProofs [go_sem, h20, h3, hh, hf.t, hf.m, hf, hw]
      refine aK_own (z := 5) (S := [16, 27]) (rows := rowsI) (by simpa -implicitDefEqProofs [go_sem, h3] using ho) (by simp) elT_76 elZ_79 (by simp only [roomy, byT_79, hrl, List.length_map]; omega) hru (Pn.rows_uni _) ?_
      intro r2 x2 ho2 _
      simp -implicitDefEqProofs [go_sem, h20, h3, hh, hf.t, hf.m, hf, hw]
      exact hJ _ ⟨i + 1, by omega, by simp -implicitDefEqProofs [go_sem, hw], by rw [htk, ← List.append_assoc, List.map_append, ← hrowsI]; exact ho2, by simp -implicitDefEqProofs [go_sem, hh]⟩ (by simp [go_sem, h20, hw]; omega)
    · obtain rfl : i = c.kids.length := by omega
      rw [List.take_length, ← hpe] at hrowsI
      simp -implicitDefEqProofs [go_sem, h20, h3, hh, hf.t, hf.m]
      exact ⟨h, Sub.refl _, by rw [hrowsI], rfl⟩
end Go.Proofs
