/- This text is a part of the proofs of the statements of this seat: the ideal states and their rules, or what one of the functions that the statements reach comes to. Conditions: none beyond those that each theorem names. -/
import Derived.Test.YtiloboepepdcgaaC2
set_option linter.unusedVariables false
set_option linter.unusedSimpArgs false
set_option pp.deepTerms false
set_option pp.maxSteps 600
namespace Go.Proofs
open Go.Idl


def Cel.leaves (c : Cel) : List Cel := c.all.filter fun d => d.kind == 1
def Cel.ids (c : Cel) : List Int := c.leaves.map Cel.id

theorem leaves_c (c : Cel) (h : Heap) (hs : c.size < 100000000000) : ICall Try.prog 78 [.agg c.row] h (retP (.list .plain (c.leaves.map Cel.row)) h) := by
  have hal := Cel.all_length c
  refine icall_of_iwp (fun _ => 0) Try.func78 rfl (by kernel_rfl) (Nat.le_of_ble_eq_true rfl) ?_
  rw [Try.results78]
  simp -implicitDefEqProofs [go_sem]
  refine (all_c c h hs).mono ?_
  rintro e h' ⟨rfl, rfl⟩
  simp -implicitDefEqProofs [go_sem]
  refine iwp_loop (fun s => ∃ i v, i ≤ c.all.length ∧ s.t 11 = .int .i64 i ∧ s.t 10 = .int .i64 c.all.length ∧ s.t 4 = .list .plain (c.all.map Cel.row) ∧ s.t 3 = v ∧ Own [26] s.x 72 v (((c.all.take i).filter fun d => d.kind == 1).map Cel.row) ∧ s.h = h')
     (fun s => c.all.length - tn (s.t 11)) ?_ ?_
  · refine ⟨0, .list .tight [], ?_⟩
    simp -implicitDefEqProofs [go_sem, Own.tight]
  · rintro s ⟨i, v, hi, h11, h10, h4, h3, ho, hh⟩
    simp -implicitDefEqProofs [go_sem, h11, h10, h4, h3, hh]
    refine cK_dec (fun hlt => ?_) (fun hge => ?_)
    · have hg : c.all[i]? = some c.all[i] := List.getElem?_eq_getElem hlt
      have hw := wrap_succ (i := i) (by omega)
      simp -implicitDefEqProofs [go_sem, h11, h10, h4, h3, hh, hlt, hg]
      have htk : c.all.take (i + 1) = c.all.take i ++ [c.all[i]] := by rw [List.take_add_one, hg]; rfl
      refine cK_beq (fun hk => ?_) (fun hk => ?_)
      · simp -implicitDefEqProofs [go_sem, h11, h10, h4, h3, hh, hlt, hg]
        have hfl := List.length_filter_le (fun d : Cel => d.kind == 1) (c.all.take i)
        rw [List.length_take] at hfl
        refine aK_own (z := 7) (S := [26]) ho (by simp) elT_70 elZ_72 (by simp [roomy, byT_72]; omega) (Cel.rows_uni _) (by simp [uni, Cel.row_len]) ?_
        intro r' x' ho' _
        simp -implicitDefEqProofs [go_sem, h11, h10, h4, h3, hh, hw]
        refine ⟨⟨i + 1, by omega, rfl, ?_⟩, by omega⟩
        have e1 : ((c.all.take (i + 1)).filter fun d => d.kind == 1).map Cel.row = ((c.all.take i).filter fun d => d.kind == 1).map Cel.row ++ [c.all[i].row] := by
          rw [htk, List.filter_append, List.map_append]; simp [hk]
        rw [e1]; exact ho'
      · simp -implicitDefEqProofs [go_sem, h11, h10, h4, h3, hh, hw]
        refine ⟨⟨i + 1, by omega, rfl, ?_⟩, by omega⟩
        have e1 : ((c.all.take (i + 1)).filter fun d => d.kind == 1).map Cel.row = ((c.all.take i).filter fun d => d.kind == 1).map Cel.row := by
          rw [htk, List.filter_append, List.map_append]; simp [hk]
        rw [e1]; exact ho
    · simp -implicitDefEqProofs [go_sem, h11, h10, h4, h3, hh, ho.strip]
      have hik : i = c.all.length := by omega
      subst hik
      rw [List.take_length]
      exact ⟨h', Sub.refl _, rfl, rfl⟩

theorem ids_c (c : Cel) (h : Heap) (hs : c.size < 100000000000) : ICall Try.prog 44 [.agg c.row] h (retP (.list .plain (c.ids.map intRow)) h) := by
  have hal := Cel.all_length c
  have hll : c.leaves.length ≤ c.all.length := List.length_filter_le _ _
  refine icall_of_iwp (fun _ => 0) Try.func44 rfl (by kernel_rfl) (Nat.le_of_ble_eq_true rfl) ?_
  rw [Try.results44]
  simp -implicitDefEqProofs [go_sem]
  refine (leaves_c c h hs).mono ?_
  rintro e h' ⟨rfl, rfl⟩
  simp -implicitDefEqProofs [go_sem]
  refine iwp_loop (fun s => ∃ i v, i ≤ c.leaves.length ∧ s.t 11 = .int .i64 i ∧ s.t 10 = .int .i64 c.leaves.length ∧ s.t 4 = .list .plain (c.leaves.map Cel.row) ∧ s.t 3 = v ∧ Own [21] s.x 3 v ((c.ids.map intRow).take i) ∧ s.h = h')
     (fun s => c.leaves.length - tn (s.t 11)) ?_ ?_
  · refine ⟨0, .list .tight [], ?_⟩
    simp -implicitDefEqProofs [go_sem, Own.tight]
  · rintro s ⟨i, v, hi, h11, h10, h4, h3, ho, hh⟩
    simp -implicitDefEqProofs [go_sem, h11, h10, h4, h3, hh]
    refine cK_dec (fun hlt => ?_) (fun hge => ?_)
    · have hg : c.leaves[i]? = some c.leaves[i] := List.getElem?_eq_getElem hlt
      have hw := wrap_succ (i := i) (by omega)
      simp -implicitDefEqProofs [go_sem, h11, h10, h4, h3, hh, hlt, hg]
      have htk : c.leaves.take (i + 1) = c.leaves.take i ++ [c.leaves[i]] := by rw [List.take_add_one, hg]; rfl
      refine aK_own (z := 1) (S := [21]) ho (by simp) elT_45 elZ_3 (by simp [roomy, byT_3]; omega) (uni_take (ints_uni _) i) (by simp [uni]) ?_
      intro r' x' ho' _
      simp -implicitDefEqProofs [go_sem, h11, h10, h4, h3, hh, hw]
      refine ⟨⟨i + 1, by omega, rfl, ?_⟩, by omega⟩
      have e1 : (c.ids.map intRow).take (i + 1) = (c.ids.map intRow).take i ++ [[.int .i64 c.leaves[i].id]] := by
        rw [List.take_add_one]; simp [Cel.ids, hg, intRow]
      rw [e1]; exact ho'
    · simp -implicitDefEqProofs [go_sem, h11, h10, h4, h3, hh, ho.strip]
      have hik : i = c.leaves.length := by omega
      subst hik
      rw [List.take_of_length_le (by simp [Cel.ids])]
      exact ⟨h', Sub.refl _, rfl, rfl⟩
end Go.Proofs
