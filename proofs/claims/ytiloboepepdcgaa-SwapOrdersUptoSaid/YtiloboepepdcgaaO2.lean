/- This text is a part of the proofs of the statements of this seat: the ideal states and their rules, or what one of the functions that the statements reach comes to. Conditions: none beyond those that each theorem names. -/
import Derived.Test.YtiloboepepdcgaaO1
set_option linter.unusedVariables false
set_option linter.unusedSimpArgs false
set_option pp.deepTerms false
set_option pp.maxSteps 400
namespace Go.Proofs
open Go.Idl

def ordV (c : Cel) (l : List Int) : IV :=
  if c.tiles = true then (if c.ids.length ≠ l.length then .tup [.agg Cel.zero.row, .int .i64 9] else if sortL l = sortL c.ids then vecR c l 0 else .tup [.agg Cel.zero.row, .int .i64 6]) else .tup [.agg Cel.zero.row, .int .i64 1]

set_option maxRecDepth 20000 in
set_option maxHeartbeats 4000000 in
theorem namedO_c (c : Cel) (l : List Int) (qb : Nat) (h : Heap) (hs : c.size < 100000000) (hll : l.length < 100000000) (hq : h qb = some (.cells [.list .plain (l.map intRow)])) :
    ICall Try.prog 64 [.agg c.row, .fn (.func 65) [] [.ptr qb 0]] h (retP (ordV c l) h) := by
  have hil : c.ids.length ≤ c.size := by rw [lv_ids]; exact c.lv_size
  refine icall_of_iwp (fun d => 0) Try.func64 rfl (by kernel_rfl) (Nat.le_of_ble_eq_true rfl) ?_
  rw [Try.results64]
  simp -implicitDefEqProofs [go_sem]
  refine (tTiles_c c h (by omega)).mono ?_
  rintro e h' ⟨rfl, he⟩
  rw [he]
  cases ht : c.tiles with
  | false =>
    simp -implicitDefEqProofs [go_sem]
    exact ⟨h, Sub.refl _, by rw [ordV, ht, Cel.zero_row]; rfl, rfl⟩
  | true =>
    obtain ⟨t1, t2, t3⟩ := tiles_may ht
    have hne : c.ids ≠ [] := fun e => by have := ids_pos c t2; rw [e] at this; simp at this
    simp -implicitDefEqProofs [go_sem]
    refine (cLeavesW_c c h (by omega) hne).mono ?_
    rintro e h' ⟨ab, cap, hab, hcap, rfl, he⟩
    rw [he]
    have ho := order1_c c.ids l qb ab cap h hq hab hne hcap (by omega) hll
    have e0 : SH h ab cap c.ids.toArray = upd h ab (some (.arr 3 1 (c.ids.map intRow) cap)) := by simp only [SH, rowsD, List.toList_toArray]
    rw [e0] at ho
    simp -implicitDefEqProofs [go_sem]
    refine ho.mono ?_
    rintro e h' ⟨rfl, he2⟩
    rw [he2]
    unfold order1V
    by_cases hlen : c.ids.length = l.length
    · by_cases hsl : sortL l = sortL c.ids
      · simp -implicitDefEqProofs [go_sem, hlen, hsl]
        refine (flatName_c c l _ (by omega) hlen.symm).mono ?_
        rintro e h' ⟨rfl, he3⟩
        rw [he3]
        simp -implicitDefEqProofs [go_sem]
        exact ⟨_, Sub.refl _, by rw [ordV, if_pos ht, if_neg (by simpa using hlen), if_pos hsl]; rfl, rfl⟩
      · simp -implicitDefEqProofs [go_sem, hlen, hsl]
        exact ⟨_, Sub.refl _, by rw [ordV, if_pos ht, if_neg (by simpa using hlen), if_neg hsl, Cel.zero_row], rfl⟩
    · simp -implicitDefEqProofs [go_sem, hlen]
      exact ⟨_, Sub.refl _, by rw [ordV, if_pos ht, if_pos hlen, Cel.zero_row], rfl⟩

set_option maxRecDepth 20000 in
theorem swapOrder_c (c : Cel) (l : List Int) (h : Heap) (hs : c.size < 100000000) (hll : l.length < 100000000) : ICall Try.prog 37 [.agg c.row, .list .plain (l.map intRow)] h (retP (ordV c l) h) := by
  refine icall_of_iwp (fun d => if d = 3 then 1 else 0) Try.func37 rfl (by kernel_rfl) (Nat.le_of_ble_eq_true rfl) ?_
  rw [Try.results37]
  simp -implicitDefEqProofs [go_sem]
  intro pa hpa
  refine (namedO_c c l pa _ hs hll (upd_same _ _ _)).mono ?_
  rintro e h' ⟨rfl, he⟩
  rw [he]
  unfold ordV
  split
  · split
    · simp -implicitDefEqProofs [go_sem]
      exact ⟨h, (Sub.refl _).upd hpa _, rfl, rfl⟩
    · split
      · simp -implicitDefEqProofs [go_sem, vecR]
        exact ⟨h, (Sub.refl _).upd hpa _, rfl, rfl⟩
      · simp -implicitDefEqProofs [go_sem]
        exact ⟨h, (Sub.refl _).upd hpa _, rfl, rfl⟩
  · simp -implicitDefEqProofs [go_sem]
    exact ⟨h, (Sub.refl _).upd hpa _, rfl, rfl⟩

theorem perm_of_sub : ∀ {l ids : List Int}, l.Nodup → (∀ x ∈ l, x ∈ ids) → l.length = ids.length → l.Perm ids
  | [], ids, _, _, hl => by rw [List.eq_nil_of_length_eq_zero hl.symm]
  | x :: l, ids, hn, hs, hl => by
    have hx := hs x (List.mem_cons_self)
    have hp := List.perm_cons_erase hx
    have hn2 := List.nodup_cons.1 hn
    refine (List.Perm.cons x (perm_of_sub hn2.2 (fun y hy => ?_) ?_)).trans hp.symm
    · have hyx : y ≠ x := fun e => hn2.1 (e ▸ hy)
      exact (List.mem_erase_of_ne hyx).2 (hs y (List.mem_cons_of_mem _ hy))
    · have := hp.length_eq
      simp only [List.length_cons] at this hl
      omega
theorem sortL_sorted (l : List Int) : (sortL l).Pairwise (· ≤ ·) := by
  have := List.pairwise_mergeSort (le := fun x y : Int => decide (x ≤ y)) (by intro a b c; simp; omega) (by intro a b; simp; omega) l
  exact this.imp (by simp)
theorem sorted_unique : ∀ {a b : List Int}, a.Perm b → a.Pairwise (· ≤ ·) → b.Pairwise (· ≤ ·) → a = b
  | [], b, hp, _, _ => (List.nil_perm.1 hp).symm
  | x :: a, b, hp, ha, hb => by
    cases b with
    | nil => exact absurd hp.length_eq (by simp)
    | cons y b =>
      have hx : x ∈ y :: b := hp.subset (List.mem_cons_self)
      have hy : y ∈ x :: a := hp.symm.subset (List.mem_cons_self)
      have h1 : x ≤ y := by
        rcases List.mem_cons.1 hy with h | h
        · omega
        · exact (List.pairwise_cons.1 ha).1 y h
      have h2 : y ≤ x := by
        rcases List.mem_cons.1 hx with h | h
        · omega
        · exact (List.pairwise_cons.1 hb).1 x h
      obtain rfl : x = y := by omega
      rw [sorted_unique ((List.perm_cons x).1 hp) (List.pairwise_cons.1 ha).2 (List.pairwise_cons.1 hb).2]
theorem sortL_iff {a b : List Int} : sortL a = sortL b ↔ a.Perm b :=
  ⟨fun h => ((sortL_perm a).symm.trans (by rw [h])).trans (sortL_perm b), fun h => sorted_unique (((sortL_perm a).trans h).trans (sortL_perm b).symm) (sortL_sorted a) (sortL_sorted b)⟩

set_option maxRecDepth 20000 in
set_option maxHeartbeats 4000000 in
theorem order15_c (c : Cel) (l : List Int) (h : Heap) (hs : c.size < 100000000) (hll : l.length < 100000000) : ICall Try.prog 38 [.agg c.row, .list .plain (l.map intRow)] h (retP (ordV c l) h) := by
  have hil : c.ids.length ≤ c.size := by rw [lv_ids]; exact c.lv_size
  have hlv := lv_ids c
  refine icall_of_iwp (fun _ => 0) Try.func38 rfl (by kernel_rfl) (Nat.le_of_ble_eq_true rfl) ?_
  rw [Try.results38]
  simp -implicitDefEqProofs [go_sem]
  refine (tiles06_c c h (by omega)).mono ?_
  rintro e h' ⟨rfl, he⟩
  rw [he]
  cases ht : c.tiles with
  | false =>
    simp -implicitDefEqProofs [go_sem]
    exact ⟨h, Sub.refl _, by rw [ordV, ht, Cel.zero_row]; rfl, rfl⟩
  | true =>
    obtain ⟨t1, t2, t3⟩ := tiles_may ht
    simp -implicitDefEqProofs [go_sem]
    refine (ids_c c h (by omega)).mono ?_
    rintro e h' ⟨rfl, he⟩
    rw [he]
    by_cases hlen : c.ids.length = l.length
    rotate_left
    · have hle : ((c.ids.length : Int) != (l.length : Int)) = true := by simp; omega
      simp -implicitDefEqProofs [go_sem, hle]
      exact ⟨h, Sub.refl _, by rw [ordV, if_pos ht, if_pos hlen, Cel.zero_row], rfl⟩
    have hle : ((c.ids.length : Int) != (l.length : Int)) = false := by simp [hlen]
    simp -implicitDefEqProofs [go_sem, hle]
    refine iwp_loopF (rng [7] 22 44) nom (fun s => ∃ i : Nat, i ≤ l.length ∧ s.t 22 = .int .i64 i ∧ s.h = h ∧ (∀ x ∈ l.take i, x ∈ c.ids) ∧ (l.take i).Nodup) (fun s => l.length - tn (s.t 22)) ?_ ?_
    · exact ⟨0, Nat.zero_le _, by simp -implicitDefEqProofs [go_sem], by simp -implicitDefEqProofs [go_sem], by simp, by simp⟩
    rintro J s hJ hf ⟨i, hi, h22, hh, hin, hnd⟩
    simp -implicitDefEqProofs [go_sem, h22, hh, hf.t, hf.m]
    refine cK_dec (fun hlt => ?_) (fun hge => ?_)
    · have hlt' : i < l.length := by omega
      have hw := wrap_succ (i := i) (by omega)
      have hg : l[i]? = some l[i] := List.getElem?_eq_getElem hlt'
      have hgr : (l.map intRow)[i]? = some [.int .i64 l[i]] := by simp [hg, intRow]
      have htk : l.take (i + 1) = l.take i ++ [l[i]] := by rw [List.take_add_one, hg]; rfl
      have hi1 := in_c c.ids l[i] h (by omega)
      have hi2 := in_c (l.take i) l[i] h (by simp; omega)
      simp -implicitDefEqProofs [go_sem, h22, hh, hf.t, hf.m, hlt', hg, hgr, intRow]
      refine iwp_drawn_of mixed [0,1,2,3,4,5,6,7,8,9,10,11,12,13,14,15,16] (by kernel_rfl) ?_
      simp -implicitDefEqProofs [go_sem, h22, hh, hf.t, hf.m, hlt', hg, hgr, intRow]
      refine ⟨_, hi1, ?_⟩
      by_cases ha : l[i] ∈ c.ids
      · have hil2 : i ≤ l.length := by omega
        simp -implicitDefEqProofs [go_sem, h22, hh, hf.t, hf.m, hlt', hg, hgr, intRow, ha, hil2]
        rw [List.map_take] at hi2
        refine ⟨_, hi2, ?_⟩
        by_cases hb : l[i] ∈ l.take i
        · have hbad : ¬ sortL l = sortL c.ids := fun e => by
            have hn : l.Nodup := (sortL_iff.1 e).nodup_iff.2 t3
            obtain ⟨j, hj, hje⟩ := List.getElem_of_mem hb
            simp only [List.length_take] at hj
            rw [List.getElem_take] at hje
            exact (List.pairwise_iff_getElem.1 hn j i (by omega) hlt' (by omega)) hje
          simp -implicitDefEqProofs [go_sem, h22, hh, hf.t, hf.m, hlt', hg, hgr, intRow, ha, hb]
          exact ⟨h, Sub.refl _, by rw [ordV, if_pos ht, if_neg (by simpa using hlen), if_neg hbad, Cel.zero_row], rfl⟩
        · simp -implicitDefEqProofs [go_sem, h22, hh, hf.t, hf.m, hf, hlt', hg, hgr, intRow, ha, hb, hw]
          refine hJ _ ⟨i + 1, by omega, by simp -implicitDefEqProofs [go_sem, hw], by simp -implicitDefEqProofs [go_sem, hh], ?_, ?_⟩ (by simp [go_sem, h22, hw]; omega)
          · intro x hx
            rw [htk, List.mem_append] at hx
            rcases hx with hx | hx
            · exact hin x hx
            · simp at hx; rw [hx]; exact ha
          · rw [htk, List.nodup_append]
            exact ⟨hnd, by simp, by intro a ha2 b hb2; simp at hb2; subst hb2; rintro rfl; exact hb ha2⟩
      · have hbad : ¬ sortL l = sortL c.ids := fun e => ha ((sortL_iff.1 e).subset (List.getElem_mem hlt'))
        simp -implicitDefEqProofs [go_sem, h22, hh, hf.t, hf.m, hlt', hg, hgr, intRow, ha]
        exact ⟨h, Sub.refl _, by rw [ordV, if_pos ht, if_neg (by simpa using hlen), if_neg hbad, Cel.zero_row], rfl⟩
    · simp -implicitDefEqProofs [go_sem, h22, hh, hf.t, hf.m]
      obtain rfl : i = l.length := by omega
      rw [List.take_length] at hin hnd
      have hp : sortL l = sortL c.ids := sortL_iff.2 (perm_of_sub hnd hin hlen.symm)
      refine (name15_c c l h hs (by omega) (by omega)).mono ?_
      rintro e h' ⟨rfl, he⟩
      rw [he]
      simp -implicitDefEqProofs [go_sem, h22, hh, hf.t, hf.m]
      exact ⟨h, Sub.refl _, by rw [ordV, if_pos ht, if_neg (by simpa using hlen), if_pos hp]; rfl, rfl⟩
end Go.Proofs
