/- This text is a part of the proofs of the statements of this seat: the ideal states and their rules, or what one of the functions that the statements reach comes to. Conditions: none beyond those that each theorem names. -/
import Derived.Test.YtioeghodmfdceaaC26
set_option linter.unusedVariables false
set_option linter.unusedSimpArgs false
set_option pp.deepTerms false
set_option pp.maxSteps 400
namespace Go.Proofs
open Go.Idl

/-- a pane -/
structure Pn where
  id : Int
  r : Rct
def Pn.row (p : Pn) : List IV := .int .i64 p.id :: p.r.row
@[go_sem] theorem Pn.row_len (p : Pn) : p.row.length = 5 := by simp [Pn.row, Rct.row]
@[go_sem] theorem Pn.row_take (p : Pn) : p.row.take 5 = p.row := by simp [Pn.row, Rct.row]
@[go_sem] theorem Pn.row_strip (p : Pn) : p.row.map strip = p.row := by simp [Pn.row, Rct.row, strip]
@[go_sem] theorem Pn.row_strC (p : Pn) : p.row.map strC = p.row := by simp [Pn.row, Rct.row, strC]
@[go_sem] theorem Pn.row_okV (p : Pn) : okV (.agg p.row) = true := rfl
@[go_sem high] theorem Pn.at0 (p : Pn) : p.row.take 1 = [.int .i64 p.id] := by simp [Pn.row]
@[go_sem high] theorem Pn.at1 (p : Pn) : (p.row.drop 1).take 4 = p.r.row := by simp [Pn.row, Rct.row]
@[go_sem high] theorem Pn.at1t (p : Pn) : p.row.tail.take 4 = p.r.row := by simp [Pn.row, Rct.row]
@[go_sem high] theorem Pn.rows_uni (l : List Pn) : uni 5 (l.map Pn.row) = true := by simp [uni, Pn.row_len]
def Cel.pn (d : Cel) : Pn := ⟨d.id, d.r⟩
def Cel.panes (c : Cel) : List Pn := c.leaves.map Cel.pn
@[go_sem] theorem Cel.pn_row (d : Cel) : IV.int .i64 d.id :: d.r.row = d.pn.row := rfl

set_option maxRecDepth 20000 in
set_option maxHeartbeats 4000000 in
theorem list07_c (c : Cel) (h : Heap) (hs : c.size < 100000000) : ICall Try.prog 16 [.agg c.row] h (retP (.list .plain (c.panes.map Pn.row)) h) := by
  have hll : c.leaves.length ≤ c.all.length := List.length_filter_le _ _
  have hal := Cel.all_length c
  refine icall_of_iwp (fun _ => 0) Try.func16 rfl (by kernel_rfl) (Nat.le_of_ble_eq_true rfl) ?_
  rw [Try.results16]
  simp -implicitDefEqProofs [go_sem]
  refine (leaves_c c h (by omega)).mono ?_
  rintro e h' ⟨rfl, he⟩
  rw [he]
  simp -implicitDefEqProofs [go_sem]
  refine iwp_loopF (rng [3,5] 11 28) nom (fun s => ∃ i, i ≤ c.leaves.length ∧ s.t 11 = .int .i64 i ∧ Own [27] s.x 44 (s.t 3) (((c.leaves.take i).map Cel.pn).map Pn.row) ∧ s.h = h) (fun s => c.leaves.length - tn (s.t 11)) ?_ ?_
  · exact ⟨0, Nat.zero_le _, by simp -implicitDefEqProofs [go_sem], by simp -implicitDefEqProofs [go_sem, Own.tight], by simp -implicitDefEqProofs [go_sem]⟩
  rintro J s hJ hf ⟨i, hi, h11, ho, hh⟩
  obtain ⟨rowsI, hrowsI⟩ : ∃ r, r = ((c.leaves.take i).map Cel.pn).map Pn.row := ⟨_, rfl⟩
  rw [← hrowsI] at ho
  have hrl : rowsI.length = i := by rw [hrowsI, List.length_map, List.length_map, List.length_take]; omega
  have hru : uni 5 rowsI = true := by rw [hrowsI]; exact Pn.rows_uni _
  obtain ⟨tk, h3⟩ := ho.list
  simp -implicitDefEqProofs [go_sem, h11, h3, hh, hf.t, hf.m]
  refine cK_dec (fun hlt => ?_) (fun hge => ?_)
  · have hw := wrap_succ (i := i) (by omega)
    have hg : c.leaves[i]? = some c.leaves[i] := List.getElem?_eq_getElem hlt
    have htk : ((c.leaves.take (i + 1)).map Cel.pn).map Pn.row = rowsI ++ [c.leaves[i].pn.row] := by
      rw [List.take_add_one, hg, hrowsI, List.map_append, List.map_append]; rfl
    simp -implicitDefEqProofs [go_sem, h11, h3, hh, hf.t, hf.m]
    refine iwp_drawn_of mixed [0, 1, 2, 3, 4, 5, 6, 7, 8, 9, 10, 11, 12, 13, 14] (by kernel_rfl) ?_
    simp -implicitDefEqProofs [go_sem, h11, h3, hh, hf.t, hf.m, hlt, hg]
    refine aK_own (z := 5) (S := [27]) (rows := rowsI) (by simpa -implicitDefEqProofs [go_sem, h3] using ho) (by simp) elT_39 elZ_44 (by simp only [roomy, byT_44, hrl]; simp; omega) hru (by simp [uni, Pn.row_len, Rct.row_len]) ?_
    intro r' x' ho' _
    simp -implicitDefEqProofs [go_sem, h11, h3, hh, hf.t, hf.m, hf, hw]
    exact hJ _ ⟨i + 1, by omega, by simp -implicitDefEqProofs [go_sem, hw], by rw [htk]; exact ho', by simp -implicitDefEqProofs [go_sem, hh]⟩ (by simp [go_sem, h11, hw]; omega)
  · obtain rfl : i = c.leaves.length := by omega
    rw [List.take_length] at hrowsI
    simp -implicitDefEqProofs [go_sem, h11, h3, hh, hf.t, hf.m]
    exact ⟨h, Sub.refl _, by rw [hrowsI]; rfl, rfl⟩

/-! what stays -/
theorem nm_rects (c : Cel) (ids : List Int) : (c.nm ids).leaves.map Cel.r = c.leaves.map Cel.r := by
  have key : ∀ l1 l2 : List Cel, l1.map Cel.skel = l2.map Cel.skel → (l1.filter fun d => d.kind == 1).map Cel.r = (l2.filter fun d => d.kind == 1).map Cel.r := by
    intro l1
    induction l1 with
    | nil => intro l2 h; cases l2 with | nil => rfl | cons _ _ => simp at h
    | cons d l1 ih =>
      intro l2 h
      cases l2 with
      | nil => simp at h
      | cons e l2 =>
        simp only [List.map_cons, List.cons.injEq] at h
        have h1 := h.1
        simp only [Cel.skel, Prod.mk.injEq] at h1
        rw [List.filter_cons, List.filter_cons, h1.1]
        split
        · rw [List.map_cons, List.map_cons, h1.2.1, ih l2 h.2]
        · exact ih l2 h.2
  exact key _ _ (c.nm_skel ids)
theorem panes_len (c : Cel) : c.panes.length = c.leaves.length := by simp [Cel.panes]

set_option maxRecDepth 20000 in
set_option maxHeartbeats 4000000 in
theorem swapKeeps_c (c : Cel) (a b by_ : Int) (h : Heap) (hs : c.size < 100000000) :
    ICall Try.prog 5 [.agg c.row, .int .i64 a, .int .i64 b, .int .i64 by_] h (retP (.bool true) h) := by
  have hll : c.leaves.length ≤ c.all.length := List.length_filter_le _ _
  have hal := Cel.all_length c
  refine icall_of_iwp (fun _ => 0) Try.func5 rfl (by kernel_rfl) (Nat.le_of_ble_eq_true rfl) ?_
  rw [Try.results5]
  simp -implicitDefEqProofs [go_sem]
  refine (great_c c h (by omega)).mono ?_
  rintro e h' ⟨g, rfl, he, _⟩
  rw [he]
  have aw : ∀ (R : IEnd → Heap → Prop), R (.ret (.bool true)) h → ICall Try.prog 9 [] h R := fun R hR => (awake_c h).mono (by rintro e h' ⟨rfl, rfl⟩; exact hR)
  simp -implicitDefEqProofs [go_sem]
  refine cK_any (fun k1 => ?_) (fun k1 => ?_) <;> simp -implicitDefEqProofs [go_sem]
  · refine aw _ ?_
    simp -implicitDefEqProofs [go_sem]
    exact ⟨h, Sub.refl _, rfl, rfl⟩
  refine (tiles06_c c h (by omega)).mono ?_
  rintro e h' ⟨rfl, he⟩
  rw [he]
  cases ht : c.tiles with
  | false =>
    simp -implicitDefEqProofs [go_sem]
    refine aw _ ?_
    simp -implicitDefEqProofs [go_sem]
    exact ⟨h, Sub.refl _, rfl, rfl⟩
  | true =>
  simp -implicitDefEqProofs [go_sem]
  refine (swapTwo_c c a b h hs).mono ?_
  rintro e h' ⟨rfl, he⟩
  rw [he, twoV, if_pos ht]
  by_cases hin : a ∈ c.ids ∧ b ∈ c.ids
  · obtain ⟨ha, hb⟩ := hin
    obtain ⟨t1, t2, t3⟩ := two_tiles ht ha hb
    rw [if_pos ⟨ha, hb⟩]
    obtain ⟨x, hx⟩ : ∃ x, x = c.nm (two c.ids a b) := ⟨_, rfl⟩
    have hxt : x.tiles = true := by rw [hx]; exact t1
    have hxm : ∀ z, z ∈ x.ids ↔ z ∈ c.ids := fun z => by rw [hx, t2]; exact two_mem ha hb
    have hxr : x.leaves.map Cel.r = c.leaves.map Cel.r := by rw [hx]; exact nm_rects _ _
    have hxs : x.size = c.size := by rw [hx]; exact c.nm_size _
    rw [vecR, if_pos rfl, ← hx]
    simp -implicitDefEqProofs [go_sem]
    refine (round_c x by_ h (by omega)).mono ?_
    rintro e h' ⟨rfl, he⟩
    rw [he, if_pos hxt, vecR, if_pos rfl]
    obtain ⟨r1, r2, _⟩ := rot_tiles hxt by_
    obtain ⟨y, hy⟩ : ∃ y, y = x.nm (rot x.ids by_) := ⟨_, rfl⟩
    rw [← hy] at r1 r2 ⊢
    have hys : y.size = c.size := by rw [hy, Cel.nm_size, hxs]
    have hyr : y.leaves.map Cel.r = c.leaves.map Cel.r := by rw [hy, nm_rects, hxr]
    have hyl : y.leaves.length = c.leaves.length := by simpa using congrArg List.length hyr
    have hym : ∀ z, z ∈ c.ids → z ∈ y.ids := fun z hz => by rw [r2]; exact (rot_perm _ _).mem_iff.2 ((hxm z).2 hz)
    have hpl : ((c.panes.length : Int) != (y.panes.length : Int)) = false := by rw [panes_len, panes_len, hyl]; simp
    simp -implicitDefEqProofs [go_sem]
    refine iwp_drawn_of mixed [0, 1, 2, 3, 4, 5] (by kernel_rfl) ?_
    simp -implicitDefEqProofs [go_sem]
    refine ⟨_, list07_c c h hs, ?_⟩
    simp -implicitDefEqProofs [go_sem]
    refine ⟨_, list07_c y h (by omega), ?_⟩
    simp -implicitDefEqProofs [go_sem, hpl]
    refine (tiles06_c y h (by omega)).mono ?_
    rintro e h' ⟨rfl, he⟩
    rw [he, r1]
    simp -implicitDefEqProofs [go_sem]
    refine (ids_c y h (by omega)).mono ?_
    rintro e h' ⟨rfl, he⟩
    rw [he]
    simp -implicitDefEqProofs [go_sem]
    refine iwp_loopF (rng [8,16] 61 87) nom (fun s => ∃ i, i ≤ c.panes.length ∧ s.t 16 = .int .i64 i ∧ s.h = h) (fun s => c.panes.length - tn (s.t 16)) ?_ ?_
    · exact ⟨0, Nat.zero_le _, by simp -implicitDefEqProofs [go_sem], by simp -implicitDefEqProofs [go_sem]⟩
    rintro J s hJ hf ⟨i, hi, h16, hh⟩
    simp -implicitDefEqProofs [go_sem, h16, hh, hf.t, hf.m]
    refine cK_dec (fun hlt => ?_) (fun hge => ?_)
    · have hpc := panes_len c
      have hpy := panes_len y
      have hw := wrap_succ (i := i) (by omega)
      have hg : c.panes[i]? = some c.panes[i] := List.getElem?_eq_getElem hlt
      have hlt2 : i < y.panes.length := by omega
      have hg2 : y.panes[i]? = some y.panes[i] := List.getElem?_eq_getElem hlt2
      have hrr : c.panes[i].r = y.panes[i].r := by
        have e1 : (y.leaves.map Cel.r)[i]? = (c.leaves.map Cel.r)[i]? := by rw [hyr]
        have hl1 : i < c.leaves.length := by omega
        have hl2 : i < y.leaves.length := by omega
        rw [List.getElem?_map, List.getElem?_map, List.getElem?_eq_getElem hl1, List.getElem?_eq_getElem hl2] at e1
        simp only [Option.map_some, Option.some.injEq] at e1
        simp only [Cel.panes, List.getElem_map, Cel.pn]
        exact e1.symm
      have hmem : c.panes[i].id ∈ y.ids := by
        apply hym
        have hl1 : i < c.leaves.length := by omega
        simp only [Cel.panes, List.getElem_map, Cel.pn, Cel.ids]
        exact List.mem_map_of_mem (List.getElem_mem hl1)
      simp -implicitDefEqProofs [go_sem, h16, hh, hf.t, hf.m]
      refine iwp_drawn_of mixed [0, 1, 2, 3, 4, 5, 6, 7, 8, 9, 10, 11, 12, 13, 14, 15, 16, 17, 18, 19, 20] (by kernel_rfl) ?_
      simp -implicitDefEqProofs [go_sem, h16, hh, hf.t, hf.m, hlt, hg, hlt2, hg2, hrr]
      refine ⟨_, in_c y.ids c.panes[i].id h (by have := lv_ids y; have := y.lv_size; omega), ?_⟩
      simp -implicitDefEqProofs [go_sem, h16, hh, hf.t, hf.m, hf, hlt, hg, hlt2, hg2, hrr, hmem, hw]
      exact hJ _ ⟨i + 1, by omega, by simp -implicitDefEqProofs [go_sem, hw], by simp -implicitDefEqProofs [go_sem, hh]⟩ (by simp [go_sem, h16, hw]; omega)
    · simp -implicitDefEqProofs [go_sem, h16, hh, hf.t, hf.m]
      refine aw _ ?_
      simp -implicitDefEqProofs [go_sem]
      exact ⟨h, Sub.refl _, rfl, rfl⟩
  · rw [if_neg hin]
    obtain ⟨x, hx⟩ : ∃ x, x = c := ⟨_, rfl⟩
    have hxt : x.tiles = true := by rw [hx]; exact ht
    have hxm : ∀ z, z ∈ x.ids ↔ z ∈ c.ids := fun z => by rw [hx]
    have hxr : x.leaves.map Cel.r = c.leaves.map Cel.r := by rw [hx]
    have hxs : x.size = c.size := by rw [hx]
    have hcx : c.row = x.row := by rw [hx]
    simp -implicitDefEqProofs [go_sem]
    rw [show ICall Try.prog 10 [.agg c.row, .int .i64 by_] h = ICall Try.prog 10 [.agg x.row, .int .i64 by_] h from by rw [hx]]
    refine (round_c x by_ h (by omega)).mono ?_
    rintro e h' ⟨rfl, he⟩
    rw [he, if_pos hxt, vecR, if_pos rfl]
    obtain ⟨r1, r2, _⟩ := rot_tiles hxt by_
    obtain ⟨y, hy⟩ : ∃ y, y = x.nm (rot x.ids by_) := ⟨_, rfl⟩
    rw [← hy] at r1 r2 ⊢
    have hys : y.size = c.size := by rw [hy, Cel.nm_size, hxs]
    have hyr : y.leaves.map Cel.r = c.leaves.map Cel.r := by rw [hy, nm_rects, hxr]
    have hyl : y.leaves.length = c.leaves.length := by simpa using congrArg List.length hyr
    have hym : ∀ z, z ∈ c.ids → z ∈ y.ids := fun z hz => by rw [r2]; exact (rot_perm _ _).mem_iff.2 ((hxm z).2 hz)
    have hpl : ((c.panes.length : Int) != (y.panes.length : Int)) = false := by rw [panes_len, panes_len, hyl]; simp
    simp -implicitDefEqProofs [go_sem]
    refine iwp_drawn_of mixed [0, 1, 2, 3, 4, 5] (by kernel_rfl) ?_
    simp -implicitDefEqProofs [go_sem]
    refine ⟨_, list07_c c h hs, ?_⟩
    simp -implicitDefEqProofs [go_sem]
    refine ⟨_, list07_c y h (by omega), ?_⟩
    simp -implicitDefEqProofs [go_sem, hpl]
    refine (tiles06_c y h (by omega)).mono ?_
    rintro e h' ⟨rfl, he⟩
    rw [he, r1]
    simp -implicitDefEqProofs [go_sem]
    refine (ids_c y h (by omega)).mono ?_
    rintro e h' ⟨rfl, he⟩
    rw [he]
    simp -implicitDefEqProofs [go_sem]
    refine iwp_loopF (rng [8,16] 61 87) nom (fun s => ∃ i, i ≤ c.panes.length ∧ s.t 16 = .int .i64 i ∧ s.h = h) (fun s => c.panes.length - tn (s.t 16)) ?_ ?_
    · exact ⟨0, Nat.zero_le _, by simp -implicitDefEqProofs [go_sem], by simp -implicitDefEqProofs [go_sem]⟩
    rintro J s hJ hf ⟨i, hi, h16, hh⟩
    simp -implicitDefEqProofs [go_sem, h16, hh, hf.t, hf.m]
    refine cK_dec (fun hlt => ?_) (fun hge => ?_)
    · have hpc := panes_len c
      have hpy := panes_len y
      have hw := wrap_succ (i := i) (by omega)
      have hg : c.panes[i]? = some c.panes[i] := List.getElem?_eq_getElem hlt
      have hlt2 : i < y.panes.length := by omega
      have hg2 : y.panes[i]? = some y.panes[i] := List.getElem?_eq_getElem hlt2
      have hrr : c.panes[i].r = y.panes[i].r := by
        have e1 : (y.leaves.map Cel.r)[i]? = (c.leaves.map Cel.r)[i]? := by rw [hyr]
        have hl1 : i < c.leaves.length := by omega
        have hl2 : i < y.leaves.length := by omega
        rw [List.getElem?_map, List.getElem?_map, List.getElem?_eq_getElem hl1, List.getElem?_eq_getElem hl2] at e1
        simp only [Option.map_some, Option.some.injEq] at e1
        simp only [Cel.panes, List.getElem_map, Cel.pn]
        exact e1.symm
      have hmem : c.panes[i].id ∈ y.ids := by
        apply hym
        have hl1 : i < c.leaves.length := by omega
        simp only [Cel.panes, List.getElem_map, Cel.pn, Cel.ids]
        exact List.mem_map_of_mem (List.getElem_mem hl1)
      simp -implicitDefEqProofs [go_sem, h16, hh, hf.t, hf.m]
      refine iwp_drawn_of mixed [0, 1, 2, 3, 4, 5, 6, 7, 8, 9, 10, 11, 12, 13, 14, 15, 16, 17, 18, 19, 20] (by kernel_rfl) ?_
      simp -implicitDefEqProofs [go_sem, h16, hh, hf.t, hf.m, hlt, hg, hlt2, hg2, hrr]
      refine ⟨_, in_c y.ids c.panes[i].id h (by have := lv_ids y; have := y.lv_size; omega), ?_⟩
      simp -implicitDefEqProofs [go_sem, h16, hh, hf.t, hf.m, hf, hlt, hg, hlt2, hg2, hrr, hmem, hw]
      exact hJ _ ⟨i + 1, by omega, by simp -implicitDefEqProofs [go_sem, hw], by simp -implicitDefEqProofs [go_sem, hh]⟩ (by simp [go_sem, h16, hw]; omega)
    · simp -implicitDefEqProofs [go_sem, h16, hh, hf.t, hf.m]
      refine aw _ ?_
      simp -implicitDefEqProofs [go_sem]
      exact ⟨h, Sub.refl _, rfl, rfl⟩
end Go.Proofs
