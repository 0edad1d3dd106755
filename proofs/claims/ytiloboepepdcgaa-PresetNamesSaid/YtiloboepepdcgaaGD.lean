/- This text is a part of the proofs of the statements of this seat: the ideal states and their rules, or what one of the functions that the statements reach comes to. Conditions: none beyond those that each theorem names. -/
import Derived.Test.YtiloboepepdcgaaG11
import Derived.Test.YtiloboepepdcgaaMB
set_option linter.unusedVariables false
set_option linter.unusedSimpArgs false
set_option pp.deepTerms false
set_option pp.maxSteps 400
namespace Go.Proofs
open Go.Idl

theorem dim_in {r : Rct} (hr : r.may = true) (ax : Int) : 0 ≤ dimR r ax ∧ dimR r ax ≤ 10000 := by
  rw [Rct.may, decide_eq_true_eq] at hr
  unfold dimR rsz
  split
  · omega
  · split <;> omega
theorem even1_c {gs : List (List Int)} {f : FuncId} {o : Option Cel} {i : Nat} (hi : i < gs.length) {p : Rct} {b7 b6 : Nat} {H : Heap} (h7 : H b7 = some (.cells [.fn (.func f) [] []])) (h6 : H b6 = some (.cells [.list .plain (gs.map gRow)]))
    (hf : ICall Try.prog f [.agg p.row, .list .plain (gs[i].map intRow)] H (retO o H)) : ICall Try.prog 147 [.int .i64 i, .agg p.row, .ptr b7 0, .ptr b6 0] H (retO o H) := by
  refine icall_of_iwp (fun d => if d = 13 then 5 else if d = 8 then 8 else 0) Try.func147 rfl (by kernel_rfl) (Nat.le_of_ble_eq_true rfl) ?_
  rw [Try.results147]
  have hg : gs[i]? = some gs[i] := List.getElem?_eq_getElem hi
  simp -implicitDefEqProofs [go_sem]
  refine iwp_drawn_call mixed [0, 1, 2, 3, 4, 5, 6, 7] (by kernel_rfl) (fun v st d x h => by cases d <;> exact h) ?_
  simp -implicitDefEqProofs [go_sem, h7, h6, hi, hg]
  refine hf.mono ?_
  rintro e h' ⟨rfl, rfl⟩
  cases o <;> simp -implicitDefEqProofs [go_sem, optE]
  · exact ⟨_, Sub.refl _, rfl, rfl⟩
  · exact ⟨_, Sub.refl _, rfl, rfl⟩

set_option maxRecDepth 20000 in
theorem even_c (r : Rct) (ax : Int) (gs : List (List Int)) (f : FuncId) (K : Nat → Rct → Option Cel) (h : Heap) (hr : r.may = true) (h1 : 1 ≤ ax) (h2 : ax ≤ 2) (hgl : gs.length ≤ 1000000)
    (hK : ∀ (H : Heap) (i : Nat) (p : Rct) (hi : i < gs.length), p.may = true → ICall Try.prog f [.agg p.row, .list .plain (gs[i].map intRow)] H (retO (K i p) H)) :
    ICall Try.prog 124 [.agg r.row, .int .u8 ax, .list .plain (gs.map gRow), .fn (.func f) [] []] h (retO (evenC r ax gs.length K) h) := by
  refine icall_of_iwp (fun d => if d = 6 then 1 else if d = 7 then 1 else 0) Try.func124 rfl (by kernel_rfl) (Nat.le_of_ble_eq_true rfl) ?_
  rw [Try.results124]
  have hd := dim_in hr ax
  simp -implicitDefEqProofs [go_sem]
  intro b6 hb6 b7 hb7
  have hne : b6 ≠ b7 := fun e => by subst e; simp at hb7
  have hb7' : h b7 = none := by rw [if_neg (Ne.symm hne)] at hb7; exact hb7
  have hsub : Sub h (upd (upd h b6 (some (.cells [.list .plain (gs.map gRow)]))) b7 (some (.cells [.fn (.func f) [] []]))) := ((Sub.refl h).upd hb6 _).upd hb7' _
  refine iwp_drawn_of mixed [0, 1, 2, 3, 4, 5, 6, 7, 8, 9, 10] (by kernel_rfl) ?_
  simp -implicitDefEqProofs [go_sem, hne]
  refine ⟨_, lsz_c r ax _, ?_⟩
  simp -implicitDefEqProofs [go_sem, hne]
  refine ⟨_, spSizes_c (dimR r ax) gs.length (by omega) _, ?_⟩
  by_cases hb : sizesBad (dimR r ax) gs.length
  · have hv : sizesV (dimR r ax) gs.length = .tup [.list .plain [], .bool false] := by rw [sizesV, if_pos hb]
    rw [hv]
    simp -implicitDefEqProofs [go_sem, hne]
    refine (must_c false _).mono ?_
    rintro e h2 ⟨rfl, rfl⟩
    simp -implicitDefEqProofs [go_sem]
    exact ⟨h, hsub, by rw [evenC, if_pos hb]; rfl, rfl⟩
  · have hv : sizesV (dimR r ax) gs.length = .tup [.list .plain ((sizesL (dimR r ax) gs.length).map intRow), .bool true] := by rw [sizesV, if_neg hb]
    rw [hv]
    simp -implicitDefEqProofs [go_sem, hne]
    refine (must_c true _).mono ?_
    rintro e h2 ⟨rfl, rfl⟩
    simp -implicitDefEqProofs [go_sem]
    have he : evenC r ax gs.length K = ofC r ax (sizesL (dimR r ax) gs.length) K := by rw [evenC, if_neg hb]
    refine (of_c r ax (sizesL (dimR r ax) gs.length) (by rw [sizesL_len]; omega) 147 [.ptr b7 0, .ptr b6 0] K _ ?_).mono ?_
    · intro i p hi hp
      rw [sizesL_len] at hi
      exact even1_c (b7 := b7) (b6 := b6) hi (by simp [upd]) (by simp [upd, hne]) (hK _ i p hi hp)
    · rintro e h2 ⟨rfl, rfl⟩
      cases hof : ofC r ax (sizesL (dimR r ax) gs.length) K <;> simp -implicitDefEqProofs [go_sem, optE]
      · exact ⟨h, hsub, by rw [he, hof]; rfl, rfl⟩
      · exact ⟨h, hsub, by rw [he, hof]; rfl, rfl⟩
end Go.Proofs

set_option linter.unusedVariables false
set_option linter.unusedSimpArgs false
set_option pp.deepTerms false
set_option pp.maxSteps 400
namespace Go.Proofs
open Go.Idl

theorem chunks_one (ids : List Int) : chunks 1 ids = ids.map fun x => [x] := by
  rw [chunks]
  simp only [Nat.add_sub_cancel, Nat.div_one, Nat.mul_one]
  apply List.ext_getElem
  · simp
  · intro i h1 h2
    simp at h1 h2
    simp [List.take_one, h1]
theorem chunks_len (k : Nat) (ids : List Int) (hk : 1 ≤ k) : (chunks k ids).length ≤ ids.length := by
  rw [chunks, List.length_map, List.length_range]
  rcases Nat.eq_zero_or_pos ids.length with h | h
  · rw [h, Nat.div_eq_of_lt (by omega)]; omega
  · exact Nat.div_le_of_le_mul (by have := Nat.le_mul_of_pos_left ids.length hk; have := Nat.mul_le_mul hk h; obtain ⟨k, rfl⟩ : ∃ k', k = k' + 1 := ⟨k - 1, by omega⟩; rw [Nat.succ_mul] at *; have := Nat.le_mul_of_pos_right k h; omega)
set_option maxRecDepth 20000 in
theorem line_c (r : Rct) (ax : Int) (ids : List Int) (h : Heap) (hr : r.may = true) (h1 : 1 ≤ ax) (h2 : ax ≤ 2) (hl : ids.length ≤ 1000000) :
    ICall Try.prog 96 [.agg r.row, .int .u8 ax, .list .plain (ids.map intRow)] h (retO (lineC r ax ids) h) := by
  refine icall_of_iwp (fun d => if d = 10 then 5 else if d = 11 then 5 else if d = 12 then 5 else if d = 7 then 8 else 0) Try.func96 rfl (by kernel_rfl) (Nat.le_of_ble_eq_true rfl) ?_
  rw [Try.results96]
  simp -implicitDefEqProofs [go_sem]
  refine iwp_drawn_call mixed [0, 1, 2, 3, 4, 5, 6] (by kernel_rfl) (fun v st d x h => by cases d <;> exact h) ?_
  simp -implicitDefEqProofs [go_sem]
  refine (chunk_c ids 1 (by omega) h).mono ?_
  rintro e h' ⟨bs, bn, hbs, rfl, hbn, rfl⟩
  have hne : bs ≠ bn := fun e => by subst e; rw [upd_same] at hbn; cases hbn
  have hbn' : h bn = none := by rw [upd_ne _ _ (Ne.symm hne)] at hbn; exact hbn
  have hsub := ((Sub.refl h).upd hbs (some (.cells [.list .plain (ids.map intRow)]))).upd hbn' (some (.cells [.int .i64 1]))
  simp -implicitDefEqProofs [go_sem]
  refine (collectChunk_c ids 1 (by omega) (by omega) (by omega) bs bn _ (by simp [upd, hne]) (by simp [upd])).mono ?_
  rintro e h2 ⟨rfl, rfl⟩
  simp -implicitDefEqProofs [go_sem]
  have hcl : (chunks 1 ids).length = ids.length := by rw [chunks_one]; simp
  have hK : lineC r ax ids = evenC r ax (chunks 1 ids).length fun i p => some (lf p (ids[i]?.getD 0)) := by rw [hcl]; rfl
  refine (even_c r ax (chunks 1 ids) 127 (fun i p => some (lf p (ids[i]?.getD 0))) _ hr h1 (by assumption) (by omega) ?_).mono ?_
  · intro H i p hi hp
    have hi' : i < ids.length := by omega
    have hgi : (chunks 1 ids)[i] = [ids[i]] := by simp [chunks_one]
    rw [hgi]
    refine (pleaf_c p [ids[i]] (by simp) H).mono ?_
    rintro e h3 ⟨rfl, rfl⟩
    exact ⟨by simp [optE, hi'], rfl⟩
  · rintro e h3 ⟨rfl, rfl⟩
    rw [← hK]
    cases hof : lineC r ax ids <;> simp -implicitDefEqProofs [go_sem, optE]
    · exact ⟨h, hsub, rfl, rfl⟩
    · exact ⟨h, hsub, rfl, rfl⟩

noncomputable def mainK (ax : Int) (ids : List Int) (i : Nat) (p : Rct) : Option Cel := if i = 0 then some (lf p (ids[0]?.getD 0)) else lineC p (3 - ax) ids.tail
set_option maxRecDepth 20000 in
theorem main1_c {ax : Int} {ids : List Int} (hne : ids ≠ []) (hl : ids.length ≤ 1000000) (h1 : 1 ≤ ax) (h2 : ax ≤ 2) {i : Nat} {p : Rct} (hp : p.may = true) {b7 b5 : Nat} {H : Heap} (h7 : H b7 = some (.cells [.list .plain (ids.map intRow)])) (h5 : H b5 = some (.cells [.int .u8 ax])) :
    ICall Try.prog 131 [.int .i64 i, .agg p.row, .ptr b7 0, .ptr b5 0] H (retO (mainK ax ids i p) H) := by
  refine icall_of_iwp (fun d => if d = 17 then 5 else if d = 12 then 8 else 0) Try.func131 rfl (by kernel_rfl) (Nat.le_of_ble_eq_true rfl) ?_
  rw [Try.results131]
  simp -implicitDefEqProofs [go_sem]
  refine cK_beq (fun hi => ?_) (fun hi => ?_)
  · simp -implicitDefEqProofs [go_sem, h7, h5]
    refine (pleaf_c p ids hne H).mono ?_
    rintro e h3 ⟨rfl, rfl⟩
    simp -implicitDefEqProofs [go_sem]
    exact ⟨_, Sub.refl _, by rw [mainK, if_pos (by omega)]; rfl, rfl⟩
  · simp -implicitDefEqProofs [go_sem, h7, h5]
    refine iwp_drawn_call mixed [0, 1, 2, 3, 4, 5, 6] (by kernel_rfl) (fun v st d x h => by cases d <;> exact h) ?_
    have hw : IntKind.u8.wrap (3 - ax) = 3 - ax := wrapU8 (by omega)
    have hl1 : 1 ≤ ids.length := List.length_pos_iff.2 hne
    have hl1' : (1 : Int) ≤ (ids.length : Int) := by omega
    have hdr : (List.take ids.length (ids.map intRow)).tail = ids.tail.map intRow := by rw [List.take_of_length_le (by simp), List.map_tail]
    simp -implicitDefEqProofs [go_sem, h7, h5, hw, hl1', hdr, ← List.map_tail]
    try rw [← List.map_tail]
    refine (line_c p (3 - ax) ids.tail H hp (by omega) (by omega) (by simp; omega)).mono ?_
    rintro e h3 ⟨rfl, rfl⟩
    have hK : mainK ax ids i p = lineC p (3 - ax) ids.tail := by rw [mainK, if_neg (by omega)]
    cases hof : lineC p (3 - ax) ids.tail <;> simp -implicitDefEqProofs [go_sem, optE]
    · exact ⟨_, Sub.refl _, by rw [hK, hof]; rfl, rfl⟩
    · exact ⟨_, Sub.refl _, by rw [hK, hof]; rfl, rfl⟩
set_option maxRecDepth 20000 in
theorem main_c (r : Rct) (ax size : Int) (ids : List Int) (h : Heap) (hr : r.may = true) (h1 : 1 ≤ ax) (h2 : ax ≤ 2) (hne : ids ≠ []) (hl : ids.length ≤ 1000000) :
    ICall Try.prog 97 [.agg r.row, .int .u8 ax, .int .i64 size, .list .plain (ids.map intRow)] h (retO (mainC r ax size ids) h) := by
  refine icall_of_iwp (fun d => if d = 5 then 1 else if d = 7 then 1 else 0) Try.func97 rfl (by kernel_rfl) (Nat.le_of_ble_eq_true rfl) ?_
  rw [Try.results97]
  have hd := dim_in hr ax
  simp -implicitDefEqProofs [go_sem]
  intro b5 hb5 b7 hb7
  have hnb : b5 ≠ b7 := fun e => by subst e; simp at hb7
  have hb7' : h b7 = none := by rw [if_neg (Ne.symm hnb)] at hb7; exact hb7
  have hsub : Sub h (upd (upd h b5 (some (.cells [.int .u8 ax]))) b7 (some (.cells [.list .plain (ids.map intRow)]))) := ((Sub.refl h).upd hb5 _).upd hb7' _
  refine cK_beq (fun hi => ?_) (fun hi => ?_)
  · simp -implicitDefEqProofs [go_sem, hnb]
    refine (pleaf_c r ids hne _).mono ?_
    rintro e h3 ⟨rfl, rfl⟩
    simp -implicitDefEqProofs [go_sem]
    exact ⟨h, hsub, by rw [mainC, if_pos (by omega)]; rfl, rfl⟩
  · have hn1 : ¬ ids.length = 1 := by omega
    simp -implicitDefEqProofs [go_sem, hnb]
    refine (lsz_c r ax _).mono ?_
    rintro e h3 ⟨rfl, rfl⟩
    simp -implicitDefEqProofs [go_sem, hnb]
    by_cases h3 : dimR r ax < 3
    · have hg : decide (3 ≤ dimR r ax) = false := by simp; omega
      rw [hg]
      refine (must_c false _).mono ?_
      rintro e h3 ⟨rfl, rfl⟩
      simp -implicitDefEqProofs [go_sem, hnb]
      exact ⟨h, hsub, by rw [mainC, if_neg hn1, if_pos (by assumption)]; rfl, rfl⟩
    · have hg : decide (3 ≤ dimR r ax) = true := by simp; omega
      rw [hg]
      refine (must_c true _).mono ?_
      rintro e h4 ⟨rfl, rfl⟩
      obtain ⟨n, hn⟩ : ∃ n, max 1 (min size (dimR r ax - 2)) = n := ⟨_, rfl⟩
      have w1 : IntKind.i64.wrap (dimR r ax - 2) = dimR r ax - 2 := wrap_in (by omega)
      have w2 : IntKind.i64.wrap (dimR r ax - 1) = dimR r ax - 1 := wrap_in (by omega)
      have w3 : IntKind.i64.wrap (dimR r ax - 1 - n) = dimR r ax - 1 - n := wrap_in (by omega)
      simp -implicitDefEqProofs [go_sem, pop, hnb, w1, w2, w3, hn]
      have he : mainC r ax size ids = ofC r ax [n, dimR r ax - 1 - n] (mainK ax ids) := by rw [mainC, if_neg hn1, if_neg h3, hn]; rfl
      refine (of_c r ax [n, dimR r ax - 1 - n] (by simp) 131 [.ptr b7 0, .ptr b5 0] (mainK ax ids) _ ?_).mono ?_
      · intro i p hi hp
        exact main1_c hne hl h1 h2 hp (by simp [upd]) (by simp [upd, hnb])
      · rintro e h5 ⟨rfl, rfl⟩
        cases hof : ofC r ax [n, dimR r ax - 1 - n] (mainK ax ids) <;> simp -implicitDefEqProofs [go_sem, optE]
        · exact ⟨h, hsub, by rw [he, hof]; rfl, rfl⟩
        · exact ⟨h, hsub, by rw [he, hof]; rfl, rfl⟩

theorem tiled1_c (p : Rct) (hp : p.may = true) (g : List Int) (hl : g.length ≤ 1000000) (H : Heap) : ICall Try.prog 132 [.agg p.row, .list .plain (g.map intRow)] H (retO (lineC p 1 g) H) := by
  refine icall_of_iwp (fun d => 0) Try.func132 rfl (by kernel_rfl) (Nat.le_of_ble_eq_true rfl) ?_
  rw [Try.results132]
  simp -implicitDefEqProofs [go_sem]
  refine (line_c p 1 g H hp (by omega) (by omega) hl).mono ?_
  rintro e h3 ⟨rfl, rfl⟩
  cases hof : lineC p 1 g <;> simp -implicitDefEqProofs [go_sem, optE]
  · exact ⟨_, Sub.refl _, rfl, rfl⟩
  · exact ⟨_, Sub.refl _, rfl, rfl⟩
set_option maxRecDepth 20000 in
theorem tiled_c (r : Rct) (ids : List Int) (h : Heap) (hr : r.may = true) (hne : ids ≠ []) (hl : ids.length ≤ 4096) :
    ICall Try.prog 98 [.agg r.row, .list .plain (ids.map intRow)] h (retO (tiledC r ids) h) := by
  refine icall_of_iwp (fun d => if d = 16 then 5 else if d = 17 then 5 else if d = 18 then 5 else if d = 13 then 8 else 0) Try.func98 rfl (by kernel_rfl) (Nat.le_of_ble_eq_true rfl) ?_
  rw [Try.results98]
  have hl1 : 1 ≤ ids.length := List.length_pos_iff.2 hne
  have hgc := gcols_pos hl
  have hgv : gridV (ids.length : Int) = .tup [.int .i64 ((gridL 4096 1 1 ids.length).1 : Nat), .int .i64 (gcols ids.length : Nat)] := by rw [gridV, if_neg (by omega)]; rfl
  simp -implicitDefEqProofs [go_sem]
  refine (grid_c ids.length h).mono ?_
  rintro e h3 ⟨rfl, rfl⟩
  rw [hgv]
  simp -implicitDefEqProofs [go_sem]
  refine iwp_drawn_call mixed [0, 1, 2, 3, 4, 5, 6] (by kernel_rfl) (fun v st d x h => by cases d <;> exact h) ?_
  simp -implicitDefEqProofs [go_sem]
  obtain ⟨k, hk⟩ : ∃ k, gcols ids.length = k := ⟨_, rfl⟩
  rw [hk] at hgc
  rw [hk]
  refine (chunk_c ids k (by omega) h3).mono ?_
  rintro e h' ⟨bs, bn, hbs, rfl, hbn, rfl⟩
  have hne : bs ≠ bn := fun e => by subst e; rw [upd_same] at hbn; cases hbn
  have hbn' : h3 bn = none := by rw [upd_ne _ _ (Ne.symm hne)] at hbn; exact hbn
  have hsub := ((Sub.refl h3).upd hbs (some (.cells [.list .plain (ids.map intRow)]))).upd hbn' (some (.cells [.int .i64 k]))
  simp -implicitDefEqProofs [go_sem]
  refine (collectChunk_c ids k (by omega) (by omega) (by omega) bs bn _ (by simp [upd, hne]) (by simp [upd])).mono ?_
  rintro e h2 ⟨rfl, rfl⟩
  simp -implicitDefEqProofs [go_sem]
  have hcl := chunks_len k ids hgc.1
  have hK : tiledC r ids = evenC r 2 (chunks k ids).length fun i p => lineC p 1 ((chunks k ids)[i]?.getD []) := by rw [tiledC, hk]
  refine (even_c r 2 (chunks k ids) 132 (fun i p => lineC p 1 ((chunks k ids)[i]?.getD [])) _ hr (by omega) (by omega) (by omega) ?_).mono ?_
  · intro H i p hi hp
    have hgl : (chunks k ids)[i].length ≤ 1000000 := by simp [chunks]; omega
    have := tiled1_c p hp (chunks k ids)[i] hgl H
    rwa [List.getElem?_eq_getElem hi]
  · rintro e h3 ⟨rfl, rfl⟩
    rw [← hK]
    cases hof : tiledC r ids <;> simp -implicitDefEqProofs [go_sem, optE]
    · exact ⟨_, hsub, rfl, rfl⟩
    · exact ⟨_, hsub, rfl, rfl⟩
end Go.Proofs

set_option linter.unusedVariables false
set_option linter.unusedSimpArgs false
set_option pp.deepTerms false
set_option pp.maxSteps 400
namespace Go.Proofs
open Go.Idl

@[go_sem] theorem Cel.row_strT (c : Cel) : c.row.map strT = c.row := by cases c; simp [Cel.row_mk, strT]
def eqH (h0 : Heap) (h' : Heap) : Prop := h' = h0
theorem made1_none (b8 b9 : Nat) (h : Heap) : ICallD Try.prog 95 [.ptr b8 0, .ptr b9 0] none h (eqH h) := by
  refine icalld_of_iwp (fun _ => 0) Try.func95 rfl (by kernel_rfl) (Nat.le_of_ble_eq_true rfl) ?_
  simp -implicitDefEqProofs [go_sem]
  exact ⟨h, Sub.refl _, rfl⟩
def zrowT : List IV := [.int .u8 0, .int .i64 0, .int .i64 0, .int .i64 0, .int .i64 0, .int .i64 0, .list .tight []]
theorem made1_full (b8 b9 : Nat) (hne : b8 ≠ b9) (c8 : List IV) (hl : c8.length = 7) (x : IV) (h : Heap) (h8 : h b8 = some (.cells c8)) (h9 : h b9 = some (.cells [x])) :
    ICallD Try.prog 95 [.ptr b8 0, .ptr b9 0] (some fullE) h (eqH (upd (upd h b8 (some (.cells zrowT))) b9 (some (.cells [.int .i64 7])))) := by
  refine icalld_of_iwp (fun _ => 0) Try.func95 rfl (by kernel_rfl) (Nat.le_of_ble_eq_true rfl) ?_
  have hne' : ¬ b9 = b8 := fun e => hne e.symm
  simp -implicitDefEqProofs [go_sem, fullE, h8, h9, hl, hne, hne']
  exact ⟨_, Sub.refl _, rfl⟩
def madeR : Option Cel → IV
  | some c => .tup [.agg c.row, .int .i64 0]
  | none => .tup [.agg Cel.zero.row, .int .i64 7]
set_option maxRecDepth 20000 in
set_option maxHeartbeats 1000000 in
theorem made_c (preset : Int) (r : Rct) (size : Int) (ids : List Int) (h : Heap) (hr : r.may = true) (hne : ids ≠ []) (hl : ids.length ≤ 4096) :
    ICall Try.prog 71 [.int .u8 preset, .agg r.row, .int .i64 size, .list .plain (ids.map intRow)] h (retP (madeR (madeC preset r size ids)) h) := by
  refine icall_defer (fun d => if d = 8 then 1 else if d = 9 then 1 else 0) Try.func71 rfl (by kernel_rfl) (Nat.le_of_ble_eq_true rfl) ?_
  rw [Try.results71]
  simp -implicitDefEqProofs [go_sem]
  intro b8 hb8 b9 hb9
  have hnb : b8 ≠ b9 := fun e => by subst e; simp at hb9
  have hnb' : ¬ b9 = b8 := fun e => hnb e.symm
  have hb9' : h b9 = none := by rw [if_neg hnb'] at hb9; exact hb9
  have hsub : ∀ o1 o2 o3 o4, Sub h (upd (upd (upd (upd h b8 o1) b9 o2) b8 o3) b9 o4) := fun o1 o2 o3 o4 => ((((Sub.refl h).upd hb8 _).upd hb9' _).upd hb8 _).upd hb9' _
  refine cK_beq (fun k2 => ?_) (fun k2 => ?_)
  · have hm : madeC preset r size ids = lineC r 2 ids := by simp [madeC, k2]
    simp -implicitDefEqProofs [go_sem, hnb]
    refine (line_c r 2 ids _ hr (by omega) (by omega) (by omega)).mono ?_
    rintro e h' ⟨rfl, rfl⟩
    cases hof : lineC r 2 ids with
    | none =>
      simp -implicitDefEqProofs [go_sem, optE]
      refine (made1_full b8 b9 hnb zrowT rfl (.int .i64 0) _ (by simp [upd, hnb, zrowT]) (by simp [upd])).mono ?_
      rintro h1 rfl
      simp -implicitDefEqProofs [go_sem, zrowT, hnb, hnb']
      exact ⟨h, hsub _ _ _ _, by rw [hm, hof, madeR, Cel.zero_row], rfl⟩
    | some c =>
      simp -implicitDefEqProofs [go_sem, optE, hnb, hnb']
      refine (made1_none b8 b9 _).mono ?_
      rintro h1 rfl
      simp -implicitDefEqProofs [go_sem, hnb, hnb']
      exact ⟨h, hsub _ _ _ _, by rw [hm, hof, madeR], rfl⟩
  simp -implicitDefEqProofs [go_sem]
  refine cK_beq (fun k1 => ?_) (fun k1 => ?_)
  · have hm : madeC preset r size ids = lineC r 1 ids := by simp [madeC, k1]
    simp -implicitDefEqProofs [go_sem, hnb]
    refine (line_c r 1 ids _ hr (by omega) (by omega) (by omega)).mono ?_
    rintro e h' ⟨rfl, rfl⟩
    cases hof : lineC r 1 ids with
    | none =>
      simp -implicitDefEqProofs [go_sem, optE]
      refine (made1_full b8 b9 hnb zrowT rfl (.int .i64 0) _ (by simp [upd, hnb, zrowT]) (by simp [upd])).mono ?_
      rintro h1 rfl
      simp -implicitDefEqProofs [go_sem, zrowT, hnb, hnb']
      exact ⟨h, hsub _ _ _ _, by rw [hm, hof, madeR, Cel.zero_row], rfl⟩
    | some c =>
      simp -implicitDefEqProofs [go_sem, optE, hnb, hnb']
      refine (made1_none b8 b9 _).mono ?_
      rintro h1 rfl
      simp -implicitDefEqProofs [go_sem, hnb, hnb']
      exact ⟨h, hsub _ _ _ _, by rw [hm, hof, madeR], rfl⟩
  simp -implicitDefEqProofs [go_sem]
  refine cK_beq (fun k3 => ?_) (fun k3 => ?_)
  · have hm : madeC preset r size ids = mainC r 2 size ids := by simp [madeC, k3]
    simp -implicitDefEqProofs [go_sem, hnb]
    refine (main_c r 2 size ids _ hr (by omega) (by omega) hne (by omega)).mono ?_
    rintro e h' ⟨rfl, rfl⟩
    cases hof : mainC r 2 size ids with
    | none =>
      simp -implicitDefEqProofs [go_sem, optE]
      refine (made1_full b8 b9 hnb zrowT rfl (.int .i64 0) _ (by simp [upd, hnb, zrowT]) (by simp [upd])).mono ?_
      rintro h1 rfl
      simp -implicitDefEqProofs [go_sem, zrowT, hnb, hnb']
      exact ⟨h, hsub _ _ _ _, by rw [hm, hof, madeR, Cel.zero_row], rfl⟩
    | some c =>
      simp -implicitDefEqProofs [go_sem, optE, hnb, hnb']
      refine (made1_none b8 b9 _).mono ?_
      rintro h1 rfl
      simp -implicitDefEqProofs [go_sem, hnb, hnb']
      exact ⟨h, hsub _ _ _ _, by rw [hm, hof, madeR], rfl⟩
  simp -implicitDefEqProofs [go_sem]
  refine cK_beq (fun k4 => ?_) (fun k4 => ?_)
  · have hm : madeC preset r size ids = mainC r 1 size ids := by simp [madeC, k4]
    simp -implicitDefEqProofs [go_sem, hnb]
    refine (main_c r 1 size ids _ hr (by omega) (by omega) hne (by omega)).mono ?_
    rintro e h' ⟨rfl, rfl⟩
    cases hof : mainC r 1 size ids with
    | none =>
      simp -implicitDefEqProofs [go_sem, optE]
      refine (made1_full b8 b9 hnb zrowT rfl (.int .i64 0) _ (by simp [upd, hnb, zrowT]) (by simp [upd])).mono ?_
      rintro h1 rfl
      simp -implicitDefEqProofs [go_sem, zrowT, hnb, hnb']
      exact ⟨h, hsub _ _ _ _, by rw [hm, hof, madeR, Cel.zero_row], rfl⟩
    | some c =>
      simp -implicitDefEqProofs [go_sem, optE, hnb, hnb']
      refine (made1_none b8 b9 _).mono ?_
      rintro h1 rfl
      simp -implicitDefEqProofs [go_sem, hnb, hnb']
      exact ⟨h, hsub _ _ _ _, by rw [hm, hof, madeR], rfl⟩
  · have hm : madeC preset r size ids = tiledC r ids := by simp [madeC, k1, k2, k3, k4]
    simp -implicitDefEqProofs [go_sem, hnb]
    refine (tiled_c r ids _ hr hne hl).mono ?_
    rintro e h' ⟨rfl, rfl⟩
    cases hof : tiledC r ids with
    | none =>
      simp -implicitDefEqProofs [go_sem, optE]
      refine (made1_full b8 b9 hnb zrowT rfl (.int .i64 0) _ (by simp [upd, hnb, zrowT]) (by simp [upd])).mono ?_
      rintro h1 rfl
      simp -implicitDefEqProofs [go_sem, zrowT, hnb, hnb']
      exact ⟨h, hsub _ _ _ _, by rw [hm, hof, madeR, Cel.zero_row], rfl⟩
    | some c =>
      simp -implicitDefEqProofs [go_sem, optE, hnb, hnb']
      refine (made1_none b8 b9 _).mono ?_
      rintro h1 rfl
      simp -implicitDefEqProofs [go_sem, hnb, hnb']
      exact ⟨h, hsub _ _ _ _, by rw [hm, hof, madeR], rfl⟩
end Go.Proofs
