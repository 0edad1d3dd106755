/- This text is a part of the proofs of the statements of this seat: the ideal states and their rules, or what one of the functions that the statements reach comes to. Conditions: none beyond those that each theorem names. -/
import Derived.Test.YtfelioeeeimfeaaD2
set_option linter.unusedVariables false
set_option linter.unusedSimpArgs false
set_option pp.deepTerms false
set_option pp.maxSteps 400
namespace Go.Proofs
open Go.Idl

theorem _root_.Go.Idl.Sub.upd' {h h2 : Heap} (hs : Sub h h2) {b : Nat} (hb : h2 b = none) (o : Option IObj) : Sub h (upd h2 b o) := by
  intro b' o' hb'
  have h1 := hs b' o' hb'
  have hne : b' ≠ b := by rintro rfl; rw [hb] at h1; cases h1
  simp [upd, hne, h1]

def idxF (l : List Int) (x : Int) (h : Heap) (e : IEnd) (h' : Heap) : Prop := h' = h ∧ ((x ∉ l ∧ e = .ret (.int .i64 (-1))) ∨ ∃ (i : Nat) (hi : i < l.length), l[i] = x ∧ e = .ret (.int .i64 i))
theorem indexF_c (l : List Int) (x : Int) (h : Heap) (hl : l.length < 100000000000) :
    ICall Try.prog 55 [.list .plain (l.map intRow), .int .i64 x] h (idxF l x h) := by
  refine icall_of_iwp (fun _ => 0) Try.func55 rfl (by kernel_rfl) (Nat.le_of_ble_eq_true rfl) ?_
  rw [Try.results55]
  simp -implicitDefEqProofs [go_sem]
  refine iwp_loopF (rng [4,5] 8 18) nom (fun s => ∃ i : Nat, i ≤ l.length ∧ s.t 8 = .int .i64 i ∧ x ∉ l.take i ∧ s.h = h) (fun s => l.length - tn (s.t 8)) ?_ ?_
  · exact ⟨0, Nat.zero_le _, by simp -implicitDefEqProofs [go_sem], by simp, by simp -implicitDefEqProofs [go_sem]⟩
  rintro J s hJ hf ⟨i, hi, h8, hnx, hh⟩
  simp -implicitDefEqProofs [go_sem, h8, hh, hf.t, hf.m]
  refine cK_dec (fun hlt => ?_) (fun hge => ?_)
  · have hg : l[i]? = some l[i] := List.getElem?_eq_getElem hlt
    have hw := wrap_succ (i := i) (by omega)
    simp -implicitDefEqProofs [go_sem, h8, hh, hf.t, hf.m, hlt, hg]
    refine cK_beq (fun k1 => ?_) (fun k1 => ?_) <;> simp -implicitDefEqProofs [go_sem, h8, hh, hf.t, hf.m, hf, hw]
    · exact ⟨h, Sub.refl _, rfl, .inr ⟨i, hlt, k1.symm, rfl⟩⟩
    · refine hJ _ ⟨i + 1, by omega, by simp -implicitDefEqProofs [go_sem, hw], ?_, by simp -implicitDefEqProofs [go_sem, hh]⟩ (by simp [go_sem, h8, hw]; omega)
      rw [List.take_add_one, hg]
      simp only [List.mem_append, not_or]
      exact ⟨hnx, by simp; exact k1⟩
  · simp -implicitDefEqProofs [go_sem, h8, hh, hf.t, hf.m]
    rw [List.take_of_length_le (by omega)] at hnx
    exact ⟨h, Sub.refl _, rfl, .inl ⟨hnx, rfl⟩⟩

theorem contains_c (l : List Int) (x : Int) (h : Heap) (hl : l.length < 100000000000) :
    ICall Try.prog 42 [.list .plain (l.map intRow), .int .i64 x] h (retP (.bool (decide (x ∈ l))) h) := by
  refine icall_of_iwp (fun _ => 0) Try.func42 rfl (by kernel_rfl) (Nat.le_of_ble_eq_true rfl) ?_
  rw [Try.results42]
  simp -implicitDefEqProofs [go_sem]
  refine (indexF_c l x h hl).mono ?_
  rintro e h' ⟨rfl, ⟨hn, rfl⟩ | ⟨i, hi, hx, rfl⟩⟩
  · simp -implicitDefEqProofs [go_sem]
    exact ⟨h', Sub.refl _, by rw [decide_eq_false hn], rfl⟩
  · have h0 : (0 : Int) ≤ (i : Int) := by omega
    simp -implicitDefEqProofs [go_sem, h0]
    exact ⟨h', Sub.refl _, by rw [decide_eq_true (hx ▸ List.getElem_mem hi)], rfl⟩

theorem idsz_le (c : Cel) : c.ids.length ≤ c.size := by
  have h1 := Cel.all_length c
  rw [Cel.ids, List.length_map, Cel.leaves]
  have := List.length_filter_le (fun d => d.kind == 1) c.all
  omega

theorem has_c (w : Wn) (id : Int) (b : Nat) (h : Heap) (hb : h b = some (.cells w.row)) (hs : w.tree.size < 100000000) :
    ICall Try.prog 24 [.ptr b 0, .int .i64 id] h (retP (.bool (decide (id ∈ w.tree.ids))) h) := by
  have hl := idsz_le w.tree
  refine icall_of_iwp (fun _ => 0) Try.func24 rfl (by kernel_rfl) (Nat.le_of_ble_eq_true rfl) ?_
  rw [Try.results24]
  simp -implicitDefEqProofs [go_sem, hb]
  refine (cLeaves_c w.tree h (by omega)).mono ?_
  rintro e h' ⟨rfl, he⟩
  rw [he]
  simp -implicitDefEqProofs [go_sem, hb]
  refine (contains_c w.tree.ids id h (by omega)).mono ?_
  rintro e h' ⟨rfl, he⟩
  rw [he]
  simp -implicitDefEqProofs [go_sem, hb]
  exact ⟨h, Sub.refl _, rfl, rfl⟩

set_option maxRecDepth 20000 in
theorem wmay_c (w : Wn) (h : Heap) (hs : w.tree.size < 100000000) : ICall Try.prog 25 [.agg w.row] h (retP (.bool w.may) h) := by
  have hl := idsz_le w.tree
  refine icall_of_iwp (fun _ => 0) Try.func25 rfl (by kernel_rfl) (Nat.le_of_ble_eq_true rfl) ?_
  rw [Try.results25]
  simp -implicitDefEqProofs [go_sem]
  refine (cLeaves_c w.tree h (by omega)).mono ?_
  rintro e h' ⟨rfl, he⟩
  rw [he]
  simp -implicitDefEqProofs [go_sem]
  refine (tTiles_c w.tree h (by omega)).mono ?_
  rintro e h' ⟨rfl, he⟩
  rw [he]
  cases ht : w.tree.tiles with
  | false =>
    have hm : w.may = false := by simp [Wn.may, ht]
    simp -implicitDefEqProofs [go_sem]
    exact ⟨h, Sub.refl _, by rw [hm], rfl⟩
  | true =>
    by_cases hx : w.tree.r.x = 0
    · by_cases hy : w.tree.r.y = 0
      · simp -implicitDefEqProofs [go_sem, hx, hy]
        refine (contains_c w.tree.ids w.act h (by omega)).mono ?_
        rintro e h' ⟨rfl, he⟩
        rw [he]
        by_cases ha : w.act ∈ w.tree.ids
        · cases hz : w.z with
          | false =>
            have hm : w.may = true := by simp [Wn.may, ht, hx, hy, ha, hz]
            simp -implicitDefEqProofs [go_sem, ha, hz]
            exact ⟨h, Sub.refl _, by rw [hm], rfl⟩
          | true =>
            have hm : w.may = decide (1 < w.tree.ids.length) := by simp [Wn.may, ht, hx, hy, ha, hz]
            simp -implicitDefEqProofs [go_sem, ha, hz]
            refine ⟨h, Sub.refl _, by rw [hm]; congr 1; simp; try omega, rfl⟩
        · have hm : w.may = false := by simp [Wn.may, ha]
          simp -implicitDefEqProofs [go_sem, ha]
          exact ⟨h, Sub.refl _, by rw [hm], rfl⟩
      · have hm : w.may = false := by simp [Wn.may, hy]
        have hyb : (w.tree.r.y == 0) = false := by simpa using hy
        simp -implicitDefEqProofs [go_sem, hx, hyb]
        exact ⟨h, Sub.refl _, by rw [hm], rfl⟩
    · have hm : w.may = false := by simp [Wn.may, hx]
      have hxb : (w.tree.r.x == 0) = false := by simpa using hx
      simp -implicitDefEqProofs [go_sem, hxb]
      exact ⟨h, Sub.refl _, by rw [hm], rfl⟩

def chgV (w w2 : Wn) (er : Int) : IV := if w.may = true then (if er = 0 then .tup [.agg w2.row, .int .i64 0] else .tup [.agg w.row, .int .i64 er]) else .tup [.agg w.row, .int .i64 1]

set_option maxRecDepth 20000 in
theorem changed_c (w : Wn) (f : FuncId) (cap : List IV) (w2 : Wn) (er : Int) (h : Heap) (hs : w.tree.size < 100000000)
    (hf : w.may = true → ∀ b, h b = none → ICall Try.prog f (.ptr b 0 :: cap) (upd h b (some (.cells (Wn.mk w.tree w.act false).row))) (retP (.int .i64 er) (upd h b (some (.cells w2.row))))) :
    ICall Try.prog 22 [.agg w.row, .fn (.func f) [] cap] h (retP (chgV w w2 er) h) := by
  refine icall_of_iwp (fun d => if d = 6 then 1 else 0) Try.func22 rfl (by kernel_rfl) (Nat.le_of_ble_eq_true rfl) ?_
  rw [Try.results22]
  simp -implicitDefEqProofs [go_sem]
  refine (wmay_c w h hs).mono ?_
  rintro e h' ⟨rfl, he⟩
  rw [he]
  cases hm : w.may with
  | false =>
    simp -implicitDefEqProofs [go_sem]
    exact ⟨h, Sub.refl _, by rw [chgV, if_neg (by rw [hm]; simp)], rfl⟩
  | true =>
    simp -implicitDefEqProofs [go_sem]
    intro b hb
    refine (hf hm b hb).mono ?_
    rintro e h' ⟨rfl, he⟩
    rw [he]
    by_cases her : er = 0
    · subst her
      simp -implicitDefEqProofs [go_sem]
      exact ⟨h, (Sub.refl _).upd hb _, by rw [chgV, if_pos hm, if_pos rfl], rfl⟩
    · have hb1 : (er != 0) = true := by simpa using her
      simp -implicitDefEqProofs [go_sem, hb1]
      exact ⟨h, (Sub.refl _).upd hb _, by rw [chgV, if_pos hm, if_neg her], rfl⟩

def zomE (w : Wn) (id : Int) : Int := if id ∈ w.tree.ids then (if w.tree.kind = 1 then 10 else 0) else 6
def zomW (w : Wn) (z : Bool) (id : Int) : Wn := if zomE w id = 0 then ⟨w.tree, id, !z || decide (w.act ≠ id)⟩ else ⟨w.tree, w.act, false⟩

set_option maxRecDepth 20000 in
theorem zoom1_c (w : Wn) (z : Bool) (id : Int) (b qi qz : Nat) (h : Heap) (hs : w.tree.size < 100000000) (hi : h qi = some (.cells [.int .i64 id])) (hz : h qz = some (.cells [.bool z])) (hbn : h b = none) :
    ICall Try.prog 23 [.ptr b 0, .ptr qi 0, .ptr qz 0] (upd h b (some (.cells (Wn.mk w.tree w.act false).row))) (retP (.int .i64 (zomE w id)) (upd h b (some (.cells (zomW w z id).row)))) := by
  have hbi : qi ≠ b := by rintro rfl; rw [hbn] at hi; cases hi
  have hbz : qz ≠ b := by rintro rfl; rw [hbn] at hz; cases hz
  refine icall_of_iwp (fun _ => 0) Try.func23 rfl (by kernel_rfl) (Nat.le_of_ble_eq_true rfl) ?_
  rw [Try.results23]
  simp -implicitDefEqProofs [go_sem, hi, hz, hbi, hbz]
  refine (has_c ⟨w.tree, w.act, false⟩ id b _ (by simp [upd]) hs).mono ?_
  rintro e h' ⟨rfl, he⟩
  rw [he]
  by_cases hm : id ∈ w.tree.ids
  · simp -implicitDefEqProofs [go_sem, hm]
    refine cK_beq (fun hk => ?_) (fun hk => ?_) <;> simp -implicitDefEqProofs [go_sem, hi, hz, hbi, hbz]
    · have h1 : zomE w id = 10 := by rw [zomE, if_pos hm, if_pos hk]
      exact ⟨_, Sub.refl _, by rw [h1], by rw [zomW, h1, if_neg (by omega)]⟩
    · have h1 : zomE w id = 0 := by rw [zomE, if_pos hm, if_neg hk]
      have h2 : zomW w z id = ⟨w.tree, id, !z || decide (w.act ≠ id)⟩ := by rw [zomW, if_pos h1]
      refine iwp_drawn_of mixed [0, 1, 2, 3, 4, 5, 6, 7, 8, 9, 10, 11, 12, 13] (by kernel_rfl) ?_
      cases z with
      | false =>
        simp -implicitDefEqProofs [go_sem, hi, hz, hbi, hbz]
        exact ⟨_, Sub.refl _, by rw [h1], by rw [h2]; funext j; simp only [upd]; split <;> simp⟩
      | true =>
        simp -implicitDefEqProofs [go_sem, hi, hz, hbi, hbz]
        refine ⟨_, Sub.refl _, by rw [h1], ?_⟩
        rw [h2]; funext j; simp only [upd]; split
        · congr 3
          simp [bne]
          rw [Bool.eq_iff_iff]; simp
        · rfl
  · simp -implicitDefEqProofs [go_sem, hm]
    have h1 : zomE w id = 6 := by rw [zomE, if_neg hm]
    exact ⟨_, Sub.refl _, by rw [h1], by rw [zomW, h1, if_neg (by omega)]⟩

theorem zoom_c (w : Wn) (id : Int) (h : Heap) (hs : w.tree.size < 100000000) :
    ICall Try.prog 7 [.agg w.row, .int .i64 id] h (retP (chgV w (zomW w w.z id) (zomE w id)) h) := by
  refine icall_of_iwp (fun d => if d = 3 then 1 else if d = 6 then 1 else 0) Try.func7 rfl (by kernel_rfl) (Nat.le_of_ble_eq_true rfl) ?_
  rw [Try.results7]
  simp -implicitDefEqProofs [go_sem]
  intro qi hqi qz hqz
  have hne : qi ≠ qz := by rintro rfl; simp [upd] at hqz
  refine (changed_c w 23 [.ptr qi 0, .ptr qz 0] (zomW w w.z id) (zomE w id) _ hs (fun _ b hb => zoom1_c w w.z id b qi qz _ hs (by simp [upd, hne]) (by simp [upd]) hb)).mono ?_
  rintro e h' ⟨rfl, he⟩
  rw [he, chgV]
  have hsub : Sub h (upd (upd h qi (some (.cells [.int .i64 id]))) qz (some (.cells [.bool w.z]))) := ((Sub.refl _).upd hqi _).upd' hqz _
  by_cases hm : w.may = true
  · by_cases her : zomE w id = 0
    · rw [if_pos hm, if_pos her]
      simp -implicitDefEqProofs [go_sem]
      exact ⟨h, hsub, rfl, rfl⟩
    · rw [if_pos hm, if_neg her]
      simp -implicitDefEqProofs [go_sem]
      exact ⟨h, hsub, rfl, rfl⟩
  · rw [if_neg hm]
    simp -implicitDefEqProofs [go_sem]
    exact ⟨h, hsub, rfl, rfl⟩
end Go.Proofs
