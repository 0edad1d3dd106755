/- This text is a part of the proofs of the statements of this seat: the ideal states and their rules, or what one of the functions that the statements reach comes to. Conditions: none beyond those that each theorem names. -/
import Derived.Test.YtfelioeeeimfeaaD4
set_option linter.unusedVariables false
set_option linter.unusedSimpArgs false
set_option pp.deepTerms false
set_option pp.maxSteps 400
namespace Go.Proofs
open Go.Idl

set_option maxRecDepth 20000 in
theorem sizeL_c (l : List Cel) (hs : Cel.sizes l < 100000000000) (ih : ∀ d ∈ l, ∀ h, ICall Try.prog 53 [.list .plain (d.kids.map Cel.row)] h (retP (.int .i64 (Cel.sizes d.kids)) h)) (h : Heap) :
    ICall Try.prog 53 [.list .plain (l.map Cel.row)] h (retP (.int .i64 (Cel.sizes l)) h) := by
  have hlen := Cel.len_le l
  refine icall_of_iwp (fun _ => 0) Try.func53 rfl (by kernel_rfl) (Nat.le_of_ble_eq_true rfl) ?_
  rw [Try.results53]
  simp -implicitDefEqProofs [go_sem]
  refine iwp_loopF (rng [3,5] 10 20) (fun k => k == 5) (fun s => ∃ i n : Nat, i ≤ l.length ∧ s.t 10 = .int .i64 i ∧ s.t 3 = .int .i64 n ∧ n + i = l.length + Cel.sizes (l.take i) ∧ s.h = h) (fun s => l.length - tn (s.t 10)) ?_ ?_
  · exact ⟨0, l.length, Nat.zero_le _, by simp -implicitDefEqProofs [go_sem], by simp -implicitDefEqProofs [go_sem], by simp [Cel.sizes], by simp -implicitDefEqProofs [go_sem]⟩
  rintro J s hJ hf ⟨i, n, hi, h10, h3, hn, hh⟩
  simp -implicitDefEqProofs [go_sem, h10, h3, hh, hf.t, hf.m]
  refine cK_dec (fun hlt => ?_) (fun hge => ?_)
  · have hg : l[i]? = some l[i] := List.getElem?_eq_getElem hlt
    have hw := wrap_succ (i := i) (by omega)
    have hst := Cel.sizes_take l i hlt
    have hle := Cel.sizes_le l (i + 1)
    have hse := l[i].size_eq
    have hw2 : IntKind.i64.wrap ((n : Int) + (Cel.sizes l[i].kids : Int)) = ((n + Cel.sizes l[i].kids : Nat) : Int) := by rw [wrap_in (by omega)]; rfl
    simp -implicitDefEqProofs [go_sem, h10, h3, hh, hf.t, hf.m, hlt, hg]
    refine (ih _ (List.getElem_mem hlt) h).mono ?_
    rintro e h' ⟨rfl, he⟩
    rw [he]
    simp -implicitDefEqProofs [go_sem, h10, h3, hh, hf.t, hf.m, hf, hlt, hg, hw, hw2]
    exact hJ _ ⟨i + 1, n + Cel.sizes l[i].kids, by omega, by simp -implicitDefEqProofs [go_sem, hw], by simp -implicitDefEqProofs [go_sem, hw2], by omega, by simp -implicitDefEqProofs [go_sem, hh]⟩ (by simp [go_sem, h10, hw]; omega)
  · obtain rfl : i = l.length := by omega
    rw [List.take_length] at hn
    obtain rfl : n = Cel.sizes l := by omega
    simp -implicitDefEqProofs [go_sem, h10, h3, hh, hf.t, hf.m]
    exact ⟨h, Sub.refl _, rfl, rfl⟩

theorem sizeK_c (c : Cel) : ∀ h, c.size < 100000000000 → ICall Try.prog 53 [.list .plain (c.kids.map Cel.row)] h (retP (.int .i64 (Cel.sizes c.kids)) h) := by
  induction c using Cel.induct
  rename_i c ih
  intro h hs
  rw [c.size_eq] at hs
  exact sizeL_c c.kids (by omega) (fun d hd h => ih d hd h (by have := Cel.mem_le hd; omega)) h

theorem size_c (c : Cel) (h : Heap) (hs : c.size < 100000000000) : ICall Try.prog 53 [.list .plain [c.row]] h (retP (.int .i64 c.size) h) := by
  have := sizeL_c [c] (by simpa [Cel.sizes] using hs) (fun d hd h => by simp at hd; subst hd; exact sizeK_c _ h hs) h
  have e : Cel.sizes [c] = c.size := by simp [Cel.sizes]
  rw [e] at this
  exact this

theorem tA_tiles : tA.tiles = true := by decide +kernel
theorem tA_ids : tA.ids = [0] := by decide +kernel
theorem wA_may : wA.may = true := by decide +kernel
theorem wB_may : wB.may = true := by decide +kernel
theorem wC_may : wC.may = true := by decide +kernel
theorem wB_ids : wB.tree.ids = [0, 1] := by decide +kernel

set_option maxRecDepth 20000 in
set_option maxHeartbeats 4000000 in
theorem splitLeaf_c (h : Heap) : ICall Try.prog 40 [.agg tA.row, .int .i64 0, .int .u8 1, .int .i64 0, .int .i64 1, .bool false] h (retP (.tup [.agg tC.row, .int .i64 0]) h) := by
  refine icall_of_iwp (fun _ => 0) Try.func40 rfl (by kernel_rfl) (Nat.le_of_ble_eq_true rfl) ?_
  rw [Try.results40]
  have hr : tA.r = rA := rfl
  have hrw : rA.w = 80 := rfl
  have hrx : rA.x = 0 := rfl
  have hry : rA.y = 0 := rfl
  simp -implicitDefEqProofs [go_sem]
  refine (tTiles_c tA h (by decide +kernel)).mono ?_
  rintro e h' ⟨rfl, he⟩
  rw [he, tA_tiles]
  simp -implicitDefEqProofs [go_sem]
  refine (cLeaves_c tA h (by decide +kernel)).mono ?_
  rintro e h' ⟨rfl, he⟩
  rw [he, tA_ids]
  simp -implicitDefEqProofs [go_sem]
  refine (contains_c [0] 1 h (by simp)).mono ?_
  rintro e h' ⟨rfl, he⟩
  rw [he]
  simp -implicitDefEqProofs [go_sem]
  refine (findLeaf_c tA 0 h rfl rfl).mono ?_
  rintro e h' ⟨rfl, he⟩
  rw [he]
  simp -implicitDefEqProofs [go_sem]
  refine (at0_c tA h (by decide +kernel)).mono ?_
  rintro e h' ⟨rfl, he⟩
  rw [he]
  simp -implicitDefEqProofs [go_sem, hr]
  refine (lsize_c rA h).mono ?_
  rintro e h' ⟨rfl, he⟩
  rw [he]
  simp -implicitDefEqProofs [go_sem, hrw]
  refine iwp_drawn_alloc mixed 11 [0, 1, 2, 3, 4, 5, 6, 7, 8, 9, 10, 12] (by kernel_rfl) ?_
  simp -implicitDefEqProofs [go_sem]
  refine ⟨_, two_c h, ?_⟩
  simp -implicitDefEqProofs [go_sem]
  refine ⟨_, join_c h, ?_⟩
  simp -implicitDefEqProofs [go_sem]
  refine (size_c tB h (by decide +kernel)).mono ?_
  rintro e h' ⟨rfl, he⟩
  have hsz : tB.size = 3 := by decide +kernel
  rw [he, hsz]
  simp -implicitDefEqProofs [go_sem, hr, hrx, hry]
  refine (set_c tB 0 0 h (by decide +kernel)).mono ?_
  rintro e h' ⟨rfl, he⟩
  rw [he]
  simp -implicitDefEqProofs [go_sem]
  exact ⟨h, Sub.refl _, rfl, rfl⟩

theorem wset_c (w : Wn) (c : Cel) (b : Nat) (h : Heap) (hb : h b = some (.cells w.row)) : ICall Try.prog 41 [.ptr b 0, .agg c.row, .int .i64 0] h (retP (.int .i64 0) (upd h b (some (.cells (Wn.mk c w.act w.z).row)))) := by
  refine icall_of_iwp (fun _ => 0) Try.func41 rfl (by kernel_rfl) (Nat.le_of_ble_eq_true rfl) ?_
  rw [Try.results41]
  simp -implicitDefEqProofs [go_sem, hb]
  exact ⟨_, Sub.refl _, rfl, rfl⟩

set_option maxRecDepth 20000 in
set_option maxHeartbeats 4000000 in
theorem split1_c (b q1 q2 q3 q4 q5 : Nat) (h : Heap) (hbn : h b = none) (h1 : h q1 = some (.cells [.int .i64 0])) (h2 : h q2 = some (.cells [.int .u8 1])) (h3 : h q3 = some (.cells [.int .i64 0])) (h4 : h q4 = some (.cells [.int .i64 1])) (h5 : h q5 = some (.cells [.bool false])) :
    ICall Try.prog 39 [.ptr b 0, .ptr q1 0, .ptr q2 0, .ptr q3 0, .ptr q4 0, .ptr q5 0] (upd h b (some (.cells (Wn.mk tA 0 false).row))) (retP (.int .i64 0) (upd h b (some (.cells wB.row)))) := by
  have n1 : q1 ≠ b := by rintro rfl; rw [hbn] at h1; cases h1
  have n2 : q2 ≠ b := by rintro rfl; rw [hbn] at h2; cases h2
  have n3 : q3 ≠ b := by rintro rfl; rw [hbn] at h3; cases h3
  have n4 : q4 ≠ b := by rintro rfl; rw [hbn] at h4; cases h4
  have n5 : q5 ≠ b := by rintro rfl; rw [hbn] at h5; cases h5
  refine icall_of_iwp (fun _ => 0) Try.func39 rfl (by kernel_rfl) (Nat.le_of_ble_eq_true rfl) ?_
  rw [Try.results39]
  simp -implicitDefEqProofs [go_sem]
  refine iwp_drawn_alloc mixed 13 [0, 1, 2, 3, 4, 5, 6, 7, 8, 9, 10, 11, 12, 14, 15] (by kernel_rfl) ?_
  simp -implicitDefEqProofs [go_sem, h1, h2, h3, h4, h5, n1, n2, n3, n4, n5]
  refine ⟨_, splitLeaf_c _, ?_⟩
  simp -implicitDefEqProofs [go_sem, h1, h2, h3, h4, h5, n1, n2, n3, n4, n5]
  refine (wset_c ⟨tA, 1, false⟩ tC b _ (by simp [upd])).mono ?_
  rintro e h' ⟨rfl, he⟩
  rw [he]
  simp -implicitDefEqProofs [go_sem]
  exact ⟨_, Sub.refl _, rfl, rfl⟩
end Go.Proofs
