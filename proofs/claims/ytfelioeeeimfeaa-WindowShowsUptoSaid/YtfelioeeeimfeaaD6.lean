/- This text is a part of the proofs of the statements of this seat: the ideal states and their rules, or what one of the functions that the statements reach comes to. Conditions: none beyond those that each theorem names. -/
import Derived.Test.YtfelioeeeimfeaaD5
set_option linter.unusedVariables false
set_option linter.unusedSimpArgs false
set_option pp.deepTerms false
set_option pp.maxSteps 400
namespace Go.Proofs
open Go.Idl

theorem upd_old {h : Heap} {q b : Nat} {x : IObj} (hq : h q = some x) (hb : h b = none) {o : Option IObj} : upd h b o q = some x := by
  have : q ≠ b := by rintro rfl; rw [hb] at hq; cases hq
  simp [upd, this, hq]

theorem new_c (h : Heap) : ICall Try.prog 19 [.int .i64 80, .int .i64 24, .int .i64 0] h (retP (.tup [.agg wA.row, .int .i64 0]) h) := by
  refine icall_of_iwp (fun _ => 0) Try.func19 rfl (by kernel_rfl) (Nat.le_of_ble_eq_true rfl) ?_
  rw [Try.results19]
  have hrow : [IV.int .i64 0, .int .i64 0, .int .i64 80, .int .i64 24] = rA.row := rfl
  have hrow2 : tA.row ++ [IV.int .i64 0, .bool false] = wA.row := rfl
  simp -implicitDefEqProofs [go_sem]
  rw [hrow]
  refine (leaf_c rA 0 h).mono ?_
  rintro e h' ⟨rfl, he⟩
  rw [he, show Cel.mk 1 rA 0 [] = tA from rfl]
  simp -implicitDefEqProofs [go_sem, hrow2]
  refine (wmay_c wA h (by decide +kernel)).mono ?_
  rintro e h' ⟨rfl, he⟩
  rw [he, wA_may]
  simp -implicitDefEqProofs [go_sem]
  exact ⟨h, Sub.refl _, rfl, rfl⟩

set_option maxRecDepth 20000 in
set_option maxHeartbeats 4000000 in
theorem split_c (h : Heap) : ICall Try.prog 20 [.agg wA.row, .int .i64 0, .int .u8 1, .int .i64 0, .int .i64 1, .bool false] h (retP (.tup [.agg wB.row, .int .i64 0]) h) := by
  refine icall_of_iwp (fun d => if d = 7 ∨ d = 8 ∨ d = 9 ∨ d = 10 ∨ d = 11 then 1 else 0) Try.func20 rfl (by kernel_rfl) (Nat.le_of_ble_eq_true rfl) ?_
  rw [Try.results20]
  simp -implicitDefEqProofs [go_sem]
  intro q1 e1 q2 e2 q3 e3 q4 e4 q5 e5
  have E2 : upd h q1 (some (.cells [.int .i64 0])) q2 = none := e2
  have a1 : upd h q1 (some (.cells [.int .i64 0])) q1 = some (.cells [.int .i64 0]) := by simp [upd]
  have s1 : Sub h (upd h q1 (some (.cells [.int .i64 0]))) := (Sub.refl _).upd e1 _
  have E3 : upd (upd h q1 (some (.cells [.int .i64 0]))) q2 (some (.cells [.int .u8 1])) q3 = none := e3
  have E4 : upd (upd (upd h q1 (some (.cells [.int .i64 0]))) q2 (some (.cells [.int .u8 1]))) q3 (some (.cells [.int .i64 0])) q4 = none := e4
  have E5 : upd (upd (upd (upd h q1 (some (.cells [.int .i64 0]))) q2 (some (.cells [.int .u8 1]))) q3 (some (.cells [.int .i64 0]))) q4 (some (.cells [.int .i64 1])) q5 = none := e5
  clear e2 e3 e4 e5
  generalize upd h q1 (some (.cells [.int .i64 0])) = H1 at *
  have b1 := upd_old a1 E2 (o := some (.cells [.int .u8 1]))
  have b2 : upd H1 q2 (some (.cells [.int .u8 1])) q2 = some (.cells [.int .u8 1]) := by simp [upd]
  have s2 := s1.upd' E2 (some (.cells [.int .u8 1]))
  clear a1 s1 E2
  generalize upd H1 q2 (some (.cells [.int .u8 1])) = H2 at *
  have c1 := upd_old b1 E3 (o := some (.cells [.int .i64 0]))
  have c2 := upd_old b2 E3 (o := some (.cells [.int .i64 0]))
  have c3 : upd H2 q3 (some (.cells [.int .i64 0])) q3 = some (.cells [.int .i64 0]) := by simp [upd]
  have s3 := s2.upd' E3 (some (.cells [.int .i64 0]))
  clear b1 b2 s2 E3
  generalize upd H2 q3 (some (.cells [.int .i64 0])) = H3 at *
  have d1 := upd_old c1 E4 (o := some (.cells [.int .i64 1]))
  have d2 := upd_old c2 E4 (o := some (.cells [.int .i64 1]))
  have d3 := upd_old c3 E4 (o := some (.cells [.int .i64 1]))
  have d4 : upd H3 q4 (some (.cells [.int .i64 1])) q4 = some (.cells [.int .i64 1]) := by simp [upd]
  have s4 := s3.upd' E4 (some (.cells [.int .i64 1]))
  clear c1 c2 c3 s3 E4
  generalize upd H3 q4 (some (.cells [.int .i64 1])) = H4 at *
  have f1 := upd_old d1 E5 (o := some (.cells [.bool false]))
  have f2 := upd_old d2 E5 (o := some (.cells [.bool false]))
  have f3 := upd_old d3 E5 (o := some (.cells [.bool false]))
  have f4 := upd_old d4 E5 (o := some (.cells [.bool false]))
  have f5 : upd H4 q5 (some (.cells [.bool false])) q5 = some (.cells [.bool false]) := by simp [upd]
  have s5 := s4.upd' E5 (some (.cells [.bool false]))
  clear d1 d2 d3 d4 s4 E5
  generalize upd H4 q5 (some (.cells [.bool false])) = H5 at *
  refine (changed_c wA 39 [.ptr q1 0, .ptr q2 0, .ptr q3 0, .ptr q4 0, .ptr q5 0] wB 0 H5 (by decide +kernel) (fun _ b hb => split1_c b q1 q2 q3 q4 q5 H5 hb f1 f2 f3 f4 f5)).mono ?_
  rintro e h' ⟨rfl, he⟩
  rw [he, chgV, if_pos wA_may, if_pos rfl]
  simp -implicitDefEqProofs [go_sem]
  exact ⟨h, s5, rfl, rfl⟩

def zoomedR (w : Wn) : List (List IV) := [(Pn.mk w.act w.tree.r).row]

set_option maxRecDepth 20000 in
theorem shownC_c (h : Heap) : ICall Try.prog 10 [.agg wC.row] h (retP (.list .plain [(Pn.mk 1 rA).row]) h) := by
  refine icall_of_iwp (fun _ => 0) Try.func10 rfl (by kernel_rfl) (Nat.le_of_ble_eq_true rfl) ?_
  rw [Try.results10]
  have hz : wC.z = true := rfl
  have ha : wC.act = 1 := rfl
  have hr : wC.tree.r = rA := rfl
  simp -implicitDefEqProofs [go_sem]
  refine (wmay_c wC h (by decide +kernel)).mono ?_
  rintro e h' ⟨rfl, he⟩
  rw [he, wC_may]
  simp -implicitDefEqProofs [go_sem, hz, ha, hr]
  exact ⟨h, Sub.refl _, rfl, rfl⟩

theorem eqI_pn (a b : Pn) (n : Nat) : eqI Try.prog (n + 3) 43 (.agg a.row) (.agg b.row) = some (decide (a.id = b.id) && decide (a.r = b.r)) := by
  have := eqI_rct a.r b.r n
  simp [eqI, eqFs, prt, Try.underlying43, Try.underlying3, stood_43, aggT_3, szT_3, aggT_23, szT_23, Pn.row, Rct.row, stood_23, Try.underlying23, Bool.decide_and] at this ⊢
  rw [this]
  congr 1
@[go_sem high] theorem eqI_pn' (a b : Pn) : eqI Try.prog 10000 43 (.agg a.row) (.agg b.row) = some (decide (a.id = b.id) && decide (a.r = b.r)) := eqI_pn a b 9997

theorem sameP_c (l : List Pn) (h : Heap) (hl : l.length < 100000000000) : ICall Try.prog 21 [.list .plain (l.map Pn.row), .list .plain (l.map Pn.row)] h (retP (.bool true) h) := by
  refine icall_of_iwp (fun _ => 0) Try.func21 rfl (by kernel_rfl) (Nat.le_of_ble_eq_true rfl) ?_
  rw [Try.results21]
  simp -implicitDefEqProofs [go_sem]
  refine iwp_loopF (rng [4,5] 13 26) nom (fun s => ∃ i : Nat, i ≤ l.length ∧ s.t 13 = .int .i64 i ∧ s.h = h) (fun s => l.length - tn (s.t 13)) ?_ ?_
  · exact ⟨0, Nat.zero_le _, by simp -implicitDefEqProofs [go_sem], by simp -implicitDefEqProofs [go_sem]⟩
  rintro J s hJ hf ⟨i, hi, h13, hh⟩
  simp -implicitDefEqProofs [go_sem, h13, hh, hf.t, hf.m]
  refine cK_dec (fun hlt => ?_) (fun hge => ?_)
  · have hg : l[i]? = some l[i] := List.getElem?_eq_getElem hlt
    have hw := wrap_succ (i := i) (by omega)
    simp -implicitDefEqProofs [go_sem, h13, hh, hf.t, hf.m, hlt, hg]
    refine iwp_drawn_of mixed [0, 1, 2, 3, 4, 5, 6, 7, 8] (by kernel_rfl) ?_
    simp -implicitDefEqProofs [go_sem, h13, hh, hf.t, hf.m, hlt, hg, hf, hw]
    exact hJ _ ⟨i + 1, by omega, by simp -implicitDefEqProofs [go_sem, hw], by simp -implicitDefEqProofs [go_sem, hh]⟩ (by simp [go_sem, h13, hw]; omega)
  · simp -implicitDefEqProofs [go_sem, h13, hh, hf.t, hf.m]
    exact ⟨h, Sub.refl _, rfl, rfl⟩

set_option maxRecDepth 20000 in
set_option maxHeartbeats 4000000 in
theorem awake18_c (h : Heap) : ICall Try.prog 6 [] h (retP (.bool true) h) := by
  refine icall_of_iwp (fun _ => 0) Try.func6 rfl (by kernel_rfl) (Nat.le_of_ble_eq_true rfl) ?_
  rw [Try.results6]
  have hact : wB.act = 1 := rfl
  have hz : chgV wB (zomW wB wB.z 1) (zomE wB 1) = .tup [.agg wC.row, .int .i64 0] := by
    have h1 : zomE wB 1 = 0 := by decide +kernel
    have h2 : zomW wB wB.z 1 = wC := by rw [zomW, if_pos h1]; rfl
    rw [chgV, if_pos wB_may, if_pos h1, h2]
  have hrow : [IV.int .i64 1, .int .i64 0, .int .i64 0, .int .i64 80, .int .i64 24] = (Pn.mk 1 rA).row := rfl
  simp -implicitDefEqProofs [go_sem]
  refine (new_c h).mono ?_
  rintro e h' ⟨rfl, he⟩
  rw [he]
  simp -implicitDefEqProofs [go_sem]
  refine (split_c h).mono ?_
  rintro e h' ⟨rfl, he⟩
  rw [he]
  simp -implicitDefEqProofs [go_sem]
  refine (zoom_c wB 1 h (by decide +kernel)).mono ?_
  rintro e h' ⟨rfl, he⟩
  rw [he, hz]
  simp -implicitDefEqProofs [go_sem, hact]
  refine (shownC_c h).mono ?_
  rintro e h' ⟨rfl, he⟩
  rw [he]
  simp -implicitDefEqProofs [go_sem, hact, hrow]
  refine (sameP_c [⟨1, rA⟩] h (by simp)).mono ?_
  rintro e h' ⟨rfl, he⟩
  rw [he]
  simp -implicitDefEqProofs [go_sem]
  exact ⟨h, Sub.refl _, rfl, rfl⟩
end Go.Proofs
