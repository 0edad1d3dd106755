/- This text is a part of the proofs of the statements of this seat: the ideal states and their rules, or what one of the functions that the statements reach comes to. Conditions: none beyond those that each theorem names. -/
import Derived.Test.YtkadknkpgogfjaaGreatT5
set_option linter.unusedVariables false
set_option linter.unusedSimpArgs false
set_option pp.deepTerms false
set_option pp.maxSteps 400
namespace Go.Proofs
open Go.Idl

/-! where a pane stands -/
structure WinOk (R : RG) : Prop where
  hin : ∀ p ∈ R.win, inR p.1
  was : (R.win.map (·.1)).Pairwise (· < ·)
  hn : R.win.length < 100000000
  sz : ∀ p ∈ R.win, p.2.tree.size < 100000000
def ownOf (R : RG) (id : Int) : Int := match R.own.find? fun a => a.1 == id with | some a => a.2 | none => 0
def findP (R : RG) (pane : Int) : Option (Int × Wn) := R.win.find? fun p => decide (pane ∈ p.2.tree.ids)
def findV (R : RG) (pane : Int) : IV := match findP R pane with | some p => .tup [.agg (plR (ownOf R p.1) p.1 pane), .bool true] | none => .tup [.agg (plR 0 0 0), .bool false]
attribute [go_sem] fieldT prt
set_option maxRecDepth 20000 in
theorem find21_c {k tag h rb R} (hR : RegAt k tag h rb R) (o : WinOk R) (pane : Int) : ICall Tryz.prog 11 [.ptr rb 0, .int .i64 pane] h (retP (findV R pane) h) := by
  refine icall_of_iwp (fun _ => 0) Tryz.func11 rfl (by kernel_rfl) (Nat.le_of_ble_eq_true rfl) ?_
  rw [Tryz.results11]
  have h1 := hR.hr
  have h2 := hR.hwin
  have h3 := hR.hown
  rw [RG.winE_k] at h2
  rw [RG.ownE_k] at h3
  simp -implicitDefEqProofs [go_sem]
  refine (windows_c hR o.hin (by have := o.hn; omega)).mono ?_
  rintro e h' ⟨rfl, rfl⟩
  rw [sortL_asc o.was]
  simp -implicitDefEqProofs [go_sem]
  refine iwp_loopF (rng [4,5,7] 11 37) (fun k => k == 4) (fun s => ∃ i, i ≤ R.win.length ∧ s.t 11 = .int .i64 i ∧ s.h = h' ∧ s.t 4 = .loc 4 0 0 ∧ s.m 4 = some (0, [.int .i64 0, .int .i64 0, .int .i64 0]) ∧ ∀ j (hj : j < R.win.length), j < i → pane ∉ R.win[j].2.tree.ids) (fun s => R.win.length - tn (s.t 11)) ?_ ?_
  · exact ⟨0, Nat.zero_le _, by simp -implicitDefEqProofs [go_sem], by simp -implicitDefEqProofs [go_sem], by simp -implicitDefEqProofs [go_sem], by simp -implicitDefEqProofs [go_sem], fun _ _ h => by omega⟩
  rintro J s hJ hf ⟨i, hi, h11, hh, h4, hm4, hno⟩
  simp -implicitDefEqProofs [go_sem, h11, hh, hf.t, hf.m]
  refine cK_dec (fun hlt => ?_) (fun hge => ?_)
  · have hlt' : i < R.win.length := by omega
    have hgi : R.win[i]? = some R.win[i] := List.getElem?_eq_getElem hlt'
    have hw := wrap_succ (i := i) (by have := o.hn; omega)
    have hq := ifind_k (·.1) (fun p : Int × Wn => IV.agg p.2.row) R.win[i].1 R.win
    have hnd : (R.win.map (·.1)).Nodup := o.was.imp fun h => by omega
    rw [find_key hnd hgi] at hq
    simp -implicitDefEqProofs [go_sem, h11, hh, hf.t, hf.m, hlt, hlt', hgi, h1, h2, hq, intRow, RG.cells]
    have hsz := o.sz _ (List.getElem_mem hlt')
    refine (cLeaves_c R.win[i].2.tree h' (by omega)).mono ?_
    rintro e h5 ⟨rfl, he⟩
    rw [he]
    simp -implicitDefEqProofs [go_sem, h11, hh, hf.t, hf.m]
    refine (contains_c R.win[i].2.tree.ids pane h' (by have := idsz_le R.win[i].2.tree; omega)).mono ?_
    rintro e h6 ⟨rfl, he⟩
    rw [he]
    cases hd : decide (pane ∈ R.win[i].2.tree.ids) with
    | true =>
      have hfi : findP R pane = some R.win[i] := by
        rw [findP, List.find?_eq_some_iff_getElem]
        exact ⟨hd, i, hlt', rfl, fun j hj => by simpa using hno j (by omega) hj⟩
      have hqo := ifind_k (·.1) (fun p : Int × Int => IV.int .i64 p.2) R.win[i].1 R.own
      have hoo : ((R.own.find? fun a => a.1 == R.win[i].1).map fun p => IV.int .i64 p.2).getD (.int .i64 0) = .int .i64 (ownOf R R.win[i].1) := by
        unfold ownOf; cases R.own.find? fun a => a.1 == R.win[i].1 <;> rfl
      simp -implicitDefEqProofs [go_sem, h11, hh, h4, hm4, hf.t, hf.m, h1, h3, hqo, hoo, RG.cells]
      exact ⟨h', Sub.refl _, by rw [findV, hfi]; rfl, rfl⟩
    | false =>
      simp -implicitDefEqProofs [go_sem, h11, hh, hf.t, hf.m, hf, hw]
      refine hJ _ ⟨i + 1, by omega, by simp -implicitDefEqProofs [go_sem, hw], by simp -implicitDefEqProofs [go_sem, hh], by simp -implicitDefEqProofs [go_sem, h4], by simp -implicitDefEqProofs [go_sem, hm4], fun j hj hji => ?_⟩ (by simp [go_sem, h11, hw]; omega)
      by_cases e : j = i
      · subst e; simpa using hd
      · exact hno j hj (by omega)
  · have hfi : findP R pane = none := by
      rw [findP, List.find?_eq_none]
      intro p hp
      obtain ⟨j, hj, rfl⟩ := List.getElem_of_mem hp
      simpa using hno j hj (by omega)
    simp -implicitDefEqProofs [go_sem, h11, hh, h4, hm4, hf.t, hf.m]
    exact ⟨h', Sub.refl _, by rw [findV, hfi]; rfl, rfl⟩
/-! a pane is split -/
def splR (R : RG) (i : Nat) (wid : Int) (w' : Wn) (L' : List PB) : RG := { R with np := R.np + 1, win := R.win.set i (wid, w'), L := L' }
structure SplOk (R : RG) : Prop where
  mkn : R.mkr = .nilfn
  win : WinOk R
  bd : R.Bd
  np : 0 ≤ R.np ∧ R.np ≤ 2147483646
  fp : ∀ p ∈ R.L, p.m.id ≠ R.np
  ev : evsLe 99999999 (R.L.map (·.m))
/-- what a split comes to, told by what the window's is -/
def splitR (k : Nat) (tag : Nat → Nat × Nat × Nat) (h : Heap) (rb : Nat) (R : RG) (pane : Int) (sp : Wn → Wn × Int) (e : IEnd) (h' : Heap) : Prop :=
  match findP R pane with
  | none => retP (.tup [.agg (plR 0 0 0), .int .i64 6]) h e h'
  | some p =>
    if 4096 ≤ R.np' then retP (.tup [.agg (plR 0 0 0), .int .i64 8]) h e h' else
    if (sp p.2).2 ≠ 0 then retP (.tup [.agg (plR 0 0 0), .int .i64 (sp p.2).2]) h e h' else
    e = .ret (.tup [.agg (plR (ownOf R p.1) p.1 R.np), .int .i64 0]) ∧ ∃ i tag' pb rc L', R.win[i]? = some p ∧ RegAt k tag' h' rb (splR R i p.1 (sp p.2).1 L') ∧ Frm2 k tag h tag' h' ∧ Stay (R.L ++ [newP R.np pb rc]) L' ∧
      L'.map (·.m) = (showM ((R.L ++ [newP R.np pb rc]).map (·.m)) ((sp p.2).1.shown.map pk)).1
set_option maxRecDepth 20000 in
set_option maxHeartbeats 4000000 in
theorem split21_c {k tag h rb R} (hR : RegAt k tag h rb R) (o : SplOk R) (pane ax size : Int) (ahead : Bool) (sp : Wn → Wn × Int)
    (hsp : ∀ p ∈ R.win, (sp p.2).1.tree.size < 100000000 ∧ ∀ h, ICall Tryz.prog 30 [.agg p.2.row, .int .i64 pane, .int .u8 ax, .int .i64 size, .int .i64 R.np, .bool ahead] h (retP (.tup [.agg (sp p.2).1.row, .int .i64 (sp p.2).2]) h)) :
    ICall Tryz.prog 8 [.ptr rb 0, .int .i64 pane, .int .u8 ax, .int .i64 size, .bool ahead] h (splitR k tag h rb R pane sp) := by
  refine icall_of_iwp (fun d => 0) Tryz.func8 rfl (by kernel_rfl) (Nat.le_of_ble_eq_true rfl) ?_
  rw [Tryz.results8]
  have h1 := hR.hr
  have h2 := hR.hwin
  rw [RG.winE_k] at h2
  simp -implicitDefEqProofs [go_sem]
  refine (find21_c hR o.win pane).mono ?_
  rintro e h' ⟨rfl, rfl⟩
  unfold findV splitR
  cases hfp : findP R pane with
  | none =>
    simp -implicitDefEqProofs [go_sem, plR]
    exact ⟨_, Sub.refl _, rfl, rfl⟩
  | some p =>
    have hpm : p ∈ R.win := List.mem_of_find?_eq_some hfp
    obtain ⟨i, hi⟩ := List.getElem?_of_mem hpm
    obtain ⟨hss, hsp⟩ := hsp p hpm
    have hnd : (R.win.map (·.1)).Nodup := o.win.was.imp fun h => by omega
    have hq := ifind_k (·.1) (fun p : Int × Wn => IV.agg p.2.row) p.1 R.win
    rw [find_key hnd hi] at hq
    simp -implicitDefEqProofs [go_sem, plR]
    refine (panes21_c hR o.bd).mono ?_
    rintro e h3 ⟨rfl, he⟩
    rw [he]
    simp -implicitDefEqProofs [go_sem, plR]
    refine cK_dec (fun hc => ?_) (fun hc => ?_)
    · simp -implicitDefEqProofs [go_sem, plR]
      exact ⟨_, Sub.refl _, by rw [if_pos (by omega)]; exact ⟨rfl, rfl⟩⟩
    have hc' : ¬ 4096 ≤ R.np' := by omega
    simp -implicitDefEqProofs [go_sem, plR]
    refine iwp_drawn_alloc mixed 20 [0, 1, 2, 3, 4, 5, 6, 7, 8, 9, 10, 11, 12, 13, 14, 15, 16, 17, 18, 19, 21, 22] (by kernel_rfl) ?_
    simp -implicitDefEqProofs [go_sem, h1, h2, hq, RG.cells]
    refine ⟨_, hsp _, ?_⟩
    simp -implicitDefEqProofs [go_sem, h1, h2, hq, RG.cells]
    refine cK_bne (fun he0 => ?_) (fun he0 => ?_)
    · simp -implicitDefEqProofs [go_sem, plR]
      exact ⟨_, Sub.refl _, by rw [if_neg hc', if_neg he0]; exact ⟨rfl, rfl⟩⟩
    have wp := wrap_in (n := R.np + 1) (by have := o.np; omega)
    have hR1 := hR.root R.ns R.nw (R.np + 1)
    have hF1 : Frm2 k tag h' tag _ := Frm2.own (by rw [hR.tr]) (some (.cells (RG.cells { R with ns := R.ns, nw := R.nw, np := R.np + 1 })))
    obtain ⟨R1, e1⟩ : ∃ R1 : RG, { R with ns := R.ns, nw := R.nw, np := R.np + 1 } = R1 := ⟨_, rfl⟩
    have c1 : R1.cells = [.int .i64 R.ns, .int .i64 R.nw, .int .i64 (R.np + 1), .ptr R.bb 0, R.mkr, .mapv R.recb, .mapv R.sesb, .mapv R.winb, .mapv R.ownb] := by rw [← e1]; rfl
    rw [e1, c1] at hR1 hF1
    obtain ⟨H1, he1⟩ : ∃ H1, upd h' rb (some (IObj.cells [.int .i64 R.ns, .int .i64 R.nw, .int .i64 (R.np + 1), .ptr R.bb 0, R.mkr, .mapv R.recb, .mapv R.sesb, .mapv R.winb, .mapv R.ownb])) = H1 := ⟨_, rfl⟩
    rw [he1] at hR1 hF1
    simp -implicitDefEqProofs [go_sem, h1, RG.cells, wp]
    refine dR_heap H1 (by simp -implicitDefEqProofs [go_sem, h1, RG.cells, wp]; exact he1) ?_
    clear he1
    have g1 := hR1.hr
    have g2 := hR1.hwin
    rw [c1] at g1
    rw [RG.winE_k, ← e1] at g2
    have hiw := iput_kset (·.1) (fun p : Int × Wn => IV.agg p.2.row) p.1 (.agg (sp p.2).1.row) R.win i p hnd hi rfl
    refine iwp_drawn_of mixed [0, 1, 2, 3, 4, 5, 6, 7] (by kernel_rfl) ?_
    simp -implicitDefEqProofs [go_sem, g1, g2, hiw]
    have b1 : R1.winb = R.winb := by rw [← e1]
    have hR2 := hR1.setWin (R.win.set i (p.1, (sp p.2).1))
    have hF2 := hF1.trans (Frm2.own (b := R1.winb) (by rw [hR1.twin]) (some (.map (RG.winE { R1 with win := R.win.set i (p.1, (sp p.2).1) }))))
    obtain ⟨R2, e2⟩ : ∃ R2 : RG, { R1 with win := R.win.set i (p.1, (sp p.2).1) } = R2 := ⟨_, rfl⟩
    have w2 : R2.winE = (R.win.map (encK (·.1) fun p => .agg p.2.row)).set i (.int .i64 p.1, .agg (sp p.2).1.row) := by
      rw [← e2]
      show (R.win.set i (p.1, (sp p.2).1)).map _ = _
      rw [List.map_set]; rfl
    rw [e2, w2, b1] at hR2 hF2
    generalize upd H1 R.winb (some (IObj.map ((R.win.map (encK (·.1) fun p => .agg p.2.row)).set i (.int .i64 p.1, .agg (sp p.2).1.row)))) = H2 at hR2 hF2 ⊢
    have l2 : R2.L = R.L := by rw [← e2, ← e1]
    have m2 : R2.mkr = .nilfn := by rw [← e2, ← e1]; exact o.mkn
    refine (add21_c hR2 m2 R.np (by have := o.np; omega) (by rw [l2]; exact o.fp)).mono ?_
    rintro e h5 ⟨rfl, pb, rc, tag5, hR5, hF5⟩
    simp -implicitDefEqProofs [go_sem]
    have hfw : ((R.win.set i (p.1, (sp p.2).1)).find? fun a => a.1 == p.1) = some (p.1, (sp p.2).1) := by
      have hnd2 : ((R.win.set i (p.1, (sp p.2).1)).map (·.1)).Nodup := by
        rw [List.map_set]
        have : (R.win.map (·.1)).set i p.1 = R.win.map (·.1) := by
          apply List.ext_getElem?
          intro j
          rw [List.getElem?_set]
          split
          · rename_i e; subst e; rw [List.length_map, if_pos (List.getElem?_eq_some_iff.1 hi).1, List.getElem?_map, hi]; rfl
          · rfl
        rw [this]; exact hnd
      have hgi : (R.win.set i (p.1, (sp p.2).1))[i]? = some (p.1, (sp p.2).1) := by rw [List.getElem?_set, if_pos rfl, if_pos (List.getElem?_eq_some_iff.1 hi).1]
      exact find_key hnd2 hgi
    have w5 : ({ R2 with L := R2.L ++ [newP R.np pb rc] } : RG).win = R.win.set i (p.1, (sp p.2).1) := by rw [← e2]
    refine (show21_c hR5 p.1 (sp p.2).1 (by rw [w5]; exact hfw) hss (fun q hq => ?ev)).mono ?_
    case ev =>
      obtain ⟨q, hq1, rfl⟩ := List.mem_map.1 hq
      rcases List.mem_append.1 hq1 with hq1 | hq1
      · rw [l2] at hq1; have := o.ev _ (List.mem_map_of_mem hq1); omega
      · simp at hq1; rw [hq1]; simp [newP]
    rintro e h6 ⟨rfl, tag6, L', hR6, hF6, hS, hL⟩
    simp -implicitDefEqProofs [go_sem]
    have e6 : ({ ({ R2 with L := R2.L ++ [newP R.np pb rc] } : RG) with L := L' } : RG) = splR R i p.1 (sp p.2).1 L' := by rw [← e2, ← e1]; rfl
    rw [e6] at hR6
    refine ⟨_, Sub.refl _, ?_⟩
    rw [if_neg hc', if_pos he0]
    rw [l2] at hS hL
    exact ⟨i, hi, tag6, pb, rc, L', hR6, (hF2.trans hF5).trans hF6, hS, by simpa using hL⟩
end Go.Proofs

set_option linter.unusedVariables false
set_option linter.unusedSimpArgs false
set_option pp.deepTerms false
set_option pp.maxSteps 400
namespace Go.Proofs
open Go.Idl

/-! what a pane's record was told; the document's example -/
def evsOf (L : List PM) (id : Int) : List Ev := match L.find? fun p => p.id == id with | some p => p.evs | none => []
set_option maxRecDepth 20000 in
theorem events21_c {k tag h rb R} (hR : RegAt k tag h rb R) (id : Int) (hev : evsLe 100000000 (R.L.map (·.m))) : ICall Tryz.prog 16 [.ptr rb 0, .int .i64 id] h (retP (.list .plain ((evsOf (R.L.map (·.m)) id).map Ev.row)) h) := by
  refine icall_of_iwp (fun _ => 0) Tryz.func16 rfl (by kernel_rfl) (Nat.le_of_ble_eq_true rfl) ?_
  rw [Tryz.results16]
  have h1 := hR.hr
  have h2 := hR.hrec
  rw [RG.recE_k] at h2
  have hq := ifind_k (·.m.id) (fun p : PB => IV.ptr p.rb 0) id R.L
  have hfm : (R.L.map (·.m)).find? (fun p => p.id == id) = (R.L.find? fun p => p.m.id == id).map (·.m) := by rw [List.find?_map]; rfl
  unfold evsOf
  rw [hfm]
  cases hf : R.L.find? fun p => p.m.id == id with
  | none =>
    rw [hf] at hq
    simp -implicitDefEqProofs [go_sem, h1, h2, hq, RG.cells]
    refine (events_nil_c h).mono ?_
    rintro e h' ⟨rfl, rfl⟩
    simp -implicitDefEqProofs [go_sem]
    exact ⟨_, Sub.refl _, rfl, rfl⟩
  | some p =>
    rw [hf] at hq
    have hm := List.mem_of_find?_eq_some hf
    obtain ⟨i, hi⟩ := List.getElem?_of_mem hm
    simp -implicitDefEqProofs [go_sem, h1, h2, hq, RG.cells]
    refine (events_c p.rb p.eb p.cap p.m.evs h (hR.hB.recs hi) (by have := hev _ (List.mem_map_of_mem hm); omega)).mono ?_
    rintro e h' ⟨rfl, rfl⟩
    simp -implicitDefEqProofs [go_sem]
    exact ⟨_, Sub.refl _, rfl, rfl⟩
theorem eqI_pl (a b c a' b' c' : Int) (n : Nat) : eqI Tryz.prog (n + 2) 28 (.agg [.int .i64 a, .int .i64 b, .int .i64 c]) (.agg [.int .i64 a', .int .i64 b', .int .i64 c']) = some (decide (a = a') && (decide (b = b') && decide (c = c'))) := by
  simp [eqI, eqFs, prt, Tryz.underlying28, Tryz.underlying3, stood_28, aggT_3, szT_3]
  rw [Bool.eq_iff_iff]; simp
@[go_sem high] theorem eqI_pl' (a b c a' b' c' : Int) : eqI Tryz.prog 10000 28 (.agg [.int .i64 a, .int .i64 b, .int .i64 c]) (.agg [.int .i64 a', .int .i64 b', .int .i64 c']) = some (decide (a = a') && (decide (b = b') && decide (c = c'))) := eqI_pl a b c a' b' c' 9998
set_option maxRecDepth 20000 in
set_option maxHeartbeats 4000000 in
theorem awake21_c (h : Heap) : ICall Tryz.prog 4 [] h (retP (.bool true) h) := by
  refine icall_of_iwp (fun _ => 0) Tryz.func4 rfl (by kernel_rfl) (Nat.le_of_ble_eq_true rfl) ?_
  rw [Tryz.results4]
  simp -implicitDefEqProofs [go_sem]
  refine (newReg_c 1 (fun _ => (9, 0, 0)) h).mono ?_
  rintro e h1 ⟨bb, mb, recb, sesb, winb, ownb, rb, tag1, rfl, hR1, hF1⟩
  simp -implicitDefEqProofs [go_sem]
  have hb1 : BegOk ⟨0, 0, 0, .nilfn, bb, mb, recb, sesb, winb, ownb, [], [], [], []⟩ := ⟨rfl, ⟨by simp, by simp, by simp, by simp⟩, ⟨by simp, by simp, by simp, by simp⟩, by simp, by simp, by simp, by simp, by simp, by simp, by simp, by intro p hp; simp at hp⟩
  refine (begin21_c hR1 hb1 ⟨#[109, 97, 105, 110]⟩ (by decide) 80 24).mono ?_
  intro e h2 hB
  have hbe : begE ⟨0, 0, 0, .nilfn, bb, mb, recb, sesb, winb, ownb, [], [], [], []⟩ ⟨#[109, 97, 105, 110]⟩ 80 24 = 0 := by
    rw [begE, if_pos (by decide +kernel)]; rfl
  rw [beginR, if_pos hbe] at hB
  obtain ⟨sb, tag2, hx, hF2, h3, ⟨_, tag3, wb, cap, pb, rc, L1, hR3, hF3, hS3, hL3⟩, rfl, rfl⟩ := hB
  have hm1 : L1.map (·.m) = [⟨0, true, 80, 24, [⟨1, 80, 24, ⟨#[]⟩⟩], false⟩] := hL3
  obtain ⟨R3, e3⟩ : ∃ R3 : RG, opR { (⟨0, 0, 0, .nilfn, bb, mb, recb, sesb, winb, ownb, [], [], [], []⟩ : RG) with ns := 0 + 1, ses := [] ++ [newS 0 ⟨#[109, 97, 105, 110]⟩ sb] } 0 (newS 0 ⟨#[109, 97, 105, 110]⟩ sb) 80 24 wb cap L1 = R3 := ⟨_, rfl⟩
  have hR3' : RegAt 1 tag3 h2 rb R3 := by rw [← e3]; exact hR3
  have w3 : R3.win = [(0, wA)] := by rw [← e3]; rfl
  have n3 : R3.np = 1 := by rw [← e3]; rfl
  have l3 : R3.L = L1 := by rw [← e3]; rfl
  have o3 : R3.own = [(0, 0)] := by rw [← e3]; rfl
  have hpm : ∀ p ∈ L1, p.m = ⟨0, true, 80, 24, [⟨1, 80, 24, ⟨#[]⟩⟩], false⟩ := fun p hp => by
    have := List.mem_map_of_mem (f := (·.m)) hp
    rw [hm1] at this; simpa using this
  have hl1 : L1.length = 1 := by have := congrArg List.length hm1; simpa using this
  have in0 : inR 0 := by unfold inR; omega
  have hspl : SplOk R3 := ⟨by rw [← e3]; rfl, ⟨by rw [w3]; intro p hp; simp at hp; rw [hp]; exact in0, by rw [w3]; simp, by rw [w3]; simp, by rw [w3]; intro p hp; simp at hp; rw [hp]; decide +kernel⟩, ⟨by rw [l3]; intro p hp; rw [hpm p hp]; exact in0, by rw [l3, hl1]; omega, by rw [w3]; simp, by rw [← e3]; show (1 : Nat) < _; omega⟩, by rw [n3]; omega, by rw [l3, n3]; intro p hp; rw [hpm p hp]; simp, by
    rw [l3, hm1]; intro p hp; simp at hp; rw [hp]; simp⟩
  simp -implicitDefEqProofs [go_sem, plR]
  refine (split21_c hR3' hspl 0 1 0 false (fun _ => (wB, 0)) (fun p hp => ?_)).mono ?_
  · rw [w3] at hp
    simp at hp
    subst hp
    rw [n3]
    exact ⟨by decide +kernel, fun h => split_c h⟩
  intro e h4 hS
  have hfp : findP R3 0 = some (0, wA) := by rw [findP, w3]; exact List.find?_cons_of_pos (by decide +kernel)
  have hn' : ¬ 4096 ≤ R3.np' := by rw [RG.np', l3, hm1]; decide +kernel
  have how : ownOf R3 0 = 0 := by rw [ownOf, o3]; rfl
  simp only [splitR, hfp, if_neg hn', ne_eq, not_true_eq_false, if_false, how, n3] at hS
  obtain ⟨rfl, i, tag4, pb2, rc2, L2, hi, hR4, hF4, hS4, hL4⟩ := hS
  have hm2 : L2.map (·.m) = [⟨0, true, 40, 24, [⟨1, 80, 24, ⟨#[]⟩⟩, ⟨1, 40, 24, ⟨#[]⟩⟩], false⟩, ⟨1, true, 39, 24, [⟨1, 39, 24, ⟨#[]⟩⟩], false⟩] := by
    rw [hL4, List.map_append, l3, hm1]
    have hs : wB.shown.map pk = [⟨0, 0, 0, 40, 24⟩, ⟨1, 41, 0, 39, 24⟩] := by kernel_rfl
    rw [hs]; rfl
  simp -implicitDefEqProofs [go_sem, plR]
  have hL : (splR R3 i 0 wB L2).L = L2 := rfl
  have hev := events21_c hR4 1 (by rw [hL, hm2]; intro p hp; simp at hp; rcases hp with rfl | rfl <;> simp)
  rw [hL, hm2, show evsOf [⟨0, true, 40, 24, [⟨1, 80, 24, ⟨#[]⟩⟩, ⟨1, 40, 24, ⟨#[]⟩⟩], false⟩, ⟨1, true, 39, 24, [⟨1, 39, 24, ⟨#[]⟩⟩], false⟩] 1 = [⟨1, 39, 24, ⟨#[]⟩⟩] from rfl] at hev
  refine hev.mono ?_
  rintro e h5 ⟨rfl, he⟩
  rw [he]
  simp -implicitDefEqProofs [go_sem, plR]
  have hse := esame_c [⟨1, 39, 24, ⟨#[]⟩⟩] [⟨1, 39, 24, ⟨#[]⟩⟩] (by simp) (by simp) h4
  refine hse.mono ?_
  rintro e h6 ⟨rfl, he⟩
  rw [he]
  simp -implicitDefEqProofs [go_sem, plR]
  have hF := ((hF1.trans hF2).trans hF3).trans hF4
  exact ⟨h, fun j o hj => (hF j o hj (by simp) (by simp)).1, rfl, rfl⟩
end Go.Proofs

set_option linter.unusedVariables false
set_option linter.unusedSimpArgs false
set_option pp.deepTerms false
set_option pp.maxSteps 400
namespace Go.Proofs
open Go.Idl

/-! a nil registry has nothing -/
theorem fit_cases (w h : Int) : (((1 ≤ w) = True ∧ (w ≤ 10000) = True ∧ (1 ≤ h) = True ∧ (h ≤ 10000) = True) ∧ Rct.may ⟨0, 0, w, h⟩ = true) ∨
    (((1 ≤ w) = False ∧ True ∧ True ∧ True) ∧ Rct.may ⟨0, 0, w, h⟩ = false) ∨ (((1 ≤ w) = True ∧ (w ≤ 10000) = False ∧ True ∧ True) ∧ Rct.may ⟨0, 0, w, h⟩ = false) ∨
    (((1 ≤ w) = True ∧ (w ≤ 10000) = True ∧ (1 ≤ h) = False ∧ True) ∧ Rct.may ⟨0, 0, w, h⟩ = false) ∨ (((1 ≤ w) = True ∧ (w ≤ 10000) = True ∧ (1 ≤ h) = True ∧ (h ≤ 10000) = False) ∧ Rct.may ⟨0, 0, w, h⟩ = false) := by
  simp only [Rct.may, decide_eq_true_eq, decide_eq_false_iff_not, eq_iff_iff, iff_true, iff_false, true_and, and_true]
  omega
set_option maxRecDepth 20000 in
set_option maxHeartbeats 8000000 in
theorem regNil_c (id w hh : Int) (nm : ByteArray) (l : List Int) (hnm : nm.size < 9223372036854775808) (hl : l.length < 9223372036854775808) (h : Heap) :
    ICall Tryz.prog 3 [.int .i64 id, .int .i64 w, .int .i64 hh, .str nm, .list .plain (l.map intRow)] h (retP (.bool true) h) := by
  refine icall_of_iwp (fun _ => 0) Tryz.func3 rfl (by kernel_rfl) (Nat.le_of_ble_eq_true rfl) ?_
  rw [Tryz.results3]
  simp -implicitDefEqProofs [go_sem]
  refine cK_dec (fun k1 => ?_) (fun k1 => ?_)
  · simp -implicitDefEqProofs [go_sem]
    refine (awake21_c h).mono ?_
    rintro e h' ⟨rfl, he⟩
    rw [he]
    simp -implicitDefEqProofs [go_sem]
    exact ⟨_, Sub.refl _, rfl, rfl⟩
  simp -implicitDefEqProofs [go_sem]
  refine cK_dec (fun k2 => ?_) (fun k2 => ?_)
  · simp -implicitDefEqProofs [go_sem]
    refine (awake21_c h).mono ?_
    rintro e h' ⟨rfl, he⟩
    rw [he]
    simp -implicitDefEqProofs [go_sem]
    exact ⟨_, Sub.refl _, rfl, rfl⟩
  simp -implicitDefEqProofs [go_sem]
  obtain ⟨bl, hbl, hbl2⟩ : ∃ bl : Int, (if l = [] then (0 : Int) else 6) = bl ∧ ((0 < l.length) = True ∧ bl = 6 ∨ (0 < l.length) = False ∧ bl = 0) := by
    cases l with
    | nil => exact ⟨0, rfl, .inr ⟨by simp, rfl⟩⟩
    | cons a l => exact ⟨6, rfl, .inl ⟨by simp, rfl⟩⟩
  rcases fit_cases w hh with ⟨⟨f1, f2, f3, f4⟩, f5⟩ | ⟨⟨f1, f2, f3, f4⟩, f5⟩ | ⟨⟨f1, f2, f3, f4⟩, f5⟩ | ⟨⟨f1, f2, f3, f4⟩, f5⟩ | ⟨⟨f1, f2, f3, f4⟩, f5⟩
  case' inl =>
    simp -implicitDefEqProofs [go_sem, f1, f2, f3, f4]
    refine (rname_c nm (by omega) h).mono ?_
    rintro e h' ⟨rfl, he⟩
    rw [he]
    cases hnb : nameB nm
    case' false => have hbv : (if nameB nm = true ∧ Rct.may ⟨0, 0, w, hh⟩ = true then (8 : Int) else 1) = 1 := by simp [hnb]
    case' true => have hbv : (if nameB nm = true ∧ Rct.may ⟨0, 0, w, hh⟩ = true then (8 : Int) else 1) = 8 := by simp [hnb, f5]
    all_goals have hov : (if Rct.may ⟨0, 0, w, hh⟩ = true then (6 : Int) else 1) = 6 := by simp [f5]
  case' inr.inl => have hbv : (if nameB nm = true ∧ Rct.may ⟨0, 0, w, hh⟩ = true then (8 : Int) else 1) = 1 := by simp [f5]
  case' inr.inl => have hov : (if Rct.may ⟨0, 0, w, hh⟩ = true then (6 : Int) else 1) = 1 := by simp [f5]
  case' inr.inr.inl => have hbv : (if nameB nm = true ∧ Rct.may ⟨0, 0, w, hh⟩ = true then (8 : Int) else 1) = 1 := by simp [f5]
  case' inr.inr.inl => have hov : (if Rct.may ⟨0, 0, w, hh⟩ = true then (6 : Int) else 1) = 1 := by simp [f5]
  case' inr.inr.inr.inl => have hbv : (if nameB nm = true ∧ Rct.may ⟨0, 0, w, hh⟩ = true then (8 : Int) else 1) = 1 := by simp [f5]
  case' inr.inr.inr.inl => have hov : (if Rct.may ⟨0, 0, w, hh⟩ = true then (6 : Int) else 1) = 1 := by simp [f5]
  case' inr.inr.inr.inr => have hbv : (if nameB nm = true ∧ Rct.may ⟨0, 0, w, hh⟩ = true then (8 : Int) else 1) = 1 := by simp [f5]
  case' inr.inr.inr.inr => have hov : (if Rct.may ⟨0, 0, w, hh⟩ = true then (6 : Int) else 1) = 1 := by simp [f5]
  all_goals (
    rcases hbl2 with ⟨gl, rfl⟩ | ⟨gl, rfl⟩ <;> (
    simp -implicitDefEqProofs [go_sem, f1, f2, f3, f4, gl]
    refine (nil_begin nm w hh (by omega) h).mono ?_
    rintro e h2 ⟨rfl, he⟩
    rw [he, hbv]
    simp -implicitDefEqProofs [go_sem]
    refine (nil_open id w hh h).mono ?_
    rintro e h2 ⟨rfl, he⟩
    rw [he, hov]
    simp -implicitDefEqProofs [go_sem]
    refine (nil_split id 2 0 false h).mono ?_
    rintro e h2 ⟨rfl, he⟩
    rw [he]
    simp -implicitDefEqProofs [go_sem]
    refine (nil_session id h).mono ?_
    rintro e h2 ⟨rfl, he⟩
    rw [he]
    simp -implicitDefEqProofs [go_sem]
    refine (nil_window id h).mono ?_
    rintro e h2 ⟨rfl, he⟩
    rw [he]
    simp -implicitDefEqProofs [go_sem]
    refine (nil_find id h).mono ?_
    rintro e h2 ⟨rfl, he⟩
    rw [he]
    simp -implicitDefEqProofs [go_sem]
    refine (nil_named nm h).mono ?_
    rintro e h2 ⟨rfl, he⟩
    rw [he]
    simp -implicitDefEqProofs [go_sem]
    refine (nil_size id h).mono ?_
    rintro e h2 ⟨rfl, he⟩
    rw [he]
    simp -implicitDefEqProofs [go_sem]
    refine (nil_sessions h).mono ?_
    rintro e h2 ⟨rfl, he⟩
    rw [he]
    simp -implicitDefEqProofs [go_sem]
    refine (nil_windows h).mono ?_
    rintro e h2 ⟨rfl, he⟩
    rw [he]
    simp -implicitDefEqProofs [go_sem]
    refine (nil_events id h).mono ?_
    rintro e h2 ⟨rfl, he⟩
    rw [he]
    have wz : IntKind.i64.wrap 0 = 0 := wrap_in (by omega)
    simp -implicitDefEqProofs [go_sem, wz]
    refine (nil_kill l (by omega) h).mono ?_
    rintro e h2 ⟨rfl, he⟩
    rw [he, hbl]
    simp -implicitDefEqProofs [go_sem]
    refine (nil_show id h).mono ?_
    rintro e h2 ⟨rfl, he⟩
    rw [he]
    simp -implicitDefEqProofs [go_sem]
    refine (nil_send id [[.int .u8 1]] h).mono ?_
    rintro e h2 ⟨rfl, he⟩
    rw [he]
    simp -implicitDefEqProofs [go_sem]
    refine (nil_close id h).mono ?_
    rintro e h2 ⟨rfl, he⟩
    rw [he]
    simp -implicitDefEqProofs [go_sem]
    refine (nil_end id h).mono ?_
    rintro e h2 ⟨rfl, he⟩
    rw [he]
    simp -implicitDefEqProofs [go_sem]
    have hz : [IV.int .u8 0, .int .i64 0, .int .i64 0, .int .i64 0, .int .i64 0, .int .i64 0, .list .plain [], .int .i64 0, .bool false] = wZero.row := wZero_row.symm
    rw [hz]
    refine (nil_change id wZero 0 h).mono ?_
    rintro e h2 ⟨rfl, he⟩
    rw [he]
    simp -implicitDefEqProofs [go_sem]
    refine (awake21_c h).mono ?_
    rintro e h2 ⟨rfl, he⟩
    rw [he]
    simp -implicitDefEqProofs [go_sem]
    exact ⟨_, Sub.refl _, rfl, rfl⟩))
end Go.Proofs
