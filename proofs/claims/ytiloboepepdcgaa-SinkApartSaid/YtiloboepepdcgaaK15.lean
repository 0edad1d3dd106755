/- This text is a part of the proofs of the statements of this seat: the ideal states and their rules, or what one of the functions that the statements reach comes to. Conditions: none beyond those that each theorem names. -/
import Derived.Test.YtiloboepepdcgaaK14
set_option linter.unusedVariables false
set_option linter.unusedSimpArgs false
set_option pp.deepTerms false
set_option pp.maxSteps 400
namespace Go.Proofs
open Go.Idl

theorem psh_len1 (p : PM) (x : Pn) : (psh p x).evs.length ≤ p.evs.length + 1 := by
  unfold psh; split
  · simp [PM.size]
  · omega
theorem psend_len1 (p : PM) (id : Int) (bs : List UInt8) : (psend p id bs).evs.length ≤ p.evs.length + 1 := by
  unfold psend; split
  · simp [PM.put]
  · omega

section
variable {h0 : Heap} {tag : Nat → Nat × Nat × Nat} {h : Heap} {ba ma ra bb mb rb : Nat} {id other : Int} {n : Nat} {p p' q : PM}
theorem show_a (T : Two h0 tag h ba ma ra bb mb rb id other n p p' q) (x : Pn) (hn : n < 10000000) :
    ICall Try.prog 18 [.ptr ba 0, .list .plain [x.row]] h (fun e h' => (∃ c : Int, e = .ret (.int .i64 c)) ∧ ∃ tag', Two h0 tag' h' ba ma ra bb mb rb id other (n + 1) (psh p x) p' q) := by
  obtain ⟨A, rfl, hA, hB⟩ := T.a
  refine (show_c hB [x] n (evsLe_one T.l.1) (by simp; omega)).mono ?_
  rintro e h' ⟨tag', L', rfl, hB', hF, hS, hm⟩
  refine ⟨⟨_, rfl⟩, tag', ?_⟩
  refine two_a T hA hB' hF hS (by rw [hm]; exact showM_one [x] A.m) (psh_id _ _).1 (psh_id _ _).2 ?_
  have := psh_len1 A.m x; have := T.l.1; omega
theorem show_b (T : Two h0 tag h ba ma ra bb mb rb id other n p p' q) (x : Pn) (hn : n < 10000000) :
    ICall Try.prog 18 [.ptr bb 0, .list .plain [x.row]] h (fun e h' => (∃ c : Int, e = .ret (.int .i64 c)) ∧ ∃ tag', Two h0 tag' h' ba ma ra bb mb rb id other (n + 1) p (psh p' x) (psh q x)) := by
  obtain ⟨A, B, rfl, rfl, hA, hB⟩ := T.b
  refine (show_c hB [x] n (evsLe_two T.l.2.1 T.l.2.2) (by simp; omega)).mono ?_
  rintro e h' ⟨tag', L', rfl, hB', hF, hS, hm⟩
  refine ⟨⟨_, rfl⟩, tag', ?_⟩
  have hne : A.m.id ≠ B.m.id := by rw [T.ids.2.1, T.ids.2.2.1]; exact T.ids.2.2.2
  refine two_b T hA hB' hF hS (by rw [hm]; exact show1_two hne x) (psh_id _ _).1 (psh_id _ _).2 ?_ (psh_id _ _).1 ?_
  · have := psh_len1 A.m x; have := T.l.2.1; omega
  · have := psh_len1 B.m x; have := T.l.2.2; omega
theorem send_a (T : Two h0 tag h ba ma ra bb mb rb id other n p p' q) (i : Int) (bs : List UInt8) (hl : bs.length < 100000000) (hn : n < 10000000) :
    ICall Try.prog 19 [.ptr ba 0, .int .i64 i, .list .plain (bs.map byteRow)] h (fun e h' => (∃ c : Int, e = .ret (.int .i64 c)) ∧ ∃ tag', Two h0 tag' h' ba ma ra bb mb rb id other (n + 1) (psend p i bs) p' q) := by
  obtain ⟨A, rfl, hA, hB⟩ := T.a
  refine (send_c hB i bs n (evsLe_one T.l.1) (by omega) (by omega)).mono ?_
  rintro e h' ⟨tag', L', rfl, hB', hF, hS, hm⟩
  refine ⟨⟨_, rfl⟩, tag', ?_⟩
  refine two_a T hA hB' hF hS (by rw [hm]; exact sendM_one A.m i bs) (psend_id _ _ _).1 (psend_id _ _ _).2 ?_
  have := psend_len1 A.m i bs; have := T.l.1; omega
theorem send_b (T : Two h0 tag h ba ma ra bb mb rb id other n p p' q) (i : Int) (bs : List UInt8) (hl : bs.length < 100000000) (hn : n < 10000000) :
    ICall Try.prog 19 [.ptr bb 0, .int .i64 i, .list .plain (bs.map byteRow)] h (fun e h' => (∃ c : Int, e = .ret (.int .i64 c)) ∧ ∃ tag', Two h0 tag' h' ba ma ra bb mb rb id other (n + 1) p (psend p' i bs) (psend q i bs)) := by
  obtain ⟨A, B, rfl, rfl, hA, hB⟩ := T.b
  refine (send_c hB i bs n (evsLe_two T.l.2.1 T.l.2.2) (by omega) (by omega)).mono ?_
  rintro e h' ⟨tag', L', rfl, hB', hF, hS, hm⟩
  refine ⟨⟨_, rfl⟩, tag', ?_⟩
  have hne : A.m.id ≠ B.m.id := by rw [T.ids.2.1, T.ids.2.2.1]; exact T.ids.2.2.2
  refine two_b T hA hB' hF hS (by rw [hm]; exact sendM_two hne i bs) (psend_id _ _ _).1 (psend_id _ _ _).2 ?_ (psend_id _ _ _).1 ?_
  · have := psend_len1 A.m i bs; have := T.l.2.1; omega
  · have := psend_len1 B.m i bs; have := T.l.2.2; omega
theorem drop_b (T : Two h0 tag h ba ma ra bb mb rb id other n p p' q) (hq : q.gone = false) (hn : n < 10000000) :
    ICall Try.prog 20 [.ptr bb 0, .list .plain [[.int .i64 other]]] h (fun e h' => (∃ c : Int, e = .ret (.int .i64 c)) ∧ ∃ tag', Two h0 tag' h' ba ma ra bb mb rb id other (n + 1) p p' (pdrop q)) := by
  obtain ⟨A, B, rfl, rfl, hA, hB⟩ := T.b
  have hd := drop_c hB [other] n (evsLe_two T.l.2.1 T.l.2.2) (by omega) (by simp)
  simp only [List.map, intRow] at hd
  refine hd.mono ?_
  rintro e h' ⟨tag', L', hB', hF, hS, hm⟩
  have i1 : A.m.is other = false := by
    have h1 := T.ids.2.1; have h2 := T.ids.2.2.2
    have : ¬ A.m.id = other := by rw [h1]; exact h2
    simp [PM.is, this]
  have i2 : B.m.is other = true := by simp [PM.is, hq, T.ids.2.2.1]
  have hok : dropOk ([A, B].map (·.m)) [other] := ⟨by simp, by intro i hi; simp at hi; subst hi; simp [hasM, List.findIdx?_cons, i1, i2]⟩
  rcases hm with ⟨_, rfl, hm⟩ | ⟨hno, _⟩
  · refine ⟨⟨_, rfl⟩, tag', ?_⟩
    refine two_b T hA hB' hF hS (p2 := A.m) (q2 := pdrop B.m) (by rw [hm]; simp [dropM1, List.findIdx?_cons, i1, i2, pdrop]) rfl rfl (by have := T.l.2.1; omega) rfl ?_
    have := T.l.2.2
    simp [pdrop, PM.put]; omega
  · exact absurd hok hno
theorem events_a (T : Two h0 tag h ba ma ra bb mb rb id other n p p' q) (hn : n < 10000000) : ICall Try.prog 21 [.ptr ra 0] h (retP (.list .plain (p.evs.map Ev.row)) h) := by
  obtain ⟨A, rfl, rfl, hB⟩ := T.a
  exact events_c A.rb A.eb A.cap A.m.evs h (hB.recs (i := 0) rfl) (by have := T.l.1; omega)
theorem events_b (T : Two h0 tag h ba ma ra bb mb rb id other n p p' q) (hn : n < 10000000) : ICall Try.prog 21 [.ptr rb 0] h (retP (.list .plain (p'.evs.map Ev.row)) h) := by
  obtain ⟨A, B, rfl, rfl, rfl, hB⟩ := T.b
  exact events_c A.rb A.eb A.cap A.m.evs h (hB.recs (i := 0) rfl) (by have := T.l.2.1; omega)
theorem panes_a (T : Two h0 tag h ba ma ra bb mb rb id other n p p' q) (hi : inR id) : ICall Try.prog 30 [.ptr ba 0] h (retP (.list .plain [[.int .i64 id]]) h) := by
  obtain ⟨A, rfl, rfl, hB⟩ := T.a
  have := panes_z hB (by intro x hx; simp at hx; rw [hx, T.ids.1]; exact hi) (by simp)
  have e : sortL (liveM ([A].map (·.m))) = [id] := by simp [liveM, T.gs.1, T.ids.1, sortL]
  rw [e] at this
  exact this
theorem panes_b (T : Two h0 tag h ba ma ra bb mb rb id other n p p' q) (hi : inR id) (ho : inR other) (hg : q.gone = true) : ICall Try.prog 30 [.ptr bb 0] h (retP (.list .plain [[.int .i64 id]]) h) := by
  obtain ⟨A, B, rfl, rfl, rfl, hB⟩ := T.b
  have hin : ∀ x ∈ [A, B], inR x.m.id := by
    intro x hx
    simp at hx
    rcases hx with rfl | rfl
    · rw [T.ids.2.1]; exact hi
    · rw [T.ids.2.2.1]; exact ho
  have := panes_z hB hin (by simp)
  have e : sortL (liveM ([A, B].map (·.m))) = [id] := by simp [liveM, T.gs.2, hg, T.ids.2.1, sortL]
  rw [e] at this
  exact this
end

def Old (h0 : Heap) (tag : Nat → Nat × Nat × Nat) (h : Heap) : Prop := ∀ j o, h0 j = some o → h j = some o ∧ (tag j).1 = 3
theorem Old.step {h0 tag h k tag' h'} (a : Old h0 tag h) (hk : k ≠ 3) (f : Frm k tag h tag' h') : Old h0 tag' h' := fun j o hj => by
  obtain ⟨g1, g2⟩ := a j o hj
  obtain ⟨g3, g4⟩ := f j o g1 (by rw [g2]; exact Ne.symm hk)
  exact ⟨g3, by rw [g4]; exact g2⟩
set_option maxRecDepth 20000 in
set_option maxHeartbeats 4000000 in
theorem sinkApart_c (l : List Pn) (bs : List UInt8) (id other : Int) (h : Heap) : ICall Try.prog 6 [.list .plain (l.map Pn.row), .list .plain (bs.map byteRow), .int .i64 id, .int .i64 other] h (retP (.bool true) h) := by
  refine icall_of_iwp (fun _ => 0) Try.func6 rfl (by kernel_rfl) (Nat.le_of_ble_eq_true rfl) ?_
  rw [Try.results6]
  by_cases hall : 20 < l.length ∨ 100 < bs.length ∨ id < 0 ∨ 2147483647 < id ∨ other < 0 ∨ 2147483647 < other ∨ id = other
  · have hcs : (20 < l.length) ∨ (¬ 20 < l.length ∧ 100 < bs.length) ∨ (¬ 20 < l.length ∧ ¬ 100 < bs.length ∧ id < 0) ∨ (¬ 20 < l.length ∧ ¬ 100 < bs.length ∧ ¬ id < 0 ∧ 2147483647 < id) ∨ (¬ 20 < l.length ∧ ¬ 100 < bs.length ∧ ¬ id < 0 ∧ ¬ 2147483647 < id ∧ other < 0)
       ∨ (¬ 20 < l.length ∧ ¬ 100 < bs.length ∧ ¬ id < 0 ∧ ¬ 2147483647 < id ∧ ¬ other < 0 ∧ 2147483647 < other) ∨ (¬ 20 < l.length ∧ ¬ 100 < bs.length ∧ ¬ id < 0 ∧ ¬ 2147483647 < id ∧ ¬ other < 0 ∧ ¬ 2147483647 < other ∧ id = other) := by omega
    rcases hcs with h1 | ⟨h1, h2⟩ | ⟨h1, h2, h3⟩ | ⟨h1, h2, h3, h4⟩ | ⟨h1, h2, h3, h4, h5⟩ | ⟨h1, h2, h3, h4, h5, h6⟩ | ⟨h1, h2, h3, h4, h5, h6, h7⟩
    all_goals
      have hi1 : (20 < (l.length : Int)) ↔ 20 < l.length := by omega
      have hi2 : (100 < (bs.length : Int)) ↔ 100 < bs.length := by omega
      simp -implicitDefEqProofs [go_sem, *]
      refine (awake_c h).mono ?_
      rintro e h' ⟨rfl, he⟩
      rw [he]
      simp -implicitDefEqProofs [go_sem]
      exact ⟨_, Sub.refl _, rfl, rfl⟩
  obtain ⟨h1, h2, h3, h4, h5, h6, h7⟩ : ¬ 20 < l.length ∧ ¬ 100 < bs.length ∧ ¬ id < 0 ∧ ¬ 2147483647 < id ∧ ¬ other < 0 ∧ ¬ 2147483647 < other ∧ ¬ id = other := by omega
  clear hall
  have hi1 : ¬ (20 < (l.length : Int)) := by omega
  have hi2 : ¬ (100 < (bs.length : Int)) := by omega
  have h7' : (id == other) = false := by simpa using h7
  simp -implicitDefEqProofs [go_sem, hi1, hi2, h3, h4, h5, h6, h7']
  have o0 : Old h (fun _ => (3, 0, 0)) h := fun j o hj => ⟨hj, rfl⟩
  generalize (fun _ : Nat => ((3, 0, 0) : Nat × Nat × Nat)) = tag0 at o0
  refine (newBoard_c h).mono ?_
  rintro e g1 ⟨ba, ma, hb1, hb2, hb3, rfl, hh1⟩
  obtain ⟨A1, F1⟩ := newB_at (k := 1) (tag := tag0) hb1 hb2 hb3
  rw [← hh1] at A1 F1
  have o1 := o0.step (by omega) F1
  generalize (upd (upd tag0 ba (1, 0, 0)) ma (1, 1, 0)) = tag1 at *
  clear hh1 hb1 hb2 hb3 F1
  simp -implicitDefEqProofs [go_sem]
  refine (newBoard_c g1).mono ?_
  rintro e g2 ⟨bb, mb, hb1, hb2, hb3, rfl, hh1⟩
  obtain ⟨B2, F2⟩ := newB_at (k := 2) (tag := tag1) hb1 hb2 hb3
  rw [← hh1] at B2 F2
  have o2 := o1.step (by omega) F2
  have A2 := A1.frm F2 (by omega)
  generalize (upd (upd tag1 bb (2, 0, 0)) mb (2, 1, 0)) = tag2 at *
  clear hh1 hb1 hb2 hb3 F2 A1
  simp -implicitDefEqProofs [go_sem]
  refine (newRec_c g2).mono ?_
  rintro e g3 ⟨ra, hr1, rfl, hh2⟩
  have A3 := A2.grow hr1 (some (.cells [.list .tight []])) (1, 3, 0)
  have B3 := B2.grow hr1 (some (.cells [.list .tight []])) (1, 3, 0)
  have o3 := o2.step (k := 1) (by omega) (Frm.grow hr1 (some (.cells [.list .tight []])) (1, 3, 0))
  have ra3 : g3 ra = some (.cells [.list .tight []]) := by rw [hh2, upd_same]
  have rt3 : (upd tag2 ra (1, 3, 0)) ra = (1, 3, 0) := upd_same _ _ _
  rw [← hh2] at A3 B3 o3
  generalize upd tag2 ra (1, 3, 0) = tag3 at *
  clear hh2 A2 B2 hr1
  simp -implicitDefEqProofs [go_sem]
  refine (newRec_c g3).mono ?_
  rintro e g4 ⟨rb, hr1, rfl, hh2⟩
  have A4 := A3.grow hr1 (some (.cells [.list .tight []])) (2, 3, 0)
  have B4 := B3.grow hr1 (some (.cells [.list .tight []])) (2, 3, 0)
  have F4 := Frm.grow (k := 9) (tag := tag3) hr1 (some (.cells [.list .tight []])) (2, 3, 0)
  have o4 := o3.step (k := 9) (by omega) F4
  have rb4 : g4 rb = some (.cells [.list .tight []]) := by rw [hh2, upd_same]
  have rtb4 : (upd tag3 rb (2, 3, 0)) rb = (2, 3, 0) := upd_same _ _ _
  rw [← hh2] at A4 B4 o4 F4
  obtain ⟨ra4, rta4⟩ := F4 ra _ ra3 (by rw [rt3]; decide)
  rw [rt3] at rta4
  generalize upd tag3 rb (2, 3, 0) = tag4 at *
  clear hh2 A3 B3 hr1 F4 ra3 rt3
  simp -implicitDefEqProofs [go_sem]
  refine (add_c A4 id ra4 rta4).mono ?_
  intro e g5 hA
  rw [addR, if_neg (by omega), if_neg (by simp)] at hA
  obtain ⟨rfl, pa, tag5, A5, F5, _⟩ := hA
  have B5 := B4.frm F5 (by omega)
  have o5 := o4.step (by omega) F5
  obtain ⟨rb5, rtb5⟩ := F5 rb _ rb4 (by rw [rtb4]; decide)
  rw [rtb4] at rtb5
  clear A4 B4 F5 rb4 rtb4 ra4 rta4
  simp -implicitDefEqProofs [go_sem]
  refine (add_c B5 id rb5 rtb5).mono ?_
  intro e g6 hA
  rw [addR, if_neg (by omega), if_neg (by simp)] at hA
  obtain ⟨rfl, pb, tag6, B6, F6, _⟩ := hA
  have A6 := A5.frm F6 (by omega)
  have o6 := o5.step (by omega) F6
  clear A5 B5 F6 rb5 rtb5
  simp -implicitDefEqProofs [go_sem]
  refine (newRec_c g6).mono ?_
  rintro e g7 ⟨rc, hr1, rfl, hh2⟩
  have A7 := A6.grow hr1 (some (.cells [.list .tight []])) (2, 3, 1)
  have B7 := B6.grow hr1 (some (.cells [.list .tight []])) (2, 3, 1)
  have o7 := o6.step (k := 9) (by omega) (Frm.grow hr1 (some (.cells [.list .tight []])) (2, 3, 1))
  have rc7 : g7 rc = some (.cells [.list .tight []]) := by rw [hh2, upd_same]
  have rtc7 : (upd tag6 rc (2, 3, 1)) rc = (2, 3, 1) := upd_same _ _ _
  rw [← hh2] at A7 B7 o7
  generalize upd tag6 rc (2, 3, 1) = tag7 at *
  clear hh2 A6 B6 hr1
  simp -implicitDefEqProofs [go_sem]
  refine (add_c B7 other rc7 rtc7).mono ?_
  intro e g8 hA
  have hnf : (([] ++ [newP id pb rb] : List PB).find? fun p => p.m.is other) = none := by simp [newP, PM.is, h7]
  rw [addR, if_neg (by omega), if_neg (by rw [hnf]; simp)] at hA
  obtain ⟨rfl, pc, tag8, B8, F8, _⟩ := hA
  have A8 := A7.frm F8 (by omega)
  have o8 := o7.step (by omega) F8
  have T0 : Two h tag8 g8 ba ma ra bb mb rb id other 0 ⟨id, false, 0, 0, [], false⟩ ⟨id, false, 0, 0, [], false⟩ ⟨other, false, 0, 0, [], false⟩ :=
    ⟨⟨newP id pa ra, rfl, rfl, A8⟩, ⟨newP id pb rb, newP other pc rc, rfl, rfl, rfl, B8⟩, fun j o hj => (o8 j o hj).1, fun j o hj => (o8 j o hj).2, ⟨rfl, rfl, rfl, h7⟩, ⟨rfl, rfl⟩, ⟨by simp, by simp, by simp⟩⟩
  clear A7 B7 F8 A8 B8 o8 o7 o6 o5 o4 o3 o2 o1 o0 rc7 rtc7 hnf
  simp -implicitDefEqProofs [go_sem]
  refine iwp_loopF (rng [13] 63 87) nom (fun s => ∃ (i : Nat) (tag' : Nat → Nat × Nat × Nat) (p q : PM), i ≤ l.length ∧ s.t 13 = .int .i64 i ∧ Two h tag' s.h ba ma ra bb mb rb id other (3 * i) p p q ∧ q.gone = false) (fun s => l.length - tn (s.t 13)) ?_ ?_
  · exact ⟨0, tag8, _, _, Nat.zero_le _, by simp -implicitDefEqProofs [go_sem], by simpa -implicitDefEqProofs [go_sem] using T0, rfl⟩
  rintro J s hJ hf ⟨i, tag', p, q, hi, h13, T, hq⟩
  simp -implicitDefEqProofs [go_sem, h13, hf.t, hf.m]
  refine cK_dec (fun hlt => ?_) (fun hlt => ?_)
  · have hlt' : i < l.length := by omega
    have hw := wrap_succ (i := i) (by omega)
    have hx : (l.map Pn.row)[i]? = some l[i].row := by simp [hlt']
    have c1 := show_a T l[i] (by omega)
    simp only [Pn.row] at c1
    simp -implicitDefEqProofs [go_sem, h13, hf.t, hf.m, hlt', hx, Pn.row]
    refine c1.mono ?_
    rintro e j1 ⟨⟨z1, rfl⟩, t1, T1⟩
    have c2 := show_b T1 l[i] (by omega)
    simp only [Pn.row] at c2
    simp -implicitDefEqProofs [go_sem, h13, hf.t, hf.m, hlt', hx, Pn.row]
    refine c2.mono ?_
    rintro e j2 ⟨⟨z2, rfl⟩, t2, T2⟩
    simp -implicitDefEqProofs [go_sem, h13, hf.t, hf.m, hlt', hx, Pn.row]
    refine (send_b T2 other bs (by omega) (by omega)).mono ?_
    rintro e j3 ⟨⟨z3, rfl⟩, t3, T3⟩
    have hne : psend (psh p l[i]) other bs = psh p l[i] := by
      have : ((psh p l[i]).is other) = false := by
        have h1 := T2.ids.2.1
        have : ¬ (psh p l[i]).id = other := by rw [h1]; exact h7
        simp [PM.is, this]
      simp [psend, this]
    rw [hne] at T3
    have e3 : 3 * i + 1 + 1 + 1 = 3 * (i + 1) := by omega
    rw [e3] at T3
    simp -implicitDefEqProofs [go_sem, h13, hf.t, hf.m, hf, hlt', hx, hw]
    refine hJ _ ⟨i + 1, t3, psh p l[i], psend (psh q l[i]) other bs, by omega, by simp -implicitDefEqProofs [go_sem, hw], by simpa -implicitDefEqProofs [go_sem] using T3, by rw [(psend_id _ _ _).2, (psh_id _ _).2]; exact hq⟩ (by simp [go_sem, h13, hw]; omega)
  · simp -implicitDefEqProofs [go_sem, h13, hf.t, hf.m]
    refine (drop_b T hq (by omega)).mono ?_
    rintro e j1 ⟨⟨z1, rfl⟩, t1, T1⟩
    simp -implicitDefEqProofs [go_sem, h13, hf.t, hf.m]
    refine (send_a T1 id bs (by omega) (by omega)).mono ?_
    rintro e j2 ⟨⟨z2, rfl⟩, t2, T2⟩
    simp -implicitDefEqProofs [go_sem, h13, hf.t, hf.m]
    refine (send_b T2 id bs (by omega) (by omega)).mono ?_
    rintro e j3 ⟨⟨z3, rfl⟩, t3, T3⟩
    have hqg : (psend (pdrop q) id bs).gone = true := by rw [(psend_id _ _ _).2]; rfl
    simp -implicitDefEqProofs [go_sem, h13, hf.t, hf.m]
    refine (events_a T3 (by omega)).mono ?_
    rintro e h' ⟨rfl, he⟩
    rw [he]
    simp -implicitDefEqProofs [go_sem, h13, hf.t, hf.m]
    refine (events_b T3 (by omega)).mono ?_
    rintro e h' ⟨rfl, he⟩
    rw [he]
    simp -implicitDefEqProofs [go_sem, h13, hf.t, hf.m]
    refine (same_c _ _ (by have := T3.l.1; omega) (by have := T3.l.1; omega) j3).mono ?_
    rintro e h' ⟨rfl, he⟩
    rw [he]
    simp -implicitDefEqProofs [go_sem, h13, hf.t, hf.m]
    have ii : inR id := ⟨by omega, by omega⟩
    have io : inR other := ⟨by omega, by omega⟩
    refine (panes_a T3 ii).mono ?_
    rintro e h' ⟨rfl, he⟩
    rw [he]
    simp -implicitDefEqProofs [go_sem, h13, hf.t, hf.m]
    refine (panes_b T3 ii io hqg).mono ?_
    rintro e h' ⟨rfl, he⟩
    rw [he]
    simp -implicitDefEqProofs [go_sem, h13, hf.t, hf.m]
    have hic := intsEq_c [id] [id] (by simp) (by simp) j3
    simp only [List.map, intRow] at hic
    refine hic.mono ?_
    rintro e h' ⟨rfl, he⟩
    rw [he]
    simp -implicitDefEqProofs [go_sem, h13, hf.t, hf.m]
    refine (awake_c j3).mono ?_
    rintro e h' ⟨rfl, he⟩
    rw [he]
    simp -implicitDefEqProofs [go_sem, h13, hf.t, hf.m]
    exact ⟨_, T3.s, rfl, rfl⟩
end Go.Proofs
