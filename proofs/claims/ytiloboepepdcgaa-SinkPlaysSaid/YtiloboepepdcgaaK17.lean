/- This text is a part of the proofs of the statements of this seat: the ideal states and their rules, or what one of the functions that the statements reach comes to. Conditions: none beyond those that each theorem names. -/
import Derived.Test.YtiloboepepdcgaaK16
set_option linter.unusedVariables false
set_option linter.unusedSimpArgs false
set_option pp.deepTerms false
set_option pp.maxSteps 400
namespace Go.Proofs
open Go.Idl

set_option maxRecDepth 20000 in
set_option maxHeartbeats 4000000 in
theorem rshow_c (L : List PM) (l : List Pn) (hl : L.length < 10000000) (B : Nat) (hev : evsLe B L) (hb : B + l.length < 10000000) (h : Heap) :
    ICall Try.prog 23 [bV L, .list .plain (l.map Pn.row)] h (retP (.tup [bV (showM L l).1, .int .i64 ((showM L l).2 : Nat)]) h) := by
  refine icall_of_iwp (fun _ => 0) Try.func23 rfl (by kernel_rfl) (Nat.le_of_ble_eq_true rfl) ?_
  rw [Try.results23]
  simp -implicitDefEqProofs [go_sem, bV]
  refine iwp_loopF (rng [6,7,8,9] 12 87) (fun k => k == 2 || k == 9) (fun s => ∃ (i c : Nat) (Lc : List PM), i ≤ l.length ∧ s.t 12 = .int .i64 i ∧ s.t 6 = .int .i64 c ∧ c ≤ i ∧ s.m 2 = some (0, [.list .plain (Lc.map PM.row)]) ∧ s.h = h ∧ Lc.length = L.length ∧ evsLe (B + i) Lc ∧
    showM L l = ((showM Lc (l.drop i)).1, c + (showM Lc (l.drop i)).2)) (fun s => l.length - tn (s.t 12)) ?_ ?_
  · exact ⟨0, 0, L, Nat.zero_le _, by simp -implicitDefEqProofs [go_sem], by simp -implicitDefEqProofs [go_sem], Nat.le_refl _, by simp -implicitDefEqProofs [go_sem], by simp -implicitDefEqProofs [go_sem], rfl, hev, by simp⟩
  rintro J s hJ hf ⟨i, c, Lc, hi, h12, h6, hci, h2m, hh, hLc, hE, hM⟩
  simp -implicitDefEqProofs [go_sem, h12, h6, h2m, hh, hf.t, hf.m]
  refine cK_dec (fun hlt => ?_) (fun hlt => ?_)
  · have hlt' : i < l.length := by omega
    have hw := wrap_succ (i := i) (by omega)
    have hwc := wrap_succ (i := c) (by omega)
    have hstep := showM_drop Lc l i hlt'
    have hx : (l.map Pn.row)[i]? = some l[i].row := by simp [hlt']
    simp -implicitDefEqProofs [go_sem, h12, h6, h2m, hh, hf.t, hf.m, hlt', hx, Pn.row]
    refine iwp_drawn_of mixed [0,1,2,3,4,5,6,7] (by kernel_rfl) ?_
    simp -implicitDefEqProofs [go_sem, h12, h6, h2m, hh, hf.t, hf.m, hlt', hx, Pn.row, Pn.row_len]
    have hfc := rfind_c Lc l[i].id (by omega) h
    simp only [bV] at hfc
    refine ⟨_, hfc, ?_⟩
    cases hfd : Lc.findIdx? (PM.is l[i].id) with
    | none =>
      have h1 : show1 Lc l[i] = (Lc, 0) := by simp only [show1, hfd]
      rw [h1] at hstep
      simp -implicitDefEqProofs [go_sem, h12, h6, h2m, hh, hf.t, hf.m, hf, findV, hfd, hw]
      refine hJ _ ⟨i + 1, c, Lc, hlt', by simp -implicitDefEqProofs [go_sem, h12, hw], by simp -implicitDefEqProofs [go_sem, h6], by omega, by simp -implicitDefEqProofs [go_sem, h2m], by simp -implicitDefEqProofs [go_sem, hh], hLc, hE.mono (by omega), ?_⟩ (by simp [go_sem, h12, hw]; omega)
      rw [hM, hstep]; simp
    | some ix =>
      obtain ⟨hix, _, _⟩ := List.findIdx?_eq_some_iff_getElem.1 hfd
      have hge : ¬ (ix : Int) < 0 := by omega
      have hrow : (Lc.map PM.row)[ix]? = some Lc[ix].row := by simp [hix]
      have hS1 : show1 Lc l[i] = if Lc[ix].told = true ∧ Lc[ix].w = l[i].w ∧ Lc[ix].h = l[i].h then (Lc, 0) else (Lc.set ix (Lc[ix].size l[i].w l[i].h), 1) := by simp only [show1, hfd, List.getElem?_eq_getElem hix]
      simp -implicitDefEqProofs [go_sem, h12, h6, h2m, hh, hf.t, hf.m, hf, findV, hfd, hge, hix, hrow, PM.row]
      have hcs : (Lc[ix].told = true ∧ (Lc[ix].w == l[i].w) = true ∧ (Lc[ix].h == l[i].h) = true) ∨ (Lc[ix].told = false) ∨ (Lc[ix].told = true ∧ (Lc[ix].w == l[i].w) = false) ∨ (Lc[ix].told = true ∧ (Lc[ix].w == l[i].w) = true ∧ (Lc[ix].h == l[i].h) = false) := by
        cases Lc[ix].told <;> cases (Lc[ix].w == l[i].w) <;> cases (Lc[ix].h == l[i].h) <;> simp
      have hel : Lc[ix].evs.length ≤ B + i := hE _ (List.getElem_mem hix)
      refine iwp_drawn_of mixed [0,1,2,3,4,5,6,7,8,9,10,11,12,13,14,15,16,17,18,19,20,21,22,23] (by kernel_rfl) ?_
      rcases hcs with ⟨q1, q2, q3⟩ | hcs
      · rw [if_pos ⟨q1, by simpa using q2, by simpa using q3⟩] at hS1
        rw [hS1] at hstep
        simp -implicitDefEqProofs [go_sem, h12, h6, h2m, hh, hf.t, hf.m, hf, hix, hrow, hlt', hx, Pn.row_len, Pn.row, PM.row, q1, q2, q3, hw]
        refine hJ _ ⟨i + 1, c, Lc, hlt', by simp -implicitDefEqProofs [go_sem, h12, hw], by simp -implicitDefEqProofs [go_sem, h6], by omega, by simp -implicitDefEqProofs [go_sem, h2m], by simp -implicitDefEqProofs [go_sem, hh], hLc, hE.mono (by omega), ?_⟩ (by simp [go_sem, h12, hw]; omega)
        rw [hM, hstep]; simp
      · have hne : ¬ (Lc[ix].told = true ∧ Lc[ix].w = l[i].w ∧ Lc[ix].h = l[i].h) := by
          rintro ⟨r1, r2, r3⟩
          rcases hcs with q | ⟨_, q⟩ | ⟨_, _, q⟩
          · rw [r1] at q; cases q
          · rw [r2] at q; simp at q
          · rw [r3] at q; simp at q
        rw [if_neg hne] at hS1
        rw [hS1] at hstep
        rcases hcs with q1 | ⟨q1, q2⟩ | ⟨q1, q2, q3⟩
        all_goals
          simp -implicitDefEqProofs [go_sem, h12, h6, h2m, hh, hf.t, hf.m, hf, hix, hrow, hlt', hx, Pn.row_len, Pn.row, PM.row, hw, *]
          refine iwp_drawn_of mixed [0,1,2,4,5,6,7,8,9,3,10,11,12] (by kernel_rfl) ?_
          simp -implicitDefEqProofs [go_sem, h12, h6, h2m, hh, hf.t, hf.m, hf, hix, hrow, hlt', hx, Pn.row_len, Pn.row, PM.row, hw]
          refine aK_own (e := 38) (z := 4) (S := [71, 78]) (rows := []) (ys := Lc[ix].evs.map Ev.row) Own.tight (by simp) elT_35 elZ_38 (by simp [roomy, byT_38]; omega) rfl (evs_uni _) ?_
          intro r x' ho hxx
          simp -implicitDefEqProofs [go_sem, ho.strip]
          refine aK_own (e := 38) (z := 4) (S := [71, 78]) (rows := Lc[ix].evs.map Ev.row) (ys := [(⟨1, l[i].w, l[i].h, ⟨#[]⟩⟩ : Ev)].map Ev.row) (by simpa -implicitDefEqProofs [go_sem] using ho) (by simp) elT_35 elZ_38 (by simp [roomy, byT_38]; omega) (evs_uni _) (evs_uni _) ?_
          intro r2 x2 ho2 hx2
          obtain ⟨tk2, rfl⟩ := ho2.list
          simp -implicitDefEqProofs [go_sem, h12, h6, h2m, hh, hf.t, hf.m, hf, hw]
          have hwt := with_c Lc ix (Lc[ix].size l[i].w l[i].h) hix (by omega) h
          simp only [bV, PM.row, PM.size, List.map_append, List.map] at hwt
          refine hwt.mono ?_
          rintro e h' ⟨rfl, he⟩
          rw [he]
          simp -implicitDefEqProofs [go_sem, h12, h6, h2m, hh, hf.t, hf.m, hf, hw, hwc]
          refine hJ _ ⟨i + 1, c + 1, Lc.set ix (Lc[ix].size l[i].w l[i].h), hlt', by simp -implicitDefEqProofs [go_sem, h12, hw], by simp -implicitDefEqProofs [go_sem, h6, hwc], by omega, ?_, by simp -implicitDefEqProofs [go_sem, hh], by simpa using hLc, ?_, ?_⟩ (by simp [go_sem, h12, hw]; omega)
          · simp -implicitDefEqProofs [go_sem, h2m, PM.row, PM.size]
          · refine evsLe.set (hE.mono (by omega)) ?_
            simp only [PM.size, List.length_append, List.length_cons, List.length_nil]; omega
          · rw [hM, hstep]; simp; omega
  · simp -implicitDefEqProofs [go_sem, h12, h6, h2m, hh, hf.t, hf.m]
    obtain rfl : i = l.length := by omega
    rw [List.drop_length] at hM
    refine ⟨_, Sub.refl _, ?_, rfl⟩
    rw [hM]; simp [showM]
end Go.Proofs
