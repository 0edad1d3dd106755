/- This text is a part of the proofs of the statements of this seat: the ideal states and their rules, or what one of the functions that the statements reach comes to. Conditions: none beyond those that each theorem names. -/
import Derived.Test.YtiloboepepdcgaaK10
set_option linter.unusedVariables false
set_option linter.unusedSimpArgs false
set_option pp.deepTerms false
set_option pp.maxSteps 400
namespace Go.Proofs
open Go.Idl

set_option maxRecDepth 20000 in
set_option maxHeartbeats 4000000 in
theorem sinkNil_c (id : Int) (l : List Int) (h : Heap) : ICall Try.prog 5 [.int .i64 id, .list .plain (l.map intRow)] h (retP (.bool true) h) := by
  refine icall_of_iwp (fun _ => 0) Try.func5 rfl (by kernel_rfl) (Nat.le_of_ble_eq_true rfl) ?_
  rw [Try.results5]
  simp -implicitDefEqProofs [go_sem]
  refine cK_dec (fun hlt => ?_) (fun hlt => ?_)
  · simp -implicitDefEqProofs [go_sem]
    refine (awake_c h).mono ?_
    rintro e h' ⟨rfl, he⟩
    rw [he]
    simp -implicitDefEqProofs [go_sem]
    exact ⟨_, Sub.refl _, rfl, rfl⟩
  simp -implicitDefEqProofs [go_sem]
  refine (size_nil_c 1 2 h).mono ?_
  rintro e h' ⟨rfl, he⟩
  rw [he]
  simp -implicitDefEqProofs [go_sem]
  refine (input_nil_c [1] h).mono ?_
  rintro e h' ⟨rfl, he⟩
  rw [he]
  simp -implicitDefEqProofs [go_sem]
  refine (close_nil_c h).mono ?_
  rintro e h' ⟨rfl, he⟩
  rw [he]
  have hc1 : (id < 0) ∨ (¬ id < 0 ∧ 2147483647 < id) ∨ (¬ id < 0 ∧ ¬ 2147483647 < id) := by omega
  have hc2 : l = [] ∨ (l ≠ [] ∧ 0 < l.length) := by
    by_cases h0 : l = []
    · exact .inl h0
    · exact .inr ⟨h0, List.length_pos_iff.2 h0⟩
  rcases hc1 with hid | ⟨hid, hid2⟩ | ⟨hid, hid2⟩ <;> rcases hc2 with rfl | ⟨hl0, hl1⟩
  all_goals
    simp -implicitDefEqProofs [go_sem, *]
    refine (bsize_nil_c id _).mono ?_
    rintro e h' ⟨rfl, he⟩
    rw [he]
    simp -implicitDefEqProofs [go_sem]
    refine (newBoard_c h).mono ?_
    rintro e h1 ⟨bb, mb, hb1, hb2, hb3, rfl, hh1⟩
    have hs1 : Sub h h1 := by
      obtain ⟨hB1, hF1⟩ := newB_at (k := 1) (tag := fun _ => (2, 0, 0)) hb1 hb2 hb3
      rw [← hh1] at hF1
      exact hF1.sub
    simp -implicitDefEqProofs [go_sem]
    refine (add_nils_c _ id h1).mono ?_
    rintro e h' ⟨rfl, he⟩
    rw [he]
    simp -implicitDefEqProofs [go_sem]
    refine (newRec_c h1).mono ?_
    rintro e h2 ⟨rb, hr1, rfl, hh2⟩
    have hs2 : Sub h h2 := by
      rw [hh2]
      refine hs1.upd ?_ _
      cases hx : h rb with
      | none => rfl
      | some o => rw [hs1 _ _ hx] at hr1; cases hr1
    clear hh1 hh2 hr1 hb1 hb2 hb3
    simp -implicitDefEqProofs [go_sem]
    refine (add_nilb_c id _ _ h2).mono ?_
    rintro e h' ⟨rfl, he⟩
    rw [he]
    simp -implicitDefEqProofs [go_sem, *]
    have hsh := show_nil_c [⟨id, 0, 0, 0, 0⟩] (by simp) h2
    simp only [List.map, Pn.row] at hsh
    refine hsh.mono ?_
    rintro e h' ⟨rfl, he⟩
    rw [he]
    simp -implicitDefEqProofs [go_sem]
    refine (send_nil_c id [1] h2).mono ?_
    rintro e h' ⟨rfl, he⟩
    rw [he]
    simp -implicitDefEqProofs [go_sem]
    first
    | refine (drop_nil_c l (by omega) h2).mono ?_
    | refine (drop_nil_c [] (by simp) h2).mono ?_
    rintro e h' ⟨rfl, he⟩
    rw [he]
    simp -implicitDefEqProofs [go_sem, *]
    refine (panes_nil_c h2).mono ?_
    rintro e h' ⟨rfl, he⟩
    rw [he]
    simp -implicitDefEqProofs [go_sem]
    refine (events_nil_c h2).mono ?_
    rintro e h' ⟨rfl, he⟩
    rw [he]
    have hw0 : IntKind.i64.wrap 0 = 0 := by decide
    simp -implicitDefEqProofs [go_sem, hw0]
    refine (awake_c h2).mono ?_
    rintro e h' ⟨rfl, he⟩
    rw [he]
    simp -implicitDefEqProofs [go_sem]
    exact ⟨_, hs2, rfl, rfl⟩
end Go.Proofs
