/- This text is a part of the proofs of the statements of this seat: the ideal states and their rules, or what one of the functions that the statements reach comes to. Conditions: none beyond those that each theorem names. -/
import Derived.Test.YtiloboepepdcgaaO2
set_option linter.unusedVariables false
set_option linter.unusedSimpArgs false
set_option pp.deepTerms false
set_option pp.maxSteps 400
namespace Go.Proofs
open Go.Idl

set_option maxRecDepth 20000 in
set_option maxHeartbeats 4000000 in
theorem swapOrders_c (c : Cel) (l : List Int) (h : Heap) (hs : c.size < 100000000) :
    ICall Try.prog 7 [.agg c.row, .list .plain (l.map intRow)] h (retP (.bool true) h) := by
  refine icall_of_iwp (fun _ => 0) Try.func7 rfl (by kernel_rfl) (Nat.le_of_ble_eq_true rfl) ?_
  rw [Try.results7]
  simp -implicitDefEqProofs [go_sem]
  refine (great_c c h (by omega)).mono ?_
  rintro e h' ⟨b, rfl, he, _⟩
  rw [he]
  have aw : ∀ (R : IEnd → Heap → Prop), R (.ret (.bool true)) h → ICall Try.prog 36 [] h R := fun R hR => (awake_c h).mono (by rintro e h' ⟨rfl, rfl⟩; exact hR)
  cases b with
  | true =>
    simp -implicitDefEqProofs [go_sem]
    refine aw _ ?_
    simp -implicitDefEqProofs [go_sem]
    exact ⟨h, Sub.refl _, rfl, rfl⟩
  | false =>
  simp -implicitDefEqProofs [go_sem]
  refine cK_dec (fun k1 => ?_) (fun k1 => ?_)
  · simp -implicitDefEqProofs [go_sem]
    refine aw _ ?_
    simp -implicitDefEqProofs [go_sem]
    exact ⟨h, Sub.refl _, rfl, rfl⟩
  simp -implicitDefEqProofs [go_sem]
  have o1 := swapOrder_c c l h hs (by omega)
  have o2 := order15_c c l h hs (by omega)
  have hcs : ∃ (d : Cel) (er : Int), ordV c l = .tup [.agg d.row, .int .i64 er] ∧ d.size < 100000000000 := by
    unfold ordV
    split
    · split
      · exact ⟨_, _, rfl, by decide +kernel⟩
      · split
        · exact ⟨c.nm l, 0, rfl, by rw [Cel.nm_size]; omega⟩
        · exact ⟨_, _, rfl, by decide +kernel⟩
    · exact ⟨_, _, rfl, by decide +kernel⟩
  obtain ⟨d, er, hV, hd⟩ := hcs
  rw [hV] at o1 o2
  refine o1.mono ?_
  rintro e h' ⟨rfl, he⟩
  rw [he]
  simp -implicitDefEqProofs [go_sem]
  refine o2.mono ?_
  rintro e h' ⟨rfl, he⟩
  rw [he]
  simp -implicitDefEqProofs [go_sem]
  refine (same_c d d h hd).mono ?_
  rintro e h' ⟨rfl, he⟩
  rw [he, beq_self]
  simp -implicitDefEqProofs [go_sem]
  refine aw _ ?_
  simp -implicitDefEqProofs [go_sem]
  exact ⟨h, Sub.refl _, rfl, rfl⟩
end Go.Proofs
