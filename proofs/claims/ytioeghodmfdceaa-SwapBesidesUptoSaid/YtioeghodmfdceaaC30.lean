/- This text is a part of the proofs of the statements of this seat: the ideal states and their rules, or what one of the functions that the statements reach comes to. Conditions: none beyond those that each theorem names. -/
import Derived.Test.YtioeghodmfdceaaC29
set_option linter.unusedVariables false
set_option linter.unusedSimpArgs false
set_option pp.deepTerms false
set_option pp.maxSteps 400
namespace Go.Proofs
open Go.Idl

theorem pane_mem {c : Cel} {i : Nat} (hi : i < c.panes.length) : c.panes[i].id ∈ c.ids := by
  have hl1 : i < c.leaves.length := by rw [← panes_len]; exact hi
  simp only [Cel.panes, List.getElem_map, Cel.pn, Cel.ids]
  exact List.mem_map_of_mem (List.getElem_mem hl1)

/-- what becomes of a leaf that changes places with one beside it: the tree that the error goes with, or the other leaf's number -/
def besV (c : Cel) (id b : Int) : Option Int → IV
  | none => .tup [.agg Cel.zero.row, .int .i64 6]
  | some other => .tup [.agg (c.nm (two c.ids id other)).row, .int .i64 0]
def besR (c : Cel) (id b : Int) (h : Heap) (e : IEnd) (h' : Heap) : Prop :=
  h' = h ∧ if c.tiles = true then
    (((∀ p ∈ c.panes, p.id ≠ id) ∧ e = .ret (.tup [.agg Cel.zero.row, .int .i64 6])) ∨
     ∃ (i : Nat) (hi : i < c.panes.length), isFnd c.panes id i ∧ c.panes[i].id = id ∧ e = .ret (.tup [.agg (c.nm (two c.ids id (c.panes[nxI c.panes.length i b]'(nxI_lt b hi).1).id)).row, .int .i64 0]))
  else e = .ret (.tup [.agg Cel.zero.row, .int .i64 1])

theorem two_ok {c : Cel} (ht : c.tiles = true) {id b : Int} {i : Nat} (hi : i < c.panes.length) (hid : c.panes[i].id = id) :
    twoV c id (c.panes[nxI c.panes.length i b]'(nxI_lt b hi).1).id = .tup [.agg (c.nm (two c.ids id (c.panes[nxI c.panes.length i b]'(nxI_lt b hi).1).id)).row, .int .i64 0] := by
  rw [twoV, if_pos ht, if_pos ⟨hid ▸ pane_mem hi, pane_mem (nxI_lt b hi).1⟩, vecR, if_pos rfl]

set_option maxRecDepth 20000 in
set_option maxHeartbeats 4000000 in
theorem beside_c (c : Cel) (id b : Int) (h : Heap) (hs : c.size < 100000000) : ICall Try.prog 19 [.agg c.row, .int .i64 id, .int .i64 b] h (besR c id b h) := by
  refine icall_of_iwp (fun _ => 0) Try.func19 rfl (by kernel_rfl) (Nat.le_of_ble_eq_true rfl) ?_
  rw [Try.results19]
  simp -implicitDefEqProofs [go_sem]
  refine (tTiles_c c h (by omega)).mono ?_
  rintro e h' ⟨rfl, he⟩
  rw [he]
  cases ht : c.tiles with
  | false =>
    simp -implicitDefEqProofs [go_sem]
    exact ⟨h, Sub.refl _, rfl, by rw [ht, Cel.zero_row]; rfl⟩
  | true =>
    simp -implicitDefEqProofs [go_sem]
    refine (next_c c id b h hs).mono ?_
    rintro e h' ⟨he, ⟨hno, rfl⟩ | ⟨i, hi, hfnd, hid, rfl⟩⟩
    · rw [he]
      simp -implicitDefEqProofs [go_sem]
      exact ⟨h, Sub.refl _, rfl, by rw [if_pos ht]; exact .inl ⟨hno, by rw [Cel.zero_row]⟩⟩
    · rw [he]
      simp -implicitDefEqProofs [go_sem]
      refine (swapTwo_c c id _ h hs).mono ?_
      rintro e h' ⟨rfl, he⟩
      rw [he, two_ok ht hi hid]
      simp -implicitDefEqProofs [go_sem]
      exact ⟨h, Sub.refl _, rfl, by rw [if_pos ht]; exact .inr ⟨i, hi, hfnd, hid, rfl⟩⟩

set_option maxRecDepth 20000 in
set_option maxHeartbeats 4000000 in
theorem swapBesides_c (c : Cel) (id b : Int) (h : Heap) (hs : c.size < 100000000) :
    ICall Try.prog 6 [.agg c.row, .int .i64 id, .int .i64 b] h (retP (.bool true) h) := by
  refine icall_of_iwp (fun _ => 0) Try.func6 rfl (by kernel_rfl) (Nat.le_of_ble_eq_true rfl) ?_
  rw [Try.results6]
  simp -implicitDefEqProofs [go_sem]
  refine (great_c c h (by omega)).mono ?_
  rintro e h' ⟨g, rfl, he, _⟩
  rw [he]
  have aw : ∀ (R : IEnd → Heap → Prop), R (.ret (.bool true)) h → ICall Try.prog 9 [] h R := fun R hR => (awake_c h).mono (by rintro e h' ⟨rfl, rfl⟩; exact hR)
  have sz : ∀ (R : IEnd → Heap → Prop), R (.ret (.bool true)) h → ICall Try.prog 12 [.agg Cel.zero.row, .agg [.int .u8 0, .int .i64 0, .int .i64 0, .int .i64 0, .int .i64 0, .int .i64 0, .list .plain []]] h R := fun R hR => by
    have := same_c Cel.zero Cel.zero h (by decide +kernel)
    rw [Cel.zero_row] at this ⊢
    exact this.mono (by rintro e h' ⟨rfl, rfl⟩; rw [beq_self]; exact hR)
  simp -implicitDefEqProofs [go_sem]
  refine cK_any (fun k1 => ?_) (fun k1 => ?_) <;> simp -implicitDefEqProofs [go_sem]
  · refine aw _ ?_
    simp -implicitDefEqProofs [go_sem]
    exact ⟨h, Sub.refl _, rfl, rfl⟩
  refine (beside_c c id b h hs).mono ?_
  rintro e h' ⟨he0, he⟩
  rw [he0]
  cases ht : c.tiles with
  | false =>
    rw [ht, if_neg (by simp)] at he
    subst he
    simp -implicitDefEqProofs [go_sem]
    refine (tiles06_c c h (by omega)).mono ?_
    rintro e h' ⟨rfl, he⟩
    rw [he, ht]
    simp -implicitDefEqProofs [go_sem]
    refine sz _ ?_
    simp -implicitDefEqProofs [go_sem]
    refine aw _ ?_
    simp -implicitDefEqProofs [go_sem]
    exact ⟨h, Sub.refl _, rfl, rfl⟩
  | true =>
    rw [if_pos ht] at he
    rcases he with ⟨hno, rfl⟩ | ⟨i, hi, hfnd, hid, rfl⟩
    · simp -implicitDefEqProofs [go_sem]
      refine (tiles06_c c h (by omega)).mono ?_
      rintro e h' ⟨rfl, he⟩
      rw [he, ht]
      simp -implicitDefEqProofs [go_sem]
      refine (next07_c c id b h hs).mono ?_
      rintro e h' ⟨he, ⟨_, rfl⟩ | ⟨j, hj, _, hjd, rfl⟩⟩
      · rw [he]
        simp -implicitDefEqProofs [go_sem]
        refine sz _ ?_
        simp -implicitDefEqProofs [go_sem]
        refine aw _ ?_
        simp -implicitDefEqProofs [go_sem]
        exact ⟨h, Sub.refl _, rfl, rfl⟩
      · exact absurd hjd (hno _ (List.getElem_mem hj))
    · simp -implicitDefEqProofs [go_sem]
      refine (tiles06_c c h (by omega)).mono ?_
      rintro e h' ⟨rfl, he⟩
      rw [he, ht]
      simp -implicitDefEqProofs [go_sem]
      refine (next07_c c id b h hs).mono ?_
      rintro e h' ⟨he, ⟨hno, rfl⟩ | ⟨j, hj, hfj, hjd, rfl⟩⟩
      · exact absurd hid (hno _ (List.getElem_mem hi))
      · rw [he]
        obtain rfl : i = j := by have := isFnd_uniq hfnd hfj; omega
        simp -implicitDefEqProofs [go_sem]
        refine (two15_c c id _ h hs).mono ?_
        rintro e h' ⟨rfl, he⟩
        rw [he, two_ok ht hi hid]
        simp -implicitDefEqProofs [go_sem]
        refine (same_c _ _ h (by rw [Cel.nm_size]; omega)).mono ?_
        rintro e h' ⟨rfl, he⟩
        rw [he, beq_self]
        simp -implicitDefEqProofs [go_sem]
        refine aw _ ?_
        simp -implicitDefEqProofs [go_sem]
        exact ⟨h, Sub.refl _, rfl, rfl⟩
end Go.Proofs
