/- This text is a part of the proofs of the statements of this seat: the ideal states and their rules, or what one of the functions that the statements reach comes to. Conditions: none beyond those that each theorem names. -/
import Derived.Test.YtfelioeeeimfeaaD6
import Derived.Test.YtfelioeeeimfeaaP2
set_option linter.unusedVariables false
set_option linter.unusedSimpArgs false
set_option pp.deepTerms false
set_option pp.maxSteps 400
namespace Go.Proofs
open Go.Idl

theorem ids_two (c : Cel) (h : ∀ d ∈ c.all, d.Ok) (hk : c.kind ≠ 1) : 1 < c.ids.length := by
  have hc := (h c (by rw [c.all_eq]; exact List.mem_cons_self)).2
  have h2 : 2 ≤ c.kids.length := by omega
  rw [ids_eq, if_neg hk, List.nil_append]
  match hks : c.kids with
  | [] => rw [hks] at h2; simp at h2
  | [d] => rw [hks] at h2; simp at h2
  | d :: d' :: ds =>
    have hd := ids_pos d (fun x hx => h x (by rw [c.all_eq, hks, Cel.alls]; exact List.mem_cons_of_mem _ (List.mem_append_left _ hx)))
    have hd' := ids_pos d' (fun x hx => h x (by rw [c.all_eq, hks, Cel.alls, Cel.alls]; exact List.mem_cons_of_mem _ (List.mem_append_right _ (List.mem_append_left _ hx))))
    have e : idsL (d :: d' :: ds) = d.ids ++ (d'.ids ++ idsL ds) := by simp [idsL, Cel.alls, Cel.ids, Cel.leaves]
    rw [e, List.length_append, List.length_append]; omega

theorem wsame_self (w : Wn) : w.same w = true := by simp [Wn.same, Cel.beq_iff.2 rfl]

theorem zoom_may {w : Wn} {id : Int} (hm : w.may = true) (he : zomE w id = 0) (z : Bool) : (Wn.mk w.tree id z).may = true ∧ zomE ⟨w.tree, id, z⟩ id = 0 := by
  have hin : id ∈ w.tree.ids ∧ w.tree.kind ≠ 1 := by
    unfold zomE at he
    by_cases h1 : id ∈ w.tree.ids
    · rw [if_pos h1] at he
      by_cases h2 : w.tree.kind = 1
      · rw [if_pos h2] at he; omega
      · exact ⟨h1, h2⟩
    · rw [if_neg h1] at he; omega
  simp only [Wn.may, Bool.and_eq_true, decide_eq_true_eq] at hm
  obtain ⟨⟨⟨⟨ht, hx⟩, hy⟩, _⟩, _⟩ := hm
  have htwo := ids_two w.tree (tiles_may ht).2.1 hin.2
  refine ⟨?_, by simp [zomE, hin.1, hin.2]⟩
  simp only [Wn.may, Bool.and_eq_true, decide_eq_true_eq]
  refine ⟨⟨⟨⟨ht, hx⟩, hy⟩, hin.1⟩, ?_⟩
  simp [htwo]

set_option maxRecDepth 20000 in
set_option maxHeartbeats 4000000 in
theorem windowZooms_c (w : Wn) (id : Int) (h : Heap) (hs : w.tree.size < 100000000) :
    ICall Try.prog 3 [.agg w.row, .int .i64 id] h (retP (.bool true) h) := by
  refine icall_of_iwp (fun _ => 0) Try.func3 rfl (by kernel_rfl) (Nat.le_of_ble_eq_true rfl) ?_
  rw [Try.results3]
  have aw : ∀ (R : IEnd → Heap → Prop), R (.ret (.bool true)) h → ICall Try.prog 6 [] h R := fun R hR => (awake18_c h).mono (by rintro e h' ⟨rfl, rfl⟩; exact hR)
  simp -implicitDefEqProofs [go_sem]
  refine (great_c w.tree h (by omega)).mono ?_
  rintro e h' ⟨b, rfl, he, _⟩
  rw [he]
  simp -implicitDefEqProofs [go_sem]
  refine cK_any (fun k1 => ?_) (fun k1 => ?_) <;> simp -implicitDefEqProofs [go_sem]
  · refine aw _ ?_
    simp -implicitDefEqProofs [go_sem]
    exact ⟨h, Sub.refl _, rfl, rfl⟩
  refine (zoom_c w id h hs).mono ?_
  rintro e h' ⟨rfl, he⟩
  rw [he]
  have bad : ∀ er : Int, er ≠ 0 → chgV w (zomW w w.z id) (zomE w id) = .tup [.agg w.row, .int .i64 er] → True := fun _ _ _ => trivial
  by_cases hm : w.may = true
  · by_cases her : zomE w id = 0
    · obtain ⟨y, hy⟩ : ∃ y, y = Wn.mk w.tree id (!w.z || decide (w.act ≠ id)) := ⟨_, rfl⟩
      have hy1 : zomW w w.z id = y := by rw [zomW, if_pos her, hy]
      have hyt : y.tree = w.tree := by rw [hy]
      have hya : y.act = id := by rw [hy]
      obtain ⟨m1, m2⟩ := zoom_may hm her (!w.z || decide (w.act ≠ id))
      rw [← hy] at m1 m2
      have hy2 : zomW y y.z id = ⟨w.tree, id, !y.z⟩ := by rw [zomW, if_pos m2, hyt, hya]; simp
      rw [chgV, if_pos hm, if_pos her, hy1]
      simp -implicitDefEqProofs [go_sem]
      refine (zoom_c y id h (by rw [hyt]; exact hs)).mono ?_
      rintro e h' ⟨rfl, he⟩
      rw [he, chgV, if_pos m1, if_pos m2, hy2]
      simp -implicitDefEqProofs [go_sem, hyt, hya]
      refine (same_c w.tree w.tree h (by omega)).mono ?_
      rintro e h' ⟨rfl, he⟩
      rw [he, Cel.beq_iff.2 rfl]
      simp -implicitDefEqProofs [go_sem, hyt, hya]
      refine (same_c w.tree w.tree h (by omega)).mono ?_
      rintro e h' ⟨rfl, he⟩
      rw [he, Cel.beq_iff.2 rfl]
      have hzz : ((!y.z) != y.z) = true := by cases y.z <;> rfl
      have hzz2 : (!(!y.z) == y.z) = true := by cases y.z <;> rfl
      simp -implicitDefEqProofs [go_sem, hyt, hya, hzz, hzz2]
      refine aw _ ?_
      simp -implicitDefEqProofs [go_sem]
      exact ⟨h, Sub.refl _, rfl, rfl⟩
    · have hb1 : (zomE w id != 0) = true := by simpa using her
      rw [chgV, if_pos hm, if_neg her]
      simp -implicitDefEqProofs [go_sem, hb1]
      refine (same18_c w w h hs).mono ?_
      rintro e h' ⟨rfl, he⟩
      rw [he, wsame_self]
      simp -implicitDefEqProofs [go_sem]
      refine aw _ ?_
      simp -implicitDefEqProofs [go_sem]
      exact ⟨h, Sub.refl _, rfl, rfl⟩
  · rw [chgV, if_neg hm]
    simp -implicitDefEqProofs [go_sem]
    refine (same18_c w w h hs).mono ?_
    rintro e h' ⟨rfl, he⟩
    rw [he, wsame_self]
    simp -implicitDefEqProofs [go_sem]
    refine aw _ ?_
    simp -implicitDefEqProofs [go_sem]
    exact ⟨h, Sub.refl _, rfl, rfl⟩
end Go.Proofs
