/- This text is a part of the proofs of the statements of this seat: the ideal states and their rules, or what one of the functions that the statements reach comes to. Conditions: none beyond those that each theorem names. -/
import Derived.Test.YtiloboepepdcgaaK9
set_option linter.unusedVariables false
set_option linter.unusedSimpArgs false
set_option pp.deepTerms false
set_option pp.maxSteps 400
namespace Go.Proofs
open Go.Idl

/-! new boards, the document's example -/
theorem newB_at {k : Nat} {tag : Nat → Nat × Nat × Nat} {h : Heap} {bb mb : Nat} (h1 : h bb = none) (h2 : h mb = none) (h3 : bb ≠ mb) :
    BoardAt k (upd (upd tag bb (k, 0, 0)) mb (k, 1, 0)) (upd (upd h mb (some (.map []))) bb (some (.cells [.mapv mb]))) bb mb [] ∧
    Frm k tag h (upd (upd tag bb (k, 0, 0)) mb (k, 1, 0)) (upd (upd h mb (some (.map []))) bb (some (.cells [.mapv mb]))) := by
  refine ⟨⟨upd_same _ _ _, ?_, ?_, upd_same _ _ _, fun i p hp => by simp at hp, by simp⟩, ?_⟩
  · rw [upd_ne _ _ h3, upd_same]
  · rw [upd_ne _ _ (Ne.symm h3), upd_same]; rfl
  · intro j o hj ht
    have n1 : j ≠ bb := by rintro rfl; rw [h1] at hj; cases hj
    have n2 : j ≠ mb := by rintro rfl; rw [h2] at hj; cases hj
    rw [upd_ne _ _ n1, upd_ne _ _ n2, upd_ne _ _ n2, upd_ne _ _ n1]; exact ⟨hj, rfl⟩

theorem Frm.sub {k : Nat} {h : Heap} {tag' h'} (hf : Frm k (fun _ => (k+1, 0, 0)) h tag' h') : Sub h h' := fun j o hj => (hf j o hj (by simp)).1
/-- what a pane's record holds -/
theorem BoardAt.recs {k tag h bb mb L} (hB : BoardAt k tag h bb mb L) {i : Nat} {p : PB} (hi : L[i]? = some p) : RecIs h p.rb p.eb p.cap p.m.evs := (hB.hp i p hi).2.1

set_option maxRecDepth 20000 in
theorem awake_c (h : Heap) : ICall Try.prog 14 [] h (retP (.bool true) h) := by
  refine icall_of_iwp (fun _ => 0) Try.func14 rfl (by kernel_rfl) (Nat.le_of_ble_eq_true rfl) ?_
  rw [Try.results14]
  simp -implicitDefEqProofs [go_sem]
  refine (newBoard_c h).mono ?_
  rintro e h1 ⟨bb, mb, hb1, hb2, hb3, rfl, hh1⟩
  obtain ⟨hB1, hF1⟩ := newB_at (k := 1) (tag := fun _ => (2, 0, 0)) hb1 hb2 hb3
  rw [← hh1] at hB1 hF1
  simp -implicitDefEqProofs [go_sem]
  refine (newRec_c h1).mono ?_
  rintro e h2 ⟨rb, hr1, rfl, hh2⟩
  have hB2 := hB1.grow hr1 (some (.cells [.list .tight []])) (1, 3, 0)
  have hF2 := hF1.trans (Frm.grow (k := 1) hr1 (some (.cells [.list .tight []])) (1, 3, 0))
  have hr2 : h2 rb = some (.cells [.list .tight []]) := by rw [hh2, upd_same]
  rw [← hh2] at hB2 hF2
  simp -implicitDefEqProofs [go_sem]
  refine (add_c hB2 4 hr2 (upd_same _ _ _)).mono ?_
  intro e h3 hA
  rw [addR, if_neg (by omega), if_neg (by simp)] at hA
  obtain ⟨rfl, pb, tag3, hB3, hF3, hS3⟩ := hA
  simp -implicitDefEqProofs [go_sem]
  have hsh := show_c hB3 [⟨4, 0, 0, 3, 2⟩, ⟨4, 0, 0, 3, 2⟩] 0 (by intro p hp; simp [newP] at hp; rw [hp]; simp) (by simp)
  simp only [List.map, Pn.row] at hsh
  refine hsh.mono ?_
  rintro e h4 ⟨tag4, L4, he, hB4, hF4, hS4, hL4⟩
  obtain rfl : e = .ret (.int .i64 1) := he
  have hM : showM ([newP 4 pb rb].map (·.m)) [⟨4, 0, 0, 3, 2⟩, ⟨4, 0, 0, 3, 2⟩] = ([⟨4, true, 3, 2, [⟨1, 3, 2, ⟨#[]⟩⟩], false⟩], 1) := by rfl
  rw [List.nil_append] at hL4 hS4
  rw [hM] at hL4
  obtain ⟨p4, hp4, hprb⟩ := hS4 0 _ rfl
  have hp4m : p4.m = ⟨4, true, 3, 2, [⟨1, 3, 2, ⟨#[]⟩⟩], false⟩ := by
    have := congrArg (fun l => l[0]?) hL4
    simpa [hp4] using this
  have hrec := hB4.recs hp4
  have hev := events_c p4.rb p4.eb p4.cap p4.m.evs h4 hrec (by rw [hp4m]; simp)
  rw [hprb, hp4m] at hev
  simp -implicitDefEqProofs [go_sem]
  refine hev.mono ?_
  rintro e h5 ⟨rfl, rfl⟩
  simp -implicitDefEqProofs [go_sem]
  have hsm := same_c [⟨1, 3, 2, ⟨#[]⟩⟩] [⟨1, 3, 2, ⟨#[]⟩⟩] (by simp) (by simp) h5
  simp only [List.map, Ev.row] at hsm
  refine hsm.mono ?_
  rintro e h6 ⟨rfl, rfl⟩
  simp -implicitDefEqProofs [go_sem]
  exact ⟨_, Frm.sub (((hF2.trans hF3).trans hF4)), rfl, rfl⟩
end Go.Proofs
