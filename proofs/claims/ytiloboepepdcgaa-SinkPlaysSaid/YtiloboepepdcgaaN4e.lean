/- This text is a part of the proofs of the statements of this seat: the ideal states and their rules, or what one of the functions that the statements reach comes to. Conditions: none beyond those that each theorem names. -/
import Derived.Test.YtiloboepepdcgaaN0
import Derived.Test.YtiloboepepdcgaaK20
set_option linter.unusedVariables false
set_option linter.unusedSimpArgs false
namespace Go.Proofs
open Go.Idl Go.ChangeShapes Go.WideShapes Go.ChangeAt Go.RowKit

section
variable {H : Type} {enc : TypeId × Value → H} {W : World}
set_option maxRecDepth 20000 in
theorem acts_el (fuel : Nat) (cs : List Value) (x : DataW H × List MemPlace) (h : DataW.trod enc Try.prog W 0 (fun _ => true) true fuel 47 cs = some x) :
    ∃ a : Act, RepAll (oldF W) W a.row cs ∧ ∀ u ∈ cs, u.oneCell' = true := by
  obtain ⟨xs, n, _, _, hl, hlen, hf⟩ := DataW.trod_struct Try.underlying47 h
  have hl5 : cs.length = 5 := by rw [hl]; kernel_rfl
  obtain ⟨c0, c1, c2, c3, c4, rfl⟩ := list5 hl5
  obtain ⟨y0, y1, y2, y3, y4, rfl⟩ := list5 (l := xs) hlen
  have e1 : Try.prog.cellsOf 3 = 1 := by kernel_rfl
  have e2 : Try.prog.cellsOf 22 = 1 := by kernel_rfl
  have e3 : Try.prog.cellsOf 23 = 1 := by kernel_rfl
  have e4 : Try.prog.cellsOf 45 = 1 := by kernel_rfl
  have f0 : DataW.trod enc Try.prog W 0 (fun _ => true) true n 3 ((([c0, c1, c2, c3, c4] : List Value).drop 0).take (Try.prog.cellsOf 3)) = [y0, y1, y2, y3, y4][0]? := hf 0 _ rfl
  have f1 : DataW.trod enc Try.prog W 0 (fun _ => true) true n 3 ((([c0, c1, c2, c3, c4] : List Value).drop 1).take (Try.prog.cellsOf 3)) = [y0, y1, y2, y3, y4][1]? := hf 1 _ rfl
  have f2 : DataW.trod enc Try.prog W 0 (fun _ => true) true n 22 ((([c0, c1, c2, c3, c4] : List Value).drop 2).take (Try.prog.cellsOf 22)) = [y0, y1, y2, y3, y4][2]? := hf 2 _ rfl
  have f3 : DataW.trod enc Try.prog W 0 (fun _ => true) true n 23 ((([c0, c1, c2, c3, c4] : List Value).drop 3).take (Try.prog.cellsOf 23)) = [y0, y1, y2, y3, y4][3]? := hf 3 _ rfl
  have f4 : DataW.trod enc Try.prog W 0 (fun _ => true) true n 45 ((([c0, c1, c2, c3, c4] : List Value).drop 4).take (Try.prog.cellsOf 45)) = [y0, y1, y2, y3, y4][4]? := hf 4 _ rfl
  rw [e1] at f0 f1
  rw [e2] at f2
  rw [e3] at f3
  rw [e4] at f4
  simp only [List.drop_zero, List.drop_succ_cons, List.take_succ_cons, List.take_zero, List.getElem?_cons_zero, List.getElem?_cons_succ] at f0 f1 f2 f3 f4
  obtain ⟨k0, hk0, _⟩ := DataW.trod_int Try.underlying3 f0
  obtain ⟨k1, hk1, _⟩ := DataW.trod_int Try.underlying3 f1
  simp at hk0 hk1
  subst hk0; subst hk1
  obtain ⟨l2, r2, o2, _⟩ := slice_read Pn.row Try.underlying22 (z := 5) (by kernel_rfl) (by omega) pns_el f2
  obtain ⟨l3, r3, o3, _⟩ := slice_read byteRow Try.underlying23 (z := 1) (by kernel_rfl) (by omega) bytes_el f3
  obtain ⟨l4, r4, o4, _⟩ := slice_read intRow Try.underlying45 (z := 1) (by kernel_rfl) (by omega) ints_el f4
  refine ⟨⟨k0, k1, l2, l3, l4⟩, ⟨_, _, rfl, rfl, _, _, rfl, rfl, _, _, rfl, r2, _, _, rfl, r3, _, _, rfl, r4, rfl⟩, ?_⟩
  intro u hu
  simp at hu
  rcases hu with rfl | rfl | rfl | rfl | rfl
  · rfl
  · rfl
  · exact o2
  · exact o3
  · exact o4
end
end Go.Proofs
