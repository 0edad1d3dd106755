/- This text is a part of the proofs of the statements of this seat: the ideal states and their rules, or what one of the functions that the statements reach comes to. Conditions: none beyond those that each theorem names. -/
import Derived.Test.YtfelioeeeimfeaaR1
import Derived.Test.YtfelioeeeimfeaaD1
set_option linter.unusedVariables false
set_option linter.unusedSimpArgs false
namespace Go.Proofs
open Go.Idl Go.ChangeShapes Go.WideShapes Go.ChangeAt Go.RowKit Go.Proofs
open Go.Proofs.Ytfelioeeeimfeaa.Rows (uptoBulk uptoBulkAll)

theorem list3 {α : Type} {l : List α} (h : l.length = 3) : ∃ a b c, l = [a, b, c] := by
  match l, h with
  | [a, b, c], _ => exact ⟨a, b, c, rfl⟩
theorem list9 {α : Type} {l : List α} (h : l.length = 9) : ∃ a b c d e f g i j, l = [a, b, c, d, e, f, g, i, j] := by
  match l, h with
  | [a, b, c, d, e, f, g, i, j], _ => exact ⟨a, b, c, d, e, f, g, i, j, rfl⟩

set_option maxRecDepth 20000 in
theorem wn_read {H : Type} {enc : TypeId × Value → H} {W : World} {fuel : Nat} {cs : List Value} {x : DataW H × List MemPlace} (h : DataW.trod enc Try.prog W 0 (fun _ => true) true fuel 28 cs = some x) :
    ∃ w : Wn, RepAll (oldF W) W w.row cs ∧ (∀ u ∈ cs, u.oneCell' = true) ∧ w.tree.size ≤ uptoBulk x.1 := by
  obtain ⟨xs, n, _, rfl, hl, hlen, hf⟩ := DataW.trod_struct Try.underlying28 h
  have hl9 : cs.length = 9 := by rw [hl]; kernel_rfl
  obtain ⟨c0, c1, c2, c3, c4, c5, c6, c7, c8, rfl⟩ := list9 hl9
  obtain ⟨y0, y1, y2, rfl⟩ := list3 (l := xs) hlen
  have e1 : Try.prog.cellsOf 3 = 1 := by kernel_rfl
  have e2 : Try.prog.cellsOf 4 = 1 := by kernel_rfl
  have e3 : Try.prog.cellsOf 26 = 7 := by kernel_rfl
  have f0 : DataW.trod enc Try.prog W 0 (fun _ => true) true n 26 ((([c0, c1, c2, c3, c4, c5, c6, c7, c8] : List Value).drop 0).take (Try.prog.cellsOf 26)) = [y0, y1, y2][0]? := hf 0 _ rfl
  rw [e3] at f0
  have f1 : DataW.trod enc Try.prog W 0 (fun _ => true) true n 3 ((([c0, c1, c2, c3, c4, c5, c6, c7, c8] : List Value).drop 7).take (Try.prog.cellsOf 3)) = [y0, y1, y2][1]? := hf 1 _ rfl
  rw [e1] at f1
  have f2 : DataW.trod enc Try.prog W 0 (fun _ => true) true n 4 ((([c0, c1, c2, c3, c4, c5, c6, c7, c8] : List Value).drop 8).take (Try.prog.cellsOf 4)) = [y0, y1, y2][2]? := hf 2 _ rfl
  rw [e2] at f2
  simp only [List.drop_zero, List.drop_succ_cons, List.take_succ_cons, List.take_zero, List.getElem?_cons_zero, List.getElem?_cons_succ] at f0 f1 f2
  obtain ⟨act, ha, _⟩ := DataW.trod_int Try.underlying3 f1
  obtain ⟨z, hz, _⟩ := DataW.trod_bool Try.underlying4 f2
  simp at ha hz
  subst ha; subst hz
  obtain ⟨c, hc1, hc2, hc3⟩ := cel_read _ _ _ f0
  refine ⟨⟨c, act, z⟩, ?_, ?_, ?_⟩
  · have : RepAll (oldF W) W [IV.int .i64 act, .bool z] [.int .i64 act, .bool z] := ⟨_, _, rfl, rfl, _, _, rfl, rfl, rfl⟩
    exact hc1.append this
  · intro u hu
    have : u ∈ [c0, c1, c2, c3, c4, c5, c6] ++ [Value.int .i64 act, .bool z] := by simpa using hu
    rcases List.mem_append.1 this with hu | hu
    · exact hc2 u hu
    · simp at hu
      rcases hu with rfl | rfl <;> rfl
  · simp only [uptoBulk, uptoBulkAll, List.map_cons, List.map_nil]
    omega
end Go.Proofs
