/- This text is a part of the proofs of the statements of this seat: the ideal states and their rules, or what one of the functions that the statements reach comes to. Conditions: none beyond those that each theorem names. -/
import Derived.Test.YtiloboepepdcgaaR0
import Derived.Test.YtiloboepepdcgaaK12
set_option linter.unusedVariables false
set_option linter.unusedSimpArgs false
namespace Go.Proofs
open Go.Idl Go.ChangeShapes Go.WideShapes Go.ChangeAt Go.RowKit

section
variable {H : Type} {enc : TypeId × Value → H} {W : World}
theorem list2 {α : Type} {l : List α} (h : l.length = 2) : ∃ a b, l = [a, b] := by
  match l, h with
  | [a, b], _ => exact ⟨a, b, rfl⟩
theorem list5 {α : Type} {l : List α} (h : l.length = 5) : ∃ a b c d e, l = [a, b, c, d, e] := by
  match l, h with
  | [a, b, c, d, e], _ => exact ⟨a, b, c, d, e, rfl⟩
theorem ints_el (fuel : Nat) (cs : List Value) (x : DataW H × List MemPlace) (h : DataW.trod enc Try.prog W 0 (fun _ => true) true fuel 3 cs = some x) :
    ∃ a : Int, RepAll (oldF W) W (intRow a) cs ∧ ∀ u ∈ cs, u.oneCell' = true := by
  obtain ⟨n, rfl, _⟩ := int_read Try.underlying3 _ _ _ h
  exact ⟨n, ⟨_, _, rfl, rfl, rfl⟩, by intro u hu; simp at hu; subst hu; rfl⟩
theorem bytes_el (fuel : Nat) (cs : List Value) (x : DataW H × List MemPlace) (h : DataW.trod enc Try.prog W 0 (fun _ => true) true fuel 5 cs = some x) :
    ∃ a : UInt8, RepAll (oldF W) W (byteRow a) cs ∧ ∀ u ∈ cs, u.oneCell' = true := by
  obtain ⟨n, rfl, hw⟩ := int_read Try.underlying5 _ _ _ h
  have hb : 0 ≤ n ∧ n ≤ 255 := bounds_u8 hw
  have hn : ((UInt8.ofNat n.toNat).toNat : Int) = n := by
    rw [UInt8.toNat_ofNat']
    have : n.toNat % 2 ^ 8 = n.toNat := Nat.mod_eq_of_lt (by omega)
    omega
  refine ⟨UInt8.ofNat n.toNat, ?_, by intro u hu; simp at hu; subst hu; rfl⟩
  simp only [byteRow, hn]
  exact ⟨_, _, rfl, rfl, rfl⟩
set_option maxRecDepth 20000 in
theorem pns_el (fuel : Nat) (cs : List Value) (x : DataW H × List MemPlace) (h : DataW.trod enc Try.prog W 0 (fun _ => true) true fuel 67 cs = some x) :
    ∃ p : Pn, RepAll (oldF W) W p.row cs ∧ ∀ u ∈ cs, u.oneCell' = true := by
  obtain ⟨xs, n, _, _, hl, hlen, hf⟩ := DataW.trod_struct Try.underlying67 h
  have hl5 : cs.length = 5 := by rw [hl]; kernel_rfl
  obtain ⟨c0, c1, c2, c3, c4, rfl⟩ := list5 hl5
  obtain ⟨y0, y1, rfl⟩ := list2 (l := xs) hlen
  have e1 : Try.prog.cellsOf 3 = 1 := by kernel_rfl
  have e4 : Try.prog.cellsOf 65 = 4 := by kernel_rfl
  have f0 : DataW.trod enc Try.prog W 0 (fun _ => true) true n 3 ((([c0, c1, c2, c3, c4] : List Value).drop 0).take (Try.prog.cellsOf 3)) = [y0, y1][0]? := hf 0 _ rfl
  rw [e1] at f0
  have f1 : DataW.trod enc Try.prog W 0 (fun _ => true) true n 65 ((([c0, c1, c2, c3, c4] : List Value).drop 1).take (Try.prog.cellsOf 65)) = [y0, y1][1]? := hf 1 _ rfl
  rw [e4] at f1
  simp only [List.drop_zero, List.drop_succ_cons, List.take_succ_cons, List.take_zero, List.getElem?_cons_zero, List.getElem?_cons_succ] at f0 f1
  obtain ⟨k, hk, _⟩ := DataW.trod_int Try.underlying3 f0
  simp at hk
  subst hk
  obtain ⟨zs, m, _, _, hl', hlen', hg⟩ := DataW.trod_struct Try.underlying65 f1
  have g0 : DataW.trod enc Try.prog W 0 (fun _ => true) true m 3 ((([c1, c2, c3, c4] : List Value).drop 0).take (Try.prog.cellsOf 3)) = zs[0]? := hg 0 _ rfl
  have g1 : DataW.trod enc Try.prog W 0 (fun _ => true) true m 3 ((([c1, c2, c3, c4] : List Value).drop 1).take (Try.prog.cellsOf 3)) = zs[1]? := hg 1 _ rfl
  have g2 : DataW.trod enc Try.prog W 0 (fun _ => true) true m 3 ((([c1, c2, c3, c4] : List Value).drop 2).take (Try.prog.cellsOf 3)) = zs[2]? := hg 2 _ rfl
  have g3 : DataW.trod enc Try.prog W 0 (fun _ => true) true m 3 ((([c1, c2, c3, c4] : List Value).drop 3).take (Try.prog.cellsOf 3)) = zs[3]? := hg 3 _ rfl
  rw [e1] at g0 g1 g2 g3
  simp only [List.drop_zero, List.drop_succ_cons, List.take_succ_cons, List.take_zero] at g0 g1 g2 g3
  have g : ∀ (i : Nat) (c : Value), i < 4 → DataW.trod enc Try.prog W 0 (fun _ => true) true m 3 [c] = zs[i]? → ∃ k, c = .int .i64 k := by
    intro i c hi hc
    obtain ⟨y, hy⟩ : ∃ y, zs[i]? = some y := ⟨zs[i]'(by rw [hlen']; exact hi), List.getElem?_eq_getElem _⟩
    rw [hy] at hc
    obtain ⟨k, hk, _⟩ := DataW.trod_int Try.underlying3 hc
    simp at hk
    exact ⟨k, hk⟩
  obtain ⟨k1, rfl⟩ := g 0 _ (by omega) g0
  obtain ⟨k2, rfl⟩ := g 1 _ (by omega) g1
  obtain ⟨k3, rfl⟩ := g 2 _ (by omega) g2
  obtain ⟨k4, rfl⟩ := g 3 _ (by omega) g3
  refine ⟨⟨k, k1, k2, k3, k4⟩, ⟨_, _, rfl, rfl, _, _, rfl, rfl, _, _, rfl, rfl, _, _, rfl, rfl, _, _, rfl, rfl, rfl⟩, ?_⟩
  intro u hu
  simp at hu
  rcases hu with rfl | rfl | rfl | rfl | rfl <;> rfl
end
end Go.Proofs
