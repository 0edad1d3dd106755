/- This text is a part of the proofs of the statements of this seat: the ideal states and their rules, or what one of the functions that the statements reach comes to. Conditions: none beyond those that each theorem names. -/
import Derived.Test.YtiloboepepdcgaaC6
set_option linter.unusedVariables false
set_option linter.unusedSimpArgs false
set_option pp.deepTerms false
set_option pp.maxSteps 600
namespace Go.Proofs
open Go.Idl

def cutP (a1 : Bool) (r : Rct) (off n : Int) : Rct := if a1 = true then ⟨r.x + off, r.y, n, r.h⟩ else ⟨r.x, r.y + off, r.w, n⟩
def cutW (a1 : Bool) (r : Rct) : Int := if a1 = true then r.w else r.h
def cutO (off : Int) (ps : List Rct) : Int := match ps with | [] => off | _ => off + 1
def cutL (a1 : Bool) (r : Rct) (off : Int) (ps ls : List Rct) : List Rct := match ps with | [] => ls | _ => ls ++ [cutP a1 r off 1]
def cutBad (a1 : Bool) (r : Rct) (off n : Int) (ps : List Rct) : Prop := n < 1 ∨ n > cutW a1 r ∨ cutO off ps + n > cutW a1 r
instance (a1 : Bool) (r : Rct) (off n : Int) (ps : List Rct) : Decidable (cutBad a1 r off n ps) := by unfold cutBad; exact inferInstance
def cutStep (a1 : Bool) (r : Rct) (st : Option (Int × List Rct × List Rct)) (n : Int) : Option (Int × List Rct × List Rct) :=
  match st with
  | none => none
  | some (off, ps, ls) => if cutBad a1 r off n ps then none else some (cutO off ps + n, ps ++ [cutP a1 r (cutO off ps) n], cutL a1 r off ps ls)
def cutF (a1 : Bool) (r : Rct) (l : List Int) : Option (Int × List Rct × List Rct) := l.foldl (cutStep a1 r) (some (0, [], []))
def cutS (r : Rct) (ax : Int) (l : List Int) : Option (List Rct × List Rct) :=
  if r.may = true ∧ 1 ≤ ax ∧ ax ≤ 2 ∧ l ≠ [] then
    match cutF (ax == 1) r l with
    | some (off, ps, ls) => if off = cutW (ax == 1) r then some (ps, ls) else none
    | none => none
  else none
def cutV : Option (List Rct × List Rct) → IV
  | some (ps, ls) => .tup [.list .plain (ps.map Rct.row), .list .plain (ls.map Rct.row), .bool true]
  | none => .tup [.list .plain [], .list .plain [], .bool false]

theorem cut_none (a1 : Bool) (r : Rct) (l : List Int) : l.foldl (cutStep a1 r) none = none := by
  induction l with
  | nil => rfl
  | cons n l ih => exact ih
theorem cutF_succ (a1 : Bool) (r : Rct) (l : List Int) (i : Nat) (h : i < l.length) : cutF a1 r (l.take (i + 1)) = cutStep a1 r (cutF a1 r (l.take i)) l[i] := by
  have e : l.take (i + 1) = l.take i ++ [l[i]] := by rw [List.take_add_one, List.getElem?_eq_getElem h]; rfl
  rw [cutF, e, List.foldl_append, cutF]; rfl
theorem cutF_stop (a1 : Bool) (r : Rct) (l : List Int) (i : Nat) (h : cutF a1 r (l.take i) = none) : cutF a1 r l = none := by
  have : cutF a1 r l = (l.drop i).foldl (cutStep a1 r) (cutF a1 r (l.take i)) := by
    rw [cutF, cutF, ← List.foldl_append, List.take_append_drop]
  rw [this, h, cut_none]
theorem cutF_len (a1 : Bool) (r : Rct) (l : List Int) (off ps ls) (h : cutF a1 r l = some (off, ps, ls)) : ps.length = l.length ∧ ls.length ≤ l.length ∧ 0 ≤ off ∧ (l ≠ [] → off ≤ cutW a1 r) := by
  suffices H : ∀ (l2 : List Int) (o1 : Int) (p1 l1 : List Rct), l2.foldl (cutStep a1 r) (some (o1, p1, l1)) = some (off, ps, ls) → 0 ≤ o1 → ps.length = p1.length + l2.length ∧ ls.length ≤ l1.length + l2.length ∧ 0 ≤ off ∧ (l2 ≠ [] → off ≤ cutW a1 r) by
    have := H l 0 [] [] h (Int.le_refl _)
    simpa using this
  intro l2
  induction l2 with
  | nil => intro o1 p1 l1 h h0; cases h; simp [h0]
  | cons n l2 ih =>
    intro o1 p1 l1 h h0
    rw [List.foldl_cons] at h
    have h1 : 0 ≤ cutO o1 p1 := by unfold cutO; split <;> omega
    have h2 : (cutL a1 r o1 p1 l1).length ≤ l1.length + 1 := by unfold cutL; split <;> simp
    by_cases hc : cutBad a1 r o1 n p1
    · rw [cutStep, if_pos hc, cut_none] at h; cases h
    · rw [cutStep, if_neg hc] at h
      have hc' : 1 ≤ n ∧ n ≤ cutW a1 r ∧ cutO o1 p1 + n ≤ cutW a1 r := by unfold cutBad at hc; omega
      obtain ⟨k1, k2, k3, k4⟩ := ih _ _ _ h (by omega)
      refine ⟨by simp at k1 ⊢; omega, by simp; omega, k3, fun _ => ?_⟩
      cases l2 with
      | nil => cases h; exact hc'.2.2
      | cons _ _ => exact k4 (by simp)
end Go.Proofs
