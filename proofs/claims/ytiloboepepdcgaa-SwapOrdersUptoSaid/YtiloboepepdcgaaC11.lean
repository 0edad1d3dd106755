/- This text is a part of the proofs of the statements of this seat: the ideal states and their rules, or what one of the functions that the statements reach comes to. Conditions: none beyond those that each theorem names. -/
import Derived.Test.YtiloboepepdcgaaC10
set_option linter.unusedVariables false
set_option linter.unusedSimpArgs false
set_option pp.deepTerms false
set_option pp.maxSteps 400
namespace Go.Proofs
open Go.Idl

mutual
/-- how many leaves -/
def Cel.lv : Cel → Nat
  | .mk k _ _ kids => (if k = 1 then 1 else 0) + Cel.lvs kids
def Cel.lvs : List Cel → Nat
  | [] => 0
  | c :: cs => c.lv + Cel.lvs cs
end
mutual
/-- leaves have these numbers -/
def Cel.nm : Cel → List Int → Cel
  | .mk k r id kids, ids => .mk k r (if k = 1 then ids.headD 0 else id) (Cel.nms kids (ids.drop (if k = 1 then 1 else 0)))
def Cel.nms : List Cel → List Int → List Cel
  | [], _ => []
  | c :: cs, ids => c.nm ids :: Cel.nms cs (ids.drop c.lv)
end
theorem Cel.lv_eq (c : Cel) : c.lv = (if c.kind = 1 then 1 else 0) + Cel.lvs c.kids := by cases c; rw [Cel.lv]; rfl
theorem Cel.nm_eq (c : Cel) (ids : List Int) : c.nm ids = .mk c.kind c.r (if c.kind = 1 then ids.headD 0 else c.id) (Cel.nms c.kids (ids.drop (if c.kind = 1 then 1 else 0))) := by cases c; rw [Cel.nm]; rfl
theorem Cel.lvs_take (l : List Cel) (i : Nat) (h : i < l.length) : Cel.lvs (l.take (i + 1)) = Cel.lvs (l.take i) + l[i].lv := by
  induction l generalizing i with
  | nil => simp at h
  | cons c cs ih =>
    cases i with
    | zero => simp [Cel.lvs]
    | succ i => simp at h; simp [Cel.lvs, ih i h]; omega
theorem Cel.lvs_le (l : List Cel) (i : Nat) : Cel.lvs (l.take i) ≤ Cel.lvs l := by
  induction l generalizing i with
  | nil => simp [Cel.lvs]
  | cons c cs ih =>
    cases i with
    | zero => simp [Cel.lvs]
    | succ i => simp [Cel.lvs]; exact ih i
theorem Cel.lv_size (c : Cel) : c.lv ≤ c.size :=
  Cel.rec (motive_1 := fun c => c.lv ≤ c.size) (motive_2 := fun l => Cel.lvs l ≤ Cel.sizes l) (fun k r id kids ih => by simp only [Cel.lv, Cel.size]; split <;> omega) (by simp [Cel.lvs, Cel.sizes]) (fun c cs h1 h2 => by simp only [Cel.lvs, Cel.sizes]; omega) c
theorem Cel.lvs_sizes (l : List Cel) : Cel.lvs l ≤ Cel.sizes l := by
  induction l with
  | nil => simp [Cel.lvs, Cel.sizes]
  | cons c cs ih => have := c.lv_size; simp only [Cel.lvs, Cel.sizes]; omega
theorem Cel.nms_take (l : List Cel) (ids : List Int) (i : Nat) (h : i < l.length) : Cel.nms (l.take (i + 1)) ids = Cel.nms (l.take i) ids ++ [l[i].nm (ids.drop (Cel.lvs (l.take i)))] := by
  induction l generalizing i ids with
  | nil => simp at h
  | cons c cs ih =>
    cases i with
    | zero => simp [Cel.nms, Cel.lvs]
    | succ i => simp at h; simp [Cel.nms, ih _ i h, Cel.lvs]
theorem Cel.nms_length (l : List Cel) (ids : List Int) : (Cel.nms l ids).length = l.length := by
  induction l generalizing ids with
  | nil => simp [Cel.nms]
  | cons c cs ih => simp [Cel.nms, ih]
end Go.Proofs
