/- This text is a part of the proofs of the statements of this seat: the ideal states and their rules, or what one of the functions that the statements reach comes to. Conditions: none beyond those that each theorem names. -/
import Derived.Test.YtghpaalcedgcaaaGreatCD
set_option linter.unusedVariables false
set_option linter.unusedSimpArgs false
set_option pp.deepTerms false
set_option pp.maxSteps 400
namespace Go.Proofs
open Go.Idl

theorem ids_pos (c : Cel) : (∀ d ∈ c.all, d.Ok) → 0 < c.ids.length := by
  induction c using Cel.induct
  rename_i c ih
  intro h
  rw [ids_eq, List.length_append]
  have hc := (h c (by rw [c.all_eq]; exact List.mem_cons_self)).2
  by_cases hk : c.kind = 1
  · rw [if_pos hk]; simp; omega
  · have h2 : 2 ≤ c.kids.length := by omega
    cases hks : c.kids with
    | nil => rw [hks] at h2; simp at h2
    | cons d ds =>
      have := ih d (by rw [hks]; exact List.mem_cons_self) (fun x hx => h x (by rw [c.all_eq, hks, Cel.alls]; exact List.mem_cons_of_mem _ (List.mem_append_left _ hx)))
      have e : idsL (d :: ds) = d.ids ++ idsL ds := by simp [idsL, Cel.alls, Cel.ids, Cel.leaves]
      rw [e, List.length_append]; omega
theorem tiles_may {c : Cel} (h : c.tiles = true) : c.size ≤ 20000 ∧ (∀ d ∈ c.all, d.Ok) ∧ c.ids.Nodup := by
  rw [tiles_fold, Bool.and_eq_true] at h
  have := h.1
  rwa [Cel.may, decide_eq_true_eq] at this

def Cel.zero : Cel := .mk 0 ⟨0, 0, 0, 0⟩ 0 []
theorem Cel.zero_row : Cel.zero.row = [.int .u8 0, .int .i64 0, .int .i64 0, .int .i64 0, .int .i64 0, .int .i64 0, .list .plain []] := by rw [Cel.row_eq]; rfl
end Go.Proofs
