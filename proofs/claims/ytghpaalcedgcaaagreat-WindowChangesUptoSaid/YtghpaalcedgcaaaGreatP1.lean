/- This text is a part of the proofs of the statements of this seat: the ideal states and their rules, or what one of the functions that the statements reach comes to. Conditions: none beyond those that each theorem names. -/
import Derived.Test.YtghpaalcedgcaaaGreatCD
set_option linter.unusedVariables false
set_option linter.unusedSimpArgs false
set_option pp.deepTerms false
set_option pp.maxSteps 400
namespace Go.Proofs
open Go.Idl

/-- a pane -/
structure Pn where
  id : Int
  r : Rct
def Pn.row (p : Pn) : List IV := .int .i64 p.id :: p.r.row
@[go_sem] theorem Pn.row_len (p : Pn) : p.row.length = 5 := by simp [Pn.row, Rct.row]
@[go_sem] theorem Pn.row_take (p : Pn) : p.row.take 5 = p.row := by simp [Pn.row, Rct.row]
@[go_sem] theorem Pn.row_strip (p : Pn) : p.row.map strip = p.row := by simp [Pn.row, Rct.row, strip]
@[go_sem] theorem Pn.row_strC (p : Pn) : p.row.map strC = p.row := by simp [Pn.row, Rct.row, strC]
@[go_sem] theorem Pn.row_okV (p : Pn) : okV (.agg p.row) = true := rfl
@[go_sem high] theorem Pn.at0 (p : Pn) : p.row.take 1 = [.int .i64 p.id] := by simp [Pn.row]
@[go_sem high] theorem Pn.at1 (p : Pn) : (p.row.drop 1).take 4 = p.r.row := by simp [Pn.row, Rct.row]
@[go_sem high] theorem Pn.at1t (p : Pn) : p.row.tail.take 4 = p.r.row := by simp [Pn.row, Rct.row]
@[go_sem high] theorem Pn.rows_uni (l : List Pn) : uni 5 (l.map Pn.row) = true := by simp [uni, Pn.row_len]
def Cel.pn (d : Cel) : Pn := ⟨d.id, d.r⟩
def Cel.panes (c : Cel) : List Pn := c.leaves.map Cel.pn
theorem panes_len (c : Cel) : c.panes.length = c.leaves.length := by simp [Cel.panes]
@[go_sem] theorem Cel.pn_row (d : Cel) : IV.int .i64 d.id :: d.r.row = d.pn.row := rfl

end Go.Proofs
