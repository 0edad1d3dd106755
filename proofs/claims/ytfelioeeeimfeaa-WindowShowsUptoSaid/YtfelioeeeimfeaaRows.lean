/-
  NARROWER THAN 'FOR EVERY INPUT', by the rows' own cells (each row's printed sentence says how): WindowZooms: loops · WindowShows: loops.
  DERIVED. THE GIVEN ROWS OF THIS SEAT. 2 by the template 'for every input the law returns true; each argument reads behind the call as it read before'; 0 by the template 'total and deterministic' (their statements: YtfelioeeeimfeaaTotals.lean).
  GIVEN WITH THE SEED: the statements are not yours to turn. If you find one false, say at which input.
  Laid BY PROGRAM, IN A SANDBOX (cutbox-rows.mjs): the forced cells as the released guide's own fill.sh prints them over the translation ab78046b3e494075… (all of the seat's roots in one cut). By AI agents, Wed Nov 11 2026. No macro, syntax, notation, axiom, sorry.
-/
import Derived.Test.YtfelioeeeimfeaaChecked
import GoSem.Claim
import GoSem.ClaimJoined
import GoSem.ClaimMapViews
import Derived.JoinedTies
import Derived.KernelRfl
namespace Go.Proofs.Ytfelioeeeimfeaa
/- THE CELL 'sum', in the pinned program and in every row, IS THE sha256 OF THE DUMP (.gsa) THAT YtfelioeeeimfeaaProg.lean LOADS. Nothing in Lean hashes anything: it is a label: what it is worth is what the hold of that sum in a sandbox is worth. -/
noncomputable def Try.pinned : Pinned := { name := "ytfelioeeeimfeaa", sum := "ab78046b3e49407562247759d25d15f28eb250923219184a979493a8ec9ac4cd", checked := Try.checked }
namespace Rows
def none {H : Type} : Left H := { results := [], args := [] }

/-- 'sashlaw18.WindowZooms': WHATEVER THE INPUT: true; the input reads as it did. -/
def windowZoomsSpec : ChangeSpec := { name := "windowZooms", fn := fun _ => fun
  | [d1, d2] => { results := [.lit (.bool true)], args := [d1, d2] }
  | _ => none }
def windowZoomsRow : OpenClaim := { program := "ytfelioeeeimfeaa", sum := "ab78046b3e49407562247759d25d15f28eb250923219184a979493a8ec9ac4cd", func := "sash/sashlaw18.WindowZooms", spec := "windowZooms", inPlace := ["slices.overlaps[int]", "slices.overlaps[sash/api.Cell]"], unfollowed := true, recurses := true, loops := true, apart := false }
def WindowZoomsSaid : Prop := windowZoomsRow.holds Try.pinned (OpenSpec.ofChange windowZoomsSpec)

/-- ITS FALSE NEIGHBOUR: 'it returns false'. Refute it at one input. -/
def windowZoomsWrong : ChangeSpec := { name := "windowZooms", fn := fun _ => fun
  | [d1, d2] => { results := [.lit (.bool false)], args := [d1, d2] }
  | _ => none }
def WindowZoomsWrongFalsely : Prop := windowZoomsRow.holds Try.pinned (OpenSpec.ofChange windowZoomsWrong)

/-- 'sashlaw18.WindowShows': WHATEVER THE INPUT: true; the input reads as it did. -/
def windowShowsSpec : ChangeSpec := { name := "windowShows", fn := fun _ => fun
  | [d] => { results := [.lit (.bool true)], args := [d] }
  | _ => none }
def windowShowsRow : OpenClaim := { program := "ytfelioeeeimfeaa", sum := "ab78046b3e49407562247759d25d15f28eb250923219184a979493a8ec9ac4cd", func := "sash/sashlaw18.WindowShows", spec := "windowShows", inPlace := ["slices.overlaps[int]", "slices.overlaps[sash/api.Cell]"], unfollowed := true, recurses := true, loops := true, apart := false }
def WindowShowsSaid : Prop := windowShowsRow.holds Try.pinned (OpenSpec.ofChange windowShowsSpec)

/-- ITS FALSE NEIGHBOUR: 'it returns false'. Refute it at one input. -/
def windowShowsWrong : ChangeSpec := { name := "windowShows", fn := fun _ => fun
  | [d] => { results := [.lit (.bool false)], args := [d] }
  | _ => none }
def WindowShowsWrongFalsely : Prop := windowShowsRow.holds Try.pinned (OpenSpec.ofChange windowShowsWrong)

/- THE SECOND FORM. 'bulk': how many values and letters a reading holds, each counted each time it is reached (what is shared counts as often as it is met; a slice's spare places count too). A statement '..UptoSaid' is the law's where the arguments, and the package variables that the reading takes, are together of bulk at most 1048576: NARROWER than '..Said'. Prove '..Said' where nothing that the law and all that it calls make is longer than what came in: it says more and counts as full. Else prove '..UptoSaid'. A law counts once. -/
mutual
def uptoBulk {H : Type} : DataW H → Nat
  | .lit (.string bytes) => bytes.length + 1
  | .lit _ => 1
  | .nil => 1
  | .ptr d => uptoBulk d + 1
  | .slice elems spare => uptoBulkAll elems + uptoBulkAll spare + 1
  | .agg parts => uptoBulkAll parts + 1
  | .iface _ d => uptoBulk d + 1
  | .map entries => uptoBulkEntries entries + 1
  | .held _ => 1
def uptoBulkAll {H : Type} : List (DataW H) → Nat
  | [] => 0
  | d :: r => uptoBulk d + uptoBulkAll r
def uptoBulkEntries {H : Type} : List (Lit × DataW H) → Nat
  | [] => 0
  | x :: r => uptoBulkEntry x + uptoBulkEntries r
def uptoBulkEntry {H : Type} : Lit × DataW H → Nat
  | (.string bytes, d) => bytes.length + uptoBulk d + 1
  | (_, d) => uptoBulk d + 1
 end
def uptoSmall : (H : Type) → List (DataW H) → Bool := fun _ ds => decide (uptoBulkAll ds ≤ 1048576)
def OpenSpec.upto (s : _root_.Go.ChangeSpec) : _root_.Go.OpenSpec := { _root_.Go.OpenSpec.ofChange s with cond := some uptoSmall }

/-- 'sashlaw18.WindowZooms', WHERE WHAT IT READS IS OF BULK AT MOST 1048576: true; the input reads as it did. -/
def windowZoomsUptoRow : OpenClaim := { program := "ytfelioeeeimfeaa", sum := "ab78046b3e49407562247759d25d15f28eb250923219184a979493a8ec9ac4cd", func := "sash/sashlaw18.WindowZooms", spec := "windowZooms", inPlace := ["slices.overlaps[int]", "slices.overlaps[sash/api.Cell]"], unfollowed := true, recurses := true, loops := true, apart := false, narrowed := true }
def WindowZoomsUptoSaid : Prop := windowZoomsUptoRow.holds Try.pinned (OpenSpec.upto windowZoomsSpec)

/-- 'sashlaw18.WindowShows', WHERE WHAT IT READS IS OF BULK AT MOST 1048576: true; the input reads as it did. -/
def windowShowsUptoRow : OpenClaim := { program := "ytfelioeeeimfeaa", sum := "ab78046b3e49407562247759d25d15f28eb250923219184a979493a8ec9ac4cd", func := "sash/sashlaw18.WindowShows", spec := "windowShows", inPlace := ["slices.overlaps[int]", "slices.overlaps[sash/api.Cell]"], unfollowed := true, recurses := true, loops := true, apart := false, narrowed := true }
def WindowShowsUptoSaid : Prop := windowShowsUptoRow.holds Try.pinned (OpenSpec.upto windowShowsSpec)

end Rows
end Go.Proofs.Ytfelioeeeimfeaa
