/-
  NARROWER THAN 'FOR EVERY INPUT', by the rows' own cells (each row's printed sentence says how): SwapOrders: loops.
  DERIVED. THE GIVEN ROWS OF THIS SEAT. 10 by the template 'for every input the law returns true; each argument reads behind the call as it read before'; 0 by the template 'total and deterministic' (their statements: YtiloboepepdcgaaTotals.lean).
  GIVEN WITH THE SEED: the statements are not yours to turn. If you find one false, say at which input.
  Laid BY PROGRAM, IN A SANDBOX (cutbox-rows.mjs): the forced cells as the released guide's own fill.sh prints them over the translation 7bbfe3c9bad53041… (all of the seat's roots in one cut). By AI agents, Wed Nov 11 2026. No macro, syntax, notation, axiom, sorry.
-/
import Derived.Test.YtiloboepepdcgaaChecked
import GoSem.Claim
import GoSem.ClaimJoined
import GoSem.ClaimMapViews
import Derived.JoinedTies
import Derived.KernelRfl
namespace Go.Proofs.Ytiloboepepdcgaa
/- THE CELL 'sum', in the pinned program and in every row, IS THE sha256 OF THE DUMP (.gsa) THAT YtiloboepepdcgaaProg.lean LOADS. Nothing in Lean hashes anything: it is a label: what it is worth is what the hold of that sum in a sandbox is worth. -/
noncomputable def Try.pinned : Pinned := { name := "ytiloboepepdcgaa", sum := "7bbfe3c9bad53041ccde2e4de9d305bd0a81e2e2afc8c1b9344d8d4ed56ee45d", checked := Try.checked }
namespace Rows
def none {H : Type} : Left H := { results := [], args := [] }

/-- 'sashlaw19.SinkOnce': WHATEVER THE INPUT: true; the input reads as it did. -/
def sinkOnceSpec : ChangeSpec := { name := "sinkOnce", fn := fun _ => fun
  | [d1, d2, d3] => { results := [.lit (.bool true)], args := [d1, d2, d3] }
  | _ => none }
def sinkOnceRow : OpenClaim := { program := "ytiloboepepdcgaa", sum := "7bbfe3c9bad53041ccde2e4de9d305bd0a81e2e2afc8c1b9344d8d4ed56ee45d", func := "sash/sashlaw19.SinkOnce", spec := "sinkOnce", unfollowed := true, recurses := true, apart := false }
def SinkOnceSaid : Prop := sinkOnceRow.holds Try.pinned (OpenSpec.ofChange sinkOnceSpec)

/-- ITS FALSE NEIGHBOUR: 'it returns false'. Refute it at one input. -/
def sinkOnceWrong : ChangeSpec := { name := "sinkOnce", fn := fun _ => fun
  | [d1, d2, d3] => { results := [.lit (.bool false)], args := [d1, d2, d3] }
  | _ => none }
def SinkOnceWrongFalsely : Prop := sinkOnceRow.holds Try.pinned (OpenSpec.ofChange sinkOnceWrong)

/-- 'sashlaw19.SinkPlays': WHATEVER THE INPUT: true; the input reads as it did. -/
def sinkPlaysSpec : ChangeSpec := { name := "sinkPlays", fn := fun _ => fun
  | [d] => { results := [.lit (.bool true)], args := [d] }
  | _ => none }
def sinkPlaysRow : OpenClaim := { program := "ytiloboepepdcgaa", sum := "7bbfe3c9bad53041ccde2e4de9d305bd0a81e2e2afc8c1b9344d8d4ed56ee45d", func := "sash/sashlaw19.SinkPlays", spec := "sinkPlays", unfollowed := true, recurses := true, apart := false }
def SinkPlaysSaid : Prop := sinkPlaysRow.holds Try.pinned (OpenSpec.ofChange sinkPlaysSpec)

/-- ITS FALSE NEIGHBOUR: 'it returns false'. Refute it at one input. -/
def sinkPlaysWrong : ChangeSpec := { name := "sinkPlays", fn := fun _ => fun
  | [d] => { results := [.lit (.bool false)], args := [d] }
  | _ => none }
def SinkPlaysWrongFalsely : Prop := sinkPlaysRow.holds Try.pinned (OpenSpec.ofChange sinkPlaysWrong)

/-- 'sashlaw19.SinkNil': WHATEVER THE INPUT: true; the input reads as it did. -/
def sinkNilSpec : ChangeSpec := { name := "sinkNil", fn := fun _ => fun
  | [d1, d2] => { results := [.lit (.bool true)], args := [d1, d2] }
  | _ => none }
def sinkNilRow : OpenClaim := { program := "ytiloboepepdcgaa", sum := "7bbfe3c9bad53041ccde2e4de9d305bd0a81e2e2afc8c1b9344d8d4ed56ee45d", func := "sash/sashlaw19.SinkNil", spec := "sinkNil", unfollowed := true, recurses := true, apart := false }
def SinkNilSaid : Prop := sinkNilRow.holds Try.pinned (OpenSpec.ofChange sinkNilSpec)

/-- ITS FALSE NEIGHBOUR: 'it returns false'. Refute it at one input. -/
def sinkNilWrong : ChangeSpec := { name := "sinkNil", fn := fun _ => fun
  | [d1, d2] => { results := [.lit (.bool false)], args := [d1, d2] }
  | _ => none }
def SinkNilWrongFalsely : Prop := sinkNilRow.holds Try.pinned (OpenSpec.ofChange sinkNilWrong)

/-- 'sashlaw19.SinkApart': WHATEVER THE INPUT: true; the input reads as it did. -/
def sinkApartSpec : ChangeSpec := { name := "sinkApart", fn := fun _ => fun
  | [d1, d2, d3, d4] => { results := [.lit (.bool true)], args := [d1, d2, d3, d4] }
  | _ => none }
def sinkApartRow : OpenClaim := { program := "ytiloboepepdcgaa", sum := "7bbfe3c9bad53041ccde2e4de9d305bd0a81e2e2afc8c1b9344d8d4ed56ee45d", func := "sash/sashlaw19.SinkApart", spec := "sinkApart", unfollowed := true, recurses := true, apart := false }
def SinkApartSaid : Prop := sinkApartRow.holds Try.pinned (OpenSpec.ofChange sinkApartSpec)

/-- ITS FALSE NEIGHBOUR: 'it returns false'. Refute it at one input. -/
def sinkApartWrong : ChangeSpec := { name := "sinkApart", fn := fun _ => fun
  | [d1, d2, d3, d4] => { results := [.lit (.bool false)], args := [d1, d2, d3, d4] }
  | _ => none }
def SinkApartWrongFalsely : Prop := sinkApartRow.holds Try.pinned (OpenSpec.ofChange sinkApartWrong)

/-- 'sashlaw15.SwapOrders': WHATEVER THE INPUT: true; the input reads as it did. -/
def swapOrdersSpec : ChangeSpec := { name := "swapOrders", fn := fun _ => fun
  | [d1, d2] => { results := [.lit (.bool true)], args := [d1, d2] }
  | _ => none }
def swapOrdersRow : OpenClaim := { program := "ytiloboepepdcgaa", sum := "7bbfe3c9bad53041ccde2e4de9d305bd0a81e2e2afc8c1b9344d8d4ed56ee45d", func := "sash/sashlaw15.SwapOrders", spec := "swapOrders", unfollowed := true, recurses := true, loops := true, apart := false }
def SwapOrdersSaid : Prop := swapOrdersRow.holds Try.pinned (OpenSpec.ofChange swapOrdersSpec)

/-- ITS FALSE NEIGHBOUR: 'it returns false'. Refute it at one input. -/
def swapOrdersWrong : ChangeSpec := { name := "swapOrders", fn := fun _ => fun
  | [d1, d2] => { results := [.lit (.bool false)], args := [d1, d2] }
  | _ => none }
def SwapOrdersWrongFalsely : Prop := swapOrdersRow.holds Try.pinned (OpenSpec.ofChange swapOrdersWrong)

/-- 'sashlaw17.PresetMakes': WHATEVER THE INPUT: true; the input reads as it did. -/
def presetMakesSpec : ChangeSpec := { name := "presetMakes", fn := fun _ => fun
  | [d1, d2, d3, d4, d5] => { results := [.lit (.bool true)], args := [d1, d2, d3, d4, d5] }
  | _ => none }
def presetMakesRow : OpenClaim := { program := "ytiloboepepdcgaa", sum := "7bbfe3c9bad53041ccde2e4de9d305bd0a81e2e2afc8c1b9344d8d4ed56ee45d", func := "sash/sashlaw17.PresetMakes", spec := "presetMakes", unfollowed := true, recurses := true, apart := false }
def PresetMakesSaid : Prop := presetMakesRow.holds Try.pinned (OpenSpec.ofChange presetMakesSpec)

/-- ITS FALSE NEIGHBOUR: 'it returns false'. Refute it at one input. -/
def presetMakesWrong : ChangeSpec := { name := "presetMakes", fn := fun _ => fun
  | [d1, d2, d3, d4, d5] => { results := [.lit (.bool false)], args := [d1, d2, d3, d4, d5] }
  | _ => none }
def PresetMakesWrongFalsely : Prop := presetMakesRow.holds Try.pinned (OpenSpec.ofChange presetMakesWrong)

/-- 'sashlaw17.PresetTiles': WHATEVER THE INPUT: true; the input reads as it did. -/
def presetTilesSpec : ChangeSpec := { name := "presetTiles", fn := fun _ => fun
  | [d1, d2, d3, d4, d5] => { results := [.lit (.bool true)], args := [d1, d2, d3, d4, d5] }
  | _ => none }
def presetTilesRow : OpenClaim := { program := "ytiloboepepdcgaa", sum := "7bbfe3c9bad53041ccde2e4de9d305bd0a81e2e2afc8c1b9344d8d4ed56ee45d", func := "sash/sashlaw17.PresetTiles", spec := "presetTiles", unfollowed := true, recurses := true, apart := false }
def PresetTilesSaid : Prop := presetTilesRow.holds Try.pinned (OpenSpec.ofChange presetTilesSpec)

/-- ITS FALSE NEIGHBOUR: 'it returns false'. Refute it at one input. -/
def presetTilesWrong : ChangeSpec := { name := "presetTiles", fn := fun _ => fun
  | [d1, d2, d3, d4, d5] => { results := [.lit (.bool false)], args := [d1, d2, d3, d4, d5] }
  | _ => none }
def PresetTilesWrongFalsely : Prop := presetTilesRow.holds Try.pinned (OpenSpec.ofChange presetTilesWrong)

/-- 'sashlaw17.PresetGrids': WHATEVER THE INPUT: true; the input reads as it did. -/
def presetGridsSpec : ChangeSpec := { name := "presetGrids", fn := fun _ => fun
  | [d] => { results := [.lit (.bool true)], args := [d] }
  | _ => none }
def presetGridsRow : OpenClaim := { program := "ytiloboepepdcgaa", sum := "7bbfe3c9bad53041ccde2e4de9d305bd0a81e2e2afc8c1b9344d8d4ed56ee45d", func := "sash/sashlaw17.PresetGrids", spec := "presetGrids", unfollowed := true, recurses := true, apart := false }
def PresetGridsSaid : Prop := presetGridsRow.holds Try.pinned (OpenSpec.ofChange presetGridsSpec)

/-- ITS FALSE NEIGHBOUR: 'it returns false'. Refute it at one input. -/
def presetGridsWrong : ChangeSpec := { name := "presetGrids", fn := fun _ => fun
  | [d] => { results := [.lit (.bool false)], args := [d] }
  | _ => none }
def PresetGridsWrongFalsely : Prop := presetGridsRow.holds Try.pinned (OpenSpec.ofChange presetGridsWrong)

/-- 'sashlaw17.PresetFits': WHATEVER THE INPUT: true; the input reads as it did. -/
def presetFitsSpec : ChangeSpec := { name := "presetFits", fn := fun _ => fun
  | [d1, d2, d3, d4, d5] => { results := [.lit (.bool true)], args := [d1, d2, d3, d4, d5] }
  | _ => none }
def presetFitsRow : OpenClaim := { program := "ytiloboepepdcgaa", sum := "7bbfe3c9bad53041ccde2e4de9d305bd0a81e2e2afc8c1b9344d8d4ed56ee45d", func := "sash/sashlaw17.PresetFits", spec := "presetFits", unfollowed := true, recurses := true, apart := false }
def PresetFitsSaid : Prop := presetFitsRow.holds Try.pinned (OpenSpec.ofChange presetFitsSpec)

/-- ITS FALSE NEIGHBOUR: 'it returns false'. Refute it at one input. -/
def presetFitsWrong : ChangeSpec := { name := "presetFits", fn := fun _ => fun
  | [d1, d2, d3, d4, d5] => { results := [.lit (.bool false)], args := [d1, d2, d3, d4, d5] }
  | _ => none }
def PresetFitsWrongFalsely : Prop := presetFitsRow.holds Try.pinned (OpenSpec.ofChange presetFitsWrong)

/-- 'sashlaw17.PresetNames': WHATEVER THE INPUT: true; the input reads as it did. -/
def presetNamesSpec : ChangeSpec := { name := "presetNames", fn := fun _ => fun
  | [d] => { results := [.lit (.bool true)], args := [d] }
  | _ => none }
def presetNamesRow : OpenClaim := { program := "ytiloboepepdcgaa", sum := "7bbfe3c9bad53041ccde2e4de9d305bd0a81e2e2afc8c1b9344d8d4ed56ee45d", func := "sash/sashlaw17.PresetNames", spec := "presetNames", unfollowed := true, recurses := true, apart := false }
def PresetNamesSaid : Prop := presetNamesRow.holds Try.pinned (OpenSpec.ofChange presetNamesSpec)

/-- ITS FALSE NEIGHBOUR: 'it returns false'. Refute it at one input. -/
def presetNamesWrong : ChangeSpec := { name := "presetNames", fn := fun _ => fun
  | [d] => { results := [.lit (.bool false)], args := [d] }
  | _ => none }
def PresetNamesWrongFalsely : Prop := presetNamesRow.holds Try.pinned (OpenSpec.ofChange presetNamesWrong)

/- THE SECOND FORM. 'bulk': how many values and letters a reading holds, each counted each time it is reached (what is shared counts as often as it is met; a slice's spare places count too). A statement '..UptoSaid' is the law's where the arguments, and the package variables that the reading takes, are together of bulk at most 1048576: NARROWER than '..Said'. Prove '..Said' where nothing that the law and all that it calls make is longer than what came in: it says more and counts as full. Else prove '..UptoSaid'. A law counts once. -/
mutual
def uptoBulk {H : Type} : DataW H → Nat
  | .lit (.string bytes) => bytes.length + 1
  | .lit _ => 1
  | .nil => 1
  | .ptr d => uptoBulk d + 1
  | .slice elems spare => uptoBulkAll elems + uptoBulkAll spare + 1
  | .agg parts => uptoBulkAll parts + 1
  | .iface _ d => uptoBulk d + 1
  | .map entries => uptoBulkEntries entries + 1
  | .held _ => 1
def uptoBulkAll {H : Type} : List (DataW H) → Nat
  | [] => 0
  | d :: r => uptoBulk d + uptoBulkAll r
def uptoBulkEntries {H : Type} : List (Lit × DataW H) → Nat
  | [] => 0
  | x :: r => uptoBulkEntry x + uptoBulkEntries r
def uptoBulkEntry {H : Type} : Lit × DataW H → Nat
  | (.string bytes, d) => bytes.length + uptoBulk d + 1
  | (_, d) => uptoBulk d + 1
 end
def uptoSmall : (H : Type) → List (DataW H) → Bool := fun _ ds => decide (uptoBulkAll ds ≤ 1048576)
def OpenSpec.upto (s : _root_.Go.ChangeSpec) : _root_.Go.OpenSpec := { _root_.Go.OpenSpec.ofChange s with cond := some uptoSmall }

/-- 'sashlaw19.SinkOnce', WHERE WHAT IT READS IS OF BULK AT MOST 1048576: true; the input reads as it did. -/
def sinkOnceUptoRow : OpenClaim := { program := "ytiloboepepdcgaa", sum := "7bbfe3c9bad53041ccde2e4de9d305bd0a81e2e2afc8c1b9344d8d4ed56ee45d", func := "sash/sashlaw19.SinkOnce", spec := "sinkOnce", unfollowed := true, recurses := true, apart := false, narrowed := true }
def SinkOnceUptoSaid : Prop := sinkOnceUptoRow.holds Try.pinned (OpenSpec.upto sinkOnceSpec)

/-- 'sashlaw19.SinkPlays', WHERE WHAT IT READS IS OF BULK AT MOST 1048576: true; the input reads as it did. -/
def sinkPlaysUptoRow : OpenClaim := { program := "ytiloboepepdcgaa", sum := "7bbfe3c9bad53041ccde2e4de9d305bd0a81e2e2afc8c1b9344d8d4ed56ee45d", func := "sash/sashlaw19.SinkPlays", spec := "sinkPlays", unfollowed := true, recurses := true, apart := false, narrowed := true }
def SinkPlaysUptoSaid : Prop := sinkPlaysUptoRow.holds Try.pinned (OpenSpec.upto sinkPlaysSpec)

/-- 'sashlaw19.SinkNil', WHERE WHAT IT READS IS OF BULK AT MOST 1048576: true; the input reads as it did. -/
def sinkNilUptoRow : OpenClaim := { program := "ytiloboepepdcgaa", sum := "7bbfe3c9bad53041ccde2e4de9d305bd0a81e2e2afc8c1b9344d8d4ed56ee45d", func := "sash/sashlaw19.SinkNil", spec := "sinkNil", unfollowed := true, recurses := true, apart := false, narrowed := true }
def SinkNilUptoSaid : Prop := sinkNilUptoRow.holds Try.pinned (OpenSpec.upto sinkNilSpec)

/-- 'sashlaw19.SinkApart', WHERE WHAT IT READS IS OF BULK AT MOST 1048576: true; the input reads as it did. -/
def sinkApartUptoRow : OpenClaim := { program := "ytiloboepepdcgaa", sum := "7bbfe3c9bad53041ccde2e4de9d305bd0a81e2e2afc8c1b9344d8d4ed56ee45d", func := "sash/sashlaw19.SinkApart", spec := "sinkApart", unfollowed := true, recurses := true, apart := false, narrowed := true }
def SinkApartUptoSaid : Prop := sinkApartUptoRow.holds Try.pinned (OpenSpec.upto sinkApartSpec)

/-- 'sashlaw15.SwapOrders', WHERE WHAT IT READS IS OF BULK AT MOST 1048576: true; the input reads as it did. -/
def swapOrdersUptoRow : OpenClaim := { program := "ytiloboepepdcgaa", sum := "7bbfe3c9bad53041ccde2e4de9d305bd0a81e2e2afc8c1b9344d8d4ed56ee45d", func := "sash/sashlaw15.SwapOrders", spec := "swapOrders", unfollowed := true, recurses := true, loops := true, apart := false, narrowed := true }
def SwapOrdersUptoSaid : Prop := swapOrdersUptoRow.holds Try.pinned (OpenSpec.upto swapOrdersSpec)

/-- 'sashlaw17.PresetMakes', WHERE WHAT IT READS IS OF BULK AT MOST 1048576: true; the input reads as it did. -/
def presetMakesUptoRow : OpenClaim := { program := "ytiloboepepdcgaa", sum := "7bbfe3c9bad53041ccde2e4de9d305bd0a81e2e2afc8c1b9344d8d4ed56ee45d", func := "sash/sashlaw17.PresetMakes", spec := "presetMakes", unfollowed := true, recurses := true, apart := false, narrowed := true }
def PresetMakesUptoSaid : Prop := presetMakesUptoRow.holds Try.pinned (OpenSpec.upto presetMakesSpec)

/-- 'sashlaw17.PresetTiles', WHERE WHAT IT READS IS OF BULK AT MOST 1048576: true; the input reads as it did. -/
def presetTilesUptoRow : OpenClaim := { program := "ytiloboepepdcgaa", sum := "7bbfe3c9bad53041ccde2e4de9d305bd0a81e2e2afc8c1b9344d8d4ed56ee45d", func := "sash/sashlaw17.PresetTiles", spec := "presetTiles", unfollowed := true, recurses := true, apart := false, narrowed := true }
def PresetTilesUptoSaid : Prop := presetTilesUptoRow.holds Try.pinned (OpenSpec.upto presetTilesSpec)

/-- 'sashlaw17.PresetGrids', WHERE WHAT IT READS IS OF BULK AT MOST 1048576: true; the input reads as it did. -/
def presetGridsUptoRow : OpenClaim := { program := "ytiloboepepdcgaa", sum := "7bbfe3c9bad53041ccde2e4de9d305bd0a81e2e2afc8c1b9344d8d4ed56ee45d", func := "sash/sashlaw17.PresetGrids", spec := "presetGrids", unfollowed := true, recurses := true, apart := false, narrowed := true }
def PresetGridsUptoSaid : Prop := presetGridsUptoRow.holds Try.pinned (OpenSpec.upto presetGridsSpec)

/-- 'sashlaw17.PresetFits', WHERE WHAT IT READS IS OF BULK AT MOST 1048576: true; the input reads as it did. -/
def presetFitsUptoRow : OpenClaim := { program := "ytiloboepepdcgaa", sum := "7bbfe3c9bad53041ccde2e4de9d305bd0a81e2e2afc8c1b9344d8d4ed56ee45d", func := "sash/sashlaw17.PresetFits", spec := "presetFits", unfollowed := true, recurses := true, apart := false, narrowed := true }
def PresetFitsUptoSaid : Prop := presetFitsUptoRow.holds Try.pinned (OpenSpec.upto presetFitsSpec)

/-- 'sashlaw17.PresetNames', WHERE WHAT IT READS IS OF BULK AT MOST 1048576: true; the input reads as it did. -/
def presetNamesUptoRow : OpenClaim := { program := "ytiloboepepdcgaa", sum := "7bbfe3c9bad53041ccde2e4de9d305bd0a81e2e2afc8c1b9344d8d4ed56ee45d", func := "sash/sashlaw17.PresetNames", spec := "presetNames", unfollowed := true, recurses := true, apart := false, narrowed := true }
def PresetNamesUptoSaid : Prop := presetNamesUptoRow.holds Try.pinned (OpenSpec.upto presetNamesSpec)

end Rows
end Go.Proofs.Ytiloboepepdcgaa
