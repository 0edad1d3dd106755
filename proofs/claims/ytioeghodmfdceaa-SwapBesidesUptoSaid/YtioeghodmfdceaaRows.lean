/-
  NARROWER THAN 'FOR EVERY INPUT', by the rows' own cells (each row's printed sentence says how): SwapRounds: loops · SwapTwos: loops · SwapKeeps: loops · SwapBesides: loops · SwapOrders: loops.
  DERIVED. THE GIVEN ROWS OF THIS SEAT. 5 by the template 'for every input the law returns true; each argument reads behind the call as it read before'; 0 by the template 'total and deterministic' (their statements: YtioeghodmfdceaaTotals.lean).
  GIVEN WITH THE SEED: the statements are not yours to turn. If you find one false, say at which input.
  Laid BY PROGRAM, IN A SANDBOX (cutbox-rows.mjs): the forced cells as the released guide's own fill.sh prints them over the translation bc12e168b7eaa17d… (all of the seat's roots in one cut). By AI agents, Wed Nov 11 2026. No macro, syntax, notation, axiom, sorry.
-/
import Derived.Test.YtioeghodmfdceaaChecked
import GoSem.Claim
import GoSem.ClaimJoined
import GoSem.ClaimMapViews
import Derived.JoinedTies
import Derived.KernelRfl
namespace Go.Proofs.Ytioeghodmfdceaa
/- THE CELL 'sum', in the pinned program and in every row, IS THE sha256 OF THE DUMP (.gsa) THAT YtioeghodmfdceaaProg.lean LOADS. Nothing in Lean hashes anything: it is a label: what it is worth is what the hold of that sum in a sandbox is worth. -/
noncomputable def Try.pinned : Pinned := { name := "ytioeghodmfdceaa", sum := "bc12e168b7eaa17df2a7b2ab773a7844d979f4efad829eb13921df901866c336", checked := Try.checked }
namespace Rows
def none {H : Type} : Left H := { results := [], args := [] }

/-- 'sashlaw15.SwapRounds': WHATEVER THE INPUT: true; the input reads as it did. -/
def swapRoundsSpec : ChangeSpec := { name := "swapRounds", fn := fun _ => fun
  | [d1, d2] => { results := [.lit (.bool true)], args := [d1, d2] }
  | _ => none }
def swapRoundsRow : OpenClaim := { program := "ytioeghodmfdceaa", sum := "bc12e168b7eaa17df2a7b2ab773a7844d979f4efad829eb13921df901866c336", func := "sash/sashlaw15.SwapRounds", spec := "swapRounds", unfollowed := true, recurses := true, loops := true, apart := false }
def SwapRoundsSaid : Prop := swapRoundsRow.holds Try.pinned (OpenSpec.ofChange swapRoundsSpec)

/-- ITS FALSE NEIGHBOUR: 'it returns false'. Refute it at one input. -/
def swapRoundsWrong : ChangeSpec := { name := "swapRounds", fn := fun _ => fun
  | [d1, d2] => { results := [.lit (.bool false)], args := [d1, d2] }
  | _ => none }
def SwapRoundsWrongFalsely : Prop := swapRoundsRow.holds Try.pinned (OpenSpec.ofChange swapRoundsWrong)

/-- 'sashlaw15.SwapTwos': WHATEVER THE INPUT: true; the input reads as it did. -/
def swapTwosSpec : ChangeSpec := { name := "swapTwos", fn := fun _ => fun
  | [d1, d2, d3] => { results := [.lit (.bool true)], args := [d1, d2, d3] }
  | _ => none }
def swapTwosRow : OpenClaim := { program := "ytioeghodmfdceaa", sum := "bc12e168b7eaa17df2a7b2ab773a7844d979f4efad829eb13921df901866c336", func := "sash/sashlaw15.SwapTwos", spec := "swapTwos", unfollowed := true, recurses := true, loops := true, apart := false }
def SwapTwosSaid : Prop := swapTwosRow.holds Try.pinned (OpenSpec.ofChange swapTwosSpec)

/-- ITS FALSE NEIGHBOUR: 'it returns false'. Refute it at one input. -/
def swapTwosWrong : ChangeSpec := { name := "swapTwos", fn := fun _ => fun
  | [d1, d2, d3] => { results := [.lit (.bool false)], args := [d1, d2, d3] }
  | _ => none }
def SwapTwosWrongFalsely : Prop := swapTwosRow.holds Try.pinned (OpenSpec.ofChange swapTwosWrong)

/-- 'sashlaw15.SwapKeeps': WHATEVER THE INPUT: true; the input reads as it did. -/
def swapKeepsSpec : ChangeSpec := { name := "swapKeeps", fn := fun _ => fun
  | [d1, d2, d3, d4] => { results := [.lit (.bool true)], args := [d1, d2, d3, d4] }
  | _ => none }
def swapKeepsRow : OpenClaim := { program := "ytioeghodmfdceaa", sum := "bc12e168b7eaa17df2a7b2ab773a7844d979f4efad829eb13921df901866c336", func := "sash/sashlaw15.SwapKeeps", spec := "swapKeeps", unfollowed := true, recurses := true, loops := true, apart := false }
def SwapKeepsSaid : Prop := swapKeepsRow.holds Try.pinned (OpenSpec.ofChange swapKeepsSpec)

/-- ITS FALSE NEIGHBOUR: 'it returns false'. Refute it at one input. -/
def swapKeepsWrong : ChangeSpec := { name := "swapKeeps", fn := fun _ => fun
  | [d1, d2, d3, d4] => { results := [.lit (.bool false)], args := [d1, d2, d3, d4] }
  | _ => none }
def SwapKeepsWrongFalsely : Prop := swapKeepsRow.holds Try.pinned (OpenSpec.ofChange swapKeepsWrong)

/-- 'sashlaw15.SwapBesides': WHATEVER THE INPUT: true; the input reads as it did. -/
def swapBesidesSpec : ChangeSpec := { name := "swapBesides", fn := fun _ => fun
  | [d1, d2, d3] => { results := [.lit (.bool true)], args := [d1, d2, d3] }
  | _ => none }
def swapBesidesRow : OpenClaim := { program := "ytioeghodmfdceaa", sum := "bc12e168b7eaa17df2a7b2ab773a7844d979f4efad829eb13921df901866c336", func := "sash/sashlaw15.SwapBesides", spec := "swapBesides", unfollowed := true, recurses := true, loops := true, apart := false }
def SwapBesidesSaid : Prop := swapBesidesRow.holds Try.pinned (OpenSpec.ofChange swapBesidesSpec)

/-- ITS FALSE NEIGHBOUR: 'it returns false'. Refute it at one input. -/
def swapBesidesWrong : ChangeSpec := { name := "swapBesides", fn := fun _ => fun
  | [d1, d2, d3] => { results := [.lit (.bool false)], args := [d1, d2, d3] }
  | _ => none }
def SwapBesidesWrongFalsely : Prop := swapBesidesRow.holds Try.pinned (OpenSpec.ofChange swapBesidesWrong)

/-- 'sashlaw15.SwapOrders': WHATEVER THE INPUT: true; the input reads as it did. -/
def swapOrdersSpec : ChangeSpec := { name := "swapOrders", fn := fun _ => fun
  | [d1, d2] => { results := [.lit (.bool true)], args := [d1, d2] }
  | _ => none }
def swapOrdersRow : OpenClaim := { program := "ytioeghodmfdceaa", sum := "bc12e168b7eaa17df2a7b2ab773a7844d979f4efad829eb13921df901866c336", func := "sash/sashlaw15.SwapOrders", spec := "swapOrders", unfollowed := true, recurses := true, loops := true, apart := false }
def SwapOrdersSaid : Prop := swapOrdersRow.holds Try.pinned (OpenSpec.ofChange swapOrdersSpec)

/-- ITS FALSE NEIGHBOUR: 'it returns false'. Refute it at one input. -/
def swapOrdersWrong : ChangeSpec := { name := "swapOrders", fn := fun _ => fun
  | [d1, d2] => { results := [.lit (.bool false)], args := [d1, d2] }
  | _ => none }
def SwapOrdersWrongFalsely : Prop := swapOrdersRow.holds Try.pinned (OpenSpec.ofChange swapOrdersWrong)

/- THE SECOND FORM. 'bulk': how many values and letters a reading holds, each counted each time it is reached (what is shared counts as often as it is met; a slice's spare places count too). A statement '..UptoSaid' is the law's where the arguments, and the package variables that the reading takes, are together of bulk at most 1048576: NARROWER than '..Said'. Prove '..Said' where nothing that the law and all that it calls make is longer than what came in: it says more and counts as full. Else prove '..UptoSaid'. A law counts once. -/
mutual
def uptoBulk {H : Type} : DataW H → Nat
  | .lit (.string bytes) => bytes.length + 1
  | .lit _ => 1
  | .nil => 1
  | .ptr d => uptoBulk d + 1
  | .slice elems spare => uptoBulkAll elems + uptoBulkAll spare + 1
  | .agg parts => uptoBulkAll parts + 1
  | .iface _ d => uptoBulk d + 1
  | .map entries => uptoBulkEntries entries + 1
  | .held _ => 1
def uptoBulkAll {H : Type} : List (DataW H) → Nat
  | [] => 0
  | d :: r => uptoBulk d + uptoBulkAll r
def uptoBulkEntries {H : Type} : List (Lit × DataW H) → Nat
  | [] => 0
  | x :: r => uptoBulkEntry x + uptoBulkEntries r
def uptoBulkEntry {H : Type} : Lit × DataW H → Nat
  | (.string bytes, d) => bytes.length + uptoBulk d + 1
  | (_, d) => uptoBulk d + 1
 end
def uptoSmall : (H : Type) → List (DataW H) → Bool := fun _ ds => decide (uptoBulkAll ds ≤ 1048576)
def OpenSpec.upto (s : _root_.Go.ChangeSpec) : _root_.Go.OpenSpec := { _root_.Go.OpenSpec.ofChange s with cond := some uptoSmall }

/-- 'sashlaw15.SwapRounds', WHERE WHAT IT READS IS OF BULK AT MOST 1048576: true; the input reads as it did. -/
def swapRoundsUptoRow : OpenClaim := { program := "ytioeghodmfdceaa", sum := "bc12e168b7eaa17df2a7b2ab773a7844d979f4efad829eb13921df901866c336", func := "sash/sashlaw15.SwapRounds", spec := "swapRounds", unfollowed := true, recurses := true, loops := true, apart := false, narrowed := true }
def SwapRoundsUptoSaid : Prop := swapRoundsUptoRow.holds Try.pinned (OpenSpec.upto swapRoundsSpec)

/-- 'sashlaw15.SwapTwos', WHERE WHAT IT READS IS OF BULK AT MOST 1048576: true; the input reads as it did. -/
def swapTwosUptoRow : OpenClaim := { program := "ytioeghodmfdceaa", sum := "bc12e168b7eaa17df2a7b2ab773a7844d979f4efad829eb13921df901866c336", func := "sash/sashlaw15.SwapTwos", spec := "swapTwos", unfollowed := true, recurses := true, loops := true, apart := false, narrowed := true }
def SwapTwosUptoSaid : Prop := swapTwosUptoRow.holds Try.pinned (OpenSpec.upto swapTwosSpec)

/-- 'sashlaw15.SwapKeeps', WHERE WHAT IT READS IS OF BULK AT MOST 1048576: true; the input reads as it did. -/
def swapKeepsUptoRow : OpenClaim := { program := "ytioeghodmfdceaa", sum := "bc12e168b7eaa17df2a7b2ab773a7844d979f4efad829eb13921df901866c336", func := "sash/sashlaw15.SwapKeeps", spec := "swapKeeps", unfollowed := true, recurses := true, loops := true, apart := false, narrowed := true }
def SwapKeepsUptoSaid : Prop := swapKeepsUptoRow.holds Try.pinned (OpenSpec.upto swapKeepsSpec)

/-- 'sashlaw15.SwapBesides', WHERE WHAT IT READS IS OF BULK AT MOST 1048576: true; the input reads as it did. -/
def swapBesidesUptoRow : OpenClaim := { program := "ytioeghodmfdceaa", sum := "bc12e168b7eaa17df2a7b2ab773a7844d979f4efad829eb13921df901866c336", func := "sash/sashlaw15.SwapBesides", spec := "swapBesides", unfollowed := true, recurses := true, loops := true, apart := false, narrowed := true }
def SwapBesidesUptoSaid : Prop := swapBesidesUptoRow.holds Try.pinned (OpenSpec.upto swapBesidesSpec)

/-- 'sashlaw15.SwapOrders', WHERE WHAT IT READS IS OF BULK AT MOST 1048576: true; the input reads as it did. -/
def swapOrdersUptoRow : OpenClaim := { program := "ytioeghodmfdceaa", sum := "bc12e168b7eaa17df2a7b2ab773a7844d979f4efad829eb13921df901866c336", func := "sash/sashlaw15.SwapOrders", spec := "swapOrders", unfollowed := true, recurses := true, loops := true, apart := false, narrowed := true }
def SwapOrdersUptoSaid : Prop := swapOrdersUptoRow.holds Try.pinned (OpenSpec.upto swapOrdersSpec)

end Rows
end Go.Proofs.Ytioeghodmfdceaa
