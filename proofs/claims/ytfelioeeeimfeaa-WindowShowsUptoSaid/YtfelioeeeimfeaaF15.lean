/- This text is a part of the proofs of the statements of this seat: the ideal states and their rules, or what one of the functions that the statements reach comes to. Conditions: none beyond those that each theorem names. -/
import Derived.Test.YtfelioeeeimfeaaProg
import Derived.Test.YtfelioeeeimfeaaIdl7
import Derived.KernelRfl
namespace Go.Proofs
open Go.Idl
@[go_sem] theorem szT_1 : szT Try.prog 1 = some 1 := by kernel_rfl
@[go_sem] theorem aggT_1 : aggT Try.prog 1 = some false := by kernel_rfl
@[go_sem] theorem zeT_1 : zeT Try.prog 1 = some (.nilFunc) := by kernel_rfl
@[go_sem] theorem elZ_1 : elZ Try.prog 1 = some 1 := by kernel_rfl
@[go_sem] theorem byT_1 : byT Try.prog 1 = 8 := by kernel_rfl
@[go_sem] theorem conc_1 : Try.prog.concrete 1 = true := by kernel_rfl
@[go_sem] theorem szT_2 : szT Try.prog 2 = some 1 := by kernel_rfl
@[go_sem] theorem aggT_2 : aggT Try.prog 2 = some false := by kernel_rfl
@[go_sem] theorem zeT_2 : zeT Try.prog 2 = some (.int .i64 0) := by kernel_rfl
@[go_sem] theorem elZ_2 : elZ Try.prog 2 = some 1 := by kernel_rfl
@[go_sem] theorem byT_2 : byT Try.prog 2 = 8 := by kernel_rfl
@[go_sem] theorem conc_2 : Try.prog.concrete 2 = true := by kernel_rfl
@[go_sem] theorem szT_3 : szT Try.prog 3 = some 1 := by kernel_rfl
@[go_sem] theorem aggT_3 : aggT Try.prog 3 = some false := by kernel_rfl
@[go_sem] theorem zeT_3 : zeT Try.prog 3 = some (.int .i64 0) := by kernel_rfl
@[go_sem] theorem elZ_3 : elZ Try.prog 3 = some 1 := by kernel_rfl
@[go_sem] theorem byT_3 : byT Try.prog 3 = 8 := by kernel_rfl
@[go_sem] theorem conc_3 : Try.prog.concrete 3 = true := by kernel_rfl
@[go_sem] theorem szT_4 : szT Try.prog 4 = some 1 := by kernel_rfl
@[go_sem] theorem aggT_4 : aggT Try.prog 4 = some false := by kernel_rfl
@[go_sem] theorem zeT_4 : zeT Try.prog 4 = some (.bool false) := by kernel_rfl
@[go_sem] theorem elZ_4 : elZ Try.prog 4 = some 1 := by kernel_rfl
@[go_sem] theorem byT_4 : byT Try.prog 4 = 1 := by kernel_rfl
@[go_sem] theorem conc_4 : Try.prog.concrete 4 = true := by kernel_rfl
@[go_sem] theorem szT_5 : szT Try.prog 5 = some 1 := by kernel_rfl
@[go_sem] theorem aggT_5 : aggT Try.prog 5 = some false := by kernel_rfl
@[go_sem] theorem zeT_5 : zeT Try.prog 5 = some (.int .u8 0) := by kernel_rfl
@[go_sem] theorem elZ_5 : elZ Try.prog 5 = some 1 := by kernel_rfl
@[go_sem] theorem byT_5 : byT Try.prog 5 = 1 := by kernel_rfl
@[go_sem] theorem conc_5 : Try.prog.concrete 5 = true := by kernel_rfl
@[go_sem] theorem szT_6 : szT Try.prog 6 = some 1 := by kernel_rfl
@[go_sem] theorem aggT_6 : aggT Try.prog 6 = some false := by kernel_rfl
@[go_sem] theorem zeT_6 : zeT Try.prog 6 = some (.int .u8 0) := by kernel_rfl
@[go_sem] theorem elZ_6 : elZ Try.prog 6 = some 1 := by kernel_rfl
@[go_sem] theorem byT_6 : byT Try.prog 6 = 1 := by kernel_rfl
@[go_sem] theorem conc_6 : Try.prog.concrete 6 = true := by kernel_rfl
@[go_sem] theorem szT_7 : szT Try.prog 7 = some 4 := by kernel_rfl
@[go_sem] theorem aggT_7 : aggT Try.prog 7 = some true := by kernel_rfl
@[go_sem] theorem offT_7x0 : offT Try.prog 7 0 = some 0 := by kernel_rfl
@[go_sem] theorem offT_7x1 : offT Try.prog 7 1 = some 1 := by kernel_rfl
@[go_sem] theorem offT_7x2 : offT Try.prog 7 2 = some 2 := by kernel_rfl
@[go_sem] theorem offT_7x3 : offT Try.prog 7 3 = some 3 := by kernel_rfl
@[go_sem] theorem plcs_7 : plcs Try.prog 7 = some [(0, 1), (1, 1), (2, 1), (3, 1)] := by kernel_rfl
@[go_sem] theorem zeT_7 : zeT Try.prog 7 = some (.agg #[.int .i64 0, .int .i64 0, .bool false, .int .u8 0]) := by kernel_rfl
@[go_sem] theorem elZ_7 : elZ Try.prog 7 = some 4 := by kernel_rfl
@[go_sem] theorem byT_7 : byT Try.prog 7 = 24 := by kernel_rfl
@[go_sem] theorem conc_7 : Try.prog.concrete 7 = true := by kernel_rfl
@[go_sem] theorem eqg_7 : Program.eqGuardType Try.prog (Program.depth Try.prog) 7 = false := by kernel_rfl
@[go_sem] theorem stood_7 : Try.prog.stoodInHeld 7 = false := by kernel_rfl
@[go_sem] theorem szT_8 : szT Try.prog 8 = some 4 := by kernel_rfl
@[go_sem] theorem aggT_8 : aggT Try.prog 8 = some true := by kernel_rfl
@[go_sem] theorem offT_8x0 : offT Try.prog 8 0 = some 0 := by kernel_rfl
@[go_sem] theorem offT_8x1 : offT Try.prog 8 1 = some 1 := by kernel_rfl
@[go_sem] theorem offT_8x2 : offT Try.prog 8 2 = some 2 := by kernel_rfl
@[go_sem] theorem offT_8x3 : offT Try.prog 8 3 = some 3 := by kernel_rfl
@[go_sem] theorem plcs_8 : plcs Try.prog 8 = some [(0, 1), (1, 1), (2, 1), (3, 1)] := by kernel_rfl
@[go_sem] theorem zeT_8 : zeT Try.prog 8 = some (.agg #[.int .i64 0, .int .i64 0, .bool false, .int .u8 0]) := by kernel_rfl
@[go_sem] theorem elZ_8 : elZ Try.prog 8 = some 4 := by kernel_rfl
@[go_sem] theorem byT_8 : byT Try.prog 8 = 24 := by kernel_rfl
@[go_sem] theorem conc_8 : Try.prog.concrete 8 = true := by kernel_rfl
@[go_sem] theorem eqg_8 : Program.eqGuardType Try.prog (Program.depth Try.prog) 8 = false := by kernel_rfl
@[go_sem] theorem stood_8 : Try.prog.stoodInHeld 8 = false := by kernel_rfl
@[go_sem] theorem szT_9 : szT Try.prog 9 = some 1 := by kernel_rfl
@[go_sem] theorem aggT_9 : aggT Try.prog 9 = some false := by kernel_rfl
@[go_sem] theorem zeT_9 : zeT Try.prog 9 = some (.string ⟨#[]⟩) := by kernel_rfl
@[go_sem] theorem elZ_9 : elZ Try.prog 9 = some 1 := by kernel_rfl
@[go_sem] theorem byT_9 : byT Try.prog 9 = 16 := by kernel_rfl
@[go_sem] theorem conc_9 : Try.prog.concrete 9 = true := by kernel_rfl
@[go_sem] theorem szT_10 : szT Try.prog 10 = some 1 := by kernel_rfl
@[go_sem] theorem aggT_10 : aggT Try.prog 10 = some false := by kernel_rfl
@[go_sem] theorem zeT_10 : zeT Try.prog 10 = some (.string ⟨#[]⟩) := by kernel_rfl
@[go_sem] theorem elZ_10 : elZ Try.prog 10 = some 1 := by kernel_rfl
@[go_sem] theorem byT_10 : byT Try.prog 10 = 16 := by kernel_rfl
@[go_sem] theorem conc_10 : Try.prog.concrete 10 = true := by kernel_rfl
@[go_sem] theorem szT_11 : szT Try.prog 11 = some 1 := by kernel_rfl
@[go_sem] theorem aggT_11 : aggT Try.prog 11 = some false := by kernel_rfl
@[go_sem] theorem zeT_11 : zeT Try.prog 11 = some (.string ⟨#[]⟩) := by kernel_rfl
@[go_sem] theorem elZ_11 : elZ Try.prog 11 = some 1 := by kernel_rfl
@[go_sem] theorem byT_11 : byT Try.prog 11 = 16 := by kernel_rfl
@[go_sem] theorem conc_11 : Try.prog.concrete 11 = true := by kernel_rfl
@[go_sem] theorem szT_12 : szT Try.prog 12 = some 1 := by kernel_rfl
@[go_sem] theorem aggT_12 : aggT Try.prog 12 = some false := by kernel_rfl
@[go_sem] theorem zeT_12 : zeT Try.prog 12 = some (.int .u64 0) := by kernel_rfl
@[go_sem] theorem elZ_12 : elZ Try.prog 12 = some 1 := by kernel_rfl
@[go_sem] theorem byT_12 : byT Try.prog 12 = 8 := by kernel_rfl
@[go_sem] theorem conc_12 : Try.prog.concrete 12 = true := by kernel_rfl
@[go_sem] theorem szT_13 : szT Try.prog 13 = some 2 := by kernel_rfl
@[go_sem] theorem aggT_13 : aggT Try.prog 13 = some true := by kernel_rfl
@[go_sem] theorem offT_13x0 : offT Try.prog 13 0 = some 0 := by kernel_rfl
@[go_sem] theorem offT_13x1 : offT Try.prog 13 1 = some 1 := by kernel_rfl
@[go_sem] theorem plcs_13 : plcs Try.prog 13 = some [(0, 1), (1, 1)] := by kernel_rfl
@[go_sem] theorem zeT_13 : zeT Try.prog 13 = some (.agg #[.string ⟨#[]⟩, .int .u64 0]) := by kernel_rfl
@[go_sem] theorem elZ_13 : elZ Try.prog 13 = some 2 := by kernel_rfl
@[go_sem] theorem byT_13 : byT Try.prog 13 = 24 := by kernel_rfl
@[go_sem] theorem conc_13 : Try.prog.concrete 13 = true := by kernel_rfl
@[go_sem] theorem eqg_13 : Program.eqGuardType Try.prog (Program.depth Try.prog) 13 = false := by kernel_rfl
@[go_sem] theorem szT_14 : szT Try.prog 14 = some 2 := by kernel_rfl
@[go_sem] theorem aggT_14 : aggT Try.prog 14 = some true := by kernel_rfl
@[go_sem] theorem offT_14x0 : offT Try.prog 14 0 = some 0 := by kernel_rfl
@[go_sem] theorem offT_14x1 : offT Try.prog 14 1 = some 1 := by kernel_rfl
@[go_sem] theorem plcs_14 : plcs Try.prog 14 = some [(0, 1), (1, 1)] := by kernel_rfl
@[go_sem] theorem zeT_14 : zeT Try.prog 14 = some (.agg #[.string ⟨#[]⟩, .int .u64 0]) := by kernel_rfl
@[go_sem] theorem elZ_14 : elZ Try.prog 14 = some 2 := by kernel_rfl
@[go_sem] theorem byT_14 : byT Try.prog 14 = 24 := by kernel_rfl
@[go_sem] theorem conc_14 : Try.prog.concrete 14 = true := by kernel_rfl
@[go_sem] theorem eqg_14 : Program.eqGuardType Try.prog (Program.depth Try.prog) 14 = false := by kernel_rfl
@[go_sem] theorem szT_15 : szT Try.prog 15 = some 1 := by kernel_rfl
@[go_sem] theorem aggT_15 : aggT Try.prog 15 = some false := by kernel_rfl
@[go_sem] theorem zeT_15 : zeT Try.prog 15 = some (.pointer none) := by kernel_rfl
@[go_sem] theorem elZ_15 : elZ Try.prog 15 = some 1 := by kernel_rfl
@[go_sem] theorem byT_15 : byT Try.prog 15 = 8 := by kernel_rfl
@[go_sem] theorem conc_15 : Try.prog.concrete 15 = true := by kernel_rfl
@[go_sem] theorem szT_16 : szT Try.prog 16 = some 1 := by kernel_rfl
@[go_sem] theorem aggT_16 : aggT Try.prog 16 = some false := by kernel_rfl
@[go_sem] theorem zeT_16 : zeT Try.prog 16 = some (.pointer none) := by kernel_rfl
@[go_sem] theorem elZ_16 : elZ Try.prog 16 = some 1 := by kernel_rfl
@[go_sem] theorem byT_16 : byT Try.prog 16 = 8 := by kernel_rfl
@[go_sem] theorem conc_16 : Try.prog.concrete 16 = true := by kernel_rfl
@[go_sem] theorem szT_17 : szT Try.prog 17 = some 1 := by kernel_rfl
@[go_sem] theorem aggT_17 : aggT Try.prog 17 = some false := by kernel_rfl
@[go_sem] theorem zeT_17 : zeT Try.prog 17 = some (.pointer none) := by kernel_rfl
@[go_sem] theorem elZ_17 : elZ Try.prog 17 = some 1 := by kernel_rfl
@[go_sem] theorem byT_17 : byT Try.prog 17 = 8 := by kernel_rfl
@[go_sem] theorem conc_17 : Try.prog.concrete 17 = true := by kernel_rfl
@[go_sem] theorem szT_18 : szT Try.prog 18 = some 1 := by kernel_rfl
@[go_sem] theorem aggT_18 : aggT Try.prog 18 = some true := by kernel_rfl
@[go_sem] theorem offT_18x0 : offT Try.prog 18 0 = some 0 := by kernel_rfl
@[go_sem] theorem plcs_18 : plcs Try.prog 18 = some [(0, 1)] := by kernel_rfl
@[go_sem] theorem zeT_18 : zeT Try.prog 18 = some (.agg #[.pointer none]) := by kernel_rfl
@[go_sem] theorem elZ_18 : elZ Try.prog 18 = some 1 := by kernel_rfl
@[go_sem] theorem byT_18 : byT Try.prog 18 = 8 := by kernel_rfl
@[go_sem] theorem conc_18 : Try.prog.concrete 18 = true := by kernel_rfl
@[go_sem] theorem szT_19 : szT Try.prog 19 = some 1 := by kernel_rfl
@[go_sem] theorem aggT_19 : aggT Try.prog 19 = some true := by kernel_rfl
@[go_sem] theorem offT_19x0 : offT Try.prog 19 0 = some 0 := by kernel_rfl
@[go_sem] theorem plcs_19 : plcs Try.prog 19 = some [(0, 1)] := by kernel_rfl
@[go_sem] theorem zeT_19 : zeT Try.prog 19 = some (.agg #[.pointer none]) := by kernel_rfl
@[go_sem] theorem elZ_19 : elZ Try.prog 19 = some 1 := by kernel_rfl
@[go_sem] theorem byT_19 : byT Try.prog 19 = 8 := by kernel_rfl
@[go_sem] theorem conc_19 : Try.prog.concrete 19 = true := by kernel_rfl
@[go_sem] theorem szT_20 : szT Try.prog 20 = some 1 := by kernel_rfl
@[go_sem] theorem aggT_20 : aggT Try.prog 20 = some false := by kernel_rfl
@[go_sem] theorem zeT_20 : zeT Try.prog 20 = some (.nilIface) := by kernel_rfl
@[go_sem] theorem elZ_20 : elZ Try.prog 20 = some 1 := by kernel_rfl
@[go_sem] theorem byT_20 : byT Try.prog 20 = 16 := by kernel_rfl
@[go_sem] theorem szT_21 : szT Try.prog 21 = some 1 := by kernel_rfl
@[go_sem] theorem aggT_21 : aggT Try.prog 21 = some false := by kernel_rfl
@[go_sem] theorem zeT_21 : zeT Try.prog 21 = some (.int .i32 0) := by kernel_rfl
@[go_sem] theorem elZ_21 : elZ Try.prog 21 = some 1 := by kernel_rfl
@[go_sem] theorem byT_21 : byT Try.prog 21 = 4 := by kernel_rfl
@[go_sem] theorem conc_21 : Try.prog.concrete 21 = true := by kernel_rfl
@[go_sem] theorem szT_22 : szT Try.prog 22 = some 4 := by kernel_rfl
@[go_sem] theorem aggT_22 : aggT Try.prog 22 = some true := by kernel_rfl
@[go_sem] theorem offT_22x0 : offT Try.prog 22 0 = some 0 := by kernel_rfl
@[go_sem] theorem offT_22x1 : offT Try.prog 22 1 = some 1 := by kernel_rfl
@[go_sem] theorem offT_22x2 : offT Try.prog 22 2 = some 2 := by kernel_rfl
@[go_sem] theorem offT_22x3 : offT Try.prog 22 3 = some 3 := by kernel_rfl
@[go_sem] theorem plcs_22 : plcs Try.prog 22 = some [(0, 1), (1, 1), (2, 1), (3, 1)] := by kernel_rfl
@[go_sem] theorem zeT_22 : zeT Try.prog 22 = some (.agg #[.int .i64 0, .int .i64 0, .int .i64 0, .int .i64 0]) := by kernel_rfl
@[go_sem] theorem elZ_22 : elZ Try.prog 22 = some 4 := by kernel_rfl
@[go_sem] theorem byT_22 : byT Try.prog 22 = 32 := by kernel_rfl
@[go_sem] theorem conc_22 : Try.prog.concrete 22 = true := by kernel_rfl
@[go_sem] theorem eqg_22 : Program.eqGuardType Try.prog (Program.depth Try.prog) 22 = false := by kernel_rfl
@[go_sem] theorem stood_22 : Try.prog.stoodInHeld 22 = false := by kernel_rfl
@[go_sem] theorem szT_23 : szT Try.prog 23 = some 4 := by kernel_rfl
@[go_sem] theorem aggT_23 : aggT Try.prog 23 = some true := by kernel_rfl
@[go_sem] theorem offT_23x0 : offT Try.prog 23 0 = some 0 := by kernel_rfl
@[go_sem] theorem offT_23x1 : offT Try.prog 23 1 = some 1 := by kernel_rfl
@[go_sem] theorem offT_23x2 : offT Try.prog 23 2 = some 2 := by kernel_rfl
@[go_sem] theorem offT_23x3 : offT Try.prog 23 3 = some 3 := by kernel_rfl
@[go_sem] theorem plcs_23 : plcs Try.prog 23 = some [(0, 1), (1, 1), (2, 1), (3, 1)] := by kernel_rfl
@[go_sem] theorem zeT_23 : zeT Try.prog 23 = some (.agg #[.int .i64 0, .int .i64 0, .int .i64 0, .int .i64 0]) := by kernel_rfl
@[go_sem] theorem elZ_23 : elZ Try.prog 23 = some 4 := by kernel_rfl
@[go_sem] theorem byT_23 : byT Try.prog 23 = 32 := by kernel_rfl
@[go_sem] theorem conc_23 : Try.prog.concrete 23 = true := by kernel_rfl
@[go_sem] theorem eqg_23 : Program.eqGuardType Try.prog (Program.depth Try.prog) 23 = false := by kernel_rfl
@[go_sem] theorem stood_23 : Try.prog.stoodInHeld 23 = false := by kernel_rfl
@[go_sem] theorem szT_24 : szT Try.prog 24 = some 1 := by kernel_rfl
@[go_sem] theorem aggT_24 : aggT Try.prog 24 = some false := by kernel_rfl
@[go_sem] theorem zeT_24 : zeT Try.prog 24 = some (.slice none 0 0) := by kernel_rfl
@[go_sem] theorem elZ_24 : elZ Try.prog 24 = some 1 := by kernel_rfl
@[go_sem] theorem byT_24 : byT Try.prog 24 = 24 := by kernel_rfl
@[go_sem] theorem elT_24 : elT Try.prog 24 = some 26 := by kernel_rfl
@[go_sem] theorem conc_24 : Try.prog.concrete 24 = true := by kernel_rfl
@[go_sem] theorem szT_25 : szT Try.prog 25 = some 7 := by kernel_rfl
@[go_sem] theorem aggT_25 : aggT Try.prog 25 = some true := by kernel_rfl
@[go_sem] theorem offT_25x0 : offT Try.prog 25 0 = some 0 := by kernel_rfl
@[go_sem] theorem offT_25x1 : offT Try.prog 25 1 = some 1 := by kernel_rfl
@[go_sem] theorem offT_25x2 : offT Try.prog 25 2 = some 5 := by kernel_rfl
@[go_sem] theorem offT_25x3 : offT Try.prog 25 3 = some 6 := by kernel_rfl
@[go_sem] theorem plcs_25 : plcs Try.prog 25 = some [(0, 1), (1, 4), (5, 1), (6, 1)] := by kernel_rfl
@[go_sem] theorem zeT_25 : zeT Try.prog 25 = some (.agg #[.int .u8 0, .int .i64 0, .int .i64 0, .int .i64 0, .int .i64 0, .int .i64 0, .slice none 0 0]) := by kernel_rfl
@[go_sem] theorem elZ_25 : elZ Try.prog 25 = some 7 := by kernel_rfl
@[go_sem] theorem byT_25 : byT Try.prog 25 = 72 := by kernel_rfl
@[go_sem] theorem conc_25 : Try.prog.concrete 25 = true := by kernel_rfl
@[go_sem] theorem szT_26 : szT Try.prog 26 = some 7 := by kernel_rfl
@[go_sem] theorem aggT_26 : aggT Try.prog 26 = some true := by kernel_rfl
@[go_sem] theorem offT_26x0 : offT Try.prog 26 0 = some 0 := by kernel_rfl
@[go_sem] theorem offT_26x1 : offT Try.prog 26 1 = some 1 := by kernel_rfl
@[go_sem] theorem offT_26x2 : offT Try.prog 26 2 = some 5 := by kernel_rfl
@[go_sem] theorem offT_26x3 : offT Try.prog 26 3 = some 6 := by kernel_rfl
@[go_sem] theorem plcs_26 : plcs Try.prog 26 = some [(0, 1), (1, 4), (5, 1), (6, 1)] := by kernel_rfl
@[go_sem] theorem zeT_26 : zeT Try.prog 26 = some (.agg #[.int .u8 0, .int .i64 0, .int .i64 0, .int .i64 0, .int .i64 0, .int .i64 0, .slice none 0 0]) := by kernel_rfl
@[go_sem] theorem elZ_26 : elZ Try.prog 26 = some 7 := by kernel_rfl
@[go_sem] theorem byT_26 : byT Try.prog 26 = 72 := by kernel_rfl
@[go_sem] theorem conc_26 : Try.prog.concrete 26 = true := by kernel_rfl
@[go_sem] theorem szT_27 : szT Try.prog 27 = some 9 := by kernel_rfl
@[go_sem] theorem aggT_27 : aggT Try.prog 27 = some true := by kernel_rfl
@[go_sem] theorem offT_27x0 : offT Try.prog 27 0 = some 0 := by kernel_rfl
@[go_sem] theorem offT_27x1 : offT Try.prog 27 1 = some 7 := by kernel_rfl
@[go_sem] theorem offT_27x2 : offT Try.prog 27 2 = some 8 := by kernel_rfl
@[go_sem] theorem plcs_27 : plcs Try.prog 27 = some [(0, 7), (7, 1), (8, 1)] := by kernel_rfl
@[go_sem] theorem zeT_27 : zeT Try.prog 27 = some (.agg #[.int .u8 0, .int .i64 0, .int .i64 0, .int .i64 0, .int .i64 0, .int .i64 0, .slice none 0 0, .int .i64 0, .bool false]) := by kernel_rfl
@[go_sem] theorem elZ_27 : elZ Try.prog 27 = some 9 := by kernel_rfl
@[go_sem] theorem byT_27 : byT Try.prog 27 = 88 := by kernel_rfl
@[go_sem] theorem conc_27 : Try.prog.concrete 27 = true := by kernel_rfl
@[go_sem] theorem szT_28 : szT Try.prog 28 = some 9 := by kernel_rfl
@[go_sem] theorem aggT_28 : aggT Try.prog 28 = some true := by kernel_rfl
@[go_sem] theorem offT_28x0 : offT Try.prog 28 0 = some 0 := by kernel_rfl
@[go_sem] theorem offT_28x1 : offT Try.prog 28 1 = some 7 := by kernel_rfl
@[go_sem] theorem offT_28x2 : offT Try.prog 28 2 = some 8 := by kernel_rfl
@[go_sem] theorem plcs_28 : plcs Try.prog 28 = some [(0, 7), (7, 1), (8, 1)] := by kernel_rfl
@[go_sem] theorem zeT_28 : zeT Try.prog 28 = some (.agg #[.int .u8 0, .int .i64 0, .int .i64 0, .int .i64 0, .int .i64 0, .int .i64 0, .slice none 0 0, .int .i64 0, .bool false]) := by kernel_rfl
@[go_sem] theorem elZ_28 : elZ Try.prog 28 = some 9 := by kernel_rfl
@[go_sem] theorem byT_28 : byT Try.prog 28 = 88 := by kernel_rfl
@[go_sem] theorem conc_28 : Try.prog.concrete 28 = true := by kernel_rfl
@[go_sem] theorem szT_29 : szT Try.prog 29 = some 1 := by kernel_rfl
@[go_sem] theorem aggT_29 : aggT Try.prog 29 = some false := by kernel_rfl
@[go_sem] theorem zeT_29 : zeT Try.prog 29 = some (.nilFunc) := by kernel_rfl
@[go_sem] theorem elZ_29 : elZ Try.prog 29 = some 1 := by kernel_rfl
@[go_sem] theorem byT_29 : byT Try.prog 29 = 8 := by kernel_rfl
@[go_sem] theorem conc_29 : Try.prog.concrete 29 = true := by kernel_rfl
@[go_sem] theorem szT_30 : szT Try.prog 30 = some 1 := by kernel_rfl
@[go_sem] theorem aggT_30 : aggT Try.prog 30 = some false := by kernel_rfl
@[go_sem] theorem zeT_30 : zeT Try.prog 30 = some (.nilFunc) := by kernel_rfl
@[go_sem] theorem elZ_30 : elZ Try.prog 30 = some 1 := by kernel_rfl
@[go_sem] theorem byT_30 : byT Try.prog 30 = 8 := by kernel_rfl
@[go_sem] theorem conc_30 : Try.prog.concrete 30 = true := by kernel_rfl
@[go_sem] theorem szT_31 : szT Try.prog 31 = some 1 := by kernel_rfl
@[go_sem] theorem aggT_31 : aggT Try.prog 31 = some false := by kernel_rfl
@[go_sem] theorem zeT_31 : zeT Try.prog 31 = some (.int .i64 0) := by kernel_rfl
@[go_sem] theorem elZ_31 : elZ Try.prog 31 = some 1 := by kernel_rfl
@[go_sem] theorem byT_31 : byT Try.prog 31 = 8 := by kernel_rfl
@[go_sem] theorem conc_31 : Try.prog.concrete 31 = true := by kernel_rfl
@[go_sem] theorem szT_33 : szT Try.prog 33 = some 1 := by kernel_rfl
@[go_sem] theorem aggT_33 : aggT Try.prog 33 = some false := by kernel_rfl
@[go_sem] theorem zeT_33 : zeT Try.prog 33 = some (.nilFunc) := by kernel_rfl
@[go_sem] theorem elZ_33 : elZ Try.prog 33 = some 1 := by kernel_rfl
@[go_sem] theorem byT_33 : byT Try.prog 33 = 8 := by kernel_rfl
@[go_sem] theorem conc_33 : Try.prog.concrete 33 = true := by kernel_rfl
@[go_sem] theorem szT_34 : szT Try.prog 34 = some 1 := by kernel_rfl
@[go_sem] theorem aggT_34 : aggT Try.prog 34 = some false := by kernel_rfl
@[go_sem] theorem zeT_34 : zeT Try.prog 34 = some (.nilFunc) := by kernel_rfl
@[go_sem] theorem elZ_34 : elZ Try.prog 34 = some 1 := by kernel_rfl
@[go_sem] theorem byT_34 : byT Try.prog 34 = 8 := by kernel_rfl
@[go_sem] theorem conc_34 : Try.prog.concrete 34 = true := by kernel_rfl
@[go_sem] theorem szT_35 : szT Try.prog 35 = some 1 := by kernel_rfl
@[go_sem] theorem aggT_35 : aggT Try.prog 35 = some false := by kernel_rfl
@[go_sem] theorem zeT_35 : zeT Try.prog 35 = some (.nilFunc) := by kernel_rfl
@[go_sem] theorem elZ_35 : elZ Try.prog 35 = some 1 := by kernel_rfl
@[go_sem] theorem byT_35 : byT Try.prog 35 = 8 := by kernel_rfl
@[go_sem] theorem conc_35 : Try.prog.concrete 35 = true := by kernel_rfl
@[go_sem] theorem szT_36 : szT Try.prog 36 = some 1 := by kernel_rfl
@[go_sem] theorem aggT_36 : aggT Try.prog 36 = some false := by kernel_rfl
@[go_sem] theorem zeT_36 : zeT Try.prog 36 = some (.nilFunc) := by kernel_rfl
@[go_sem] theorem elZ_36 : elZ Try.prog 36 = some 1 := by kernel_rfl
@[go_sem] theorem byT_36 : byT Try.prog 36 = 8 := by kernel_rfl
@[go_sem] theorem conc_36 : Try.prog.concrete 36 = true := by kernel_rfl
@[go_sem] theorem szT_37 : szT Try.prog 37 = some 1 := by kernel_rfl
@[go_sem] theorem aggT_37 : aggT Try.prog 37 = some false := by kernel_rfl
@[go_sem] theorem zeT_37 : zeT Try.prog 37 = some (.slice none 0 0) := by kernel_rfl
@[go_sem] theorem elZ_37 : elZ Try.prog 37 = some 1 := by kernel_rfl
@[go_sem] theorem byT_37 : byT Try.prog 37 = 24 := by kernel_rfl
@[go_sem] theorem elT_37 : elT Try.prog 37 = some 43 := by kernel_rfl
@[go_sem] theorem conc_37 : Try.prog.concrete 37 = true := by kernel_rfl
@[go_sem] theorem szT_38 : szT Try.prog 38 = some 1 := by kernel_rfl
@[go_sem] theorem aggT_38 : aggT Try.prog 38 = some false := by kernel_rfl
@[go_sem] theorem zeT_38 : zeT Try.prog 38 = some (.nilFunc) := by kernel_rfl
@[go_sem] theorem elZ_38 : elZ Try.prog 38 = some 1 := by kernel_rfl
@[go_sem] theorem byT_38 : byT Try.prog 38 = 8 := by kernel_rfl
@[go_sem] theorem conc_38 : Try.prog.concrete 38 = true := by kernel_rfl
@[go_sem] theorem szT_39 : szT Try.prog 39 = some 1 := by kernel_rfl
@[go_sem] theorem aggT_39 : aggT Try.prog 39 = some false := by kernel_rfl
@[go_sem] theorem zeT_39 : zeT Try.prog 39 = some (.nilFunc) := by kernel_rfl
@[go_sem] theorem elZ_39 : elZ Try.prog 39 = some 1 := by kernel_rfl
@[go_sem] theorem byT_39 : byT Try.prog 39 = 8 := by kernel_rfl
@[go_sem] theorem conc_39 : Try.prog.concrete 39 = true := by kernel_rfl
@[go_sem] theorem szT_40 : szT Try.prog 40 = some 1 := by kernel_rfl
@[go_sem] theorem aggT_40 : aggT Try.prog 40 = some false := by kernel_rfl
@[go_sem] theorem zeT_40 : zeT Try.prog 40 = some (.nilFunc) := by kernel_rfl
@[go_sem] theorem elZ_40 : elZ Try.prog 40 = some 1 := by kernel_rfl
@[go_sem] theorem byT_40 : byT Try.prog 40 = 8 := by kernel_rfl
@[go_sem] theorem conc_40 : Try.prog.concrete 40 = true := by kernel_rfl
@[go_sem] theorem szT_41 : szT Try.prog 41 = some 1 := by kernel_rfl
@[go_sem] theorem aggT_41 : aggT Try.prog 41 = some false := by kernel_rfl
@[go_sem] theorem zeT_41 : zeT Try.prog 41 = some (.slice none 0 0) := by kernel_rfl
@[go_sem] theorem elZ_41 : elZ Try.prog 41 = some 1 := by kernel_rfl
@[go_sem] theorem byT_41 : byT Try.prog 41 = 24 := by kernel_rfl
@[go_sem] theorem elT_41 : elT Try.prog 41 = some 23 := by kernel_rfl
@[go_sem] theorem conc_41 : Try.prog.concrete 41 = true := by kernel_rfl
@[go_sem] theorem szT_42 : szT Try.prog 42 = some 5 := by kernel_rfl
@[go_sem] theorem aggT_42 : aggT Try.prog 42 = some true := by kernel_rfl
@[go_sem] theorem offT_42x0 : offT Try.prog 42 0 = some 0 := by kernel_rfl
@[go_sem] theorem offT_42x1 : offT Try.prog 42 1 = some 1 := by kernel_rfl
@[go_sem] theorem plcs_42 : plcs Try.prog 42 = some [(0, 1), (1, 4)] := by kernel_rfl
@[go_sem] theorem zeT_42 : zeT Try.prog 42 = some (.agg #[.int .i64 0, .int .i64 0, .int .i64 0, .int .i64 0, .int .i64 0]) := by kernel_rfl
@[go_sem] theorem elZ_42 : elZ Try.prog 42 = some 5 := by kernel_rfl
@[go_sem] theorem byT_42 : byT Try.prog 42 = 40 := by kernel_rfl
@[go_sem] theorem conc_42 : Try.prog.concrete 42 = true := by kernel_rfl
@[go_sem] theorem eqg_42 : Program.eqGuardType Try.prog (Program.depth Try.prog) 42 = false := by kernel_rfl
@[go_sem] theorem stood_42 : Try.prog.stoodInHeld 42 = false := by kernel_rfl
@[go_sem] theorem szT_43 : szT Try.prog 43 = some 5 := by kernel_rfl
@[go_sem] theorem aggT_43 : aggT Try.prog 43 = some true := by kernel_rfl
@[go_sem] theorem offT_43x0 : offT Try.prog 43 0 = some 0 := by kernel_rfl
@[go_sem] theorem offT_43x1 : offT Try.prog 43 1 = some 1 := by kernel_rfl
@[go_sem] theorem plcs_43 : plcs Try.prog 43 = some [(0, 1), (1, 4)] := by kernel_rfl
@[go_sem] theorem zeT_43 : zeT Try.prog 43 = some (.agg #[.int .i64 0, .int .i64 0, .int .i64 0, .int .i64 0, .int .i64 0]) := by kernel_rfl
@[go_sem] theorem elZ_43 : elZ Try.prog 43 = some 5 := by kernel_rfl
@[go_sem] theorem byT_43 : byT Try.prog 43 = 40 := by kernel_rfl
@[go_sem] theorem conc_43 : Try.prog.concrete 43 = true := by kernel_rfl
@[go_sem] theorem eqg_43 : Program.eqGuardType Try.prog (Program.depth Try.prog) 43 = false := by kernel_rfl
@[go_sem] theorem stood_43 : Try.prog.stoodInHeld 43 = false := by kernel_rfl
@[go_sem] theorem szT_44 : szT Try.prog 44 = some 1 := by kernel_rfl
@[go_sem] theorem aggT_44 : aggT Try.prog 44 = some false := by kernel_rfl
@[go_sem] theorem zeT_44 : zeT Try.prog 44 = some (.nilFunc) := by kernel_rfl
@[go_sem] theorem elZ_44 : elZ Try.prog 44 = some 1 := by kernel_rfl
@[go_sem] theorem byT_44 : byT Try.prog 44 = 8 := by kernel_rfl
@[go_sem] theorem conc_44 : Try.prog.concrete 44 = true := by kernel_rfl
@[go_sem] theorem szT_46 : szT Try.prog 46 = some 1 := by kernel_rfl
@[go_sem] theorem aggT_46 : aggT Try.prog 46 = some false := by kernel_rfl
@[go_sem] theorem zeT_46 : zeT Try.prog 46 = some (.nilFunc) := by kernel_rfl
@[go_sem] theorem elZ_46 : elZ Try.prog 46 = some 1 := by kernel_rfl
@[go_sem] theorem byT_46 : byT Try.prog 46 = 8 := by kernel_rfl
@[go_sem] theorem conc_46 : Try.prog.concrete 46 = true := by kernel_rfl
@[go_sem] theorem szT_47 : szT Try.prog 47 = some 1 := by kernel_rfl
@[go_sem] theorem aggT_47 : aggT Try.prog 47 = some false := by kernel_rfl
@[go_sem] theorem zeT_47 : zeT Try.prog 47 = some (.slice none 0 0) := by kernel_rfl
@[go_sem] theorem elZ_47 : elZ Try.prog 47 = some 1 := by kernel_rfl
@[go_sem] theorem byT_47 : byT Try.prog 47 = 24 := by kernel_rfl
@[go_sem] theorem elT_47 : elT Try.prog 47 = some 3 := by kernel_rfl
@[go_sem] theorem conc_47 : Try.prog.concrete 47 = true := by kernel_rfl
@[go_sem] theorem szT_48 : szT Try.prog 48 = some 1 := by kernel_rfl
@[go_sem] theorem aggT_48 : aggT Try.prog 48 = some false := by kernel_rfl
@[go_sem] theorem zeT_48 : zeT Try.prog 48 = some (.nilFunc) := by kernel_rfl
@[go_sem] theorem elZ_48 : elZ Try.prog 48 = some 1 := by kernel_rfl
@[go_sem] theorem byT_48 : byT Try.prog 48 = 8 := by kernel_rfl
@[go_sem] theorem conc_48 : Try.prog.concrete 48 = true := by kernel_rfl
@[go_sem] theorem szT_49 : szT Try.prog 49 = some 1 := by kernel_rfl
@[go_sem] theorem aggT_49 : aggT Try.prog 49 = some false := by kernel_rfl
@[go_sem] theorem zeT_49 : zeT Try.prog 49 = some (.nilFunc) := by kernel_rfl
@[go_sem] theorem elZ_49 : elZ Try.prog 49 = some 1 := by kernel_rfl
@[go_sem] theorem byT_49 : byT Try.prog 49 = 8 := by kernel_rfl
@[go_sem] theorem conc_49 : Try.prog.concrete 49 = true := by kernel_rfl
@[go_sem] theorem szT_50 : szT Try.prog 50 = some 1 := by kernel_rfl
@[go_sem] theorem aggT_50 : aggT Try.prog 50 = some false := by kernel_rfl
@[go_sem] theorem zeT_50 : zeT Try.prog 50 = some (.nilFunc) := by kernel_rfl
@[go_sem] theorem elZ_50 : elZ Try.prog 50 = some 1 := by kernel_rfl
@[go_sem] theorem byT_50 : byT Try.prog 50 = 8 := by kernel_rfl
@[go_sem] theorem conc_50 : Try.prog.concrete 50 = true := by kernel_rfl
@[go_sem] theorem szT_51 : szT Try.prog 51 = some 1 := by kernel_rfl
@[go_sem] theorem aggT_51 : aggT Try.prog 51 = some false := by kernel_rfl
@[go_sem] theorem zeT_51 : zeT Try.prog 51 = some (.nilFunc) := by kernel_rfl
@[go_sem] theorem elZ_51 : elZ Try.prog 51 = some 1 := by kernel_rfl
@[go_sem] theorem byT_51 : byT Try.prog 51 = 8 := by kernel_rfl
@[go_sem] theorem conc_51 : Try.prog.concrete 51 = true := by kernel_rfl
@[go_sem] theorem szT_52 : szT Try.prog 52 = some 1 := by kernel_rfl
@[go_sem] theorem aggT_52 : aggT Try.prog 52 = some false := by kernel_rfl
@[go_sem] theorem zeT_52 : zeT Try.prog 52 = some (.nilFunc) := by kernel_rfl
@[go_sem] theorem elZ_52 : elZ Try.prog 52 = some 1 := by kernel_rfl
@[go_sem] theorem byT_52 : byT Try.prog 52 = 8 := by kernel_rfl
@[go_sem] theorem conc_52 : Try.prog.concrete 52 = true := by kernel_rfl
@[go_sem] theorem szT_53 : szT Try.prog 53 = some 1 := by kernel_rfl
@[go_sem] theorem aggT_53 : aggT Try.prog 53 = some false := by kernel_rfl
@[go_sem] theorem zeT_53 : zeT Try.prog 53 = some (.nilFunc) := by kernel_rfl
@[go_sem] theorem elZ_53 : elZ Try.prog 53 = some 1 := by kernel_rfl
@[go_sem] theorem byT_53 : byT Try.prog 53 = 8 := by kernel_rfl
@[go_sem] theorem conc_53 : Try.prog.concrete 53 = true := by kernel_rfl
@[go_sem] theorem szT_54 : szT Try.prog 54 = some 1 := by kernel_rfl
@[go_sem] theorem aggT_54 : aggT Try.prog 54 = some false := by kernel_rfl
@[go_sem] theorem zeT_54 : zeT Try.prog 54 = some (.nilFunc) := by kernel_rfl
@[go_sem] theorem elZ_54 : elZ Try.prog 54 = some 1 := by kernel_rfl
@[go_sem] theorem byT_54 : byT Try.prog 54 = 8 := by kernel_rfl
@[go_sem] theorem conc_54 : Try.prog.concrete 54 = true := by kernel_rfl
@[go_sem] theorem szT_55 : szT Try.prog 55 = some 1 := by kernel_rfl
@[go_sem] theorem aggT_55 : aggT Try.prog 55 = some false := by kernel_rfl
@[go_sem] theorem zeT_55 : zeT Try.prog 55 = some (.nilFunc) := by kernel_rfl
@[go_sem] theorem elZ_55 : elZ Try.prog 55 = some 1 := by kernel_rfl
@[go_sem] theorem byT_55 : byT Try.prog 55 = 8 := by kernel_rfl
@[go_sem] theorem conc_55 : Try.prog.concrete 55 = true := by kernel_rfl
@[go_sem] theorem szT_56 : szT Try.prog 56 = some 1 := by kernel_rfl
@[go_sem] theorem aggT_56 : aggT Try.prog 56 = some false := by kernel_rfl
@[go_sem] theorem zeT_56 : zeT Try.prog 56 = some (.pointer none) := by kernel_rfl
@[go_sem] theorem elZ_56 : elZ Try.prog 56 = some 1 := by kernel_rfl
@[go_sem] theorem byT_56 : byT Try.prog 56 = 8 := by kernel_rfl
@[go_sem] theorem conc_56 : Try.prog.concrete 56 = true := by kernel_rfl
@[go_sem] theorem szT_57 : szT Try.prog 57 = some 1 := by kernel_rfl
@[go_sem] theorem aggT_57 : aggT Try.prog 57 = some false := by kernel_rfl
@[go_sem] theorem zeT_57 : zeT Try.prog 57 = some (.nilFunc) := by kernel_rfl
@[go_sem] theorem elZ_57 : elZ Try.prog 57 = some 1 := by kernel_rfl
@[go_sem] theorem byT_57 : byT Try.prog 57 = 8 := by kernel_rfl
@[go_sem] theorem conc_57 : Try.prog.concrete 57 = true := by kernel_rfl
@[go_sem] theorem szT_58 : szT Try.prog 58 = some 1 := by kernel_rfl
@[go_sem] theorem aggT_58 : aggT Try.prog 58 = some false := by kernel_rfl
@[go_sem] theorem zeT_58 : zeT Try.prog 58 = some (.nilFunc) := by kernel_rfl
@[go_sem] theorem elZ_58 : elZ Try.prog 58 = some 1 := by kernel_rfl
@[go_sem] theorem byT_58 : byT Try.prog 58 = 8 := by kernel_rfl
@[go_sem] theorem conc_58 : Try.prog.concrete 58 = true := by kernel_rfl
@[go_sem] theorem szT_59 : szT Try.prog 59 = some 1 := by kernel_rfl
@[go_sem] theorem aggT_59 : aggT Try.prog 59 = some false := by kernel_rfl
@[go_sem] theorem zeT_59 : zeT Try.prog 59 = some (.nilFunc) := by kernel_rfl
@[go_sem] theorem elZ_59 : elZ Try.prog 59 = some 1 := by kernel_rfl
@[go_sem] theorem byT_59 : byT Try.prog 59 = 8 := by kernel_rfl
@[go_sem] theorem conc_59 : Try.prog.concrete 59 = true := by kernel_rfl
@[go_sem] theorem szT_60 : szT Try.prog 60 = some 1 := by kernel_rfl
@[go_sem] theorem aggT_60 : aggT Try.prog 60 = some false := by kernel_rfl
@[go_sem] theorem zeT_60 : zeT Try.prog 60 = some (.nilFunc) := by kernel_rfl
@[go_sem] theorem elZ_60 : elZ Try.prog 60 = some 1 := by kernel_rfl
@[go_sem] theorem byT_60 : byT Try.prog 60 = 8 := by kernel_rfl
@[go_sem] theorem conc_60 : Try.prog.concrete 60 = true := by kernel_rfl
@[go_sem] theorem szT_61 : szT Try.prog 61 = some 1 := by kernel_rfl
@[go_sem] theorem aggT_61 : aggT Try.prog 61 = some false := by kernel_rfl
@[go_sem] theorem zeT_61 : zeT Try.prog 61 = some (.slice none 0 0) := by kernel_rfl
@[go_sem] theorem elZ_61 : elZ Try.prog 61 = some 1 := by kernel_rfl
@[go_sem] theorem byT_61 : byT Try.prog 61 = 24 := by kernel_rfl
@[go_sem] theorem elT_61 : elT Try.prog 61 = some 28 := by kernel_rfl
@[go_sem] theorem conc_61 : Try.prog.concrete 61 = true := by kernel_rfl
@[go_sem] theorem szT_62 : szT Try.prog 62 = some 1 := by kernel_rfl
@[go_sem] theorem aggT_62 : aggT Try.prog 62 = some false := by kernel_rfl
@[go_sem] theorem zeT_62 : zeT Try.prog 62 = some (.nilFunc) := by kernel_rfl
@[go_sem] theorem elZ_62 : elZ Try.prog 62 = some 1 := by kernel_rfl
@[go_sem] theorem byT_62 : byT Try.prog 62 = 8 := by kernel_rfl
@[go_sem] theorem conc_62 : Try.prog.concrete 62 = true := by kernel_rfl
@[go_sem] theorem szT_63 : szT Try.prog 63 = some 1 := by kernel_rfl
@[go_sem] theorem aggT_63 : aggT Try.prog 63 = some false := by kernel_rfl
@[go_sem] theorem zeT_63 : zeT Try.prog 63 = some (.nilFunc) := by kernel_rfl
@[go_sem] theorem elZ_63 : elZ Try.prog 63 = some 1 := by kernel_rfl
@[go_sem] theorem byT_63 : byT Try.prog 63 = 8 := by kernel_rfl
@[go_sem] theorem conc_63 : Try.prog.concrete 63 = true := by kernel_rfl
@[go_sem] theorem szT_64 : szT Try.prog 64 = some 1 := by kernel_rfl
@[go_sem] theorem aggT_64 : aggT Try.prog 64 = some false := by kernel_rfl
@[go_sem] theorem zeT_64 : zeT Try.prog 64 = some (.nilFunc) := by kernel_rfl
@[go_sem] theorem elZ_64 : elZ Try.prog 64 = some 1 := by kernel_rfl
@[go_sem] theorem byT_64 : byT Try.prog 64 = 8 := by kernel_rfl
@[go_sem] theorem conc_64 : Try.prog.concrete 64 = true := by kernel_rfl
@[go_sem] theorem szT_66 : szT Try.prog 66 = some 1 := by kernel_rfl
@[go_sem] theorem aggT_66 : aggT Try.prog 66 = some false := by kernel_rfl
@[go_sem] theorem zeT_66 : zeT Try.prog 66 = some (.nilFunc) := by kernel_rfl
@[go_sem] theorem elZ_66 : elZ Try.prog 66 = some 1 := by kernel_rfl
@[go_sem] theorem byT_66 : byT Try.prog 66 = 8 := by kernel_rfl
@[go_sem] theorem conc_66 : Try.prog.concrete 66 = true := by kernel_rfl
@[go_sem] theorem szT_67 : szT Try.prog 67 = some 1 := by kernel_rfl
@[go_sem] theorem aggT_67 : aggT Try.prog 67 = some false := by kernel_rfl
@[go_sem] theorem zeT_67 : zeT Try.prog 67 = some (.nilFunc) := by kernel_rfl
@[go_sem] theorem elZ_67 : elZ Try.prog 67 = some 1 := by kernel_rfl
@[go_sem] theorem byT_67 : byT Try.prog 67 = 8 := by kernel_rfl
@[go_sem] theorem conc_67 : Try.prog.concrete 67 = true := by kernel_rfl
@[go_sem] theorem szT_69 : szT Try.prog 69 = some 1 := by kernel_rfl
@[go_sem] theorem aggT_69 : aggT Try.prog 69 = some false := by kernel_rfl
@[go_sem] theorem zeT_69 : zeT Try.prog 69 = some (.nilFunc) := by kernel_rfl
@[go_sem] theorem elZ_69 : elZ Try.prog 69 = some 1 := by kernel_rfl
@[go_sem] theorem byT_69 : byT Try.prog 69 = 8 := by kernel_rfl
@[go_sem] theorem conc_69 : Try.prog.concrete 69 = true := by kernel_rfl
@[go_sem] theorem szT_70 : szT Try.prog 70 = some 1 := by kernel_rfl
@[go_sem] theorem aggT_70 : aggT Try.prog 70 = some false := by kernel_rfl
@[go_sem] theorem zeT_70 : zeT Try.prog 70 = some (.nilFunc) := by kernel_rfl
@[go_sem] theorem elZ_70 : elZ Try.prog 70 = some 1 := by kernel_rfl
@[go_sem] theorem byT_70 : byT Try.prog 70 = 8 := by kernel_rfl
@[go_sem] theorem conc_70 : Try.prog.concrete 70 = true := by kernel_rfl
@[go_sem] theorem szT_71 : szT Try.prog 71 = some 1 := by kernel_rfl
@[go_sem] theorem aggT_71 : aggT Try.prog 71 = some false := by kernel_rfl
@[go_sem] theorem zeT_71 : zeT Try.prog 71 = some (.nilFunc) := by kernel_rfl
@[go_sem] theorem elZ_71 : elZ Try.prog 71 = some 1 := by kernel_rfl
@[go_sem] theorem byT_71 : byT Try.prog 71 = 8 := by kernel_rfl
@[go_sem] theorem conc_71 : Try.prog.concrete 71 = true := by kernel_rfl
@[go_sem] theorem szT_72 : szT Try.prog 72 = some 1 := by kernel_rfl
@[go_sem] theorem aggT_72 : aggT Try.prog 72 = some false := by kernel_rfl
@[go_sem] theorem zeT_72 : zeT Try.prog 72 = some (.nilFunc) := by kernel_rfl
@[go_sem] theorem elZ_72 : elZ Try.prog 72 = some 1 := by kernel_rfl
@[go_sem] theorem byT_72 : byT Try.prog 72 = 8 := by kernel_rfl
@[go_sem] theorem conc_72 : Try.prog.concrete 72 = true := by kernel_rfl
@[go_sem] theorem szT_73 : szT Try.prog 73 = some 1 := by kernel_rfl
@[go_sem] theorem aggT_73 : aggT Try.prog 73 = some false := by kernel_rfl
@[go_sem] theorem zeT_73 : zeT Try.prog 73 = some (.nilFunc) := by kernel_rfl
@[go_sem] theorem elZ_73 : elZ Try.prog 73 = some 1 := by kernel_rfl
@[go_sem] theorem byT_73 : byT Try.prog 73 = 8 := by kernel_rfl
@[go_sem] theorem conc_73 : Try.prog.concrete 73 = true := by kernel_rfl
@[go_sem] theorem szT_75 : szT Try.prog 75 = some 1 := by kernel_rfl
@[go_sem] theorem aggT_75 : aggT Try.prog 75 = some false := by kernel_rfl
@[go_sem] theorem zeT_75 : zeT Try.prog 75 = some (.nilFunc) := by kernel_rfl
@[go_sem] theorem elZ_75 : elZ Try.prog 75 = some 1 := by kernel_rfl
@[go_sem] theorem byT_75 : byT Try.prog 75 = 8 := by kernel_rfl
@[go_sem] theorem conc_75 : Try.prog.concrete 75 = true := by kernel_rfl
@[go_sem] theorem szT_77 : szT Try.prog 77 = some 1 := by kernel_rfl
@[go_sem] theorem aggT_77 : aggT Try.prog 77 = some false := by kernel_rfl
@[go_sem] theorem zeT_77 : zeT Try.prog 77 = some (.nilFunc) := by kernel_rfl
@[go_sem] theorem elZ_77 : elZ Try.prog 77 = some 1 := by kernel_rfl
@[go_sem] theorem byT_77 : byT Try.prog 77 = 8 := by kernel_rfl
@[go_sem] theorem conc_77 : Try.prog.concrete 77 = true := by kernel_rfl
@[go_sem] theorem szT_79 : szT Try.prog 79 = some 1 := by kernel_rfl
@[go_sem] theorem aggT_79 : aggT Try.prog 79 = some false := by kernel_rfl
@[go_sem] theorem zeT_79 : zeT Try.prog 79 = some (.nilFunc) := by kernel_rfl
@[go_sem] theorem elZ_79 : elZ Try.prog 79 = some 1 := by kernel_rfl
@[go_sem] theorem byT_79 : byT Try.prog 79 = 8 := by kernel_rfl
@[go_sem] theorem conc_79 : Try.prog.concrete 79 = true := by kernel_rfl
@[go_sem] theorem szT_80 : szT Try.prog 80 = some 1 := by kernel_rfl
@[go_sem] theorem aggT_80 : aggT Try.prog 80 = some false := by kernel_rfl
@[go_sem] theorem zeT_80 : zeT Try.prog 80 = some (.nilFunc) := by kernel_rfl
@[go_sem] theorem elZ_80 : elZ Try.prog 80 = some 1 := by kernel_rfl
@[go_sem] theorem byT_80 : byT Try.prog 80 = 8 := by kernel_rfl
@[go_sem] theorem conc_80 : Try.prog.concrete 80 = true := by kernel_rfl
@[go_sem] theorem szT_81 : szT Try.prog 81 = some 1 := by kernel_rfl
@[go_sem] theorem aggT_81 : aggT Try.prog 81 = some false := by kernel_rfl
@[go_sem] theorem zeT_81 : zeT Try.prog 81 = some (.nilFunc) := by kernel_rfl
@[go_sem] theorem elZ_81 : elZ Try.prog 81 = some 1 := by kernel_rfl
@[go_sem] theorem byT_81 : byT Try.prog 81 = 8 := by kernel_rfl
@[go_sem] theorem conc_81 : Try.prog.concrete 81 = true := by kernel_rfl
@[go_sem] theorem szT_82 : szT Try.prog 82 = some 1 := by kernel_rfl
@[go_sem] theorem aggT_82 : aggT Try.prog 82 = some false := by kernel_rfl
@[go_sem] theorem zeT_82 : zeT Try.prog 82 = some (.nilFunc) := by kernel_rfl
@[go_sem] theorem elZ_82 : elZ Try.prog 82 = some 1 := by kernel_rfl
@[go_sem] theorem byT_82 : byT Try.prog 82 = 8 := by kernel_rfl
@[go_sem] theorem conc_82 : Try.prog.concrete 82 = true := by kernel_rfl
@[go_sem] theorem szT_83 : szT Try.prog 83 = some 1 := by kernel_rfl
@[go_sem] theorem aggT_83 : aggT Try.prog 83 = some false := by kernel_rfl
@[go_sem] theorem zeT_83 : zeT Try.prog 83 = some (.nilFunc) := by kernel_rfl
@[go_sem] theorem elZ_83 : elZ Try.prog 83 = some 1 := by kernel_rfl
@[go_sem] theorem byT_83 : byT Try.prog 83 = 8 := by kernel_rfl
@[go_sem] theorem conc_83 : Try.prog.concrete 83 = true := by kernel_rfl
@[go_sem] theorem szT_84 : szT Try.prog 84 = some 1 := by kernel_rfl
@[go_sem] theorem aggT_84 : aggT Try.prog 84 = some false := by kernel_rfl
@[go_sem] theorem zeT_84 : zeT Try.prog 84 = some (.nilFunc) := by kernel_rfl
@[go_sem] theorem elZ_84 : elZ Try.prog 84 = some 1 := by kernel_rfl
@[go_sem] theorem byT_84 : byT Try.prog 84 = 8 := by kernel_rfl
@[go_sem] theorem conc_84 : Try.prog.concrete 84 = true := by kernel_rfl
@[go_sem] theorem szT_85 : szT Try.prog 85 = some 1 := by kernel_rfl
@[go_sem] theorem aggT_85 : aggT Try.prog 85 = some false := by kernel_rfl
@[go_sem] theorem zeT_85 : zeT Try.prog 85 = some (.nilFunc) := by kernel_rfl
@[go_sem] theorem elZ_85 : elZ Try.prog 85 = some 1 := by kernel_rfl
@[go_sem] theorem byT_85 : byT Try.prog 85 = 8 := by kernel_rfl
@[go_sem] theorem conc_85 : Try.prog.concrete 85 = true := by kernel_rfl
@[go_sem] theorem szT_86 : szT Try.prog 86 = some 1 := by kernel_rfl
@[go_sem] theorem aggT_86 : aggT Try.prog 86 = some false := by kernel_rfl
@[go_sem] theorem zeT_86 : zeT Try.prog 86 = some (.nilFunc) := by kernel_rfl
@[go_sem] theorem elZ_86 : elZ Try.prog 86 = some 1 := by kernel_rfl
@[go_sem] theorem byT_86 : byT Try.prog 86 = 8 := by kernel_rfl
@[go_sem] theorem conc_86 : Try.prog.concrete 86 = true := by kernel_rfl
@[go_sem] theorem szT_87 : szT Try.prog 87 = some 1 := by kernel_rfl
@[go_sem] theorem aggT_87 : aggT Try.prog 87 = some false := by kernel_rfl
@[go_sem] theorem zeT_87 : zeT Try.prog 87 = some (.nilIface) := by kernel_rfl
@[go_sem] theorem elZ_87 : elZ Try.prog 87 = some 1 := by kernel_rfl
@[go_sem] theorem byT_87 : byT Try.prog 87 = 16 := by kernel_rfl
@[go_sem] theorem szT_88 : szT Try.prog 88 = some 1 := by kernel_rfl
@[go_sem] theorem aggT_88 : aggT Try.prog 88 = some false := by kernel_rfl
@[go_sem] theorem zeT_88 : zeT Try.prog 88 = some (.nilIface) := by kernel_rfl
@[go_sem] theorem elZ_88 : elZ Try.prog 88 = some 1 := by kernel_rfl
@[go_sem] theorem byT_88 : byT Try.prog 88 = 16 := by kernel_rfl
@[go_sem] theorem szT_89 : szT Try.prog 89 = some 1 := by kernel_rfl
@[go_sem] theorem aggT_89 : aggT Try.prog 89 = some false := by kernel_rfl
@[go_sem] theorem zeT_89 : zeT Try.prog 89 = some (.nilFunc) := by kernel_rfl
@[go_sem] theorem elZ_89 : elZ Try.prog 89 = some 1 := by kernel_rfl
@[go_sem] theorem byT_89 : byT Try.prog 89 = 8 := by kernel_rfl
@[go_sem] theorem conc_89 : Try.prog.concrete 89 = true := by kernel_rfl
@[go_sem] theorem szT_90 : szT Try.prog 90 = some 1 := by kernel_rfl
@[go_sem] theorem aggT_90 : aggT Try.prog 90 = some false := by kernel_rfl
@[go_sem] theorem zeT_90 : zeT Try.prog 90 = some (.nilFunc) := by kernel_rfl
@[go_sem] theorem elZ_90 : elZ Try.prog 90 = some 1 := by kernel_rfl
@[go_sem] theorem byT_90 : byT Try.prog 90 = 8 := by kernel_rfl
@[go_sem] theorem conc_90 : Try.prog.concrete 90 = true := by kernel_rfl
@[go_sem] theorem szT_91 : szT Try.prog 91 = some 1 := by kernel_rfl
@[go_sem] theorem aggT_91 : aggT Try.prog 91 = some false := by kernel_rfl
@[go_sem] theorem zeT_91 : zeT Try.prog 91 = some (.nilFunc) := by kernel_rfl
@[go_sem] theorem elZ_91 : elZ Try.prog 91 = some 1 := by kernel_rfl
@[go_sem] theorem byT_91 : byT Try.prog 91 = 8 := by kernel_rfl
@[go_sem] theorem conc_91 : Try.prog.concrete 91 = true := by kernel_rfl
@[go_sem] theorem szT_92 : szT Try.prog 92 = some 1 := by kernel_rfl
@[go_sem] theorem aggT_92 : aggT Try.prog 92 = some false := by kernel_rfl
@[go_sem] theorem zeT_92 : zeT Try.prog 92 = some (.nilFunc) := by kernel_rfl
@[go_sem] theorem elZ_92 : elZ Try.prog 92 = some 1 := by kernel_rfl
@[go_sem] theorem byT_92 : byT Try.prog 92 = 8 := by kernel_rfl
@[go_sem] theorem conc_92 : Try.prog.concrete 92 = true := by kernel_rfl
@[go_sem] theorem szT_93 : szT Try.prog 93 = some 1 := by kernel_rfl
@[go_sem] theorem aggT_93 : aggT Try.prog 93 = some false := by kernel_rfl
@[go_sem] theorem zeT_93 : zeT Try.prog 93 = some (.nilFunc) := by kernel_rfl
@[go_sem] theorem elZ_93 : elZ Try.prog 93 = some 1 := by kernel_rfl
@[go_sem] theorem byT_93 : byT Try.prog 93 = 8 := by kernel_rfl
@[go_sem] theorem conc_93 : Try.prog.concrete 93 = true := by kernel_rfl
@[go_sem] theorem szT_94 : szT Try.prog 94 = some 1 := by kernel_rfl
@[go_sem] theorem aggT_94 : aggT Try.prog 94 = some false := by kernel_rfl
@[go_sem] theorem zeT_94 : zeT Try.prog 94 = some (.nilFunc) := by kernel_rfl
@[go_sem] theorem elZ_94 : elZ Try.prog 94 = some 1 := by kernel_rfl
@[go_sem] theorem byT_94 : byT Try.prog 94 = 8 := by kernel_rfl
@[go_sem] theorem conc_94 : Try.prog.concrete 94 = true := by kernel_rfl
@[go_sem] theorem szT_96 : szT Try.prog 96 = some 1 := by kernel_rfl
@[go_sem] theorem aggT_96 : aggT Try.prog 96 = some false := by kernel_rfl
@[go_sem] theorem zeT_96 : zeT Try.prog 96 = some (.nilFunc) := by kernel_rfl
@[go_sem] theorem elZ_96 : elZ Try.prog 96 = some 1 := by kernel_rfl
@[go_sem] theorem byT_96 : byT Try.prog 96 = 8 := by kernel_rfl
@[go_sem] theorem conc_96 : Try.prog.concrete 96 = true := by kernel_rfl
@[go_sem] theorem szT_97 : szT Try.prog 97 = some 1 := by kernel_rfl
@[go_sem] theorem aggT_97 : aggT Try.prog 97 = some false := by kernel_rfl
@[go_sem] theorem zeT_97 : zeT Try.prog 97 = some (.nilFunc) := by kernel_rfl
@[go_sem] theorem elZ_97 : elZ Try.prog 97 = some 1 := by kernel_rfl
@[go_sem] theorem byT_97 : byT Try.prog 97 = 8 := by kernel_rfl
@[go_sem] theorem conc_97 : Try.prog.concrete 97 = true := by kernel_rfl
@[go_sem] theorem szT_98 : szT Try.prog 98 = some 1 := by kernel_rfl
@[go_sem] theorem aggT_98 : aggT Try.prog 98 = some false := by kernel_rfl
@[go_sem] theorem zeT_98 : zeT Try.prog 98 = some (.nilFunc) := by kernel_rfl
@[go_sem] theorem elZ_98 : elZ Try.prog 98 = some 1 := by kernel_rfl
@[go_sem] theorem byT_98 : byT Try.prog 98 = 8 := by kernel_rfl
@[go_sem] theorem conc_98 : Try.prog.concrete 98 = true := by kernel_rfl
@[go_sem] theorem szT_99 : szT Try.prog 99 = some 1 := by kernel_rfl
@[go_sem] theorem aggT_99 : aggT Try.prog 99 = some false := by kernel_rfl
@[go_sem] theorem zeT_99 : zeT Try.prog 99 = some (.nilFunc) := by kernel_rfl
@[go_sem] theorem elZ_99 : elZ Try.prog 99 = some 1 := by kernel_rfl
@[go_sem] theorem byT_99 : byT Try.prog 99 = 8 := by kernel_rfl
@[go_sem] theorem conc_99 : Try.prog.concrete 99 = true := by kernel_rfl
@[go_sem] theorem szT_100 : szT Try.prog 100 = some 1 := by kernel_rfl
@[go_sem] theorem aggT_100 : aggT Try.prog 100 = some false := by kernel_rfl
@[go_sem] theorem zeT_100 : zeT Try.prog 100 = some (.nilFunc) := by kernel_rfl
@[go_sem] theorem elZ_100 : elZ Try.prog 100 = some 1 := by kernel_rfl
@[go_sem] theorem byT_100 : byT Try.prog 100 = 8 := by kernel_rfl
@[go_sem] theorem conc_100 : Try.prog.concrete 100 = true := by kernel_rfl
@[go_sem] theorem szT_101 : szT Try.prog 101 = some 1 := by kernel_rfl
@[go_sem] theorem aggT_101 : aggT Try.prog 101 = some false := by kernel_rfl
@[go_sem] theorem zeT_101 : zeT Try.prog 101 = some (.pointer none) := by kernel_rfl
@[go_sem] theorem elZ_101 : elZ Try.prog 101 = some 1 := by kernel_rfl
@[go_sem] theorem byT_101 : byT Try.prog 101 = 8 := by kernel_rfl
@[go_sem] theorem conc_101 : Try.prog.concrete 101 = true := by kernel_rfl
@[go_sem] theorem szT_102 : szT Try.prog 102 = some 2 := by kernel_rfl
@[go_sem] theorem aggT_102 : aggT Try.prog 102 = some true := by kernel_rfl
@[go_sem] theorem offT_102x0 : offT Try.prog 102 0 = some 0 := by kernel_rfl
@[go_sem] theorem offT_102x1 : offT Try.prog 102 1 = some 1 := by kernel_rfl
@[go_sem] theorem plcs_102 : plcs Try.prog 102 = some [(0, 1), (1, 1)] := by kernel_rfl
@[go_sem] theorem zeT_102 : zeT Try.prog 102 = some (.agg #[.int .i64 0, .slice none 0 0]) := by kernel_rfl
@[go_sem] theorem elZ_102 : elZ Try.prog 102 = some 2 := by kernel_rfl
@[go_sem] theorem byT_102 : byT Try.prog 102 = 32 := by kernel_rfl
@[go_sem] theorem conc_102 : Try.prog.concrete 102 = true := by kernel_rfl
@[go_sem] theorem szT_103 : szT Try.prog 103 = some 2 := by kernel_rfl
@[go_sem] theorem aggT_103 : aggT Try.prog 103 = some true := by kernel_rfl
@[go_sem] theorem offT_103x0 : offT Try.prog 103 0 = some 0 := by kernel_rfl
@[go_sem] theorem offT_103x1 : offT Try.prog 103 1 = some 1 := by kernel_rfl
@[go_sem] theorem plcs_103 : plcs Try.prog 103 = some [(0, 1), (1, 1)] := by kernel_rfl
@[go_sem] theorem zeT_103 : zeT Try.prog 103 = some (.agg #[.int .i64 0, .slice none 0 0]) := by kernel_rfl
@[go_sem] theorem elZ_103 : elZ Try.prog 103 = some 2 := by kernel_rfl
@[go_sem] theorem byT_103 : byT Try.prog 103 = 32 := by kernel_rfl
@[go_sem] theorem conc_103 : Try.prog.concrete 103 = true := by kernel_rfl
@[go_sem] theorem szT_104 : szT Try.prog 104 = some 1 := by kernel_rfl
@[go_sem] theorem aggT_104 : aggT Try.prog 104 = some false := by kernel_rfl
@[go_sem] theorem zeT_104 : zeT Try.prog 104 = some (.nilFunc) := by kernel_rfl
@[go_sem] theorem elZ_104 : elZ Try.prog 104 = some 1 := by kernel_rfl
@[go_sem] theorem byT_104 : byT Try.prog 104 = 8 := by kernel_rfl
@[go_sem] theorem conc_104 : Try.prog.concrete 104 = true := by kernel_rfl
@[go_sem] theorem szT_105 : szT Try.prog 105 = some 1 := by kernel_rfl
@[go_sem] theorem aggT_105 : aggT Try.prog 105 = some false := by kernel_rfl
@[go_sem] theorem zeT_105 : zeT Try.prog 105 = some (.nilFunc) := by kernel_rfl
@[go_sem] theorem elZ_105 : elZ Try.prog 105 = some 1 := by kernel_rfl
@[go_sem] theorem byT_105 : byT Try.prog 105 = 8 := by kernel_rfl
@[go_sem] theorem conc_105 : Try.prog.concrete 105 = true := by kernel_rfl
@[go_sem] theorem szT_106 : szT Try.prog 106 = some 1 := by kernel_rfl
@[go_sem] theorem aggT_106 : aggT Try.prog 106 = some false := by kernel_rfl
@[go_sem] theorem zeT_106 : zeT Try.prog 106 = some (.nilFunc) := by kernel_rfl
@[go_sem] theorem elZ_106 : elZ Try.prog 106 = some 1 := by kernel_rfl
@[go_sem] theorem byT_106 : byT Try.prog 106 = 8 := by kernel_rfl
@[go_sem] theorem conc_106 : Try.prog.concrete 106 = true := by kernel_rfl
@[go_sem] theorem szT_107 : szT Try.prog 107 = some 1 := by kernel_rfl
@[go_sem] theorem aggT_107 : aggT Try.prog 107 = some false := by kernel_rfl
@[go_sem] theorem zeT_107 : zeT Try.prog 107 = some (.nilFunc) := by kernel_rfl
@[go_sem] theorem elZ_107 : elZ Try.prog 107 = some 1 := by kernel_rfl
@[go_sem] theorem byT_107 : byT Try.prog 107 = 8 := by kernel_rfl
@[go_sem] theorem conc_107 : Try.prog.concrete 107 = true := by kernel_rfl
@[go_sem] theorem szT_108 : szT Try.prog 108 = some 1 := by kernel_rfl
@[go_sem] theorem aggT_108 : aggT Try.prog 108 = some false := by kernel_rfl
@[go_sem] theorem zeT_108 : zeT Try.prog 108 = some (.nilFunc) := by kernel_rfl
@[go_sem] theorem elZ_108 : elZ Try.prog 108 = some 1 := by kernel_rfl
@[go_sem] theorem byT_108 : byT Try.prog 108 = 8 := by kernel_rfl
@[go_sem] theorem conc_108 : Try.prog.concrete 108 = true := by kernel_rfl
@[go_sem] theorem szT_109 : szT Try.prog 109 = some 1 := by kernel_rfl
@[go_sem] theorem aggT_109 : aggT Try.prog 109 = some false := by kernel_rfl
@[go_sem] theorem zeT_109 : zeT Try.prog 109 = some (.nilFunc) := by kernel_rfl
@[go_sem] theorem elZ_109 : elZ Try.prog 109 = some 1 := by kernel_rfl
@[go_sem] theorem byT_109 : byT Try.prog 109 = 8 := by kernel_rfl
@[go_sem] theorem conc_109 : Try.prog.concrete 109 = true := by kernel_rfl
@[go_sem] theorem szT_110 : szT Try.prog 110 = some 1 := by kernel_rfl
@[go_sem] theorem aggT_110 : aggT Try.prog 110 = some false := by kernel_rfl
@[go_sem] theorem zeT_110 : zeT Try.prog 110 = some (.nilFunc) := by kernel_rfl
@[go_sem] theorem elZ_110 : elZ Try.prog 110 = some 1 := by kernel_rfl
@[go_sem] theorem byT_110 : byT Try.prog 110 = 8 := by kernel_rfl
@[go_sem] theorem conc_110 : Try.prog.concrete 110 = true := by kernel_rfl
@[go_sem] theorem szT_111 : szT Try.prog 111 = some 1 := by kernel_rfl
@[go_sem] theorem aggT_111 : aggT Try.prog 111 = some false := by kernel_rfl
@[go_sem] theorem zeT_111 : zeT Try.prog 111 = some (.nilFunc) := by kernel_rfl
@[go_sem] theorem elZ_111 : elZ Try.prog 111 = some 1 := by kernel_rfl
@[go_sem] theorem byT_111 : byT Try.prog 111 = 8 := by kernel_rfl
@[go_sem] theorem conc_111 : Try.prog.concrete 111 = true := by kernel_rfl
@[go_sem] theorem szT_112 : szT Try.prog 112 = some 1 := by kernel_rfl
@[go_sem] theorem aggT_112 : aggT Try.prog 112 = some false := by kernel_rfl
@[go_sem] theorem zeT_112 : zeT Try.prog 112 = some (.slice none 0 0) := by kernel_rfl
@[go_sem] theorem elZ_112 : elZ Try.prog 112 = some 1 := by kernel_rfl
@[go_sem] theorem byT_112 : byT Try.prog 112 = 24 := by kernel_rfl
@[go_sem] theorem elT_112 : elT Try.prog 112 = some 9 := by kernel_rfl
@[go_sem] theorem conc_112 : Try.prog.concrete 112 = true := by kernel_rfl
@[go_sem] theorem szT_113 : szT Try.prog 113 = some 1 := by kernel_rfl
@[go_sem] theorem aggT_113 : aggT Try.prog 113 = some false := by kernel_rfl
@[go_sem] theorem zeT_113 : zeT Try.prog 113 = some (.pointer none) := by kernel_rfl
@[go_sem] theorem elZ_113 : elZ Try.prog 113 = some 1 := by kernel_rfl
@[go_sem] theorem byT_113 : byT Try.prog 113 = 8 := by kernel_rfl
@[go_sem] theorem conc_113 : Try.prog.concrete 113 = true := by kernel_rfl
@[go_sem] theorem szT_114 : szT Try.prog 114 = some 1 := by kernel_rfl
@[go_sem] theorem aggT_114 : aggT Try.prog 114 = some false := by kernel_rfl
@[go_sem] theorem zeT_114 : zeT Try.prog 114 = some (.nilFunc) := by kernel_rfl
@[go_sem] theorem elZ_114 : elZ Try.prog 114 = some 1 := by kernel_rfl
@[go_sem] theorem byT_114 : byT Try.prog 114 = 8 := by kernel_rfl
@[go_sem] theorem conc_114 : Try.prog.concrete 114 = true := by kernel_rfl
@[go_sem] theorem szT_115 : szT Try.prog 115 = some 2 := by kernel_rfl
@[go_sem] theorem aggT_115 : aggT Try.prog 115 = some true := by kernel_rfl
@[go_sem] theorem offT_115x0 : offT Try.prog 115 0 = some 0 := by kernel_rfl
@[go_sem] theorem offT_115x1 : offT Try.prog 115 1 = some 1 := by kernel_rfl
@[go_sem] theorem plcs_115 : plcs Try.prog 115 = some [(0, 1), (1, 1)] := by kernel_rfl
@[go_sem] theorem zeT_115 : zeT Try.prog 115 = some (.agg #[.slice none 0 0, .nilIface]) := by kernel_rfl
@[go_sem] theorem elZ_115 : elZ Try.prog 115 = some 2 := by kernel_rfl
@[go_sem] theorem byT_115 : byT Try.prog 115 = 40 := by kernel_rfl
@[go_sem] theorem conc_115 : Try.prog.concrete 115 = true := by kernel_rfl
@[go_sem] theorem szT_116 : szT Try.prog 116 = some 2 := by kernel_rfl
@[go_sem] theorem aggT_116 : aggT Try.prog 116 = some true := by kernel_rfl
@[go_sem] theorem offT_116x0 : offT Try.prog 116 0 = some 0 := by kernel_rfl
@[go_sem] theorem offT_116x1 : offT Try.prog 116 1 = some 1 := by kernel_rfl
@[go_sem] theorem plcs_116 : plcs Try.prog 116 = some [(0, 1), (1, 1)] := by kernel_rfl
@[go_sem] theorem zeT_116 : zeT Try.prog 116 = some (.agg #[.slice none 0 0, .nilIface]) := by kernel_rfl
@[go_sem] theorem elZ_116 : elZ Try.prog 116 = some 2 := by kernel_rfl
@[go_sem] theorem byT_116 : byT Try.prog 116 = 40 := by kernel_rfl
@[go_sem] theorem conc_116 : Try.prog.concrete 116 = true := by kernel_rfl
@[go_sem] theorem szT_117 : szT Try.prog 117 = some 1 := by kernel_rfl
@[go_sem] theorem aggT_117 : aggT Try.prog 117 = some false := by kernel_rfl
@[go_sem] theorem zeT_117 : zeT Try.prog 117 = some (.pointer none) := by kernel_rfl
@[go_sem] theorem elZ_117 : elZ Try.prog 117 = some 1 := by kernel_rfl
@[go_sem] theorem byT_117 : byT Try.prog 117 = 8 := by kernel_rfl
@[go_sem] theorem conc_117 : Try.prog.concrete 117 = true := by kernel_rfl
@[go_sem] theorem szT_118 : szT Try.prog 118 = some 2 := by kernel_rfl
@[go_sem] theorem aggT_118 : aggT Try.prog 118 = some true := by kernel_rfl
@[go_sem] theorem offT_118x0 : offT Try.prog 118 0 = some 0 := by kernel_rfl
@[go_sem] theorem offT_118x1 : offT Try.prog 118 1 = some 1 := by kernel_rfl
@[go_sem] theorem plcs_118 : plcs Try.prog 118 = some [(0, 1), (1, 1)] := by kernel_rfl
@[go_sem] theorem zeT_118 : zeT Try.prog 118 = some (.agg #[.int .i64 0, .int .i64 0]) := by kernel_rfl
@[go_sem] theorem elZ_118 : elZ Try.prog 118 = some 2 := by kernel_rfl
@[go_sem] theorem byT_118 : byT Try.prog 118 = 16 := by kernel_rfl
@[go_sem] theorem conc_118 : Try.prog.concrete 118 = true := by kernel_rfl
@[go_sem] theorem eqg_118 : Program.eqGuardType Try.prog (Program.depth Try.prog) 118 = false := by kernel_rfl
@[go_sem] theorem stood_118 : Try.prog.stoodInHeld 118 = false := by kernel_rfl
@[go_sem] theorem szT_119 : szT Try.prog 119 = some 2 := by kernel_rfl
@[go_sem] theorem aggT_119 : aggT Try.prog 119 = some true := by kernel_rfl
@[go_sem] theorem offT_119x0 : offT Try.prog 119 0 = some 0 := by kernel_rfl
@[go_sem] theorem offT_119x1 : offT Try.prog 119 1 = some 1 := by kernel_rfl
@[go_sem] theorem plcs_119 : plcs Try.prog 119 = some [(0, 1), (1, 1)] := by kernel_rfl
@[go_sem] theorem zeT_119 : zeT Try.prog 119 = some (.agg #[.int .i64 0, .int .i64 0]) := by kernel_rfl
@[go_sem] theorem elZ_119 : elZ Try.prog 119 = some 2 := by kernel_rfl
@[go_sem] theorem byT_119 : byT Try.prog 119 = 16 := by kernel_rfl
@[go_sem] theorem conc_119 : Try.prog.concrete 119 = true := by kernel_rfl
@[go_sem] theorem eqg_119 : Program.eqGuardType Try.prog (Program.depth Try.prog) 119 = false := by kernel_rfl
@[go_sem] theorem stood_119 : Try.prog.stoodInHeld 119 = false := by kernel_rfl
@[go_sem] theorem szT_120 : szT Try.prog 120 = some 1 := by kernel_rfl
@[go_sem] theorem aggT_120 : aggT Try.prog 120 = some false := by kernel_rfl
@[go_sem] theorem zeT_120 : zeT Try.prog 120 = some (.pointer none) := by kernel_rfl
@[go_sem] theorem elZ_120 : elZ Try.prog 120 = some 1 := by kernel_rfl
@[go_sem] theorem byT_120 : byT Try.prog 120 = 8 := by kernel_rfl
@[go_sem] theorem conc_120 : Try.prog.concrete 120 = true := by kernel_rfl
@[go_sem] theorem szT_121 : szT Try.prog 121 = some 1 := by kernel_rfl
@[go_sem] theorem aggT_121 : aggT Try.prog 121 = some false := by kernel_rfl
@[go_sem] theorem zeT_121 : zeT Try.prog 121 = some (.map none) := by kernel_rfl
@[go_sem] theorem elZ_121 : elZ Try.prog 121 = some 1 := by kernel_rfl
@[go_sem] theorem byT_121 : byT Try.prog 121 = 8 := by kernel_rfl
@[go_sem] theorem conc_121 : Try.prog.concrete 121 = true := by kernel_rfl
@[go_sem] theorem szT_122 : szT Try.prog 122 = some 1 := by kernel_rfl
@[go_sem] theorem aggT_122 : aggT Try.prog 122 = some false := by kernel_rfl
@[go_sem] theorem zeT_122 : zeT Try.prog 122 = some (.nilFunc) := by kernel_rfl
@[go_sem] theorem elZ_122 : elZ Try.prog 122 = some 1 := by kernel_rfl
@[go_sem] theorem byT_122 : byT Try.prog 122 = 8 := by kernel_rfl
@[go_sem] theorem conc_122 : Try.prog.concrete 122 = true := by kernel_rfl
@[go_sem] theorem szT_123 : szT Try.prog 123 = some 1 := by kernel_rfl
@[go_sem] theorem aggT_123 : aggT Try.prog 123 = some false := by kernel_rfl
@[go_sem] theorem zeT_123 : zeT Try.prog 123 = some (.nilFunc) := by kernel_rfl
@[go_sem] theorem elZ_123 : elZ Try.prog 123 = some 1 := by kernel_rfl
@[go_sem] theorem byT_123 : byT Try.prog 123 = 8 := by kernel_rfl
@[go_sem] theorem conc_123 : Try.prog.concrete 123 = true := by kernel_rfl
@[go_sem] theorem szT_124 : szT Try.prog 124 = some 1 := by kernel_rfl
@[go_sem] theorem aggT_124 : aggT Try.prog 124 = some false := by kernel_rfl
@[go_sem] theorem zeT_124 : zeT Try.prog 124 = some (.nilFunc) := by kernel_rfl
@[go_sem] theorem elZ_124 : elZ Try.prog 124 = some 1 := by kernel_rfl
@[go_sem] theorem byT_124 : byT Try.prog 124 = 8 := by kernel_rfl
@[go_sem] theorem conc_124 : Try.prog.concrete 124 = true := by kernel_rfl
@[go_sem] theorem szT_125 : szT Try.prog 125 = some 1 := by kernel_rfl
@[go_sem] theorem aggT_125 : aggT Try.prog 125 = some false := by kernel_rfl
@[go_sem] theorem zeT_125 : zeT Try.prog 125 = some (.nilFunc) := by kernel_rfl
@[go_sem] theorem elZ_125 : elZ Try.prog 125 = some 1 := by kernel_rfl
@[go_sem] theorem byT_125 : byT Try.prog 125 = 8 := by kernel_rfl
@[go_sem] theorem conc_125 : Try.prog.concrete 125 = true := by kernel_rfl
@[go_sem] theorem szT_126 : szT Try.prog 126 = some 1 := by kernel_rfl
@[go_sem] theorem aggT_126 : aggT Try.prog 126 = some false := by kernel_rfl
@[go_sem] theorem zeT_126 : zeT Try.prog 126 = some (.nilFunc) := by kernel_rfl
@[go_sem] theorem elZ_126 : elZ Try.prog 126 = some 1 := by kernel_rfl
@[go_sem] theorem byT_126 : byT Try.prog 126 = 8 := by kernel_rfl
@[go_sem] theorem conc_126 : Try.prog.concrete 126 = true := by kernel_rfl
@[go_sem] theorem szT_127 : szT Try.prog 127 = some 1 := by kernel_rfl
@[go_sem] theorem aggT_127 : aggT Try.prog 127 = some false := by kernel_rfl
@[go_sem] theorem zeT_127 : zeT Try.prog 127 = some (.nilFunc) := by kernel_rfl
@[go_sem] theorem elZ_127 : elZ Try.prog 127 = some 1 := by kernel_rfl
@[go_sem] theorem byT_127 : byT Try.prog 127 = 8 := by kernel_rfl
@[go_sem] theorem conc_127 : Try.prog.concrete 127 = true := by kernel_rfl
@[go_sem] theorem szT_128 : szT Try.prog 128 = some 1 := by kernel_rfl
@[go_sem] theorem aggT_128 : aggT Try.prog 128 = some false := by kernel_rfl
@[go_sem] theorem zeT_128 : zeT Try.prog 128 = some (.nilFunc) := by kernel_rfl
@[go_sem] theorem elZ_128 : elZ Try.prog 128 = some 1 := by kernel_rfl
@[go_sem] theorem byT_128 : byT Try.prog 128 = 8 := by kernel_rfl
@[go_sem] theorem conc_128 : Try.prog.concrete 128 = true := by kernel_rfl
@[go_sem] theorem szT_129 : szT Try.prog 129 = some 1 := by kernel_rfl
@[go_sem] theorem aggT_129 : aggT Try.prog 129 = some false := by kernel_rfl
@[go_sem] theorem zeT_129 : zeT Try.prog 129 = some (.nilFunc) := by kernel_rfl
@[go_sem] theorem elZ_129 : elZ Try.prog 129 = some 1 := by kernel_rfl
@[go_sem] theorem byT_129 : byT Try.prog 129 = 8 := by kernel_rfl
@[go_sem] theorem conc_129 : Try.prog.concrete 129 = true := by kernel_rfl
@[go_sem] theorem szT_130 : szT Try.prog 130 = some 1 := by kernel_rfl
@[go_sem] theorem aggT_130 : aggT Try.prog 130 = some false := by kernel_rfl
@[go_sem] theorem zeT_130 : zeT Try.prog 130 = some (.nilFunc) := by kernel_rfl
@[go_sem] theorem elZ_130 : elZ Try.prog 130 = some 1 := by kernel_rfl
@[go_sem] theorem byT_130 : byT Try.prog 130 = 8 := by kernel_rfl
@[go_sem] theorem conc_130 : Try.prog.concrete 130 = true := by kernel_rfl
@[go_sem] theorem szT_132 : szT Try.prog 132 = some 1 := by kernel_rfl
@[go_sem] theorem aggT_132 : aggT Try.prog 132 = some false := by kernel_rfl
@[go_sem] theorem zeT_132 : zeT Try.prog 132 = some (.nilFunc) := by kernel_rfl
@[go_sem] theorem elZ_132 : elZ Try.prog 132 = some 1 := by kernel_rfl
@[go_sem] theorem byT_132 : byT Try.prog 132 = 8 := by kernel_rfl
@[go_sem] theorem conc_132 : Try.prog.concrete 132 = true := by kernel_rfl
@[go_sem] theorem szT_133 : szT Try.prog 133 = some 1 := by kernel_rfl
@[go_sem] theorem aggT_133 : aggT Try.prog 133 = some false := by kernel_rfl
@[go_sem] theorem zeT_133 : zeT Try.prog 133 = some (.nilFunc) := by kernel_rfl
@[go_sem] theorem elZ_133 : elZ Try.prog 133 = some 1 := by kernel_rfl
@[go_sem] theorem byT_133 : byT Try.prog 133 = 8 := by kernel_rfl
@[go_sem] theorem conc_133 : Try.prog.concrete 133 = true := by kernel_rfl
@[go_sem] theorem szT_134 : szT Try.prog 134 = some 4 := by kernel_rfl
@[go_sem] theorem aggT_134 : aggT Try.prog 134 = some true := by kernel_rfl
@[go_sem] theorem offT_134x0 : offT Try.prog 134 0 = some 0 := by kernel_rfl
@[go_sem] theorem offT_134x1 : offT Try.prog 134 1 = some 1 := by kernel_rfl
@[go_sem] theorem offT_134x2 : offT Try.prog 134 2 = some 2 := by kernel_rfl
@[go_sem] theorem offT_134x3 : offT Try.prog 134 3 = some 3 := by kernel_rfl
@[go_sem] theorem plcs_134 : plcs Try.prog 134 = some [(0, 1), (1, 1), (2, 1), (3, 1)] := by kernel_rfl
@[go_sem] theorem zeT_134 : zeT Try.prog 134 = some (.agg #[.pointer none, .pointer none, .pointer none, .string ⟨#[]⟩]) := by kernel_rfl
@[go_sem] theorem elZ_134 : elZ Try.prog 134 = some 4 := by kernel_rfl
@[go_sem] theorem byT_134 : byT Try.prog 134 = 40 := by kernel_rfl
@[go_sem] theorem conc_134 : Try.prog.concrete 134 = true := by kernel_rfl
@[go_sem] theorem szT_135 : szT Try.prog 135 = some 4 := by kernel_rfl
@[go_sem] theorem aggT_135 : aggT Try.prog 135 = some true := by kernel_rfl
@[go_sem] theorem offT_135x0 : offT Try.prog 135 0 = some 0 := by kernel_rfl
@[go_sem] theorem offT_135x1 : offT Try.prog 135 1 = some 1 := by kernel_rfl
@[go_sem] theorem offT_135x2 : offT Try.prog 135 2 = some 2 := by kernel_rfl
@[go_sem] theorem offT_135x3 : offT Try.prog 135 3 = some 3 := by kernel_rfl
@[go_sem] theorem plcs_135 : plcs Try.prog 135 = some [(0, 1), (1, 1), (2, 1), (3, 1)] := by kernel_rfl
@[go_sem] theorem zeT_135 : zeT Try.prog 135 = some (.agg #[.pointer none, .pointer none, .pointer none, .string ⟨#[]⟩]) := by kernel_rfl
@[go_sem] theorem elZ_135 : elZ Try.prog 135 = some 4 := by kernel_rfl
@[go_sem] theorem byT_135 : byT Try.prog 135 = 40 := by kernel_rfl
@[go_sem] theorem conc_135 : Try.prog.concrete 135 = true := by kernel_rfl
@[go_sem] theorem szT_137 : szT Try.prog 137 = some 0 := by kernel_rfl
@[go_sem] theorem aggT_137 : aggT Try.prog 137 = some true := by kernel_rfl
@[go_sem] theorem zeT_137 : zeT Try.prog 137 = some (.agg #[]) := by kernel_rfl
@[go_sem] theorem byT_137 : byT Try.prog 137 = 0 := by kernel_rfl
@[go_sem] theorem conc_137 : Try.prog.concrete 137 = true := by kernel_rfl
@[go_sem] theorem szT_138 : szT Try.prog 138 = some 0 := by kernel_rfl
@[go_sem] theorem aggT_138 : aggT Try.prog 138 = some true := by kernel_rfl
@[go_sem] theorem zeT_138 : zeT Try.prog 138 = some (.agg #[]) := by kernel_rfl
@[go_sem] theorem byT_138 : byT Try.prog 138 = 0 := by kernel_rfl
@[go_sem] theorem conc_138 : Try.prog.concrete 138 = true := by kernel_rfl
@[go_sem] theorem szT_139 : szT Try.prog 139 = some 1 := by kernel_rfl
@[go_sem] theorem aggT_139 : aggT Try.prog 139 = some false := by kernel_rfl
@[go_sem] theorem zeT_139 : zeT Try.prog 139 = some (.nilFunc) := by kernel_rfl
@[go_sem] theorem elZ_139 : elZ Try.prog 139 = some 1 := by kernel_rfl
@[go_sem] theorem byT_139 : byT Try.prog 139 = 8 := by kernel_rfl
@[go_sem] theorem conc_139 : Try.prog.concrete 139 = true := by kernel_rfl
@[go_sem] theorem szT_140 : szT Try.prog 140 = some 1 := by kernel_rfl
@[go_sem] theorem aggT_140 : aggT Try.prog 140 = some false := by kernel_rfl
@[go_sem] theorem zeT_140 : zeT Try.prog 140 = some (.int .u32 0) := by kernel_rfl
@[go_sem] theorem elZ_140 : elZ Try.prog 140 = some 1 := by kernel_rfl
@[go_sem] theorem byT_140 : byT Try.prog 140 = 4 := by kernel_rfl
@[go_sem] theorem conc_140 : Try.prog.concrete 140 = true := by kernel_rfl
@[go_sem] theorem szT_141 : szT Try.prog 141 = some 1 := by kernel_rfl
@[go_sem] theorem aggT_141 : aggT Try.prog 141 = some false := by kernel_rfl
@[go_sem] theorem zeT_141 : zeT Try.prog 141 = some (.int .u8 0) := by kernel_rfl
@[go_sem] theorem elZ_141 : elZ Try.prog 141 = some 1 := by kernel_rfl
@[go_sem] theorem byT_141 : byT Try.prog 141 = 1 := by kernel_rfl
@[go_sem] theorem conc_141 : Try.prog.concrete 141 = true := by kernel_rfl
@[go_sem] theorem szT_142 : szT Try.prog 142 = some 1 := by kernel_rfl
@[go_sem] theorem aggT_142 : aggT Try.prog 142 = some false := by kernel_rfl
@[go_sem] theorem zeT_142 : zeT Try.prog 142 = some (.int .u8 0) := by kernel_rfl
@[go_sem] theorem elZ_142 : elZ Try.prog 142 = some 1 := by kernel_rfl
@[go_sem] theorem byT_142 : byT Try.prog 142 = 1 := by kernel_rfl
@[go_sem] theorem conc_142 : Try.prog.concrete 142 = true := by kernel_rfl
@[go_sem] theorem szT_143 : szT Try.prog 143 = some 1 := by kernel_rfl
@[go_sem] theorem aggT_143 : aggT Try.prog 143 = some false := by kernel_rfl
@[go_sem] theorem zeT_143 : zeT Try.prog 143 = some (.nilFunc) := by kernel_rfl
@[go_sem] theorem elZ_143 : elZ Try.prog 143 = some 1 := by kernel_rfl
@[go_sem] theorem byT_143 : byT Try.prog 143 = 8 := by kernel_rfl
@[go_sem] theorem conc_143 : Try.prog.concrete 143 = true := by kernel_rfl
@[go_sem] theorem szT_144 : szT Try.prog 144 = some 1 := by kernel_rfl
@[go_sem] theorem aggT_144 : aggT Try.prog 144 = some false := by kernel_rfl
@[go_sem] theorem zeT_144 : zeT Try.prog 144 = some (.pointer none) := by kernel_rfl
@[go_sem] theorem elZ_144 : elZ Try.prog 144 = some 1 := by kernel_rfl
@[go_sem] theorem byT_144 : byT Try.prog 144 = 8 := by kernel_rfl
@[go_sem] theorem conc_144 : Try.prog.concrete 144 = true := by kernel_rfl
@[go_sem] theorem szT_145 : szT Try.prog 145 = some 1 := by kernel_rfl
@[go_sem] theorem aggT_145 : aggT Try.prog 145 = some false := by kernel_rfl
@[go_sem] theorem zeT_145 : zeT Try.prog 145 = some (.int .i32 0) := by kernel_rfl
@[go_sem] theorem elZ_145 : elZ Try.prog 145 = some 1 := by kernel_rfl
@[go_sem] theorem byT_145 : byT Try.prog 145 = 4 := by kernel_rfl
@[go_sem] theorem conc_145 : Try.prog.concrete 145 = true := by kernel_rfl
@[go_sem] theorem szT_146 : szT Try.prog 146 = some 1 := by kernel_rfl
@[go_sem] theorem aggT_146 : aggT Try.prog 146 = some false := by kernel_rfl
@[go_sem] theorem zeT_146 : zeT Try.prog 146 = some (.int .i32 0) := by kernel_rfl
@[go_sem] theorem elZ_146 : elZ Try.prog 146 = some 1 := by kernel_rfl
@[go_sem] theorem byT_146 : byT Try.prog 146 = 4 := by kernel_rfl
@[go_sem] theorem conc_146 : Try.prog.concrete 146 = true := by kernel_rfl
@[go_sem] theorem szT_147 : szT Try.prog 147 = some 11 := by kernel_rfl
@[go_sem] theorem aggT_147 : aggT Try.prog 147 = some true := by kernel_rfl
@[go_sem] theorem offT_147x0 : offT Try.prog 147 0 = some 0 := by kernel_rfl
@[go_sem] theorem offT_147x1 : offT Try.prog 147 1 = some 1 := by kernel_rfl
@[go_sem] theorem offT_147x2 : offT Try.prog 147 2 = some 2 := by kernel_rfl
@[go_sem] theorem offT_147x3 : offT Try.prog 147 3 = some 3 := by kernel_rfl
@[go_sem] theorem offT_147x4 : offT Try.prog 147 4 = some 4 := by kernel_rfl
@[go_sem] theorem offT_147x5 : offT Try.prog 147 5 = some 5 := by kernel_rfl
@[go_sem] theorem offT_147x6 : offT Try.prog 147 6 = some 6 := by kernel_rfl
@[go_sem] theorem offT_147x7 : offT Try.prog 147 7 = some 7 := by kernel_rfl
@[go_sem] theorem offT_147x8 : offT Try.prog 147 8 = some 8 := by kernel_rfl
@[go_sem] theorem offT_147x9 : offT Try.prog 147 9 = some 9 := by kernel_rfl
@[go_sem] theorem offT_147x10 : offT Try.prog 147 10 = some 10 := by kernel_rfl
@[go_sem] theorem plcs_147 : plcs Try.prog 147 = some [(0, 1), (1, 1), (2, 1), (3, 1), (4, 1), (5, 1), (6, 1), (7, 1), (8, 1), (9, 1), (10, 1)] := by kernel_rfl
@[go_sem] theorem zeT_147 : zeT Try.prog 147 = some (.agg #[.int .u64 0, .int .u64 0, .int .u32 0, .int .u8 0, .int .u8 0, .int .u8 0, .int .u8 0, .nilFunc, .pointer none, .int .i32 0, .int .i32 0]) := by kernel_rfl
@[go_sem] theorem elZ_147 : elZ Try.prog 147 = some 11 := by kernel_rfl
@[go_sem] theorem byT_147 : byT Try.prog 147 = 48 := by kernel_rfl
@[go_sem] theorem conc_147 : Try.prog.concrete 147 = true := by kernel_rfl
@[go_sem] theorem szT_148 : szT Try.prog 148 = some 11 := by kernel_rfl
@[go_sem] theorem aggT_148 : aggT Try.prog 148 = some true := by kernel_rfl
@[go_sem] theorem offT_148x0 : offT Try.prog 148 0 = some 0 := by kernel_rfl
@[go_sem] theorem offT_148x1 : offT Try.prog 148 1 = some 1 := by kernel_rfl
@[go_sem] theorem offT_148x2 : offT Try.prog 148 2 = some 2 := by kernel_rfl
@[go_sem] theorem offT_148x3 : offT Try.prog 148 3 = some 3 := by kernel_rfl
@[go_sem] theorem offT_148x4 : offT Try.prog 148 4 = some 4 := by kernel_rfl
@[go_sem] theorem offT_148x5 : offT Try.prog 148 5 = some 5 := by kernel_rfl
@[go_sem] theorem offT_148x6 : offT Try.prog 148 6 = some 6 := by kernel_rfl
@[go_sem] theorem offT_148x7 : offT Try.prog 148 7 = some 7 := by kernel_rfl
@[go_sem] theorem offT_148x8 : offT Try.prog 148 8 = some 8 := by kernel_rfl
@[go_sem] theorem offT_148x9 : offT Try.prog 148 9 = some 9 := by kernel_rfl
@[go_sem] theorem offT_148x10 : offT Try.prog 148 10 = some 10 := by kernel_rfl
@[go_sem] theorem plcs_148 : plcs Try.prog 148 = some [(0, 1), (1, 1), (2, 1), (3, 1), (4, 1), (5, 1), (6, 1), (7, 1), (8, 1), (9, 1), (10, 1)] := by kernel_rfl
@[go_sem] theorem zeT_148 : zeT Try.prog 148 = some (.agg #[.int .u64 0, .int .u64 0, .int .u32 0, .int .u8 0, .int .u8 0, .int .u8 0, .int .u8 0, .nilFunc, .pointer none, .int .i32 0, .int .i32 0]) := by kernel_rfl
@[go_sem] theorem elZ_148 : elZ Try.prog 148 = some 11 := by kernel_rfl
@[go_sem] theorem byT_148 : byT Try.prog 148 = 48 := by kernel_rfl
@[go_sem] theorem conc_148 : Try.prog.concrete 148 = true := by kernel_rfl
theorem mixed : Try.prog.follows .mixedOrders = true := by kernel_rfl
attribute [go_sem] Try.underlying0
attribute [go_sem] Try.underlying1
attribute [go_sem] Try.underlying2
attribute [go_sem] Try.underlying3
attribute [go_sem] Try.underlying4
attribute [go_sem] Try.underlying5
attribute [go_sem] Try.underlying6
attribute [go_sem] Try.underlying7
attribute [go_sem] Try.underlying8
attribute [go_sem] Try.underlying9
attribute [go_sem] Try.underlying10
attribute [go_sem] Try.underlying11
attribute [go_sem] Try.underlying12
attribute [go_sem] Try.underlying13
attribute [go_sem] Try.underlying14
attribute [go_sem] Try.underlying15
attribute [go_sem] Try.underlying16
attribute [go_sem] Try.underlying17
attribute [go_sem] Try.underlying18
attribute [go_sem] Try.underlying19
attribute [go_sem] Try.underlying20
attribute [go_sem] Try.underlying21
attribute [go_sem] Try.underlying22
attribute [go_sem] Try.underlying23
attribute [go_sem] Try.underlying24
attribute [go_sem] Try.underlying25
attribute [go_sem] Try.underlying26
attribute [go_sem] Try.underlying27
attribute [go_sem] Try.underlying28
attribute [go_sem] Try.underlying29
attribute [go_sem] Try.underlying30
attribute [go_sem] Try.underlying31
attribute [go_sem] Try.underlying32
attribute [go_sem] Try.underlying33
attribute [go_sem] Try.underlying34
attribute [go_sem] Try.underlying35
attribute [go_sem] Try.underlying36
attribute [go_sem] Try.underlying37
attribute [go_sem] Try.underlying38
attribute [go_sem] Try.underlying39
attribute [go_sem] Try.underlying40
attribute [go_sem] Try.underlying41
attribute [go_sem] Try.underlying42
attribute [go_sem] Try.underlying43
attribute [go_sem] Try.underlying44
attribute [go_sem] Try.underlying45
attribute [go_sem] Try.underlying46
attribute [go_sem] Try.underlying47
attribute [go_sem] Try.underlying48
attribute [go_sem] Try.underlying49
attribute [go_sem] Try.underlying50
attribute [go_sem] Try.underlying51
attribute [go_sem] Try.underlying52
attribute [go_sem] Try.underlying53
attribute [go_sem] Try.underlying54
attribute [go_sem] Try.underlying55
attribute [go_sem] Try.underlying56
attribute [go_sem] Try.underlying57
attribute [go_sem] Try.underlying58
attribute [go_sem] Try.underlying59
attribute [go_sem] Try.underlying60
attribute [go_sem] Try.underlying61
attribute [go_sem] Try.underlying62
attribute [go_sem] Try.underlying63
attribute [go_sem] Try.underlying64
attribute [go_sem] Try.underlying65
attribute [go_sem] Try.underlying66
attribute [go_sem] Try.underlying67
attribute [go_sem] Try.underlying68
attribute [go_sem] Try.underlying69
attribute [go_sem] Try.underlying70
attribute [go_sem] Try.underlying71
attribute [go_sem] Try.underlying72
attribute [go_sem] Try.underlying73
attribute [go_sem] Try.underlying74
attribute [go_sem] Try.underlying75
attribute [go_sem] Try.underlying76
attribute [go_sem] Try.underlying77
attribute [go_sem] Try.underlying78
attribute [go_sem] Try.underlying79
attribute [go_sem] Try.underlying80
attribute [go_sem] Try.underlying81
attribute [go_sem] Try.underlying82
attribute [go_sem] Try.underlying83
attribute [go_sem] Try.underlying84
attribute [go_sem] Try.underlying85
attribute [go_sem] Try.underlying86
attribute [go_sem] Try.underlying87
attribute [go_sem] Try.underlying88
attribute [go_sem] Try.underlying89
attribute [go_sem] Try.underlying90
attribute [go_sem] Try.underlying91
attribute [go_sem] Try.underlying92
attribute [go_sem] Try.underlying93
attribute [go_sem] Try.underlying94
attribute [go_sem] Try.underlying95
attribute [go_sem] Try.underlying96
attribute [go_sem] Try.underlying97
attribute [go_sem] Try.underlying98
attribute [go_sem] Try.underlying99
attribute [go_sem] Try.underlying100
attribute [go_sem] Try.underlying101
attribute [go_sem] Try.underlying102
attribute [go_sem] Try.underlying103
attribute [go_sem] Try.underlying104
attribute [go_sem] Try.underlying105
attribute [go_sem] Try.underlying106
attribute [go_sem] Try.underlying107
attribute [go_sem] Try.underlying108
attribute [go_sem] Try.underlying109
attribute [go_sem] Try.underlying110
attribute [go_sem] Try.underlying111
attribute [go_sem] Try.underlying112
attribute [go_sem] Try.underlying113
attribute [go_sem] Try.underlying114
attribute [go_sem] Try.underlying115
attribute [go_sem] Try.underlying116
attribute [go_sem] Try.underlying117
attribute [go_sem] Try.underlying118
attribute [go_sem] Try.underlying119
attribute [go_sem] Try.underlying120
attribute [go_sem] Try.underlying121
attribute [go_sem] Try.underlying122
attribute [go_sem] Try.underlying123
attribute [go_sem] Try.underlying124
attribute [go_sem] Try.underlying125
attribute [go_sem] Try.underlying126
attribute [go_sem] Try.underlying127
attribute [go_sem] Try.underlying128
attribute [go_sem] Try.underlying129
attribute [go_sem] Try.underlying130
attribute [go_sem] Try.underlying131
attribute [go_sem] Try.underlying132
attribute [go_sem] Try.underlying133
attribute [go_sem] Try.underlying134
attribute [go_sem] Try.underlying135
attribute [go_sem] Try.underlying136
attribute [go_sem] Try.underlying137
attribute [go_sem] Try.underlying138
attribute [go_sem] Try.underlying139
attribute [go_sem] Try.underlying140
attribute [go_sem] Try.underlying141
attribute [go_sem] Try.underlying142
attribute [go_sem] Try.underlying143
attribute [go_sem] Try.underlying144
attribute [go_sem] Try.underlying145
attribute [go_sem] Try.underlying146
attribute [go_sem] Try.underlying147
attribute [go_sem] Try.underlying148
attribute [go_sem] Try.underlying149
end Go.Proofs
