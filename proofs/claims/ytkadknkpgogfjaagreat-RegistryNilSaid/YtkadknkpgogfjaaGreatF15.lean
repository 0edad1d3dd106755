/- This text is a part of the proofs of the statements of this seat: the ideal states and their rules, or what one of the functions that the statements reach comes to. Conditions: none beyond those that each theorem names. -/
import Derived.Test.YtkadknkpgogfjaaGreatProg
import Derived.Test.YtkadknkpgogfjaaGreatIdl7
import Derived.KernelRfl
namespace Go.Proofs
open Go.Idl
@[go_sem] theorem szT_1 : szT Tryz.prog 1 = some 1 := by kernel_rfl
@[go_sem] theorem aggT_1 : aggT Tryz.prog 1 = some false := by kernel_rfl
@[go_sem] theorem zeT_1 : zeT Tryz.prog 1 = some (.nilFunc) := by kernel_rfl
@[go_sem] theorem elZ_1 : elZ Tryz.prog 1 = some 1 := by kernel_rfl
@[go_sem] theorem byT_1 : byT Tryz.prog 1 = 8 := by kernel_rfl
@[go_sem] theorem conc_1 : Tryz.prog.concrete 1 = true := by kernel_rfl
@[go_sem] theorem szT_2 : szT Tryz.prog 2 = some 1 := by kernel_rfl
@[go_sem] theorem aggT_2 : aggT Tryz.prog 2 = some false := by kernel_rfl
@[go_sem] theorem zeT_2 : zeT Tryz.prog 2 = some (.int .i64 0) := by kernel_rfl
@[go_sem] theorem elZ_2 : elZ Tryz.prog 2 = some 1 := by kernel_rfl
@[go_sem] theorem byT_2 : byT Tryz.prog 2 = 8 := by kernel_rfl
@[go_sem] theorem conc_2 : Tryz.prog.concrete 2 = true := by kernel_rfl
@[go_sem] theorem szT_3 : szT Tryz.prog 3 = some 1 := by kernel_rfl
@[go_sem] theorem aggT_3 : aggT Tryz.prog 3 = some false := by kernel_rfl
@[go_sem] theorem zeT_3 : zeT Tryz.prog 3 = some (.int .i64 0) := by kernel_rfl
@[go_sem] theorem elZ_3 : elZ Tryz.prog 3 = some 1 := by kernel_rfl
@[go_sem] theorem byT_3 : byT Tryz.prog 3 = 8 := by kernel_rfl
@[go_sem] theorem conc_3 : Tryz.prog.concrete 3 = true := by kernel_rfl
@[go_sem] theorem szT_4 : szT Tryz.prog 4 = some 1 := by kernel_rfl
@[go_sem] theorem aggT_4 : aggT Tryz.prog 4 = some false := by kernel_rfl
@[go_sem] theorem zeT_4 : zeT Tryz.prog 4 = some (.bool false) := by kernel_rfl
@[go_sem] theorem elZ_4 : elZ Tryz.prog 4 = some 1 := by kernel_rfl
@[go_sem] theorem byT_4 : byT Tryz.prog 4 = 1 := by kernel_rfl
@[go_sem] theorem conc_4 : Tryz.prog.concrete 4 = true := by kernel_rfl
@[go_sem] theorem szT_5 : szT Tryz.prog 5 = some 1 := by kernel_rfl
@[go_sem] theorem aggT_5 : aggT Tryz.prog 5 = some false := by kernel_rfl
@[go_sem] theorem zeT_5 : zeT Tryz.prog 5 = some (.int .u8 0) := by kernel_rfl
@[go_sem] theorem elZ_5 : elZ Tryz.prog 5 = some 1 := by kernel_rfl
@[go_sem] theorem byT_5 : byT Tryz.prog 5 = 1 := by kernel_rfl
@[go_sem] theorem conc_5 : Tryz.prog.concrete 5 = true := by kernel_rfl
@[go_sem] theorem szT_6 : szT Tryz.prog 6 = some 1 := by kernel_rfl
@[go_sem] theorem aggT_6 : aggT Tryz.prog 6 = some false := by kernel_rfl
@[go_sem] theorem zeT_6 : zeT Tryz.prog 6 = some (.int .u8 0) := by kernel_rfl
@[go_sem] theorem elZ_6 : elZ Tryz.prog 6 = some 1 := by kernel_rfl
@[go_sem] theorem byT_6 : byT Tryz.prog 6 = 1 := by kernel_rfl
@[go_sem] theorem conc_6 : Tryz.prog.concrete 6 = true := by kernel_rfl
@[go_sem] theorem szT_7 : szT Tryz.prog 7 = some 4 := by kernel_rfl
@[go_sem] theorem aggT_7 : aggT Tryz.prog 7 = some true := by kernel_rfl
@[go_sem] theorem offT_7x0 : offT Tryz.prog 7 0 = some 0 := by kernel_rfl
@[go_sem] theorem offT_7x1 : offT Tryz.prog 7 1 = some 1 := by kernel_rfl
@[go_sem] theorem offT_7x2 : offT Tryz.prog 7 2 = some 2 := by kernel_rfl
@[go_sem] theorem offT_7x3 : offT Tryz.prog 7 3 = some 3 := by kernel_rfl
@[go_sem] theorem plcs_7 : plcs Tryz.prog 7 = some [(0, 1), (1, 1), (2, 1), (3, 1)] := by kernel_rfl
@[go_sem] theorem zeT_7 : zeT Tryz.prog 7 = some (.agg #[.int .i64 0, .int .i64 0, .bool false, .int .u8 0]) := by kernel_rfl
@[go_sem] theorem elZ_7 : elZ Tryz.prog 7 = some 4 := by kernel_rfl
@[go_sem] theorem byT_7 : byT Tryz.prog 7 = 24 := by kernel_rfl
@[go_sem] theorem conc_7 : Tryz.prog.concrete 7 = true := by kernel_rfl
@[go_sem] theorem eqg_7 : Program.eqGuardType Tryz.prog (Program.depth Tryz.prog) 7 = false := by kernel_rfl
@[go_sem] theorem stood_7 : Tryz.prog.stoodInHeld 7 = false := by kernel_rfl
@[go_sem] theorem szT_8 : szT Tryz.prog 8 = some 4 := by kernel_rfl
@[go_sem] theorem aggT_8 : aggT Tryz.prog 8 = some true := by kernel_rfl
@[go_sem] theorem offT_8x0 : offT Tryz.prog 8 0 = some 0 := by kernel_rfl
@[go_sem] theorem offT_8x1 : offT Tryz.prog 8 1 = some 1 := by kernel_rfl
@[go_sem] theorem offT_8x2 : offT Tryz.prog 8 2 = some 2 := by kernel_rfl
@[go_sem] theorem offT_8x3 : offT Tryz.prog 8 3 = some 3 := by kernel_rfl
@[go_sem] theorem plcs_8 : plcs Tryz.prog 8 = some [(0, 1), (1, 1), (2, 1), (3, 1)] := by kernel_rfl
@[go_sem] theorem zeT_8 : zeT Tryz.prog 8 = some (.agg #[.int .i64 0, .int .i64 0, .bool false, .int .u8 0]) := by kernel_rfl
@[go_sem] theorem elZ_8 : elZ Tryz.prog 8 = some 4 := by kernel_rfl
@[go_sem] theorem byT_8 : byT Tryz.prog 8 = 24 := by kernel_rfl
@[go_sem] theorem conc_8 : Tryz.prog.concrete 8 = true := by kernel_rfl
@[go_sem] theorem eqg_8 : Program.eqGuardType Tryz.prog (Program.depth Tryz.prog) 8 = false := by kernel_rfl
@[go_sem] theorem stood_8 : Tryz.prog.stoodInHeld 8 = false := by kernel_rfl
@[go_sem] theorem szT_9 : szT Tryz.prog 9 = some 1 := by kernel_rfl
@[go_sem] theorem aggT_9 : aggT Tryz.prog 9 = some false := by kernel_rfl
@[go_sem] theorem zeT_9 : zeT Tryz.prog 9 = some (.string ⟨#[]⟩) := by kernel_rfl
@[go_sem] theorem elZ_9 : elZ Tryz.prog 9 = some 1 := by kernel_rfl
@[go_sem] theorem byT_9 : byT Tryz.prog 9 = 16 := by kernel_rfl
@[go_sem] theorem conc_9 : Tryz.prog.concrete 9 = true := by kernel_rfl
@[go_sem] theorem szT_10 : szT Tryz.prog 10 = some 1 := by kernel_rfl
@[go_sem] theorem aggT_10 : aggT Tryz.prog 10 = some false := by kernel_rfl
@[go_sem] theorem zeT_10 : zeT Tryz.prog 10 = some (.string ⟨#[]⟩) := by kernel_rfl
@[go_sem] theorem elZ_10 : elZ Tryz.prog 10 = some 1 := by kernel_rfl
@[go_sem] theorem byT_10 : byT Tryz.prog 10 = 16 := by kernel_rfl
@[go_sem] theorem conc_10 : Tryz.prog.concrete 10 = true := by kernel_rfl
@[go_sem] theorem szT_11 : szT Tryz.prog 11 = some 1 := by kernel_rfl
@[go_sem] theorem aggT_11 : aggT Tryz.prog 11 = some false := by kernel_rfl
@[go_sem] theorem zeT_11 : zeT Tryz.prog 11 = some (.string ⟨#[]⟩) := by kernel_rfl
@[go_sem] theorem elZ_11 : elZ Tryz.prog 11 = some 1 := by kernel_rfl
@[go_sem] theorem byT_11 : byT Tryz.prog 11 = 16 := by kernel_rfl
@[go_sem] theorem conc_11 : Tryz.prog.concrete 11 = true := by kernel_rfl
@[go_sem] theorem szT_12 : szT Tryz.prog 12 = some 1 := by kernel_rfl
@[go_sem] theorem aggT_12 : aggT Tryz.prog 12 = some false := by kernel_rfl
@[go_sem] theorem zeT_12 : zeT Tryz.prog 12 = some (.int .u64 0) := by kernel_rfl
@[go_sem] theorem elZ_12 : elZ Tryz.prog 12 = some 1 := by kernel_rfl
@[go_sem] theorem byT_12 : byT Tryz.prog 12 = 8 := by kernel_rfl
@[go_sem] theorem conc_12 : Tryz.prog.concrete 12 = true := by kernel_rfl
@[go_sem] theorem szT_13 : szT Tryz.prog 13 = some 2 := by kernel_rfl
@[go_sem] theorem aggT_13 : aggT Tryz.prog 13 = some true := by kernel_rfl
@[go_sem] theorem offT_13x0 : offT Tryz.prog 13 0 = some 0 := by kernel_rfl
@[go_sem] theorem offT_13x1 : offT Tryz.prog 13 1 = some 1 := by kernel_rfl
@[go_sem] theorem plcs_13 : plcs Tryz.prog 13 = some [(0, 1), (1, 1)] := by kernel_rfl
@[go_sem] theorem zeT_13 : zeT Tryz.prog 13 = some (.agg #[.string ⟨#[]⟩, .int .u64 0]) := by kernel_rfl
@[go_sem] theorem elZ_13 : elZ Tryz.prog 13 = some 2 := by kernel_rfl
@[go_sem] theorem byT_13 : byT Tryz.prog 13 = 24 := by kernel_rfl
@[go_sem] theorem conc_13 : Tryz.prog.concrete 13 = true := by kernel_rfl
@[go_sem] theorem eqg_13 : Program.eqGuardType Tryz.prog (Program.depth Tryz.prog) 13 = false := by kernel_rfl
@[go_sem] theorem szT_14 : szT Tryz.prog 14 = some 2 := by kernel_rfl
@[go_sem] theorem aggT_14 : aggT Tryz.prog 14 = some true := by kernel_rfl
@[go_sem] theorem offT_14x0 : offT Tryz.prog 14 0 = some 0 := by kernel_rfl
@[go_sem] theorem offT_14x1 : offT Tryz.prog 14 1 = some 1 := by kernel_rfl
@[go_sem] theorem plcs_14 : plcs Tryz.prog 14 = some [(0, 1), (1, 1)] := by kernel_rfl
@[go_sem] theorem zeT_14 : zeT Tryz.prog 14 = some (.agg #[.string ⟨#[]⟩, .int .u64 0]) := by kernel_rfl
@[go_sem] theorem elZ_14 : elZ Tryz.prog 14 = some 2 := by kernel_rfl
@[go_sem] theorem byT_14 : byT Tryz.prog 14 = 24 := by kernel_rfl
@[go_sem] theorem conc_14 : Tryz.prog.concrete 14 = true := by kernel_rfl
@[go_sem] theorem eqg_14 : Program.eqGuardType Tryz.prog (Program.depth Tryz.prog) 14 = false := by kernel_rfl
@[go_sem] theorem szT_15 : szT Tryz.prog 15 = some 1 := by kernel_rfl
@[go_sem] theorem aggT_15 : aggT Tryz.prog 15 = some false := by kernel_rfl
@[go_sem] theorem zeT_15 : zeT Tryz.prog 15 = some (.pointer none) := by kernel_rfl
@[go_sem] theorem elZ_15 : elZ Tryz.prog 15 = some 1 := by kernel_rfl
@[go_sem] theorem byT_15 : byT Tryz.prog 15 = 8 := by kernel_rfl
@[go_sem] theorem conc_15 : Tryz.prog.concrete 15 = true := by kernel_rfl
@[go_sem] theorem szT_16 : szT Tryz.prog 16 = some 1 := by kernel_rfl
@[go_sem] theorem aggT_16 : aggT Tryz.prog 16 = some false := by kernel_rfl
@[go_sem] theorem zeT_16 : zeT Tryz.prog 16 = some (.pointer none) := by kernel_rfl
@[go_sem] theorem elZ_16 : elZ Tryz.prog 16 = some 1 := by kernel_rfl
@[go_sem] theorem byT_16 : byT Tryz.prog 16 = 8 := by kernel_rfl
@[go_sem] theorem conc_16 : Tryz.prog.concrete 16 = true := by kernel_rfl
@[go_sem] theorem szT_17 : szT Tryz.prog 17 = some 1 := by kernel_rfl
@[go_sem] theorem aggT_17 : aggT Tryz.prog 17 = some false := by kernel_rfl
@[go_sem] theorem zeT_17 : zeT Tryz.prog 17 = some (.pointer none) := by kernel_rfl
@[go_sem] theorem elZ_17 : elZ Tryz.prog 17 = some 1 := by kernel_rfl
@[go_sem] theorem byT_17 : byT Tryz.prog 17 = 8 := by kernel_rfl
@[go_sem] theorem conc_17 : Tryz.prog.concrete 17 = true := by kernel_rfl
@[go_sem] theorem szT_18 : szT Tryz.prog 18 = some 1 := by kernel_rfl
@[go_sem] theorem aggT_18 : aggT Tryz.prog 18 = some true := by kernel_rfl
@[go_sem] theorem offT_18x0 : offT Tryz.prog 18 0 = some 0 := by kernel_rfl
@[go_sem] theorem plcs_18 : plcs Tryz.prog 18 = some [(0, 1)] := by kernel_rfl
@[go_sem] theorem zeT_18 : zeT Tryz.prog 18 = some (.agg #[.pointer none]) := by kernel_rfl
@[go_sem] theorem elZ_18 : elZ Tryz.prog 18 = some 1 := by kernel_rfl
@[go_sem] theorem byT_18 : byT Tryz.prog 18 = 8 := by kernel_rfl
@[go_sem] theorem conc_18 : Tryz.prog.concrete 18 = true := by kernel_rfl
@[go_sem] theorem szT_19 : szT Tryz.prog 19 = some 1 := by kernel_rfl
@[go_sem] theorem aggT_19 : aggT Tryz.prog 19 = some true := by kernel_rfl
@[go_sem] theorem offT_19x0 : offT Tryz.prog 19 0 = some 0 := by kernel_rfl
@[go_sem] theorem plcs_19 : plcs Tryz.prog 19 = some [(0, 1)] := by kernel_rfl
@[go_sem] theorem zeT_19 : zeT Tryz.prog 19 = some (.agg #[.pointer none]) := by kernel_rfl
@[go_sem] theorem elZ_19 : elZ Tryz.prog 19 = some 1 := by kernel_rfl
@[go_sem] theorem byT_19 : byT Tryz.prog 19 = 8 := by kernel_rfl
@[go_sem] theorem conc_19 : Tryz.prog.concrete 19 = true := by kernel_rfl
@[go_sem] theorem szT_20 : szT Tryz.prog 20 = some 1 := by kernel_rfl
@[go_sem] theorem aggT_20 : aggT Tryz.prog 20 = some false := by kernel_rfl
@[go_sem] theorem zeT_20 : zeT Tryz.prog 20 = some (.nilIface) := by kernel_rfl
@[go_sem] theorem elZ_20 : elZ Tryz.prog 20 = some 1 := by kernel_rfl
@[go_sem] theorem byT_20 : byT Tryz.prog 20 = 16 := by kernel_rfl
@[go_sem] theorem szT_21 : szT Tryz.prog 21 = some 1 := by kernel_rfl
@[go_sem] theorem aggT_21 : aggT Tryz.prog 21 = some false := by kernel_rfl
@[go_sem] theorem zeT_21 : zeT Tryz.prog 21 = some (.int .i32 0) := by kernel_rfl
@[go_sem] theorem elZ_21 : elZ Tryz.prog 21 = some 1 := by kernel_rfl
@[go_sem] theorem byT_21 : byT Tryz.prog 21 = 4 := by kernel_rfl
@[go_sem] theorem conc_21 : Tryz.prog.concrete 21 = true := by kernel_rfl
@[go_sem] theorem szT_22 : szT Tryz.prog 22 = some 1 := by kernel_rfl
@[go_sem] theorem aggT_22 : aggT Tryz.prog 22 = some false := by kernel_rfl
@[go_sem] theorem zeT_22 : zeT Tryz.prog 22 = some (.slice none 0 0) := by kernel_rfl
@[go_sem] theorem elZ_22 : elZ Tryz.prog 22 = some 1 := by kernel_rfl
@[go_sem] theorem byT_22 : byT Tryz.prog 22 = 24 := by kernel_rfl
@[go_sem] theorem elT_22 : elT Tryz.prog 22 = some 3 := by kernel_rfl
@[go_sem] theorem conc_22 : Tryz.prog.concrete 22 = true := by kernel_rfl
@[go_sem] theorem szT_23 : szT Tryz.prog 23 = some 1 := by kernel_rfl
@[go_sem] theorem aggT_23 : aggT Tryz.prog 23 = some false := by kernel_rfl
@[go_sem] theorem zeT_23 : zeT Tryz.prog 23 = some (.nilFunc) := by kernel_rfl
@[go_sem] theorem elZ_23 : elZ Tryz.prog 23 = some 1 := by kernel_rfl
@[go_sem] theorem byT_23 : byT Tryz.prog 23 = 8 := by kernel_rfl
@[go_sem] theorem conc_23 : Tryz.prog.concrete 23 = true := by kernel_rfl
@[go_sem] theorem szT_24 : szT Tryz.prog 24 = some 1 := by kernel_rfl
@[go_sem] theorem aggT_24 : aggT Tryz.prog 24 = some false := by kernel_rfl
@[go_sem] theorem zeT_24 : zeT Tryz.prog 24 = some (.pointer none) := by kernel_rfl
@[go_sem] theorem elZ_24 : elZ Tryz.prog 24 = some 1 := by kernel_rfl
@[go_sem] theorem byT_24 : byT Tryz.prog 24 = 8 := by kernel_rfl
@[go_sem] theorem conc_24 : Tryz.prog.concrete 24 = true := by kernel_rfl
@[go_sem] theorem szT_25 : szT Tryz.prog 25 = some 1 := by kernel_rfl
@[go_sem] theorem aggT_25 : aggT Tryz.prog 25 = some false := by kernel_rfl
@[go_sem] theorem zeT_25 : zeT Tryz.prog 25 = some (.int .i64 0) := by kernel_rfl
@[go_sem] theorem elZ_25 : elZ Tryz.prog 25 = some 1 := by kernel_rfl
@[go_sem] theorem byT_25 : byT Tryz.prog 25 = 8 := by kernel_rfl
@[go_sem] theorem conc_25 : Tryz.prog.concrete 25 = true := by kernel_rfl
@[go_sem] theorem szT_26 : szT Tryz.prog 26 = some 1 := by kernel_rfl
@[go_sem] theorem aggT_26 : aggT Tryz.prog 26 = some false := by kernel_rfl
@[go_sem] theorem zeT_26 : zeT Tryz.prog 26 = some (.nilFunc) := by kernel_rfl
@[go_sem] theorem elZ_26 : elZ Tryz.prog 26 = some 1 := by kernel_rfl
@[go_sem] theorem byT_26 : byT Tryz.prog 26 = 8 := by kernel_rfl
@[go_sem] theorem conc_26 : Tryz.prog.concrete 26 = true := by kernel_rfl
@[go_sem] theorem szT_27 : szT Tryz.prog 27 = some 3 := by kernel_rfl
@[go_sem] theorem aggT_27 : aggT Tryz.prog 27 = some true := by kernel_rfl
@[go_sem] theorem offT_27x0 : offT Tryz.prog 27 0 = some 0 := by kernel_rfl
@[go_sem] theorem offT_27x1 : offT Tryz.prog 27 1 = some 1 := by kernel_rfl
@[go_sem] theorem offT_27x2 : offT Tryz.prog 27 2 = some 2 := by kernel_rfl
@[go_sem] theorem plcs_27 : plcs Tryz.prog 27 = some [(0, 1), (1, 1), (2, 1)] := by kernel_rfl
@[go_sem] theorem zeT_27 : zeT Tryz.prog 27 = some (.agg #[.int .i64 0, .int .i64 0, .int .i64 0]) := by kernel_rfl
@[go_sem] theorem elZ_27 : elZ Tryz.prog 27 = some 3 := by kernel_rfl
@[go_sem] theorem byT_27 : byT Tryz.prog 27 = 24 := by kernel_rfl
@[go_sem] theorem conc_27 : Tryz.prog.concrete 27 = true := by kernel_rfl
@[go_sem] theorem eqg_27 : Program.eqGuardType Tryz.prog (Program.depth Tryz.prog) 27 = false := by kernel_rfl
@[go_sem] theorem stood_27 : Tryz.prog.stoodInHeld 27 = false := by kernel_rfl
@[go_sem] theorem szT_28 : szT Tryz.prog 28 = some 3 := by kernel_rfl
@[go_sem] theorem aggT_28 : aggT Tryz.prog 28 = some true := by kernel_rfl
@[go_sem] theorem offT_28x0 : offT Tryz.prog 28 0 = some 0 := by kernel_rfl
@[go_sem] theorem offT_28x1 : offT Tryz.prog 28 1 = some 1 := by kernel_rfl
@[go_sem] theorem offT_28x2 : offT Tryz.prog 28 2 = some 2 := by kernel_rfl
@[go_sem] theorem plcs_28 : plcs Tryz.prog 28 = some [(0, 1), (1, 1), (2, 1)] := by kernel_rfl
@[go_sem] theorem zeT_28 : zeT Tryz.prog 28 = some (.agg #[.int .i64 0, .int .i64 0, .int .i64 0]) := by kernel_rfl
@[go_sem] theorem elZ_28 : elZ Tryz.prog 28 = some 3 := by kernel_rfl
@[go_sem] theorem byT_28 : byT Tryz.prog 28 = 24 := by kernel_rfl
@[go_sem] theorem conc_28 : Tryz.prog.concrete 28 = true := by kernel_rfl
@[go_sem] theorem eqg_28 : Program.eqGuardType Tryz.prog (Program.depth Tryz.prog) 28 = false := by kernel_rfl
@[go_sem] theorem stood_28 : Tryz.prog.stoodInHeld 28 = false := by kernel_rfl
@[go_sem] theorem szT_30 : szT Tryz.prog 30 = some 1 := by kernel_rfl
@[go_sem] theorem aggT_30 : aggT Tryz.prog 30 = some false := by kernel_rfl
@[go_sem] theorem zeT_30 : zeT Tryz.prog 30 = some (.nilFunc) := by kernel_rfl
@[go_sem] theorem elZ_30 : elZ Tryz.prog 30 = some 1 := by kernel_rfl
@[go_sem] theorem byT_30 : byT Tryz.prog 30 = 8 := by kernel_rfl
@[go_sem] theorem conc_30 : Tryz.prog.concrete 30 = true := by kernel_rfl
@[go_sem] theorem szT_31 : szT Tryz.prog 31 = some 1 := by kernel_rfl
@[go_sem] theorem aggT_31 : aggT Tryz.prog 31 = some false := by kernel_rfl
@[go_sem] theorem zeT_31 : zeT Tryz.prog 31 = some (.nilFunc) := by kernel_rfl
@[go_sem] theorem elZ_31 : elZ Tryz.prog 31 = some 1 := by kernel_rfl
@[go_sem] theorem byT_31 : byT Tryz.prog 31 = 8 := by kernel_rfl
@[go_sem] theorem conc_31 : Tryz.prog.concrete 31 = true := by kernel_rfl
@[go_sem] theorem szT_32 : szT Tryz.prog 32 = some 1 := by kernel_rfl
@[go_sem] theorem aggT_32 : aggT Tryz.prog 32 = some false := by kernel_rfl
@[go_sem] theorem zeT_32 : zeT Tryz.prog 32 = some (.nilFunc) := by kernel_rfl
@[go_sem] theorem elZ_32 : elZ Tryz.prog 32 = some 1 := by kernel_rfl
@[go_sem] theorem byT_32 : byT Tryz.prog 32 = 8 := by kernel_rfl
@[go_sem] theorem conc_32 : Tryz.prog.concrete 32 = true := by kernel_rfl
@[go_sem] theorem szT_33 : szT Tryz.prog 33 = some 4 := by kernel_rfl
@[go_sem] theorem aggT_33 : aggT Tryz.prog 33 = some true := by kernel_rfl
@[go_sem] theorem offT_33x0 : offT Tryz.prog 33 0 = some 0 := by kernel_rfl
@[go_sem] theorem offT_33x1 : offT Tryz.prog 33 1 = some 1 := by kernel_rfl
@[go_sem] theorem offT_33x2 : offT Tryz.prog 33 2 = some 2 := by kernel_rfl
@[go_sem] theorem offT_33x3 : offT Tryz.prog 33 3 = some 3 := by kernel_rfl
@[go_sem] theorem plcs_33 : plcs Tryz.prog 33 = some [(0, 1), (1, 1), (2, 1), (3, 1)] := by kernel_rfl
@[go_sem] theorem zeT_33 : zeT Tryz.prog 33 = some (.agg #[.int .i64 0, .string ⟨#[]⟩, .slice none 0 0, .int .i64 0]) := by kernel_rfl
@[go_sem] theorem elZ_33 : elZ Tryz.prog 33 = some 4 := by kernel_rfl
@[go_sem] theorem byT_33 : byT Tryz.prog 33 = 56 := by kernel_rfl
@[go_sem] theorem conc_33 : Tryz.prog.concrete 33 = true := by kernel_rfl
@[go_sem] theorem szT_34 : szT Tryz.prog 34 = some 4 := by kernel_rfl
@[go_sem] theorem aggT_34 : aggT Tryz.prog 34 = some true := by kernel_rfl
@[go_sem] theorem offT_34x0 : offT Tryz.prog 34 0 = some 0 := by kernel_rfl
@[go_sem] theorem offT_34x1 : offT Tryz.prog 34 1 = some 1 := by kernel_rfl
@[go_sem] theorem offT_34x2 : offT Tryz.prog 34 2 = some 2 := by kernel_rfl
@[go_sem] theorem offT_34x3 : offT Tryz.prog 34 3 = some 3 := by kernel_rfl
@[go_sem] theorem plcs_34 : plcs Tryz.prog 34 = some [(0, 1), (1, 1), (2, 1), (3, 1)] := by kernel_rfl
@[go_sem] theorem zeT_34 : zeT Tryz.prog 34 = some (.agg #[.int .i64 0, .string ⟨#[]⟩, .slice none 0 0, .int .i64 0]) := by kernel_rfl
@[go_sem] theorem elZ_34 : elZ Tryz.prog 34 = some 4 := by kernel_rfl
@[go_sem] theorem byT_34 : byT Tryz.prog 34 = 56 := by kernel_rfl
@[go_sem] theorem conc_34 : Tryz.prog.concrete 34 = true := by kernel_rfl
@[go_sem] theorem szT_36 : szT Tryz.prog 36 = some 1 := by kernel_rfl
@[go_sem] theorem aggT_36 : aggT Tryz.prog 36 = some false := by kernel_rfl
@[go_sem] theorem zeT_36 : zeT Tryz.prog 36 = some (.nilFunc) := by kernel_rfl
@[go_sem] theorem elZ_36 : elZ Tryz.prog 36 = some 1 := by kernel_rfl
@[go_sem] theorem byT_36 : byT Tryz.prog 36 = 8 := by kernel_rfl
@[go_sem] theorem conc_36 : Tryz.prog.concrete 36 = true := by kernel_rfl
@[go_sem] theorem szT_37 : szT Tryz.prog 37 = some 4 := by kernel_rfl
@[go_sem] theorem aggT_37 : aggT Tryz.prog 37 = some true := by kernel_rfl
@[go_sem] theorem offT_37x0 : offT Tryz.prog 37 0 = some 0 := by kernel_rfl
@[go_sem] theorem offT_37x1 : offT Tryz.prog 37 1 = some 1 := by kernel_rfl
@[go_sem] theorem offT_37x2 : offT Tryz.prog 37 2 = some 2 := by kernel_rfl
@[go_sem] theorem offT_37x3 : offT Tryz.prog 37 3 = some 3 := by kernel_rfl
@[go_sem] theorem plcs_37 : plcs Tryz.prog 37 = some [(0, 1), (1, 1), (2, 1), (3, 1)] := by kernel_rfl
@[go_sem] theorem zeT_37 : zeT Tryz.prog 37 = some (.agg #[.int .i64 0, .int .i64 0, .int .i64 0, .int .i64 0]) := by kernel_rfl
@[go_sem] theorem elZ_37 : elZ Tryz.prog 37 = some 4 := by kernel_rfl
@[go_sem] theorem byT_37 : byT Tryz.prog 37 = 32 := by kernel_rfl
@[go_sem] theorem conc_37 : Tryz.prog.concrete 37 = true := by kernel_rfl
@[go_sem] theorem eqg_37 : Program.eqGuardType Tryz.prog (Program.depth Tryz.prog) 37 = false := by kernel_rfl
@[go_sem] theorem stood_37 : Tryz.prog.stoodInHeld 37 = false := by kernel_rfl
@[go_sem] theorem szT_38 : szT Tryz.prog 38 = some 4 := by kernel_rfl
@[go_sem] theorem aggT_38 : aggT Tryz.prog 38 = some true := by kernel_rfl
@[go_sem] theorem offT_38x0 : offT Tryz.prog 38 0 = some 0 := by kernel_rfl
@[go_sem] theorem offT_38x1 : offT Tryz.prog 38 1 = some 1 := by kernel_rfl
@[go_sem] theorem offT_38x2 : offT Tryz.prog 38 2 = some 2 := by kernel_rfl
@[go_sem] theorem offT_38x3 : offT Tryz.prog 38 3 = some 3 := by kernel_rfl
@[go_sem] theorem plcs_38 : plcs Tryz.prog 38 = some [(0, 1), (1, 1), (2, 1), (3, 1)] := by kernel_rfl
@[go_sem] theorem zeT_38 : zeT Tryz.prog 38 = some (.agg #[.int .i64 0, .int .i64 0, .int .i64 0, .int .i64 0]) := by kernel_rfl
@[go_sem] theorem elZ_38 : elZ Tryz.prog 38 = some 4 := by kernel_rfl
@[go_sem] theorem byT_38 : byT Tryz.prog 38 = 32 := by kernel_rfl
@[go_sem] theorem conc_38 : Tryz.prog.concrete 38 = true := by kernel_rfl
@[go_sem] theorem eqg_38 : Program.eqGuardType Tryz.prog (Program.depth Tryz.prog) 38 = false := by kernel_rfl
@[go_sem] theorem stood_38 : Tryz.prog.stoodInHeld 38 = false := by kernel_rfl
@[go_sem] theorem szT_39 : szT Tryz.prog 39 = some 1 := by kernel_rfl
@[go_sem] theorem aggT_39 : aggT Tryz.prog 39 = some false := by kernel_rfl
@[go_sem] theorem zeT_39 : zeT Tryz.prog 39 = some (.slice none 0 0) := by kernel_rfl
@[go_sem] theorem elZ_39 : elZ Tryz.prog 39 = some 1 := by kernel_rfl
@[go_sem] theorem byT_39 : byT Tryz.prog 39 = 24 := by kernel_rfl
@[go_sem] theorem elT_39 : elT Tryz.prog 39 = some 41 := by kernel_rfl
@[go_sem] theorem conc_39 : Tryz.prog.concrete 39 = true := by kernel_rfl
@[go_sem] theorem szT_40 : szT Tryz.prog 40 = some 7 := by kernel_rfl
@[go_sem] theorem aggT_40 : aggT Tryz.prog 40 = some true := by kernel_rfl
@[go_sem] theorem offT_40x0 : offT Tryz.prog 40 0 = some 0 := by kernel_rfl
@[go_sem] theorem offT_40x1 : offT Tryz.prog 40 1 = some 1 := by kernel_rfl
@[go_sem] theorem offT_40x2 : offT Tryz.prog 40 2 = some 5 := by kernel_rfl
@[go_sem] theorem offT_40x3 : offT Tryz.prog 40 3 = some 6 := by kernel_rfl
@[go_sem] theorem plcs_40 : plcs Tryz.prog 40 = some [(0, 1), (1, 4), (5, 1), (6, 1)] := by kernel_rfl
@[go_sem] theorem zeT_40 : zeT Tryz.prog 40 = some (.agg #[.int .u8 0, .int .i64 0, .int .i64 0, .int .i64 0, .int .i64 0, .int .i64 0, .slice none 0 0]) := by kernel_rfl
@[go_sem] theorem elZ_40 : elZ Tryz.prog 40 = some 7 := by kernel_rfl
@[go_sem] theorem byT_40 : byT Tryz.prog 40 = 72 := by kernel_rfl
@[go_sem] theorem conc_40 : Tryz.prog.concrete 40 = true := by kernel_rfl
@[go_sem] theorem szT_41 : szT Tryz.prog 41 = some 7 := by kernel_rfl
@[go_sem] theorem aggT_41 : aggT Tryz.prog 41 = some true := by kernel_rfl
@[go_sem] theorem offT_41x0 : offT Tryz.prog 41 0 = some 0 := by kernel_rfl
@[go_sem] theorem offT_41x1 : offT Tryz.prog 41 1 = some 1 := by kernel_rfl
@[go_sem] theorem offT_41x2 : offT Tryz.prog 41 2 = some 5 := by kernel_rfl
@[go_sem] theorem offT_41x3 : offT Tryz.prog 41 3 = some 6 := by kernel_rfl
@[go_sem] theorem plcs_41 : plcs Tryz.prog 41 = some [(0, 1), (1, 4), (5, 1), (6, 1)] := by kernel_rfl
@[go_sem] theorem zeT_41 : zeT Tryz.prog 41 = some (.agg #[.int .u8 0, .int .i64 0, .int .i64 0, .int .i64 0, .int .i64 0, .int .i64 0, .slice none 0 0]) := by kernel_rfl
@[go_sem] theorem elZ_41 : elZ Tryz.prog 41 = some 7 := by kernel_rfl
@[go_sem] theorem byT_41 : byT Tryz.prog 41 = 72 := by kernel_rfl
@[go_sem] theorem conc_41 : Tryz.prog.concrete 41 = true := by kernel_rfl
@[go_sem] theorem szT_42 : szT Tryz.prog 42 = some 9 := by kernel_rfl
@[go_sem] theorem aggT_42 : aggT Tryz.prog 42 = some true := by kernel_rfl
@[go_sem] theorem offT_42x0 : offT Tryz.prog 42 0 = some 0 := by kernel_rfl
@[go_sem] theorem offT_42x1 : offT Tryz.prog 42 1 = some 7 := by kernel_rfl
@[go_sem] theorem offT_42x2 : offT Tryz.prog 42 2 = some 8 := by kernel_rfl
@[go_sem] theorem plcs_42 : plcs Tryz.prog 42 = some [(0, 7), (7, 1), (8, 1)] := by kernel_rfl
@[go_sem] theorem zeT_42 : zeT Tryz.prog 42 = some (.agg #[.int .u8 0, .int .i64 0, .int .i64 0, .int .i64 0, .int .i64 0, .int .i64 0, .slice none 0 0, .int .i64 0, .bool false]) := by kernel_rfl
@[go_sem] theorem elZ_42 : elZ Tryz.prog 42 = some 9 := by kernel_rfl
@[go_sem] theorem byT_42 : byT Tryz.prog 42 = 88 := by kernel_rfl
@[go_sem] theorem conc_42 : Tryz.prog.concrete 42 = true := by kernel_rfl
@[go_sem] theorem szT_43 : szT Tryz.prog 43 = some 9 := by kernel_rfl
@[go_sem] theorem aggT_43 : aggT Tryz.prog 43 = some true := by kernel_rfl
@[go_sem] theorem offT_43x0 : offT Tryz.prog 43 0 = some 0 := by kernel_rfl
@[go_sem] theorem offT_43x1 : offT Tryz.prog 43 1 = some 7 := by kernel_rfl
@[go_sem] theorem offT_43x2 : offT Tryz.prog 43 2 = some 8 := by kernel_rfl
@[go_sem] theorem plcs_43 : plcs Tryz.prog 43 = some [(0, 7), (7, 1), (8, 1)] := by kernel_rfl
@[go_sem] theorem zeT_43 : zeT Tryz.prog 43 = some (.agg #[.int .u8 0, .int .i64 0, .int .i64 0, .int .i64 0, .int .i64 0, .int .i64 0, .slice none 0 0, .int .i64 0, .bool false]) := by kernel_rfl
@[go_sem] theorem elZ_43 : elZ Tryz.prog 43 = some 9 := by kernel_rfl
@[go_sem] theorem byT_43 : byT Tryz.prog 43 = 88 := by kernel_rfl
@[go_sem] theorem conc_43 : Tryz.prog.concrete 43 = true := by kernel_rfl
@[go_sem] theorem szT_45 : szT Tryz.prog 45 = some 1 := by kernel_rfl
@[go_sem] theorem aggT_45 : aggT Tryz.prog 45 = some false := by kernel_rfl
@[go_sem] theorem zeT_45 : zeT Tryz.prog 45 = some (.nilFunc) := by kernel_rfl
@[go_sem] theorem elZ_45 : elZ Tryz.prog 45 = some 1 := by kernel_rfl
@[go_sem] theorem byT_45 : byT Tryz.prog 45 = 8 := by kernel_rfl
@[go_sem] theorem conc_45 : Tryz.prog.concrete 45 = true := by kernel_rfl
@[go_sem] theorem szT_47 : szT Tryz.prog 47 = some 1 := by kernel_rfl
@[go_sem] theorem aggT_47 : aggT Tryz.prog 47 = some false := by kernel_rfl
@[go_sem] theorem zeT_47 : zeT Tryz.prog 47 = some (.nilFunc) := by kernel_rfl
@[go_sem] theorem elZ_47 : elZ Tryz.prog 47 = some 1 := by kernel_rfl
@[go_sem] theorem byT_47 : byT Tryz.prog 47 = 8 := by kernel_rfl
@[go_sem] theorem conc_47 : Tryz.prog.concrete 47 = true := by kernel_rfl
@[go_sem] theorem szT_49 : szT Tryz.prog 49 = some 1 := by kernel_rfl
@[go_sem] theorem aggT_49 : aggT Tryz.prog 49 = some false := by kernel_rfl
@[go_sem] theorem zeT_49 : zeT Tryz.prog 49 = some (.nilFunc) := by kernel_rfl
@[go_sem] theorem elZ_49 : elZ Tryz.prog 49 = some 1 := by kernel_rfl
@[go_sem] theorem byT_49 : byT Tryz.prog 49 = 8 := by kernel_rfl
@[go_sem] theorem conc_49 : Tryz.prog.concrete 49 = true := by kernel_rfl
@[go_sem] theorem szT_51 : szT Tryz.prog 51 = some 1 := by kernel_rfl
@[go_sem] theorem aggT_51 : aggT Tryz.prog 51 = some false := by kernel_rfl
@[go_sem] theorem zeT_51 : zeT Tryz.prog 51 = some (.nilFunc) := by kernel_rfl
@[go_sem] theorem elZ_51 : elZ Tryz.prog 51 = some 1 := by kernel_rfl
@[go_sem] theorem byT_51 : byT Tryz.prog 51 = 8 := by kernel_rfl
@[go_sem] theorem conc_51 : Tryz.prog.concrete 51 = true := by kernel_rfl
@[go_sem] theorem szT_52 : szT Tryz.prog 52 = some 1 := by kernel_rfl
@[go_sem] theorem aggT_52 : aggT Tryz.prog 52 = some false := by kernel_rfl
@[go_sem] theorem zeT_52 : zeT Tryz.prog 52 = some (.slice none 0 0) := by kernel_rfl
@[go_sem] theorem elZ_52 : elZ Tryz.prog 52 = some 1 := by kernel_rfl
@[go_sem] theorem byT_52 : byT Tryz.prog 52 = 24 := by kernel_rfl
@[go_sem] theorem elT_52 : elT Tryz.prog 52 = some 34 := by kernel_rfl
@[go_sem] theorem conc_52 : Tryz.prog.concrete 52 = true := by kernel_rfl
@[go_sem] theorem szT_53 : szT Tryz.prog 53 = some 1 := by kernel_rfl
@[go_sem] theorem aggT_53 : aggT Tryz.prog 53 = some false := by kernel_rfl
@[go_sem] theorem zeT_53 : zeT Tryz.prog 53 = some (.nilFunc) := by kernel_rfl
@[go_sem] theorem elZ_53 : elZ Tryz.prog 53 = some 1 := by kernel_rfl
@[go_sem] theorem byT_53 : byT Tryz.prog 53 = 8 := by kernel_rfl
@[go_sem] theorem conc_53 : Tryz.prog.concrete 53 = true := by kernel_rfl
@[go_sem] theorem szT_54 : szT Tryz.prog 54 = some 1 := by kernel_rfl
@[go_sem] theorem aggT_54 : aggT Tryz.prog 54 = some false := by kernel_rfl
@[go_sem] theorem zeT_54 : zeT Tryz.prog 54 = some (.nilFunc) := by kernel_rfl
@[go_sem] theorem elZ_54 : elZ Tryz.prog 54 = some 1 := by kernel_rfl
@[go_sem] theorem byT_54 : byT Tryz.prog 54 = 8 := by kernel_rfl
@[go_sem] theorem conc_54 : Tryz.prog.concrete 54 = true := by kernel_rfl
@[go_sem] theorem szT_55 : szT Tryz.prog 55 = some 1 := by kernel_rfl
@[go_sem] theorem aggT_55 : aggT Tryz.prog 55 = some false := by kernel_rfl
@[go_sem] theorem zeT_55 : zeT Tryz.prog 55 = some (.slice none 0 0) := by kernel_rfl
@[go_sem] theorem elZ_55 : elZ Tryz.prog 55 = some 1 := by kernel_rfl
@[go_sem] theorem byT_55 : byT Tryz.prog 55 = 24 := by kernel_rfl
@[go_sem] theorem elT_55 : elT Tryz.prog 55 = some 66 := by kernel_rfl
@[go_sem] theorem conc_55 : Tryz.prog.concrete 55 = true := by kernel_rfl
@[go_sem] theorem szT_56 : szT Tryz.prog 56 = some 1 := by kernel_rfl
@[go_sem] theorem aggT_56 : aggT Tryz.prog 56 = some false := by kernel_rfl
@[go_sem] theorem zeT_56 : zeT Tryz.prog 56 = some (.nilFunc) := by kernel_rfl
@[go_sem] theorem elZ_56 : elZ Tryz.prog 56 = some 1 := by kernel_rfl
@[go_sem] theorem byT_56 : byT Tryz.prog 56 = 8 := by kernel_rfl
@[go_sem] theorem conc_56 : Tryz.prog.concrete 56 = true := by kernel_rfl
@[go_sem] theorem szT_57 : szT Tryz.prog 57 = some 1 := by kernel_rfl
@[go_sem] theorem aggT_57 : aggT Tryz.prog 57 = some false := by kernel_rfl
@[go_sem] theorem zeT_57 : zeT Tryz.prog 57 = some (.nilFunc) := by kernel_rfl
@[go_sem] theorem elZ_57 : elZ Tryz.prog 57 = some 1 := by kernel_rfl
@[go_sem] theorem byT_57 : byT Tryz.prog 57 = 8 := by kernel_rfl
@[go_sem] theorem conc_57 : Tryz.prog.concrete 57 = true := by kernel_rfl
@[go_sem] theorem szT_58 : szT Tryz.prog 58 = some 1 := by kernel_rfl
@[go_sem] theorem aggT_58 : aggT Tryz.prog 58 = some false := by kernel_rfl
@[go_sem] theorem zeT_58 : zeT Tryz.prog 58 = some (.nilFunc) := by kernel_rfl
@[go_sem] theorem elZ_58 : elZ Tryz.prog 58 = some 1 := by kernel_rfl
@[go_sem] theorem byT_58 : byT Tryz.prog 58 = 8 := by kernel_rfl
@[go_sem] theorem conc_58 : Tryz.prog.concrete 58 = true := by kernel_rfl
@[go_sem] theorem szT_59 : szT Tryz.prog 59 = some 1 := by kernel_rfl
@[go_sem] theorem aggT_59 : aggT Tryz.prog 59 = some false := by kernel_rfl
@[go_sem] theorem zeT_59 : zeT Tryz.prog 59 = some (.nilFunc) := by kernel_rfl
@[go_sem] theorem elZ_59 : elZ Tryz.prog 59 = some 1 := by kernel_rfl
@[go_sem] theorem byT_59 : byT Tryz.prog 59 = 8 := by kernel_rfl
@[go_sem] theorem conc_59 : Tryz.prog.concrete 59 = true := by kernel_rfl
@[go_sem] theorem szT_60 : szT Tryz.prog 60 = some 1 := by kernel_rfl
@[go_sem] theorem aggT_60 : aggT Tryz.prog 60 = some false := by kernel_rfl
@[go_sem] theorem zeT_60 : zeT Tryz.prog 60 = some (.slice none 0 0) := by kernel_rfl
@[go_sem] theorem elZ_60 : elZ Tryz.prog 60 = some 1 := by kernel_rfl
@[go_sem] theorem byT_60 : byT Tryz.prog 60 = 24 := by kernel_rfl
@[go_sem] theorem elT_60 : elT Tryz.prog 60 = some 5 := by kernel_rfl
@[go_sem] theorem conc_60 : Tryz.prog.concrete 60 = true := by kernel_rfl
@[go_sem] theorem szT_61 : szT Tryz.prog 61 = some 1 := by kernel_rfl
@[go_sem] theorem aggT_61 : aggT Tryz.prog 61 = some false := by kernel_rfl
@[go_sem] theorem zeT_61 : zeT Tryz.prog 61 = some (.nilFunc) := by kernel_rfl
@[go_sem] theorem elZ_61 : elZ Tryz.prog 61 = some 1 := by kernel_rfl
@[go_sem] theorem byT_61 : byT Tryz.prog 61 = 8 := by kernel_rfl
@[go_sem] theorem conc_61 : Tryz.prog.concrete 61 = true := by kernel_rfl
@[go_sem] theorem szT_62 : szT Tryz.prog 62 = some 1 := by kernel_rfl
@[go_sem] theorem aggT_62 : aggT Tryz.prog 62 = some false := by kernel_rfl
@[go_sem] theorem zeT_62 : zeT Tryz.prog 62 = some (.nilFunc) := by kernel_rfl
@[go_sem] theorem elZ_62 : elZ Tryz.prog 62 = some 1 := by kernel_rfl
@[go_sem] theorem byT_62 : byT Tryz.prog 62 = 8 := by kernel_rfl
@[go_sem] theorem conc_62 : Tryz.prog.concrete 62 = true := by kernel_rfl
@[go_sem] theorem szT_63 : szT Tryz.prog 63 = some 1 := by kernel_rfl
@[go_sem] theorem aggT_63 : aggT Tryz.prog 63 = some false := by kernel_rfl
@[go_sem] theorem zeT_63 : zeT Tryz.prog 63 = some (.nilFunc) := by kernel_rfl
@[go_sem] theorem elZ_63 : elZ Tryz.prog 63 = some 1 := by kernel_rfl
@[go_sem] theorem byT_63 : byT Tryz.prog 63 = 8 := by kernel_rfl
@[go_sem] theorem conc_63 : Tryz.prog.concrete 63 = true := by kernel_rfl
@[go_sem] theorem szT_64 : szT Tryz.prog 64 = some 1 := by kernel_rfl
@[go_sem] theorem aggT_64 : aggT Tryz.prog 64 = some false := by kernel_rfl
@[go_sem] theorem zeT_64 : zeT Tryz.prog 64 = some (.nilFunc) := by kernel_rfl
@[go_sem] theorem elZ_64 : elZ Tryz.prog 64 = some 1 := by kernel_rfl
@[go_sem] theorem byT_64 : byT Tryz.prog 64 = 8 := by kernel_rfl
@[go_sem] theorem conc_64 : Tryz.prog.concrete 64 = true := by kernel_rfl
@[go_sem] theorem szT_65 : szT Tryz.prog 65 = some 4 := by kernel_rfl
@[go_sem] theorem aggT_65 : aggT Tryz.prog 65 = some true := by kernel_rfl
@[go_sem] theorem offT_65x0 : offT Tryz.prog 65 0 = some 0 := by kernel_rfl
@[go_sem] theorem offT_65x1 : offT Tryz.prog 65 1 = some 1 := by kernel_rfl
@[go_sem] theorem offT_65x2 : offT Tryz.prog 65 2 = some 2 := by kernel_rfl
@[go_sem] theorem offT_65x3 : offT Tryz.prog 65 3 = some 3 := by kernel_rfl
@[go_sem] theorem plcs_65 : plcs Tryz.prog 65 = some [(0, 1), (1, 1), (2, 1), (3, 1)] := by kernel_rfl
@[go_sem] theorem zeT_65 : zeT Tryz.prog 65 = some (.agg #[.int .u8 0, .int .i64 0, .int .i64 0, .string ⟨#[]⟩]) := by kernel_rfl
@[go_sem] theorem elZ_65 : elZ Tryz.prog 65 = some 4 := by kernel_rfl
@[go_sem] theorem byT_65 : byT Tryz.prog 65 = 40 := by kernel_rfl
@[go_sem] theorem conc_65 : Tryz.prog.concrete 65 = true := by kernel_rfl
@[go_sem] theorem eqg_65 : Program.eqGuardType Tryz.prog (Program.depth Tryz.prog) 65 = false := by kernel_rfl
@[go_sem] theorem stood_65 : Tryz.prog.stoodInHeld 65 = false := by kernel_rfl
@[go_sem] theorem szT_66 : szT Tryz.prog 66 = some 4 := by kernel_rfl
@[go_sem] theorem aggT_66 : aggT Tryz.prog 66 = some true := by kernel_rfl
@[go_sem] theorem offT_66x0 : offT Tryz.prog 66 0 = some 0 := by kernel_rfl
@[go_sem] theorem offT_66x1 : offT Tryz.prog 66 1 = some 1 := by kernel_rfl
@[go_sem] theorem offT_66x2 : offT Tryz.prog 66 2 = some 2 := by kernel_rfl
@[go_sem] theorem offT_66x3 : offT Tryz.prog 66 3 = some 3 := by kernel_rfl
@[go_sem] theorem plcs_66 : plcs Tryz.prog 66 = some [(0, 1), (1, 1), (2, 1), (3, 1)] := by kernel_rfl
@[go_sem] theorem zeT_66 : zeT Tryz.prog 66 = some (.agg #[.int .u8 0, .int .i64 0, .int .i64 0, .string ⟨#[]⟩]) := by kernel_rfl
@[go_sem] theorem elZ_66 : elZ Tryz.prog 66 = some 4 := by kernel_rfl
@[go_sem] theorem byT_66 : byT Tryz.prog 66 = 40 := by kernel_rfl
@[go_sem] theorem conc_66 : Tryz.prog.concrete 66 = true := by kernel_rfl
@[go_sem] theorem eqg_66 : Program.eqGuardType Tryz.prog (Program.depth Tryz.prog) 66 = false := by kernel_rfl
@[go_sem] theorem stood_66 : Tryz.prog.stoodInHeld 66 = false := by kernel_rfl
@[go_sem] theorem szT_67 : szT Tryz.prog 67 = some 1 := by kernel_rfl
@[go_sem] theorem aggT_67 : aggT Tryz.prog 67 = some false := by kernel_rfl
@[go_sem] theorem zeT_67 : zeT Tryz.prog 67 = some (.nilFunc) := by kernel_rfl
@[go_sem] theorem elZ_67 : elZ Tryz.prog 67 = some 1 := by kernel_rfl
@[go_sem] theorem byT_67 : byT Tryz.prog 67 = 8 := by kernel_rfl
@[go_sem] theorem conc_67 : Tryz.prog.concrete 67 = true := by kernel_rfl
@[go_sem] theorem szT_68 : szT Tryz.prog 68 = some 3 := by kernel_rfl
@[go_sem] theorem aggT_68 : aggT Tryz.prog 68 = some true := by kernel_rfl
@[go_sem] theorem offT_68x0 : offT Tryz.prog 68 0 = some 0 := by kernel_rfl
@[go_sem] theorem offT_68x1 : offT Tryz.prog 68 1 = some 1 := by kernel_rfl
@[go_sem] theorem offT_68x2 : offT Tryz.prog 68 2 = some 2 := by kernel_rfl
@[go_sem] theorem plcs_68 : plcs Tryz.prog 68 = some [(0, 1), (1, 1), (2, 1)] := by kernel_rfl
@[go_sem] theorem zeT_68 : zeT Tryz.prog 68 = some (.agg #[.int .i64 0, .int .i64 0, .int .i64 0]) := by kernel_rfl
@[go_sem] theorem elZ_68 : elZ Tryz.prog 68 = some 3 := by kernel_rfl
@[go_sem] theorem byT_68 : byT Tryz.prog 68 = 24 := by kernel_rfl
@[go_sem] theorem conc_68 : Tryz.prog.concrete 68 = true := by kernel_rfl
@[go_sem] theorem eqg_68 : Program.eqGuardType Tryz.prog (Program.depth Tryz.prog) 68 = false := by kernel_rfl
@[go_sem] theorem stood_68 : Tryz.prog.stoodInHeld 68 = false := by kernel_rfl
@[go_sem] theorem szT_69 : szT Tryz.prog 69 = some 3 := by kernel_rfl
@[go_sem] theorem aggT_69 : aggT Tryz.prog 69 = some true := by kernel_rfl
@[go_sem] theorem offT_69x0 : offT Tryz.prog 69 0 = some 0 := by kernel_rfl
@[go_sem] theorem offT_69x1 : offT Tryz.prog 69 1 = some 1 := by kernel_rfl
@[go_sem] theorem offT_69x2 : offT Tryz.prog 69 2 = some 2 := by kernel_rfl
@[go_sem] theorem plcs_69 : plcs Tryz.prog 69 = some [(0, 1), (1, 1), (2, 1)] := by kernel_rfl
@[go_sem] theorem zeT_69 : zeT Tryz.prog 69 = some (.agg #[.int .i64 0, .int .i64 0, .int .i64 0]) := by kernel_rfl
@[go_sem] theorem elZ_69 : elZ Tryz.prog 69 = some 3 := by kernel_rfl
@[go_sem] theorem byT_69 : byT Tryz.prog 69 = 24 := by kernel_rfl
@[go_sem] theorem conc_69 : Tryz.prog.concrete 69 = true := by kernel_rfl
@[go_sem] theorem eqg_69 : Program.eqGuardType Tryz.prog (Program.depth Tryz.prog) 69 = false := by kernel_rfl
@[go_sem] theorem stood_69 : Tryz.prog.stoodInHeld 69 = false := by kernel_rfl
@[go_sem] theorem szT_70 : szT Tryz.prog 70 = some 1 := by kernel_rfl
@[go_sem] theorem aggT_70 : aggT Tryz.prog 70 = some false := by kernel_rfl
@[go_sem] theorem zeT_70 : zeT Tryz.prog 70 = some (.pointer none) := by kernel_rfl
@[go_sem] theorem elZ_70 : elZ Tryz.prog 70 = some 1 := by kernel_rfl
@[go_sem] theorem byT_70 : byT Tryz.prog 70 = 8 := by kernel_rfl
@[go_sem] theorem conc_70 : Tryz.prog.concrete 70 = true := by kernel_rfl
@[go_sem] theorem szT_71 : szT Tryz.prog 71 = some 1 := by kernel_rfl
@[go_sem] theorem aggT_71 : aggT Tryz.prog 71 = some false := by kernel_rfl
@[go_sem] theorem zeT_71 : zeT Tryz.prog 71 = some (.nilFunc) := by kernel_rfl
@[go_sem] theorem elZ_71 : elZ Tryz.prog 71 = some 1 := by kernel_rfl
@[go_sem] theorem byT_71 : byT Tryz.prog 71 = 8 := by kernel_rfl
@[go_sem] theorem conc_71 : Tryz.prog.concrete 71 = true := by kernel_rfl
@[go_sem] theorem szT_72 : szT Tryz.prog 72 = some 1 := by kernel_rfl
@[go_sem] theorem aggT_72 : aggT Tryz.prog 72 = some false := by kernel_rfl
@[go_sem] theorem zeT_72 : zeT Tryz.prog 72 = some (.map none) := by kernel_rfl
@[go_sem] theorem elZ_72 : elZ Tryz.prog 72 = some 1 := by kernel_rfl
@[go_sem] theorem byT_72 : byT Tryz.prog 72 = 8 := by kernel_rfl
@[go_sem] theorem conc_72 : Tryz.prog.concrete 72 = true := by kernel_rfl
@[go_sem] theorem szT_73 : szT Tryz.prog 73 = some 1 := by kernel_rfl
@[go_sem] theorem aggT_73 : aggT Tryz.prog 73 = some false := by kernel_rfl
@[go_sem] theorem zeT_73 : zeT Tryz.prog 73 = some (.map none) := by kernel_rfl
@[go_sem] theorem elZ_73 : elZ Tryz.prog 73 = some 1 := by kernel_rfl
@[go_sem] theorem byT_73 : byT Tryz.prog 73 = 8 := by kernel_rfl
@[go_sem] theorem conc_73 : Tryz.prog.concrete 73 = true := by kernel_rfl
@[go_sem] theorem szT_74 : szT Tryz.prog 74 = some 1 := by kernel_rfl
@[go_sem] theorem aggT_74 : aggT Tryz.prog 74 = some false := by kernel_rfl
@[go_sem] theorem zeT_74 : zeT Tryz.prog 74 = some (.map none) := by kernel_rfl
@[go_sem] theorem elZ_74 : elZ Tryz.prog 74 = some 1 := by kernel_rfl
@[go_sem] theorem byT_74 : byT Tryz.prog 74 = 8 := by kernel_rfl
@[go_sem] theorem conc_74 : Tryz.prog.concrete 74 = true := by kernel_rfl
@[go_sem] theorem szT_75 : szT Tryz.prog 75 = some 1 := by kernel_rfl
@[go_sem] theorem aggT_75 : aggT Tryz.prog 75 = some false := by kernel_rfl
@[go_sem] theorem zeT_75 : zeT Tryz.prog 75 = some (.map none) := by kernel_rfl
@[go_sem] theorem elZ_75 : elZ Tryz.prog 75 = some 1 := by kernel_rfl
@[go_sem] theorem byT_75 : byT Tryz.prog 75 = 8 := by kernel_rfl
@[go_sem] theorem conc_75 : Tryz.prog.concrete 75 = true := by kernel_rfl
@[go_sem] theorem szT_76 : szT Tryz.prog 76 = some 9 := by kernel_rfl
@[go_sem] theorem aggT_76 : aggT Tryz.prog 76 = some true := by kernel_rfl
@[go_sem] theorem offT_76x0 : offT Tryz.prog 76 0 = some 0 := by kernel_rfl
@[go_sem] theorem offT_76x1 : offT Tryz.prog 76 1 = some 3 := by kernel_rfl
@[go_sem] theorem offT_76x2 : offT Tryz.prog 76 2 = some 4 := by kernel_rfl
@[go_sem] theorem offT_76x3 : offT Tryz.prog 76 3 = some 5 := by kernel_rfl
@[go_sem] theorem offT_76x4 : offT Tryz.prog 76 4 = some 6 := by kernel_rfl
@[go_sem] theorem offT_76x5 : offT Tryz.prog 76 5 = some 7 := by kernel_rfl
@[go_sem] theorem offT_76x6 : offT Tryz.prog 76 6 = some 8 := by kernel_rfl
@[go_sem] theorem plcs_76 : plcs Tryz.prog 76 = some [(0, 3), (3, 1), (4, 1), (5, 1), (6, 1), (7, 1), (8, 1)] := by kernel_rfl
@[go_sem] theorem zeT_76 : zeT Tryz.prog 76 = some (.agg #[.int .i64 0, .int .i64 0, .int .i64 0, .pointer none, .nilFunc, .map none, .map none, .map none, .map none]) := by kernel_rfl
@[go_sem] theorem elZ_76 : elZ Tryz.prog 76 = some 9 := by kernel_rfl
@[go_sem] theorem byT_76 : byT Tryz.prog 76 = 72 := by kernel_rfl
@[go_sem] theorem conc_76 : Tryz.prog.concrete 76 = true := by kernel_rfl
@[go_sem] theorem szT_77 : szT Tryz.prog 77 = some 9 := by kernel_rfl
@[go_sem] theorem aggT_77 : aggT Tryz.prog 77 = some true := by kernel_rfl
@[go_sem] theorem offT_77x0 : offT Tryz.prog 77 0 = some 0 := by kernel_rfl
@[go_sem] theorem offT_77x1 : offT Tryz.prog 77 1 = some 3 := by kernel_rfl
@[go_sem] theorem offT_77x2 : offT Tryz.prog 77 2 = some 4 := by kernel_rfl
@[go_sem] theorem offT_77x3 : offT Tryz.prog 77 3 = some 5 := by kernel_rfl
@[go_sem] theorem offT_77x4 : offT Tryz.prog 77 4 = some 6 := by kernel_rfl
@[go_sem] theorem offT_77x5 : offT Tryz.prog 77 5 = some 7 := by kernel_rfl
@[go_sem] theorem offT_77x6 : offT Tryz.prog 77 6 = some 8 := by kernel_rfl
@[go_sem] theorem plcs_77 : plcs Tryz.prog 77 = some [(0, 3), (3, 1), (4, 1), (5, 1), (6, 1), (7, 1), (8, 1)] := by kernel_rfl
@[go_sem] theorem zeT_77 : zeT Tryz.prog 77 = some (.agg #[.int .i64 0, .int .i64 0, .int .i64 0, .pointer none, .nilFunc, .map none, .map none, .map none, .map none]) := by kernel_rfl
@[go_sem] theorem elZ_77 : elZ Tryz.prog 77 = some 9 := by kernel_rfl
@[go_sem] theorem byT_77 : byT Tryz.prog 77 = 72 := by kernel_rfl
@[go_sem] theorem conc_77 : Tryz.prog.concrete 77 = true := by kernel_rfl
@[go_sem] theorem szT_78 : szT Tryz.prog 78 = some 1 := by kernel_rfl
@[go_sem] theorem aggT_78 : aggT Tryz.prog 78 = some false := by kernel_rfl
@[go_sem] theorem zeT_78 : zeT Tryz.prog 78 = some (.pointer none) := by kernel_rfl
@[go_sem] theorem elZ_78 : elZ Tryz.prog 78 = some 1 := by kernel_rfl
@[go_sem] theorem byT_78 : byT Tryz.prog 78 = 8 := by kernel_rfl
@[go_sem] theorem conc_78 : Tryz.prog.concrete 78 = true := by kernel_rfl
@[go_sem] theorem szT_79 : szT Tryz.prog 79 = some 1 := by kernel_rfl
@[go_sem] theorem aggT_79 : aggT Tryz.prog 79 = some false := by kernel_rfl
@[go_sem] theorem zeT_79 : zeT Tryz.prog 79 = some (.nilFunc) := by kernel_rfl
@[go_sem] theorem elZ_79 : elZ Tryz.prog 79 = some 1 := by kernel_rfl
@[go_sem] theorem byT_79 : byT Tryz.prog 79 = 8 := by kernel_rfl
@[go_sem] theorem conc_79 : Tryz.prog.concrete 79 = true := by kernel_rfl
@[go_sem] theorem szT_80 : szT Tryz.prog 80 = some 1 := by kernel_rfl
@[go_sem] theorem aggT_80 : aggT Tryz.prog 80 = some false := by kernel_rfl
@[go_sem] theorem zeT_80 : zeT Tryz.prog 80 = some (.nilFunc) := by kernel_rfl
@[go_sem] theorem elZ_80 : elZ Tryz.prog 80 = some 1 := by kernel_rfl
@[go_sem] theorem byT_80 : byT Tryz.prog 80 = 8 := by kernel_rfl
@[go_sem] theorem conc_80 : Tryz.prog.concrete 80 = true := by kernel_rfl
@[go_sem] theorem szT_82 : szT Tryz.prog 82 = some 1 := by kernel_rfl
@[go_sem] theorem aggT_82 : aggT Tryz.prog 82 = some false := by kernel_rfl
@[go_sem] theorem zeT_82 : zeT Tryz.prog 82 = some (.nilFunc) := by kernel_rfl
@[go_sem] theorem elZ_82 : elZ Tryz.prog 82 = some 1 := by kernel_rfl
@[go_sem] theorem byT_82 : byT Tryz.prog 82 = 8 := by kernel_rfl
@[go_sem] theorem conc_82 : Tryz.prog.concrete 82 = true := by kernel_rfl
@[go_sem] theorem szT_83 : szT Tryz.prog 83 = some 1 := by kernel_rfl
@[go_sem] theorem aggT_83 : aggT Tryz.prog 83 = some false := by kernel_rfl
@[go_sem] theorem zeT_83 : zeT Tryz.prog 83 = some (.nilFunc) := by kernel_rfl
@[go_sem] theorem elZ_83 : elZ Tryz.prog 83 = some 1 := by kernel_rfl
@[go_sem] theorem byT_83 : byT Tryz.prog 83 = 8 := by kernel_rfl
@[go_sem] theorem conc_83 : Tryz.prog.concrete 83 = true := by kernel_rfl
@[go_sem] theorem szT_84 : szT Tryz.prog 84 = some 1 := by kernel_rfl
@[go_sem] theorem aggT_84 : aggT Tryz.prog 84 = some false := by kernel_rfl
@[go_sem] theorem zeT_84 : zeT Tryz.prog 84 = some (.nilFunc) := by kernel_rfl
@[go_sem] theorem elZ_84 : elZ Tryz.prog 84 = some 1 := by kernel_rfl
@[go_sem] theorem byT_84 : byT Tryz.prog 84 = 8 := by kernel_rfl
@[go_sem] theorem conc_84 : Tryz.prog.concrete 84 = true := by kernel_rfl
@[go_sem] theorem szT_86 : szT Tryz.prog 86 = some 1 := by kernel_rfl
@[go_sem] theorem aggT_86 : aggT Tryz.prog 86 = some false := by kernel_rfl
@[go_sem] theorem zeT_86 : zeT Tryz.prog 86 = some (.nilFunc) := by kernel_rfl
@[go_sem] theorem elZ_86 : elZ Tryz.prog 86 = some 1 := by kernel_rfl
@[go_sem] theorem byT_86 : byT Tryz.prog 86 = 8 := by kernel_rfl
@[go_sem] theorem conc_86 : Tryz.prog.concrete 86 = true := by kernel_rfl
@[go_sem] theorem szT_87 : szT Tryz.prog 87 = some 1 := by kernel_rfl
@[go_sem] theorem aggT_87 : aggT Tryz.prog 87 = some false := by kernel_rfl
@[go_sem] theorem zeT_87 : zeT Tryz.prog 87 = some (.nilFunc) := by kernel_rfl
@[go_sem] theorem elZ_87 : elZ Tryz.prog 87 = some 1 := by kernel_rfl
@[go_sem] theorem byT_87 : byT Tryz.prog 87 = 8 := by kernel_rfl
@[go_sem] theorem conc_87 : Tryz.prog.concrete 87 = true := by kernel_rfl
@[go_sem] theorem szT_88 : szT Tryz.prog 88 = some 1 := by kernel_rfl
@[go_sem] theorem aggT_88 : aggT Tryz.prog 88 = some false := by kernel_rfl
@[go_sem] theorem zeT_88 : zeT Tryz.prog 88 = some (.nilFunc) := by kernel_rfl
@[go_sem] theorem elZ_88 : elZ Tryz.prog 88 = some 1 := by kernel_rfl
@[go_sem] theorem byT_88 : byT Tryz.prog 88 = 8 := by kernel_rfl
@[go_sem] theorem conc_88 : Tryz.prog.concrete 88 = true := by kernel_rfl
@[go_sem] theorem szT_89 : szT Tryz.prog 89 = some 1 := by kernel_rfl
@[go_sem] theorem aggT_89 : aggT Tryz.prog 89 = some false := by kernel_rfl
@[go_sem] theorem zeT_89 : zeT Tryz.prog 89 = some (.nilFunc) := by kernel_rfl
@[go_sem] theorem elZ_89 : elZ Tryz.prog 89 = some 1 := by kernel_rfl
@[go_sem] theorem byT_89 : byT Tryz.prog 89 = 8 := by kernel_rfl
@[go_sem] theorem conc_89 : Tryz.prog.concrete 89 = true := by kernel_rfl
@[go_sem] theorem szT_90 : szT Tryz.prog 90 = some 1 := by kernel_rfl
@[go_sem] theorem aggT_90 : aggT Tryz.prog 90 = some false := by kernel_rfl
@[go_sem] theorem zeT_90 : zeT Tryz.prog 90 = some (.nilFunc) := by kernel_rfl
@[go_sem] theorem elZ_90 : elZ Tryz.prog 90 = some 1 := by kernel_rfl
@[go_sem] theorem byT_90 : byT Tryz.prog 90 = 8 := by kernel_rfl
@[go_sem] theorem conc_90 : Tryz.prog.concrete 90 = true := by kernel_rfl
@[go_sem] theorem szT_91 : szT Tryz.prog 91 = some 1 := by kernel_rfl
@[go_sem] theorem aggT_91 : aggT Tryz.prog 91 = some false := by kernel_rfl
@[go_sem] theorem zeT_91 : zeT Tryz.prog 91 = some (.nilFunc) := by kernel_rfl
@[go_sem] theorem elZ_91 : elZ Tryz.prog 91 = some 1 := by kernel_rfl
@[go_sem] theorem byT_91 : byT Tryz.prog 91 = 8 := by kernel_rfl
@[go_sem] theorem conc_91 : Tryz.prog.concrete 91 = true := by kernel_rfl
@[go_sem] theorem szT_92 : szT Tryz.prog 92 = some 1 := by kernel_rfl
@[go_sem] theorem aggT_92 : aggT Tryz.prog 92 = some false := by kernel_rfl
@[go_sem] theorem zeT_92 : zeT Tryz.prog 92 = some (.nilFunc) := by kernel_rfl
@[go_sem] theorem elZ_92 : elZ Tryz.prog 92 = some 1 := by kernel_rfl
@[go_sem] theorem byT_92 : byT Tryz.prog 92 = 8 := by kernel_rfl
@[go_sem] theorem conc_92 : Tryz.prog.concrete 92 = true := by kernel_rfl
@[go_sem] theorem szT_93 : szT Tryz.prog 93 = some 1 := by kernel_rfl
@[go_sem] theorem aggT_93 : aggT Tryz.prog 93 = some false := by kernel_rfl
@[go_sem] theorem zeT_93 : zeT Tryz.prog 93 = some (.nilFunc) := by kernel_rfl
@[go_sem] theorem elZ_93 : elZ Tryz.prog 93 = some 1 := by kernel_rfl
@[go_sem] theorem byT_93 : byT Tryz.prog 93 = 8 := by kernel_rfl
@[go_sem] theorem conc_93 : Tryz.prog.concrete 93 = true := by kernel_rfl
@[go_sem] theorem szT_94 : szT Tryz.prog 94 = some 1 := by kernel_rfl
@[go_sem] theorem aggT_94 : aggT Tryz.prog 94 = some false := by kernel_rfl
@[go_sem] theorem zeT_94 : zeT Tryz.prog 94 = some (.nilFunc) := by kernel_rfl
@[go_sem] theorem elZ_94 : elZ Tryz.prog 94 = some 1 := by kernel_rfl
@[go_sem] theorem byT_94 : byT Tryz.prog 94 = 8 := by kernel_rfl
@[go_sem] theorem conc_94 : Tryz.prog.concrete 94 = true := by kernel_rfl
@[go_sem] theorem szT_95 : szT Tryz.prog 95 = some 1 := by kernel_rfl
@[go_sem] theorem aggT_95 : aggT Tryz.prog 95 = some false := by kernel_rfl
@[go_sem] theorem zeT_95 : zeT Tryz.prog 95 = some (.nilFunc) := by kernel_rfl
@[go_sem] theorem elZ_95 : elZ Tryz.prog 95 = some 1 := by kernel_rfl
@[go_sem] theorem byT_95 : byT Tryz.prog 95 = 8 := by kernel_rfl
@[go_sem] theorem conc_95 : Tryz.prog.concrete 95 = true := by kernel_rfl
@[go_sem] theorem szT_96 : szT Tryz.prog 96 = some 1 := by kernel_rfl
@[go_sem] theorem aggT_96 : aggT Tryz.prog 96 = some false := by kernel_rfl
@[go_sem] theorem zeT_96 : zeT Tryz.prog 96 = some (.pointer none) := by kernel_rfl
@[go_sem] theorem elZ_96 : elZ Tryz.prog 96 = some 1 := by kernel_rfl
@[go_sem] theorem byT_96 : byT Tryz.prog 96 = 8 := by kernel_rfl
@[go_sem] theorem conc_96 : Tryz.prog.concrete 96 = true := by kernel_rfl
@[go_sem] theorem szT_97 : szT Tryz.prog 97 = some 1 := by kernel_rfl
@[go_sem] theorem aggT_97 : aggT Tryz.prog 97 = some false := by kernel_rfl
@[go_sem] theorem zeT_97 : zeT Tryz.prog 97 = some (.nilFunc) := by kernel_rfl
@[go_sem] theorem elZ_97 : elZ Tryz.prog 97 = some 1 := by kernel_rfl
@[go_sem] theorem byT_97 : byT Tryz.prog 97 = 8 := by kernel_rfl
@[go_sem] theorem conc_97 : Tryz.prog.concrete 97 = true := by kernel_rfl
@[go_sem] theorem szT_98 : szT Tryz.prog 98 = some 1 := by kernel_rfl
@[go_sem] theorem aggT_98 : aggT Tryz.prog 98 = some false := by kernel_rfl
@[go_sem] theorem zeT_98 : zeT Tryz.prog 98 = some (.map none) := by kernel_rfl
@[go_sem] theorem elZ_98 : elZ Tryz.prog 98 = some 1 := by kernel_rfl
@[go_sem] theorem byT_98 : byT Tryz.prog 98 = 8 := by kernel_rfl
@[go_sem] theorem conc_98 : Tryz.prog.concrete 98 = true := by kernel_rfl
@[go_sem] theorem szT_99 : szT Tryz.prog 99 = some 1 := by kernel_rfl
@[go_sem] theorem aggT_99 : aggT Tryz.prog 99 = some false := by kernel_rfl
@[go_sem] theorem zeT_99 : zeT Tryz.prog 99 = some (.nilFunc) := by kernel_rfl
@[go_sem] theorem elZ_99 : elZ Tryz.prog 99 = some 1 := by kernel_rfl
@[go_sem] theorem byT_99 : byT Tryz.prog 99 = 8 := by kernel_rfl
@[go_sem] theorem conc_99 : Tryz.prog.concrete 99 = true := by kernel_rfl
@[go_sem] theorem szT_100 : szT Tryz.prog 100 = some 1 := by kernel_rfl
@[go_sem] theorem aggT_100 : aggT Tryz.prog 100 = some false := by kernel_rfl
@[go_sem] theorem zeT_100 : zeT Tryz.prog 100 = some (.nilFunc) := by kernel_rfl
@[go_sem] theorem elZ_100 : elZ Tryz.prog 100 = some 1 := by kernel_rfl
@[go_sem] theorem byT_100 : byT Tryz.prog 100 = 8 := by kernel_rfl
@[go_sem] theorem conc_100 : Tryz.prog.concrete 100 = true := by kernel_rfl
@[go_sem] theorem szT_101 : szT Tryz.prog 101 = some 1 := by kernel_rfl
@[go_sem] theorem aggT_101 : aggT Tryz.prog 101 = some false := by kernel_rfl
@[go_sem] theorem zeT_101 : zeT Tryz.prog 101 = some (.nilFunc) := by kernel_rfl
@[go_sem] theorem elZ_101 : elZ Tryz.prog 101 = some 1 := by kernel_rfl
@[go_sem] theorem byT_101 : byT Tryz.prog 101 = 8 := by kernel_rfl
@[go_sem] theorem conc_101 : Tryz.prog.concrete 101 = true := by kernel_rfl
@[go_sem] theorem szT_102 : szT Tryz.prog 102 = some 1 := by kernel_rfl
@[go_sem] theorem aggT_102 : aggT Tryz.prog 102 = some false := by kernel_rfl
@[go_sem] theorem zeT_102 : zeT Tryz.prog 102 = some (.nilFunc) := by kernel_rfl
@[go_sem] theorem elZ_102 : elZ Tryz.prog 102 = some 1 := by kernel_rfl
@[go_sem] theorem byT_102 : byT Tryz.prog 102 = 8 := by kernel_rfl
@[go_sem] theorem conc_102 : Tryz.prog.concrete 102 = true := by kernel_rfl
@[go_sem] theorem szT_103 : szT Tryz.prog 103 = some 1 := by kernel_rfl
@[go_sem] theorem aggT_103 : aggT Tryz.prog 103 = some false := by kernel_rfl
@[go_sem] theorem zeT_103 : zeT Tryz.prog 103 = some (.nilFunc) := by kernel_rfl
@[go_sem] theorem elZ_103 : elZ Tryz.prog 103 = some 1 := by kernel_rfl
@[go_sem] theorem byT_103 : byT Tryz.prog 103 = 8 := by kernel_rfl
@[go_sem] theorem conc_103 : Tryz.prog.concrete 103 = true := by kernel_rfl
@[go_sem] theorem szT_104 : szT Tryz.prog 104 = some 1 := by kernel_rfl
@[go_sem] theorem aggT_104 : aggT Tryz.prog 104 = some false := by kernel_rfl
@[go_sem] theorem zeT_104 : zeT Tryz.prog 104 = some (.nilFunc) := by kernel_rfl
@[go_sem] theorem elZ_104 : elZ Tryz.prog 104 = some 1 := by kernel_rfl
@[go_sem] theorem byT_104 : byT Tryz.prog 104 = 8 := by kernel_rfl
@[go_sem] theorem conc_104 : Tryz.prog.concrete 104 = true := by kernel_rfl
@[go_sem] theorem szT_105 : szT Tryz.prog 105 = some 1 := by kernel_rfl
@[go_sem] theorem aggT_105 : aggT Tryz.prog 105 = some false := by kernel_rfl
@[go_sem] theorem zeT_105 : zeT Tryz.prog 105 = some (.nilFunc) := by kernel_rfl
@[go_sem] theorem elZ_105 : elZ Tryz.prog 105 = some 1 := by kernel_rfl
@[go_sem] theorem byT_105 : byT Tryz.prog 105 = 8 := by kernel_rfl
@[go_sem] theorem conc_105 : Tryz.prog.concrete 105 = true := by kernel_rfl
@[go_sem] theorem szT_106 : szT Tryz.prog 106 = some 1 := by kernel_rfl
@[go_sem] theorem aggT_106 : aggT Tryz.prog 106 = some false := by kernel_rfl
@[go_sem] theorem zeT_106 : zeT Tryz.prog 106 = some (.nilFunc) := by kernel_rfl
@[go_sem] theorem elZ_106 : elZ Tryz.prog 106 = some 1 := by kernel_rfl
@[go_sem] theorem byT_106 : byT Tryz.prog 106 = 8 := by kernel_rfl
@[go_sem] theorem conc_106 : Tryz.prog.concrete 106 = true := by kernel_rfl
@[go_sem] theorem szT_107 : szT Tryz.prog 107 = some 1 := by kernel_rfl
@[go_sem] theorem aggT_107 : aggT Tryz.prog 107 = some false := by kernel_rfl
@[go_sem] theorem zeT_107 : zeT Tryz.prog 107 = some (.nilFunc) := by kernel_rfl
@[go_sem] theorem elZ_107 : elZ Tryz.prog 107 = some 1 := by kernel_rfl
@[go_sem] theorem byT_107 : byT Tryz.prog 107 = 8 := by kernel_rfl
@[go_sem] theorem conc_107 : Tryz.prog.concrete 107 = true := by kernel_rfl
@[go_sem] theorem szT_108 : szT Tryz.prog 108 = some 1 := by kernel_rfl
@[go_sem] theorem aggT_108 : aggT Tryz.prog 108 = some false := by kernel_rfl
@[go_sem] theorem zeT_108 : zeT Tryz.prog 108 = some (.pointer none) := by kernel_rfl
@[go_sem] theorem elZ_108 : elZ Tryz.prog 108 = some 1 := by kernel_rfl
@[go_sem] theorem byT_108 : byT Tryz.prog 108 = 8 := by kernel_rfl
@[go_sem] theorem conc_108 : Tryz.prog.concrete 108 = true := by kernel_rfl
@[go_sem] theorem szT_110 : szT Tryz.prog 110 = some 1 := by kernel_rfl
@[go_sem] theorem aggT_110 : aggT Tryz.prog 110 = some false := by kernel_rfl
@[go_sem] theorem zeT_110 : zeT Tryz.prog 110 = some (.nilFunc) := by kernel_rfl
@[go_sem] theorem elZ_110 : elZ Tryz.prog 110 = some 1 := by kernel_rfl
@[go_sem] theorem byT_110 : byT Tryz.prog 110 = 8 := by kernel_rfl
@[go_sem] theorem conc_110 : Tryz.prog.concrete 110 = true := by kernel_rfl
@[go_sem] theorem szT_111 : szT Tryz.prog 111 = some 1 := by kernel_rfl
@[go_sem] theorem aggT_111 : aggT Tryz.prog 111 = some false := by kernel_rfl
@[go_sem] theorem zeT_111 : zeT Tryz.prog 111 = some (.nilFunc) := by kernel_rfl
@[go_sem] theorem elZ_111 : elZ Tryz.prog 111 = some 1 := by kernel_rfl
@[go_sem] theorem byT_111 : byT Tryz.prog 111 = 8 := by kernel_rfl
@[go_sem] theorem conc_111 : Tryz.prog.concrete 111 = true := by kernel_rfl
@[go_sem] theorem szT_112 : szT Tryz.prog 112 = some 1 := by kernel_rfl
@[go_sem] theorem aggT_112 : aggT Tryz.prog 112 = some false := by kernel_rfl
@[go_sem] theorem zeT_112 : zeT Tryz.prog 112 = some (.nilFunc) := by kernel_rfl
@[go_sem] theorem elZ_112 : elZ Tryz.prog 112 = some 1 := by kernel_rfl
@[go_sem] theorem byT_112 : byT Tryz.prog 112 = 8 := by kernel_rfl
@[go_sem] theorem conc_112 : Tryz.prog.concrete 112 = true := by kernel_rfl
@[go_sem] theorem szT_113 : szT Tryz.prog 113 = some 1 := by kernel_rfl
@[go_sem] theorem aggT_113 : aggT Tryz.prog 113 = some false := by kernel_rfl
@[go_sem] theorem zeT_113 : zeT Tryz.prog 113 = some (.nilIface) := by kernel_rfl
@[go_sem] theorem elZ_113 : elZ Tryz.prog 113 = some 1 := by kernel_rfl
@[go_sem] theorem byT_113 : byT Tryz.prog 113 = 16 := by kernel_rfl
@[go_sem] theorem szT_114 : szT Tryz.prog 114 = some 1 := by kernel_rfl
@[go_sem] theorem aggT_114 : aggT Tryz.prog 114 = some false := by kernel_rfl
@[go_sem] theorem zeT_114 : zeT Tryz.prog 114 = some (.nilIface) := by kernel_rfl
@[go_sem] theorem elZ_114 : elZ Tryz.prog 114 = some 1 := by kernel_rfl
@[go_sem] theorem byT_114 : byT Tryz.prog 114 = 16 := by kernel_rfl
@[go_sem] theorem szT_115 : szT Tryz.prog 115 = some 1 := by kernel_rfl
@[go_sem] theorem aggT_115 : aggT Tryz.prog 115 = some false := by kernel_rfl
@[go_sem] theorem zeT_115 : zeT Tryz.prog 115 = some (.nilFunc) := by kernel_rfl
@[go_sem] theorem elZ_115 : elZ Tryz.prog 115 = some 1 := by kernel_rfl
@[go_sem] theorem byT_115 : byT Tryz.prog 115 = 8 := by kernel_rfl
@[go_sem] theorem conc_115 : Tryz.prog.concrete 115 = true := by kernel_rfl
@[go_sem] theorem szT_116 : szT Tryz.prog 116 = some 1 := by kernel_rfl
@[go_sem] theorem aggT_116 : aggT Tryz.prog 116 = some false := by kernel_rfl
@[go_sem] theorem zeT_116 : zeT Tryz.prog 116 = some (.nilFunc) := by kernel_rfl
@[go_sem] theorem elZ_116 : elZ Tryz.prog 116 = some 1 := by kernel_rfl
@[go_sem] theorem byT_116 : byT Tryz.prog 116 = 8 := by kernel_rfl
@[go_sem] theorem conc_116 : Tryz.prog.concrete 116 = true := by kernel_rfl
@[go_sem] theorem szT_117 : szT Tryz.prog 117 = some 1 := by kernel_rfl
@[go_sem] theorem aggT_117 : aggT Tryz.prog 117 = some false := by kernel_rfl
@[go_sem] theorem zeT_117 : zeT Tryz.prog 117 = some (.nilFunc) := by kernel_rfl
@[go_sem] theorem elZ_117 : elZ Tryz.prog 117 = some 1 := by kernel_rfl
@[go_sem] theorem byT_117 : byT Tryz.prog 117 = 8 := by kernel_rfl
@[go_sem] theorem conc_117 : Tryz.prog.concrete 117 = true := by kernel_rfl
@[go_sem] theorem szT_118 : szT Tryz.prog 118 = some 1 := by kernel_rfl
@[go_sem] theorem aggT_118 : aggT Tryz.prog 118 = some false := by kernel_rfl
@[go_sem] theorem zeT_118 : zeT Tryz.prog 118 = some (.slice none 0 0) := by kernel_rfl
@[go_sem] theorem elZ_118 : elZ Tryz.prog 118 = some 1 := by kernel_rfl
@[go_sem] theorem byT_118 : byT Tryz.prog 118 = 24 := by kernel_rfl
@[go_sem] theorem elT_118 : elT Tryz.prog 118 = some 159 := by kernel_rfl
@[go_sem] theorem conc_118 : Tryz.prog.concrete 118 = true := by kernel_rfl
@[go_sem] theorem szT_119 : szT Tryz.prog 119 = some 1 := by kernel_rfl
@[go_sem] theorem aggT_119 : aggT Tryz.prog 119 = some false := by kernel_rfl
@[go_sem] theorem zeT_119 : zeT Tryz.prog 119 = some (.nilFunc) := by kernel_rfl
@[go_sem] theorem elZ_119 : elZ Tryz.prog 119 = some 1 := by kernel_rfl
@[go_sem] theorem byT_119 : byT Tryz.prog 119 = 8 := by kernel_rfl
@[go_sem] theorem conc_119 : Tryz.prog.concrete 119 = true := by kernel_rfl
@[go_sem] theorem szT_120 : szT Tryz.prog 120 = some 1 := by kernel_rfl
@[go_sem] theorem aggT_120 : aggT Tryz.prog 120 = some false := by kernel_rfl
@[go_sem] theorem zeT_120 : zeT Tryz.prog 120 = some (.nilFunc) := by kernel_rfl
@[go_sem] theorem elZ_120 : elZ Tryz.prog 120 = some 1 := by kernel_rfl
@[go_sem] theorem byT_120 : byT Tryz.prog 120 = 8 := by kernel_rfl
@[go_sem] theorem conc_120 : Tryz.prog.concrete 120 = true := by kernel_rfl
@[go_sem] theorem szT_121 : szT Tryz.prog 121 = some 1 := by kernel_rfl
@[go_sem] theorem aggT_121 : aggT Tryz.prog 121 = some false := by kernel_rfl
@[go_sem] theorem zeT_121 : zeT Tryz.prog 121 = some (.nilFunc) := by kernel_rfl
@[go_sem] theorem elZ_121 : elZ Tryz.prog 121 = some 1 := by kernel_rfl
@[go_sem] theorem byT_121 : byT Tryz.prog 121 = 8 := by kernel_rfl
@[go_sem] theorem conc_121 : Tryz.prog.concrete 121 = true := by kernel_rfl
@[go_sem] theorem szT_122 : szT Tryz.prog 122 = some 1 := by kernel_rfl
@[go_sem] theorem aggT_122 : aggT Tryz.prog 122 = some false := by kernel_rfl
@[go_sem] theorem zeT_122 : zeT Tryz.prog 122 = some (.nilFunc) := by kernel_rfl
@[go_sem] theorem elZ_122 : elZ Tryz.prog 122 = some 1 := by kernel_rfl
@[go_sem] theorem byT_122 : byT Tryz.prog 122 = 8 := by kernel_rfl
@[go_sem] theorem conc_122 : Tryz.prog.concrete 122 = true := by kernel_rfl
@[go_sem] theorem szT_123 : szT Tryz.prog 123 = some 1 := by kernel_rfl
@[go_sem] theorem aggT_123 : aggT Tryz.prog 123 = some false := by kernel_rfl
@[go_sem] theorem zeT_123 : zeT Tryz.prog 123 = some (.pointer none) := by kernel_rfl
@[go_sem] theorem elZ_123 : elZ Tryz.prog 123 = some 1 := by kernel_rfl
@[go_sem] theorem byT_123 : byT Tryz.prog 123 = 8 := by kernel_rfl
@[go_sem] theorem conc_123 : Tryz.prog.concrete 123 = true := by kernel_rfl
@[go_sem] theorem szT_124 : szT Tryz.prog 124 = some 1 := by kernel_rfl
@[go_sem] theorem aggT_124 : aggT Tryz.prog 124 = some false := by kernel_rfl
@[go_sem] theorem zeT_124 : zeT Tryz.prog 124 = some (.nilFunc) := by kernel_rfl
@[go_sem] theorem elZ_124 : elZ Tryz.prog 124 = some 1 := by kernel_rfl
@[go_sem] theorem byT_124 : byT Tryz.prog 124 = 8 := by kernel_rfl
@[go_sem] theorem conc_124 : Tryz.prog.concrete 124 = true := by kernel_rfl
@[go_sem] theorem szT_125 : szT Tryz.prog 125 = some 4 := by kernel_rfl
@[go_sem] theorem aggT_125 : aggT Tryz.prog 125 = some true := by kernel_rfl
@[go_sem] theorem offT_125x0 : offT Tryz.prog 125 0 = some 0 := by kernel_rfl
@[go_sem] theorem offT_125x1 : offT Tryz.prog 125 1 = some 1 := by kernel_rfl
@[go_sem] theorem offT_125x2 : offT Tryz.prog 125 2 = some 2 := by kernel_rfl
@[go_sem] theorem offT_125x3 : offT Tryz.prog 125 3 = some 3 := by kernel_rfl
@[go_sem] theorem plcs_125 : plcs Tryz.prog 125 = some [(0, 1), (1, 1), (2, 1), (3, 1)] := by kernel_rfl
@[go_sem] theorem zeT_125 : zeT Tryz.prog 125 = some (.agg #[.nilIface, .bool false, .int .i64 0, .int .i64 0]) := by kernel_rfl
@[go_sem] theorem elZ_125 : elZ Tryz.prog 125 = some 4 := by kernel_rfl
@[go_sem] theorem byT_125 : byT Tryz.prog 125 = 40 := by kernel_rfl
@[go_sem] theorem conc_125 : Tryz.prog.concrete 125 = true := by kernel_rfl
@[go_sem] theorem szT_126 : szT Tryz.prog 126 = some 4 := by kernel_rfl
@[go_sem] theorem aggT_126 : aggT Tryz.prog 126 = some true := by kernel_rfl
@[go_sem] theorem offT_126x0 : offT Tryz.prog 126 0 = some 0 := by kernel_rfl
@[go_sem] theorem offT_126x1 : offT Tryz.prog 126 1 = some 1 := by kernel_rfl
@[go_sem] theorem offT_126x2 : offT Tryz.prog 126 2 = some 2 := by kernel_rfl
@[go_sem] theorem offT_126x3 : offT Tryz.prog 126 3 = some 3 := by kernel_rfl
@[go_sem] theorem plcs_126 : plcs Tryz.prog 126 = some [(0, 1), (1, 1), (2, 1), (3, 1)] := by kernel_rfl
@[go_sem] theorem zeT_126 : zeT Tryz.prog 126 = some (.agg #[.nilIface, .bool false, .int .i64 0, .int .i64 0]) := by kernel_rfl
@[go_sem] theorem elZ_126 : elZ Tryz.prog 126 = some 4 := by kernel_rfl
@[go_sem] theorem byT_126 : byT Tryz.prog 126 = 40 := by kernel_rfl
@[go_sem] theorem conc_126 : Tryz.prog.concrete 126 = true := by kernel_rfl
@[go_sem] theorem szT_127 : szT Tryz.prog 127 = some 1 := by kernel_rfl
@[go_sem] theorem aggT_127 : aggT Tryz.prog 127 = some false := by kernel_rfl
@[go_sem] theorem zeT_127 : zeT Tryz.prog 127 = some (.nilFunc) := by kernel_rfl
@[go_sem] theorem elZ_127 : elZ Tryz.prog 127 = some 1 := by kernel_rfl
@[go_sem] theorem byT_127 : byT Tryz.prog 127 = 8 := by kernel_rfl
@[go_sem] theorem conc_127 : Tryz.prog.concrete 127 = true := by kernel_rfl
@[go_sem] theorem szT_128 : szT Tryz.prog 128 = some 1 := by kernel_rfl
@[go_sem] theorem aggT_128 : aggT Tryz.prog 128 = some false := by kernel_rfl
@[go_sem] theorem zeT_128 : zeT Tryz.prog 128 = some (.nilFunc) := by kernel_rfl
@[go_sem] theorem elZ_128 : elZ Tryz.prog 128 = some 1 := by kernel_rfl
@[go_sem] theorem byT_128 : byT Tryz.prog 128 = 8 := by kernel_rfl
@[go_sem] theorem conc_128 : Tryz.prog.concrete 128 = true := by kernel_rfl
@[go_sem] theorem szT_129 : szT Tryz.prog 129 = some 1 := by kernel_rfl
@[go_sem] theorem aggT_129 : aggT Tryz.prog 129 = some false := by kernel_rfl
@[go_sem] theorem zeT_129 : zeT Tryz.prog 129 = some (.nilFunc) := by kernel_rfl
@[go_sem] theorem elZ_129 : elZ Tryz.prog 129 = some 1 := by kernel_rfl
@[go_sem] theorem byT_129 : byT Tryz.prog 129 = 8 := by kernel_rfl
@[go_sem] theorem conc_129 : Tryz.prog.concrete 129 = true := by kernel_rfl
@[go_sem] theorem szT_130 : szT Tryz.prog 130 = some 1 := by kernel_rfl
@[go_sem] theorem aggT_130 : aggT Tryz.prog 130 = some true := by kernel_rfl
@[go_sem] theorem offT_130x0 : offT Tryz.prog 130 0 = some 0 := by kernel_rfl
@[go_sem] theorem plcs_130 : plcs Tryz.prog 130 = some [(0, 1)] := by kernel_rfl
@[go_sem] theorem zeT_130 : zeT Tryz.prog 130 = some (.agg #[.slice none 0 0]) := by kernel_rfl
@[go_sem] theorem elZ_130 : elZ Tryz.prog 130 = some 1 := by kernel_rfl
@[go_sem] theorem byT_130 : byT Tryz.prog 130 = 24 := by kernel_rfl
@[go_sem] theorem conc_130 : Tryz.prog.concrete 130 = true := by kernel_rfl
@[go_sem] theorem szT_131 : szT Tryz.prog 131 = some 1 := by kernel_rfl
@[go_sem] theorem aggT_131 : aggT Tryz.prog 131 = some true := by kernel_rfl
@[go_sem] theorem offT_131x0 : offT Tryz.prog 131 0 = some 0 := by kernel_rfl
@[go_sem] theorem plcs_131 : plcs Tryz.prog 131 = some [(0, 1)] := by kernel_rfl
@[go_sem] theorem zeT_131 : zeT Tryz.prog 131 = some (.agg #[.slice none 0 0]) := by kernel_rfl
@[go_sem] theorem elZ_131 : elZ Tryz.prog 131 = some 1 := by kernel_rfl
@[go_sem] theorem byT_131 : byT Tryz.prog 131 = 24 := by kernel_rfl
@[go_sem] theorem conc_131 : Tryz.prog.concrete 131 = true := by kernel_rfl
@[go_sem] theorem szT_132 : szT Tryz.prog 132 = some 1 := by kernel_rfl
@[go_sem] theorem aggT_132 : aggT Tryz.prog 132 = some false := by kernel_rfl
@[go_sem] theorem zeT_132 : zeT Tryz.prog 132 = some (.nilFunc) := by kernel_rfl
@[go_sem] theorem elZ_132 : elZ Tryz.prog 132 = some 1 := by kernel_rfl
@[go_sem] theorem byT_132 : byT Tryz.prog 132 = 8 := by kernel_rfl
@[go_sem] theorem conc_132 : Tryz.prog.concrete 132 = true := by kernel_rfl
@[go_sem] theorem szT_133 : szT Tryz.prog 133 = some 1 := by kernel_rfl
@[go_sem] theorem aggT_133 : aggT Tryz.prog 133 = some false := by kernel_rfl
@[go_sem] theorem zeT_133 : zeT Tryz.prog 133 = some (.nilFunc) := by kernel_rfl
@[go_sem] theorem elZ_133 : elZ Tryz.prog 133 = some 1 := by kernel_rfl
@[go_sem] theorem byT_133 : byT Tryz.prog 133 = 8 := by kernel_rfl
@[go_sem] theorem conc_133 : Tryz.prog.concrete 133 = true := by kernel_rfl
@[go_sem] theorem szT_134 : szT Tryz.prog 134 = some 1 := by kernel_rfl
@[go_sem] theorem aggT_134 : aggT Tryz.prog 134 = some false := by kernel_rfl
@[go_sem] theorem zeT_134 : zeT Tryz.prog 134 = some (.map none) := by kernel_rfl
@[go_sem] theorem elZ_134 : elZ Tryz.prog 134 = some 1 := by kernel_rfl
@[go_sem] theorem byT_134 : byT Tryz.prog 134 = 8 := by kernel_rfl
@[go_sem] theorem conc_134 : Tryz.prog.concrete 134 = true := by kernel_rfl
@[go_sem] theorem szT_135 : szT Tryz.prog 135 = some 1 := by kernel_rfl
@[go_sem] theorem aggT_135 : aggT Tryz.prog 135 = some true := by kernel_rfl
@[go_sem] theorem offT_135x0 : offT Tryz.prog 135 0 = some 0 := by kernel_rfl
@[go_sem] theorem plcs_135 : plcs Tryz.prog 135 = some [(0, 1)] := by kernel_rfl
@[go_sem] theorem zeT_135 : zeT Tryz.prog 135 = some (.agg #[.map none]) := by kernel_rfl
@[go_sem] theorem elZ_135 : elZ Tryz.prog 135 = some 1 := by kernel_rfl
@[go_sem] theorem byT_135 : byT Tryz.prog 135 = 8 := by kernel_rfl
@[go_sem] theorem conc_135 : Tryz.prog.concrete 135 = true := by kernel_rfl
@[go_sem] theorem szT_136 : szT Tryz.prog 136 = some 1 := by kernel_rfl
@[go_sem] theorem aggT_136 : aggT Tryz.prog 136 = some true := by kernel_rfl
@[go_sem] theorem offT_136x0 : offT Tryz.prog 136 0 = some 0 := by kernel_rfl
@[go_sem] theorem plcs_136 : plcs Tryz.prog 136 = some [(0, 1)] := by kernel_rfl
@[go_sem] theorem zeT_136 : zeT Tryz.prog 136 = some (.agg #[.map none]) := by kernel_rfl
@[go_sem] theorem elZ_136 : elZ Tryz.prog 136 = some 1 := by kernel_rfl
@[go_sem] theorem byT_136 : byT Tryz.prog 136 = 8 := by kernel_rfl
@[go_sem] theorem conc_136 : Tryz.prog.concrete 136 = true := by kernel_rfl
@[go_sem] theorem szT_137 : szT Tryz.prog 137 = some 1 := by kernel_rfl
@[go_sem] theorem aggT_137 : aggT Tryz.prog 137 = some false := by kernel_rfl
@[go_sem] theorem zeT_137 : zeT Tryz.prog 137 = some (.nilFunc) := by kernel_rfl
@[go_sem] theorem elZ_137 : elZ Tryz.prog 137 = some 1 := by kernel_rfl
@[go_sem] theorem byT_137 : byT Tryz.prog 137 = 8 := by kernel_rfl
@[go_sem] theorem conc_137 : Tryz.prog.concrete 137 = true := by kernel_rfl
@[go_sem] theorem szT_138 : szT Tryz.prog 138 = some 1 := by kernel_rfl
@[go_sem] theorem aggT_138 : aggT Tryz.prog 138 = some false := by kernel_rfl
@[go_sem] theorem zeT_138 : zeT Tryz.prog 138 = some (.nilFunc) := by kernel_rfl
@[go_sem] theorem elZ_138 : elZ Tryz.prog 138 = some 1 := by kernel_rfl
@[go_sem] theorem byT_138 : byT Tryz.prog 138 = 8 := by kernel_rfl
@[go_sem] theorem conc_138 : Tryz.prog.concrete 138 = true := by kernel_rfl
@[go_sem] theorem szT_139 : szT Tryz.prog 139 = some 1 := by kernel_rfl
@[go_sem] theorem aggT_139 : aggT Tryz.prog 139 = some false := by kernel_rfl
@[go_sem] theorem zeT_139 : zeT Tryz.prog 139 = some (.nilFunc) := by kernel_rfl
@[go_sem] theorem elZ_139 : elZ Tryz.prog 139 = some 1 := by kernel_rfl
@[go_sem] theorem byT_139 : byT Tryz.prog 139 = 8 := by kernel_rfl
@[go_sem] theorem conc_139 : Tryz.prog.concrete 139 = true := by kernel_rfl
@[go_sem] theorem szT_140 : szT Tryz.prog 140 = some 1 := by kernel_rfl
@[go_sem] theorem aggT_140 : aggT Tryz.prog 140 = some false := by kernel_rfl
@[go_sem] theorem zeT_140 : zeT Tryz.prog 140 = some (.nilFunc) := by kernel_rfl
@[go_sem] theorem elZ_140 : elZ Tryz.prog 140 = some 1 := by kernel_rfl
@[go_sem] theorem byT_140 : byT Tryz.prog 140 = 8 := by kernel_rfl
@[go_sem] theorem conc_140 : Tryz.prog.concrete 140 = true := by kernel_rfl
@[go_sem] theorem szT_141 : szT Tryz.prog 141 = some 1 := by kernel_rfl
@[go_sem] theorem aggT_141 : aggT Tryz.prog 141 = some false := by kernel_rfl
@[go_sem] theorem zeT_141 : zeT Tryz.prog 141 = some (.nilFunc) := by kernel_rfl
@[go_sem] theorem elZ_141 : elZ Tryz.prog 141 = some 1 := by kernel_rfl
@[go_sem] theorem byT_141 : byT Tryz.prog 141 = 8 := by kernel_rfl
@[go_sem] theorem conc_141 : Tryz.prog.concrete 141 = true := by kernel_rfl
@[go_sem] theorem szT_142 : szT Tryz.prog 142 = some 1 := by kernel_rfl
@[go_sem] theorem aggT_142 : aggT Tryz.prog 142 = some false := by kernel_rfl
@[go_sem] theorem zeT_142 : zeT Tryz.prog 142 = some (.slice none 0 0) := by kernel_rfl
@[go_sem] theorem elZ_142 : elZ Tryz.prog 142 = some 1 := by kernel_rfl
@[go_sem] theorem byT_142 : byT Tryz.prog 142 = 24 := by kernel_rfl
@[go_sem] theorem elT_142 : elT Tryz.prog 142 = some 43 := by kernel_rfl
@[go_sem] theorem conc_142 : Tryz.prog.concrete 142 = true := by kernel_rfl
@[go_sem] theorem szT_143 : szT Tryz.prog 143 = some 1 := by kernel_rfl
@[go_sem] theorem aggT_143 : aggT Tryz.prog 143 = some false := by kernel_rfl
@[go_sem] theorem zeT_143 : zeT Tryz.prog 143 = some (.nilFunc) := by kernel_rfl
@[go_sem] theorem elZ_143 : elZ Tryz.prog 143 = some 1 := by kernel_rfl
@[go_sem] theorem byT_143 : byT Tryz.prog 143 = 8 := by kernel_rfl
@[go_sem] theorem conc_143 : Tryz.prog.concrete 143 = true := by kernel_rfl
@[go_sem] theorem szT_144 : szT Tryz.prog 144 = some 1 := by kernel_rfl
@[go_sem] theorem aggT_144 : aggT Tryz.prog 144 = some false := by kernel_rfl
@[go_sem] theorem zeT_144 : zeT Tryz.prog 144 = some (.nilFunc) := by kernel_rfl
@[go_sem] theorem elZ_144 : elZ Tryz.prog 144 = some 1 := by kernel_rfl
@[go_sem] theorem byT_144 : byT Tryz.prog 144 = 8 := by kernel_rfl
@[go_sem] theorem conc_144 : Tryz.prog.concrete 144 = true := by kernel_rfl
@[go_sem] theorem szT_145 : szT Tryz.prog 145 = some 1 := by kernel_rfl
@[go_sem] theorem aggT_145 : aggT Tryz.prog 145 = some false := by kernel_rfl
@[go_sem] theorem zeT_145 : zeT Tryz.prog 145 = some (.slice none 0 0) := by kernel_rfl
@[go_sem] theorem elZ_145 : elZ Tryz.prog 145 = some 1 := by kernel_rfl
@[go_sem] theorem byT_145 : byT Tryz.prog 145 = 24 := by kernel_rfl
@[go_sem] theorem elT_145 : elT Tryz.prog 145 = some 38 := by kernel_rfl
@[go_sem] theorem conc_145 : Tryz.prog.concrete 145 = true := by kernel_rfl
@[go_sem] theorem szT_146 : szT Tryz.prog 146 = some 1 := by kernel_rfl
@[go_sem] theorem aggT_146 : aggT Tryz.prog 146 = some false := by kernel_rfl
@[go_sem] theorem zeT_146 : zeT Tryz.prog 146 = some (.nilFunc) := by kernel_rfl
@[go_sem] theorem elZ_146 : elZ Tryz.prog 146 = some 1 := by kernel_rfl
@[go_sem] theorem byT_146 : byT Tryz.prog 146 = 8 := by kernel_rfl
@[go_sem] theorem conc_146 : Tryz.prog.concrete 146 = true := by kernel_rfl
@[go_sem] theorem szT_147 : szT Tryz.prog 147 = some 1 := by kernel_rfl
@[go_sem] theorem aggT_147 : aggT Tryz.prog 147 = some false := by kernel_rfl
@[go_sem] theorem zeT_147 : zeT Tryz.prog 147 = some (.nilFunc) := by kernel_rfl
@[go_sem] theorem elZ_147 : elZ Tryz.prog 147 = some 1 := by kernel_rfl
@[go_sem] theorem byT_147 : byT Tryz.prog 147 = 8 := by kernel_rfl
@[go_sem] theorem conc_147 : Tryz.prog.concrete 147 = true := by kernel_rfl
@[go_sem] theorem szT_148 : szT Tryz.prog 148 = some 1 := by kernel_rfl
@[go_sem] theorem aggT_148 : aggT Tryz.prog 148 = some false := by kernel_rfl
@[go_sem] theorem zeT_148 : zeT Tryz.prog 148 = some (.nilFunc) := by kernel_rfl
@[go_sem] theorem elZ_148 : elZ Tryz.prog 148 = some 1 := by kernel_rfl
@[go_sem] theorem byT_148 : byT Tryz.prog 148 = 8 := by kernel_rfl
@[go_sem] theorem conc_148 : Tryz.prog.concrete 148 = true := by kernel_rfl
@[go_sem] theorem szT_149 : szT Tryz.prog 149 = some 1 := by kernel_rfl
@[go_sem] theorem aggT_149 : aggT Tryz.prog 149 = some false := by kernel_rfl
@[go_sem] theorem zeT_149 : zeT Tryz.prog 149 = some (.nilFunc) := by kernel_rfl
@[go_sem] theorem elZ_149 : elZ Tryz.prog 149 = some 1 := by kernel_rfl
@[go_sem] theorem byT_149 : byT Tryz.prog 149 = 8 := by kernel_rfl
@[go_sem] theorem conc_149 : Tryz.prog.concrete 149 = true := by kernel_rfl
@[go_sem] theorem szT_150 : szT Tryz.prog 150 = some 1 := by kernel_rfl
@[go_sem] theorem aggT_150 : aggT Tryz.prog 150 = some false := by kernel_rfl
@[go_sem] theorem zeT_150 : zeT Tryz.prog 150 = some (.nilFunc) := by kernel_rfl
@[go_sem] theorem elZ_150 : elZ Tryz.prog 150 = some 1 := by kernel_rfl
@[go_sem] theorem byT_150 : byT Tryz.prog 150 = 8 := by kernel_rfl
@[go_sem] theorem conc_150 : Tryz.prog.concrete 150 = true := by kernel_rfl
@[go_sem] theorem szT_152 : szT Tryz.prog 152 = some 1 := by kernel_rfl
@[go_sem] theorem aggT_152 : aggT Tryz.prog 152 = some false := by kernel_rfl
@[go_sem] theorem zeT_152 : zeT Tryz.prog 152 = some (.nilFunc) := by kernel_rfl
@[go_sem] theorem elZ_152 : elZ Tryz.prog 152 = some 1 := by kernel_rfl
@[go_sem] theorem byT_152 : byT Tryz.prog 152 = 8 := by kernel_rfl
@[go_sem] theorem conc_152 : Tryz.prog.concrete 152 = true := by kernel_rfl
@[go_sem] theorem szT_153 : szT Tryz.prog 153 = some 1 := by kernel_rfl
@[go_sem] theorem aggT_153 : aggT Tryz.prog 153 = some false := by kernel_rfl
@[go_sem] theorem zeT_153 : zeT Tryz.prog 153 = some (.nilFunc) := by kernel_rfl
@[go_sem] theorem elZ_153 : elZ Tryz.prog 153 = some 1 := by kernel_rfl
@[go_sem] theorem byT_153 : byT Tryz.prog 153 = 8 := by kernel_rfl
@[go_sem] theorem conc_153 : Tryz.prog.concrete 153 = true := by kernel_rfl
@[go_sem] theorem szT_154 : szT Tryz.prog 154 = some 1 := by kernel_rfl
@[go_sem] theorem aggT_154 : aggT Tryz.prog 154 = some false := by kernel_rfl
@[go_sem] theorem zeT_154 : zeT Tryz.prog 154 = some (.nilFunc) := by kernel_rfl
@[go_sem] theorem elZ_154 : elZ Tryz.prog 154 = some 1 := by kernel_rfl
@[go_sem] theorem byT_154 : byT Tryz.prog 154 = 8 := by kernel_rfl
@[go_sem] theorem conc_154 : Tryz.prog.concrete 154 = true := by kernel_rfl
@[go_sem] theorem szT_155 : szT Tryz.prog 155 = some 1 := by kernel_rfl
@[go_sem] theorem aggT_155 : aggT Tryz.prog 155 = some false := by kernel_rfl
@[go_sem] theorem zeT_155 : zeT Tryz.prog 155 = some (.nilFunc) := by kernel_rfl
@[go_sem] theorem elZ_155 : elZ Tryz.prog 155 = some 1 := by kernel_rfl
@[go_sem] theorem byT_155 : byT Tryz.prog 155 = 8 := by kernel_rfl
@[go_sem] theorem conc_155 : Tryz.prog.concrete 155 = true := by kernel_rfl
@[go_sem] theorem szT_156 : szT Tryz.prog 156 = some 1 := by kernel_rfl
@[go_sem] theorem aggT_156 : aggT Tryz.prog 156 = some false := by kernel_rfl
@[go_sem] theorem zeT_156 : zeT Tryz.prog 156 = some (.nilFunc) := by kernel_rfl
@[go_sem] theorem elZ_156 : elZ Tryz.prog 156 = some 1 := by kernel_rfl
@[go_sem] theorem byT_156 : byT Tryz.prog 156 = 8 := by kernel_rfl
@[go_sem] theorem conc_156 : Tryz.prog.concrete 156 = true := by kernel_rfl
@[go_sem] theorem szT_157 : szT Tryz.prog 157 = some 1 := by kernel_rfl
@[go_sem] theorem aggT_157 : aggT Tryz.prog 157 = some false := by kernel_rfl
@[go_sem] theorem zeT_157 : zeT Tryz.prog 157 = some (.nilFunc) := by kernel_rfl
@[go_sem] theorem elZ_157 : elZ Tryz.prog 157 = some 1 := by kernel_rfl
@[go_sem] theorem byT_157 : byT Tryz.prog 157 = 8 := by kernel_rfl
@[go_sem] theorem conc_157 : Tryz.prog.concrete 157 = true := by kernel_rfl
@[go_sem] theorem szT_158 : szT Tryz.prog 158 = some 5 := by kernel_rfl
@[go_sem] theorem aggT_158 : aggT Tryz.prog 158 = some true := by kernel_rfl
@[go_sem] theorem offT_158x0 : offT Tryz.prog 158 0 = some 0 := by kernel_rfl
@[go_sem] theorem offT_158x1 : offT Tryz.prog 158 1 = some 1 := by kernel_rfl
@[go_sem] theorem plcs_158 : plcs Tryz.prog 158 = some [(0, 1), (1, 4)] := by kernel_rfl
@[go_sem] theorem zeT_158 : zeT Tryz.prog 158 = some (.agg #[.int .i64 0, .int .i64 0, .int .i64 0, .int .i64 0, .int .i64 0]) := by kernel_rfl
@[go_sem] theorem elZ_158 : elZ Tryz.prog 158 = some 5 := by kernel_rfl
@[go_sem] theorem byT_158 : byT Tryz.prog 158 = 40 := by kernel_rfl
@[go_sem] theorem conc_158 : Tryz.prog.concrete 158 = true := by kernel_rfl
@[go_sem] theorem eqg_158 : Program.eqGuardType Tryz.prog (Program.depth Tryz.prog) 158 = false := by kernel_rfl
@[go_sem] theorem stood_158 : Tryz.prog.stoodInHeld 158 = false := by kernel_rfl
@[go_sem] theorem szT_159 : szT Tryz.prog 159 = some 5 := by kernel_rfl
@[go_sem] theorem aggT_159 : aggT Tryz.prog 159 = some true := by kernel_rfl
@[go_sem] theorem offT_159x0 : offT Tryz.prog 159 0 = some 0 := by kernel_rfl
@[go_sem] theorem offT_159x1 : offT Tryz.prog 159 1 = some 1 := by kernel_rfl
@[go_sem] theorem plcs_159 : plcs Tryz.prog 159 = some [(0, 1), (1, 4)] := by kernel_rfl
@[go_sem] theorem zeT_159 : zeT Tryz.prog 159 = some (.agg #[.int .i64 0, .int .i64 0, .int .i64 0, .int .i64 0, .int .i64 0]) := by kernel_rfl
@[go_sem] theorem elZ_159 : elZ Tryz.prog 159 = some 5 := by kernel_rfl
@[go_sem] theorem byT_159 : byT Tryz.prog 159 = 40 := by kernel_rfl
@[go_sem] theorem conc_159 : Tryz.prog.concrete 159 = true := by kernel_rfl
@[go_sem] theorem eqg_159 : Program.eqGuardType Tryz.prog (Program.depth Tryz.prog) 159 = false := by kernel_rfl
@[go_sem] theorem stood_159 : Tryz.prog.stoodInHeld 159 = false := by kernel_rfl
@[go_sem] theorem szT_160 : szT Tryz.prog 160 = some 1 := by kernel_rfl
@[go_sem] theorem aggT_160 : aggT Tryz.prog 160 = some false := by kernel_rfl
@[go_sem] theorem zeT_160 : zeT Tryz.prog 160 = some (.nilFunc) := by kernel_rfl
@[go_sem] theorem elZ_160 : elZ Tryz.prog 160 = some 1 := by kernel_rfl
@[go_sem] theorem byT_160 : byT Tryz.prog 160 = 8 := by kernel_rfl
@[go_sem] theorem conc_160 : Tryz.prog.concrete 160 = true := by kernel_rfl
@[go_sem] theorem szT_161 : szT Tryz.prog 161 = some 1 := by kernel_rfl
@[go_sem] theorem aggT_161 : aggT Tryz.prog 161 = some false := by kernel_rfl
@[go_sem] theorem zeT_161 : zeT Tryz.prog 161 = some (.nilFunc) := by kernel_rfl
@[go_sem] theorem elZ_161 : elZ Tryz.prog 161 = some 1 := by kernel_rfl
@[go_sem] theorem byT_161 : byT Tryz.prog 161 = 8 := by kernel_rfl
@[go_sem] theorem conc_161 : Tryz.prog.concrete 161 = true := by kernel_rfl
@[go_sem] theorem szT_162 : szT Tryz.prog 162 = some 1 := by kernel_rfl
@[go_sem] theorem aggT_162 : aggT Tryz.prog 162 = some false := by kernel_rfl
@[go_sem] theorem zeT_162 : zeT Tryz.prog 162 = some (.nilFunc) := by kernel_rfl
@[go_sem] theorem elZ_162 : elZ Tryz.prog 162 = some 1 := by kernel_rfl
@[go_sem] theorem byT_162 : byT Tryz.prog 162 = 8 := by kernel_rfl
@[go_sem] theorem conc_162 : Tryz.prog.concrete 162 = true := by kernel_rfl
@[go_sem] theorem szT_163 : szT Tryz.prog 163 = some 1 := by kernel_rfl
@[go_sem] theorem aggT_163 : aggT Tryz.prog 163 = some false := by kernel_rfl
@[go_sem] theorem zeT_163 : zeT Tryz.prog 163 = some (.nilFunc) := by kernel_rfl
@[go_sem] theorem elZ_163 : elZ Tryz.prog 163 = some 1 := by kernel_rfl
@[go_sem] theorem byT_163 : byT Tryz.prog 163 = 8 := by kernel_rfl
@[go_sem] theorem conc_163 : Tryz.prog.concrete 163 = true := by kernel_rfl
@[go_sem] theorem szT_164 : szT Tryz.prog 164 = some 1 := by kernel_rfl
@[go_sem] theorem aggT_164 : aggT Tryz.prog 164 = some false := by kernel_rfl
@[go_sem] theorem zeT_164 : zeT Tryz.prog 164 = some (.nilFunc) := by kernel_rfl
@[go_sem] theorem elZ_164 : elZ Tryz.prog 164 = some 1 := by kernel_rfl
@[go_sem] theorem byT_164 : byT Tryz.prog 164 = 8 := by kernel_rfl
@[go_sem] theorem conc_164 : Tryz.prog.concrete 164 = true := by kernel_rfl
@[go_sem] theorem szT_165 : szT Tryz.prog 165 = some 1 := by kernel_rfl
@[go_sem] theorem aggT_165 : aggT Tryz.prog 165 = some false := by kernel_rfl
@[go_sem] theorem zeT_165 : zeT Tryz.prog 165 = some (.nilFunc) := by kernel_rfl
@[go_sem] theorem elZ_165 : elZ Tryz.prog 165 = some 1 := by kernel_rfl
@[go_sem] theorem byT_165 : byT Tryz.prog 165 = 8 := by kernel_rfl
@[go_sem] theorem conc_165 : Tryz.prog.concrete 165 = true := by kernel_rfl
@[go_sem] theorem szT_166 : szT Tryz.prog 166 = some 1 := by kernel_rfl
@[go_sem] theorem aggT_166 : aggT Tryz.prog 166 = some false := by kernel_rfl
@[go_sem] theorem zeT_166 : zeT Tryz.prog 166 = some (.int .u64 0) := by kernel_rfl
@[go_sem] theorem elZ_166 : elZ Tryz.prog 166 = some 1 := by kernel_rfl
@[go_sem] theorem byT_166 : byT Tryz.prog 166 = 8 := by kernel_rfl
@[go_sem] theorem conc_166 : Tryz.prog.concrete 166 = true := by kernel_rfl
@[go_sem] theorem szT_167 : szT Tryz.prog 167 = some 1 := by kernel_rfl
@[go_sem] theorem aggT_167 : aggT Tryz.prog 167 = some false := by kernel_rfl
@[go_sem] theorem zeT_167 : zeT Tryz.prog 167 = some (.nilFunc) := by kernel_rfl
@[go_sem] theorem elZ_167 : elZ Tryz.prog 167 = some 1 := by kernel_rfl
@[go_sem] theorem byT_167 : byT Tryz.prog 167 = 8 := by kernel_rfl
@[go_sem] theorem conc_167 : Tryz.prog.concrete 167 = true := by kernel_rfl
@[go_sem] theorem szT_168 : szT Tryz.prog 168 = some 10 := by kernel_rfl
@[go_sem] theorem aggT_168 : aggT Tryz.prog 168 = some true := by kernel_rfl
@[go_sem] theorem offT_168x0 : offT Tryz.prog 168 0 = some 0 := by kernel_rfl
@[go_sem] theorem offT_168x1 : offT Tryz.prog 168 1 = some 7 := by kernel_rfl
@[go_sem] theorem offT_168x2 : offT Tryz.prog 168 2 = some 8 := by kernel_rfl
@[go_sem] theorem offT_168x3 : offT Tryz.prog 168 3 = some 9 := by kernel_rfl
@[go_sem] theorem plcs_168 : plcs Tryz.prog 168 = some [(0, 7), (7, 1), (8, 1), (9, 1)] := by kernel_rfl
@[go_sem] theorem zeT_168 : zeT Tryz.prog 168 = some (.agg #[.int .u8 0, .int .i64 0, .int .i64 0, .int .i64 0, .int .i64 0, .int .i64 0, .slice none 0 0, .slice none 0 0, .int .i64 0, .int .i64 0]) := by kernel_rfl
@[go_sem] theorem elZ_168 : elZ Tryz.prog 168 = some 10 := by kernel_rfl
@[go_sem] theorem byT_168 : byT Tryz.prog 168 = 112 := by kernel_rfl
@[go_sem] theorem conc_168 : Tryz.prog.concrete 168 = true := by kernel_rfl
@[go_sem] theorem szT_169 : szT Tryz.prog 169 = some 10 := by kernel_rfl
@[go_sem] theorem aggT_169 : aggT Tryz.prog 169 = some true := by kernel_rfl
@[go_sem] theorem offT_169x0 : offT Tryz.prog 169 0 = some 0 := by kernel_rfl
@[go_sem] theorem offT_169x1 : offT Tryz.prog 169 1 = some 7 := by kernel_rfl
@[go_sem] theorem offT_169x2 : offT Tryz.prog 169 2 = some 8 := by kernel_rfl
@[go_sem] theorem offT_169x3 : offT Tryz.prog 169 3 = some 9 := by kernel_rfl
@[go_sem] theorem plcs_169 : plcs Tryz.prog 169 = some [(0, 7), (7, 1), (8, 1), (9, 1)] := by kernel_rfl
@[go_sem] theorem zeT_169 : zeT Tryz.prog 169 = some (.agg #[.int .u8 0, .int .i64 0, .int .i64 0, .int .i64 0, .int .i64 0, .int .i64 0, .slice none 0 0, .slice none 0 0, .int .i64 0, .int .i64 0]) := by kernel_rfl
@[go_sem] theorem elZ_169 : elZ Tryz.prog 169 = some 10 := by kernel_rfl
@[go_sem] theorem byT_169 : byT Tryz.prog 169 = 112 := by kernel_rfl
@[go_sem] theorem conc_169 : Tryz.prog.concrete 169 = true := by kernel_rfl
@[go_sem] theorem szT_171 : szT Tryz.prog 171 = some 1 := by kernel_rfl
@[go_sem] theorem aggT_171 : aggT Tryz.prog 171 = some false := by kernel_rfl
@[go_sem] theorem zeT_171 : zeT Tryz.prog 171 = some (.nilFunc) := by kernel_rfl
@[go_sem] theorem elZ_171 : elZ Tryz.prog 171 = some 1 := by kernel_rfl
@[go_sem] theorem byT_171 : byT Tryz.prog 171 = 8 := by kernel_rfl
@[go_sem] theorem conc_171 : Tryz.prog.concrete 171 = true := by kernel_rfl
@[go_sem] theorem szT_172 : szT Tryz.prog 172 = some 1 := by kernel_rfl
@[go_sem] theorem aggT_172 : aggT Tryz.prog 172 = some false := by kernel_rfl
@[go_sem] theorem zeT_172 : zeT Tryz.prog 172 = some (.nilFunc) := by kernel_rfl
@[go_sem] theorem elZ_172 : elZ Tryz.prog 172 = some 1 := by kernel_rfl
@[go_sem] theorem byT_172 : byT Tryz.prog 172 = 8 := by kernel_rfl
@[go_sem] theorem conc_172 : Tryz.prog.concrete 172 = true := by kernel_rfl
@[go_sem] theorem szT_173 : szT Tryz.prog 173 = some 1 := by kernel_rfl
@[go_sem] theorem aggT_173 : aggT Tryz.prog 173 = some false := by kernel_rfl
@[go_sem] theorem zeT_173 : zeT Tryz.prog 173 = some (.nilFunc) := by kernel_rfl
@[go_sem] theorem elZ_173 : elZ Tryz.prog 173 = some 1 := by kernel_rfl
@[go_sem] theorem byT_173 : byT Tryz.prog 173 = 8 := by kernel_rfl
@[go_sem] theorem conc_173 : Tryz.prog.concrete 173 = true := by kernel_rfl
@[go_sem] theorem szT_174 : szT Tryz.prog 174 = some 1 := by kernel_rfl
@[go_sem] theorem aggT_174 : aggT Tryz.prog 174 = some false := by kernel_rfl
@[go_sem] theorem zeT_174 : zeT Tryz.prog 174 = some (.nilFunc) := by kernel_rfl
@[go_sem] theorem elZ_174 : elZ Tryz.prog 174 = some 1 := by kernel_rfl
@[go_sem] theorem byT_174 : byT Tryz.prog 174 = 8 := by kernel_rfl
@[go_sem] theorem conc_174 : Tryz.prog.concrete 174 = true := by kernel_rfl
@[go_sem] theorem szT_175 : szT Tryz.prog 175 = some 1 := by kernel_rfl
@[go_sem] theorem aggT_175 : aggT Tryz.prog 175 = some false := by kernel_rfl
@[go_sem] theorem zeT_175 : zeT Tryz.prog 175 = some (.nilFunc) := by kernel_rfl
@[go_sem] theorem elZ_175 : elZ Tryz.prog 175 = some 1 := by kernel_rfl
@[go_sem] theorem byT_175 : byT Tryz.prog 175 = 8 := by kernel_rfl
@[go_sem] theorem conc_175 : Tryz.prog.concrete 175 = true := by kernel_rfl
@[go_sem] theorem szT_176 : szT Tryz.prog 176 = some 1 := by kernel_rfl
@[go_sem] theorem aggT_176 : aggT Tryz.prog 176 = some false := by kernel_rfl
@[go_sem] theorem zeT_176 : zeT Tryz.prog 176 = some (.nilFunc) := by kernel_rfl
@[go_sem] theorem elZ_176 : elZ Tryz.prog 176 = some 1 := by kernel_rfl
@[go_sem] theorem byT_176 : byT Tryz.prog 176 = 8 := by kernel_rfl
@[go_sem] theorem conc_176 : Tryz.prog.concrete 176 = true := by kernel_rfl
@[go_sem] theorem szT_177 : szT Tryz.prog 177 = some 1 := by kernel_rfl
@[go_sem] theorem aggT_177 : aggT Tryz.prog 177 = some false := by kernel_rfl
@[go_sem] theorem zeT_177 : zeT Tryz.prog 177 = some (.nilFunc) := by kernel_rfl
@[go_sem] theorem elZ_177 : elZ Tryz.prog 177 = some 1 := by kernel_rfl
@[go_sem] theorem byT_177 : byT Tryz.prog 177 = 8 := by kernel_rfl
@[go_sem] theorem conc_177 : Tryz.prog.concrete 177 = true := by kernel_rfl
@[go_sem] theorem szT_178 : szT Tryz.prog 178 = some 1 := by kernel_rfl
@[go_sem] theorem aggT_178 : aggT Tryz.prog 178 = some false := by kernel_rfl
@[go_sem] theorem zeT_178 : zeT Tryz.prog 178 = some (.nilIface) := by kernel_rfl
@[go_sem] theorem elZ_178 : elZ Tryz.prog 178 = some 1 := by kernel_rfl
@[go_sem] theorem byT_178 : byT Tryz.prog 178 = 16 := by kernel_rfl
@[go_sem] theorem szT_179 : szT Tryz.prog 179 = some 1 := by kernel_rfl
@[go_sem] theorem aggT_179 : aggT Tryz.prog 179 = some false := by kernel_rfl
@[go_sem] theorem zeT_179 : zeT Tryz.prog 179 = some (.nilIface) := by kernel_rfl
@[go_sem] theorem elZ_179 : elZ Tryz.prog 179 = some 1 := by kernel_rfl
@[go_sem] theorem byT_179 : byT Tryz.prog 179 = 16 := by kernel_rfl
@[go_sem] theorem szT_180 : szT Tryz.prog 180 = some 1 := by kernel_rfl
@[go_sem] theorem aggT_180 : aggT Tryz.prog 180 = some false := by kernel_rfl
@[go_sem] theorem zeT_180 : zeT Tryz.prog 180 = some (.nilFunc) := by kernel_rfl
@[go_sem] theorem elZ_180 : elZ Tryz.prog 180 = some 1 := by kernel_rfl
@[go_sem] theorem byT_180 : byT Tryz.prog 180 = 8 := by kernel_rfl
@[go_sem] theorem conc_180 : Tryz.prog.concrete 180 = true := by kernel_rfl
@[go_sem] theorem szT_181 : szT Tryz.prog 181 = some 1 := by kernel_rfl
@[go_sem] theorem aggT_181 : aggT Tryz.prog 181 = some false := by kernel_rfl
@[go_sem] theorem zeT_181 : zeT Tryz.prog 181 = some (.nilFunc) := by kernel_rfl
@[go_sem] theorem elZ_181 : elZ Tryz.prog 181 = some 1 := by kernel_rfl
@[go_sem] theorem byT_181 : byT Tryz.prog 181 = 8 := by kernel_rfl
@[go_sem] theorem conc_181 : Tryz.prog.concrete 181 = true := by kernel_rfl
@[go_sem] theorem szT_182 : szT Tryz.prog 182 = some 1 := by kernel_rfl
@[go_sem] theorem aggT_182 : aggT Tryz.prog 182 = some false := by kernel_rfl
@[go_sem] theorem zeT_182 : zeT Tryz.prog 182 = some (.nilFunc) := by kernel_rfl
@[go_sem] theorem elZ_182 : elZ Tryz.prog 182 = some 1 := by kernel_rfl
@[go_sem] theorem byT_182 : byT Tryz.prog 182 = 8 := by kernel_rfl
@[go_sem] theorem conc_182 : Tryz.prog.concrete 182 = true := by kernel_rfl
@[go_sem] theorem szT_183 : szT Tryz.prog 183 = some 1 := by kernel_rfl
@[go_sem] theorem aggT_183 : aggT Tryz.prog 183 = some false := by kernel_rfl
@[go_sem] theorem zeT_183 : zeT Tryz.prog 183 = some (.nilFunc) := by kernel_rfl
@[go_sem] theorem elZ_183 : elZ Tryz.prog 183 = some 1 := by kernel_rfl
@[go_sem] theorem byT_183 : byT Tryz.prog 183 = 8 := by kernel_rfl
@[go_sem] theorem conc_183 : Tryz.prog.concrete 183 = true := by kernel_rfl
@[go_sem] theorem szT_184 : szT Tryz.prog 184 = some 1 := by kernel_rfl
@[go_sem] theorem aggT_184 : aggT Tryz.prog 184 = some false := by kernel_rfl
@[go_sem] theorem zeT_184 : zeT Tryz.prog 184 = some (.nilFunc) := by kernel_rfl
@[go_sem] theorem elZ_184 : elZ Tryz.prog 184 = some 1 := by kernel_rfl
@[go_sem] theorem byT_184 : byT Tryz.prog 184 = 8 := by kernel_rfl
@[go_sem] theorem conc_184 : Tryz.prog.concrete 184 = true := by kernel_rfl
@[go_sem] theorem szT_185 : szT Tryz.prog 185 = some 1 := by kernel_rfl
@[go_sem] theorem aggT_185 : aggT Tryz.prog 185 = some false := by kernel_rfl
@[go_sem] theorem zeT_185 : zeT Tryz.prog 185 = some (.nilFunc) := by kernel_rfl
@[go_sem] theorem elZ_185 : elZ Tryz.prog 185 = some 1 := by kernel_rfl
@[go_sem] theorem byT_185 : byT Tryz.prog 185 = 8 := by kernel_rfl
@[go_sem] theorem conc_185 : Tryz.prog.concrete 185 = true := by kernel_rfl
@[go_sem] theorem szT_186 : szT Tryz.prog 186 = some 1 := by kernel_rfl
@[go_sem] theorem aggT_186 : aggT Tryz.prog 186 = some false := by kernel_rfl
@[go_sem] theorem zeT_186 : zeT Tryz.prog 186 = some (.nilFunc) := by kernel_rfl
@[go_sem] theorem elZ_186 : elZ Tryz.prog 186 = some 1 := by kernel_rfl
@[go_sem] theorem byT_186 : byT Tryz.prog 186 = 8 := by kernel_rfl
@[go_sem] theorem conc_186 : Tryz.prog.concrete 186 = true := by kernel_rfl
@[go_sem] theorem szT_187 : szT Tryz.prog 187 = some 1 := by kernel_rfl
@[go_sem] theorem aggT_187 : aggT Tryz.prog 187 = some false := by kernel_rfl
@[go_sem] theorem zeT_187 : zeT Tryz.prog 187 = some (.nilFunc) := by kernel_rfl
@[go_sem] theorem elZ_187 : elZ Tryz.prog 187 = some 1 := by kernel_rfl
@[go_sem] theorem byT_187 : byT Tryz.prog 187 = 8 := by kernel_rfl
@[go_sem] theorem conc_187 : Tryz.prog.concrete 187 = true := by kernel_rfl
@[go_sem] theorem szT_188 : szT Tryz.prog 188 = some 1 := by kernel_rfl
@[go_sem] theorem aggT_188 : aggT Tryz.prog 188 = some false := by kernel_rfl
@[go_sem] theorem zeT_188 : zeT Tryz.prog 188 = some (.nilFunc) := by kernel_rfl
@[go_sem] theorem elZ_188 : elZ Tryz.prog 188 = some 1 := by kernel_rfl
@[go_sem] theorem byT_188 : byT Tryz.prog 188 = 8 := by kernel_rfl
@[go_sem] theorem conc_188 : Tryz.prog.concrete 188 = true := by kernel_rfl
@[go_sem] theorem szT_189 : szT Tryz.prog 189 = some 1 := by kernel_rfl
@[go_sem] theorem aggT_189 : aggT Tryz.prog 189 = some false := by kernel_rfl
@[go_sem] theorem zeT_189 : zeT Tryz.prog 189 = some (.int .i64 0) := by kernel_rfl
@[go_sem] theorem elZ_189 : elZ Tryz.prog 189 = some 1 := by kernel_rfl
@[go_sem] theorem byT_189 : byT Tryz.prog 189 = 8 := by kernel_rfl
@[go_sem] theorem conc_189 : Tryz.prog.concrete 189 = true := by kernel_rfl
@[go_sem] theorem szT_191 : szT Tryz.prog 191 = some 1 := by kernel_rfl
@[go_sem] theorem aggT_191 : aggT Tryz.prog 191 = some false := by kernel_rfl
@[go_sem] theorem zeT_191 : zeT Tryz.prog 191 = some (.nilFunc) := by kernel_rfl
@[go_sem] theorem elZ_191 : elZ Tryz.prog 191 = some 1 := by kernel_rfl
@[go_sem] theorem byT_191 : byT Tryz.prog 191 = 8 := by kernel_rfl
@[go_sem] theorem conc_191 : Tryz.prog.concrete 191 = true := by kernel_rfl
@[go_sem] theorem szT_192 : szT Tryz.prog 192 = some 1 := by kernel_rfl
@[go_sem] theorem aggT_192 : aggT Tryz.prog 192 = some false := by kernel_rfl
@[go_sem] theorem zeT_192 : zeT Tryz.prog 192 = some (.nilFunc) := by kernel_rfl
@[go_sem] theorem elZ_192 : elZ Tryz.prog 192 = some 1 := by kernel_rfl
@[go_sem] theorem byT_192 : byT Tryz.prog 192 = 8 := by kernel_rfl
@[go_sem] theorem conc_192 : Tryz.prog.concrete 192 = true := by kernel_rfl
@[go_sem] theorem szT_193 : szT Tryz.prog 193 = some 1 := by kernel_rfl
@[go_sem] theorem aggT_193 : aggT Tryz.prog 193 = some false := by kernel_rfl
@[go_sem] theorem zeT_193 : zeT Tryz.prog 193 = some (.nilFunc) := by kernel_rfl
@[go_sem] theorem elZ_193 : elZ Tryz.prog 193 = some 1 := by kernel_rfl
@[go_sem] theorem byT_193 : byT Tryz.prog 193 = 8 := by kernel_rfl
@[go_sem] theorem conc_193 : Tryz.prog.concrete 193 = true := by kernel_rfl
@[go_sem] theorem szT_194 : szT Tryz.prog 194 = some 1 := by kernel_rfl
@[go_sem] theorem aggT_194 : aggT Tryz.prog 194 = some false := by kernel_rfl
@[go_sem] theorem zeT_194 : zeT Tryz.prog 194 = some (.nilFunc) := by kernel_rfl
@[go_sem] theorem elZ_194 : elZ Tryz.prog 194 = some 1 := by kernel_rfl
@[go_sem] theorem byT_194 : byT Tryz.prog 194 = 8 := by kernel_rfl
@[go_sem] theorem conc_194 : Tryz.prog.concrete 194 = true := by kernel_rfl
@[go_sem] theorem szT_195 : szT Tryz.prog 195 = some 1 := by kernel_rfl
@[go_sem] theorem aggT_195 : aggT Tryz.prog 195 = some false := by kernel_rfl
@[go_sem] theorem zeT_195 : zeT Tryz.prog 195 = some (.nilFunc) := by kernel_rfl
@[go_sem] theorem elZ_195 : elZ Tryz.prog 195 = some 1 := by kernel_rfl
@[go_sem] theorem byT_195 : byT Tryz.prog 195 = 8 := by kernel_rfl
@[go_sem] theorem conc_195 : Tryz.prog.concrete 195 = true := by kernel_rfl
@[go_sem] theorem szT_196 : szT Tryz.prog 196 = some 1 := by kernel_rfl
@[go_sem] theorem aggT_196 : aggT Tryz.prog 196 = some false := by kernel_rfl
@[go_sem] theorem zeT_196 : zeT Tryz.prog 196 = some (.int .u32 0) := by kernel_rfl
@[go_sem] theorem elZ_196 : elZ Tryz.prog 196 = some 1 := by kernel_rfl
@[go_sem] theorem byT_196 : byT Tryz.prog 196 = 4 := by kernel_rfl
@[go_sem] theorem conc_196 : Tryz.prog.concrete 196 = true := by kernel_rfl
@[go_sem] theorem szT_197 : szT Tryz.prog 197 = some 1 := by kernel_rfl
@[go_sem] theorem aggT_197 : aggT Tryz.prog 197 = some false := by kernel_rfl
@[go_sem] theorem zeT_197 : zeT Tryz.prog 197 = some (.nilFunc) := by kernel_rfl
@[go_sem] theorem elZ_197 : elZ Tryz.prog 197 = some 1 := by kernel_rfl
@[go_sem] theorem byT_197 : byT Tryz.prog 197 = 8 := by kernel_rfl
@[go_sem] theorem conc_197 : Tryz.prog.concrete 197 = true := by kernel_rfl
@[go_sem] theorem szT_198 : szT Tryz.prog 198 = some 1 := by kernel_rfl
@[go_sem] theorem aggT_198 : aggT Tryz.prog 198 = some false := by kernel_rfl
@[go_sem] theorem zeT_198 : zeT Tryz.prog 198 = some (.int .u64 0) := by kernel_rfl
@[go_sem] theorem elZ_198 : elZ Tryz.prog 198 = some 1 := by kernel_rfl
@[go_sem] theorem byT_198 : byT Tryz.prog 198 = 8 := by kernel_rfl
@[go_sem] theorem conc_198 : Tryz.prog.concrete 198 = true := by kernel_rfl
@[go_sem] theorem szT_199 : szT Tryz.prog 199 = some 1 := by kernel_rfl
@[go_sem] theorem aggT_199 : aggT Tryz.prog 199 = some false := by kernel_rfl
@[go_sem] theorem zeT_199 : zeT Tryz.prog 199 = some (.nilFunc) := by kernel_rfl
@[go_sem] theorem elZ_199 : elZ Tryz.prog 199 = some 1 := by kernel_rfl
@[go_sem] theorem byT_199 : byT Tryz.prog 199 = 8 := by kernel_rfl
@[go_sem] theorem conc_199 : Tryz.prog.concrete 199 = true := by kernel_rfl
@[go_sem] theorem szT_200 : szT Tryz.prog 200 = some 1 := by kernel_rfl
@[go_sem] theorem aggT_200 : aggT Tryz.prog 200 = some false := by kernel_rfl
@[go_sem] theorem zeT_200 : zeT Tryz.prog 200 = some (.nilFunc) := by kernel_rfl
@[go_sem] theorem elZ_200 : elZ Tryz.prog 200 = some 1 := by kernel_rfl
@[go_sem] theorem byT_200 : byT Tryz.prog 200 = 8 := by kernel_rfl
@[go_sem] theorem conc_200 : Tryz.prog.concrete 200 = true := by kernel_rfl
@[go_sem] theorem szT_201 : szT Tryz.prog 201 = some 1 := by kernel_rfl
@[go_sem] theorem aggT_201 : aggT Tryz.prog 201 = some false := by kernel_rfl
@[go_sem] theorem zeT_201 : zeT Tryz.prog 201 = some (.nilFunc) := by kernel_rfl
@[go_sem] theorem elZ_201 : elZ Tryz.prog 201 = some 1 := by kernel_rfl
@[go_sem] theorem byT_201 : byT Tryz.prog 201 = 8 := by kernel_rfl
@[go_sem] theorem conc_201 : Tryz.prog.concrete 201 = true := by kernel_rfl
@[go_sem] theorem szT_202 : szT Tryz.prog 202 = some 1 := by kernel_rfl
@[go_sem] theorem aggT_202 : aggT Tryz.prog 202 = some false := by kernel_rfl
@[go_sem] theorem zeT_202 : zeT Tryz.prog 202 = some (.pointer none) := by kernel_rfl
@[go_sem] theorem elZ_202 : elZ Tryz.prog 202 = some 1 := by kernel_rfl
@[go_sem] theorem byT_202 : byT Tryz.prog 202 = 8 := by kernel_rfl
@[go_sem] theorem conc_202 : Tryz.prog.concrete 202 = true := by kernel_rfl
@[go_sem] theorem szT_203 : szT Tryz.prog 203 = some 2 := by kernel_rfl
@[go_sem] theorem aggT_203 : aggT Tryz.prog 203 = some true := by kernel_rfl
@[go_sem] theorem offT_203x0 : offT Tryz.prog 203 0 = some 0 := by kernel_rfl
@[go_sem] theorem offT_203x1 : offT Tryz.prog 203 1 = some 1 := by kernel_rfl
@[go_sem] theorem plcs_203 : plcs Tryz.prog 203 = some [(0, 1), (1, 1)] := by kernel_rfl
@[go_sem] theorem zeT_203 : zeT Tryz.prog 203 = some (.agg #[.int .i64 0, .slice none 0 0]) := by kernel_rfl
@[go_sem] theorem elZ_203 : elZ Tryz.prog 203 = some 2 := by kernel_rfl
@[go_sem] theorem byT_203 : byT Tryz.prog 203 = 32 := by kernel_rfl
@[go_sem] theorem conc_203 : Tryz.prog.concrete 203 = true := by kernel_rfl
@[go_sem] theorem szT_204 : szT Tryz.prog 204 = some 2 := by kernel_rfl
@[go_sem] theorem aggT_204 : aggT Tryz.prog 204 = some true := by kernel_rfl
@[go_sem] theorem offT_204x0 : offT Tryz.prog 204 0 = some 0 := by kernel_rfl
@[go_sem] theorem offT_204x1 : offT Tryz.prog 204 1 = some 1 := by kernel_rfl
@[go_sem] theorem plcs_204 : plcs Tryz.prog 204 = some [(0, 1), (1, 1)] := by kernel_rfl
@[go_sem] theorem zeT_204 : zeT Tryz.prog 204 = some (.agg #[.int .i64 0, .slice none 0 0]) := by kernel_rfl
@[go_sem] theorem elZ_204 : elZ Tryz.prog 204 = some 2 := by kernel_rfl
@[go_sem] theorem byT_204 : byT Tryz.prog 204 = 32 := by kernel_rfl
@[go_sem] theorem conc_204 : Tryz.prog.concrete 204 = true := by kernel_rfl
@[go_sem] theorem szT_205 : szT Tryz.prog 205 = some 1 := by kernel_rfl
@[go_sem] theorem aggT_205 : aggT Tryz.prog 205 = some false := by kernel_rfl
@[go_sem] theorem zeT_205 : zeT Tryz.prog 205 = some (.nilFunc) := by kernel_rfl
@[go_sem] theorem elZ_205 : elZ Tryz.prog 205 = some 1 := by kernel_rfl
@[go_sem] theorem byT_205 : byT Tryz.prog 205 = 8 := by kernel_rfl
@[go_sem] theorem conc_205 : Tryz.prog.concrete 205 = true := by kernel_rfl
@[go_sem] theorem szT_206 : szT Tryz.prog 206 = some 1 := by kernel_rfl
@[go_sem] theorem aggT_206 : aggT Tryz.prog 206 = some false := by kernel_rfl
@[go_sem] theorem zeT_206 : zeT Tryz.prog 206 = some (.nilFunc) := by kernel_rfl
@[go_sem] theorem elZ_206 : elZ Tryz.prog 206 = some 1 := by kernel_rfl
@[go_sem] theorem byT_206 : byT Tryz.prog 206 = 8 := by kernel_rfl
@[go_sem] theorem conc_206 : Tryz.prog.concrete 206 = true := by kernel_rfl
@[go_sem] theorem szT_207 : szT Tryz.prog 207 = some 1 := by kernel_rfl
@[go_sem] theorem aggT_207 : aggT Tryz.prog 207 = some false := by kernel_rfl
@[go_sem] theorem zeT_207 : zeT Tryz.prog 207 = some (.nilFunc) := by kernel_rfl
@[go_sem] theorem elZ_207 : elZ Tryz.prog 207 = some 1 := by kernel_rfl
@[go_sem] theorem byT_207 : byT Tryz.prog 207 = 8 := by kernel_rfl
@[go_sem] theorem conc_207 : Tryz.prog.concrete 207 = true := by kernel_rfl
@[go_sem] theorem szT_208 : szT Tryz.prog 208 = some 1 := by kernel_rfl
@[go_sem] theorem aggT_208 : aggT Tryz.prog 208 = some false := by kernel_rfl
@[go_sem] theorem zeT_208 : zeT Tryz.prog 208 = some (.nilFunc) := by kernel_rfl
@[go_sem] theorem elZ_208 : elZ Tryz.prog 208 = some 1 := by kernel_rfl
@[go_sem] theorem byT_208 : byT Tryz.prog 208 = 8 := by kernel_rfl
@[go_sem] theorem conc_208 : Tryz.prog.concrete 208 = true := by kernel_rfl
@[go_sem] theorem szT_209 : szT Tryz.prog 209 = some 1 := by kernel_rfl
@[go_sem] theorem aggT_209 : aggT Tryz.prog 209 = some false := by kernel_rfl
@[go_sem] theorem zeT_209 : zeT Tryz.prog 209 = some (.nilFunc) := by kernel_rfl
@[go_sem] theorem elZ_209 : elZ Tryz.prog 209 = some 1 := by kernel_rfl
@[go_sem] theorem byT_209 : byT Tryz.prog 209 = 8 := by kernel_rfl
@[go_sem] theorem conc_209 : Tryz.prog.concrete 209 = true := by kernel_rfl
@[go_sem] theorem szT_210 : szT Tryz.prog 210 = some 1 := by kernel_rfl
@[go_sem] theorem aggT_210 : aggT Tryz.prog 210 = some false := by kernel_rfl
@[go_sem] theorem zeT_210 : zeT Tryz.prog 210 = some (.nilFunc) := by kernel_rfl
@[go_sem] theorem elZ_210 : elZ Tryz.prog 210 = some 1 := by kernel_rfl
@[go_sem] theorem byT_210 : byT Tryz.prog 210 = 8 := by kernel_rfl
@[go_sem] theorem conc_210 : Tryz.prog.concrete 210 = true := by kernel_rfl
@[go_sem] theorem szT_211 : szT Tryz.prog 211 = some 1 := by kernel_rfl
@[go_sem] theorem aggT_211 : aggT Tryz.prog 211 = some false := by kernel_rfl
@[go_sem] theorem zeT_211 : zeT Tryz.prog 211 = some (.nilFunc) := by kernel_rfl
@[go_sem] theorem elZ_211 : elZ Tryz.prog 211 = some 1 := by kernel_rfl
@[go_sem] theorem byT_211 : byT Tryz.prog 211 = 8 := by kernel_rfl
@[go_sem] theorem conc_211 : Tryz.prog.concrete 211 = true := by kernel_rfl
@[go_sem] theorem szT_212 : szT Tryz.prog 212 = some 1 := by kernel_rfl
@[go_sem] theorem aggT_212 : aggT Tryz.prog 212 = some false := by kernel_rfl
@[go_sem] theorem zeT_212 : zeT Tryz.prog 212 = some (.int .u64 0) := by kernel_rfl
@[go_sem] theorem elZ_212 : elZ Tryz.prog 212 = some 1 := by kernel_rfl
@[go_sem] theorem byT_212 : byT Tryz.prog 212 = 8 := by kernel_rfl
@[go_sem] theorem conc_212 : Tryz.prog.concrete 212 = true := by kernel_rfl
@[go_sem] theorem szT_213 : szT Tryz.prog 213 = some 1 := by kernel_rfl
@[go_sem] theorem aggT_213 : aggT Tryz.prog 213 = some false := by kernel_rfl
@[go_sem] theorem zeT_213 : zeT Tryz.prog 213 = some (.nilFunc) := by kernel_rfl
@[go_sem] theorem elZ_213 : elZ Tryz.prog 213 = some 1 := by kernel_rfl
@[go_sem] theorem byT_213 : byT Tryz.prog 213 = 8 := by kernel_rfl
@[go_sem] theorem conc_213 : Tryz.prog.concrete 213 = true := by kernel_rfl
@[go_sem] theorem szT_214 : szT Tryz.prog 214 = some 1 := by kernel_rfl
@[go_sem] theorem aggT_214 : aggT Tryz.prog 214 = some false := by kernel_rfl
@[go_sem] theorem zeT_214 : zeT Tryz.prog 214 = some (.nilFunc) := by kernel_rfl
@[go_sem] theorem elZ_214 : elZ Tryz.prog 214 = some 1 := by kernel_rfl
@[go_sem] theorem byT_214 : byT Tryz.prog 214 = 8 := by kernel_rfl
@[go_sem] theorem conc_214 : Tryz.prog.concrete 214 = true := by kernel_rfl
@[go_sem] theorem szT_215 : szT Tryz.prog 215 = some 1 := by kernel_rfl
@[go_sem] theorem aggT_215 : aggT Tryz.prog 215 = some false := by kernel_rfl
@[go_sem] theorem zeT_215 : zeT Tryz.prog 215 = some (.nilFunc) := by kernel_rfl
@[go_sem] theorem elZ_215 : elZ Tryz.prog 215 = some 1 := by kernel_rfl
@[go_sem] theorem byT_215 : byT Tryz.prog 215 = 8 := by kernel_rfl
@[go_sem] theorem conc_215 : Tryz.prog.concrete 215 = true := by kernel_rfl
@[go_sem] theorem szT_216 : szT Tryz.prog 216 = some 1 := by kernel_rfl
@[go_sem] theorem aggT_216 : aggT Tryz.prog 216 = some false := by kernel_rfl
@[go_sem] theorem zeT_216 : zeT Tryz.prog 216 = some (.pointer none) := by kernel_rfl
@[go_sem] theorem elZ_216 : elZ Tryz.prog 216 = some 1 := by kernel_rfl
@[go_sem] theorem byT_216 : byT Tryz.prog 216 = 8 := by kernel_rfl
@[go_sem] theorem conc_216 : Tryz.prog.concrete 216 = true := by kernel_rfl
@[go_sem] theorem szT_217 : szT Tryz.prog 217 = some 1 := by kernel_rfl
@[go_sem] theorem aggT_217 : aggT Tryz.prog 217 = some false := by kernel_rfl
@[go_sem] theorem zeT_217 : zeT Tryz.prog 217 = some (.nilFunc) := by kernel_rfl
@[go_sem] theorem elZ_217 : elZ Tryz.prog 217 = some 1 := by kernel_rfl
@[go_sem] theorem byT_217 : byT Tryz.prog 217 = 8 := by kernel_rfl
@[go_sem] theorem conc_217 : Tryz.prog.concrete 217 = true := by kernel_rfl
@[go_sem] theorem szT_218 : szT Tryz.prog 218 = some 1 := by kernel_rfl
@[go_sem] theorem aggT_218 : aggT Tryz.prog 218 = some false := by kernel_rfl
@[go_sem] theorem zeT_218 : zeT Tryz.prog 218 = some (.nilFunc) := by kernel_rfl
@[go_sem] theorem elZ_218 : elZ Tryz.prog 218 = some 1 := by kernel_rfl
@[go_sem] theorem byT_218 : byT Tryz.prog 218 = 8 := by kernel_rfl
@[go_sem] theorem conc_218 : Tryz.prog.concrete 218 = true := by kernel_rfl
@[go_sem] theorem szT_219 : szT Tryz.prog 219 = some 1 := by kernel_rfl
@[go_sem] theorem aggT_219 : aggT Tryz.prog 219 = some false := by kernel_rfl
@[go_sem] theorem zeT_219 : zeT Tryz.prog 219 = some (.nilFunc) := by kernel_rfl
@[go_sem] theorem elZ_219 : elZ Tryz.prog 219 = some 1 := by kernel_rfl
@[go_sem] theorem byT_219 : byT Tryz.prog 219 = 8 := by kernel_rfl
@[go_sem] theorem conc_219 : Tryz.prog.concrete 219 = true := by kernel_rfl
@[go_sem] theorem szT_220 : szT Tryz.prog 220 = some 1 := by kernel_rfl
@[go_sem] theorem aggT_220 : aggT Tryz.prog 220 = some false := by kernel_rfl
@[go_sem] theorem zeT_220 : zeT Tryz.prog 220 = some (.slice none 0 0) := by kernel_rfl
@[go_sem] theorem elZ_220 : elZ Tryz.prog 220 = some 1 := by kernel_rfl
@[go_sem] theorem byT_220 : byT Tryz.prog 220 = 24 := by kernel_rfl
@[go_sem] theorem elT_220 : elT Tryz.prog 220 = some 9 := by kernel_rfl
@[go_sem] theorem conc_220 : Tryz.prog.concrete 220 = true := by kernel_rfl
@[go_sem] theorem szT_221 : szT Tryz.prog 221 = some 1 := by kernel_rfl
@[go_sem] theorem aggT_221 : aggT Tryz.prog 221 = some false := by kernel_rfl
@[go_sem] theorem zeT_221 : zeT Tryz.prog 221 = some (.pointer none) := by kernel_rfl
@[go_sem] theorem elZ_221 : elZ Tryz.prog 221 = some 1 := by kernel_rfl
@[go_sem] theorem byT_221 : byT Tryz.prog 221 = 8 := by kernel_rfl
@[go_sem] theorem conc_221 : Tryz.prog.concrete 221 = true := by kernel_rfl
@[go_sem] theorem szT_222 : szT Tryz.prog 222 = some 1 := by kernel_rfl
@[go_sem] theorem aggT_222 : aggT Tryz.prog 222 = some false := by kernel_rfl
@[go_sem] theorem zeT_222 : zeT Tryz.prog 222 = some (.nilFunc) := by kernel_rfl
@[go_sem] theorem elZ_222 : elZ Tryz.prog 222 = some 1 := by kernel_rfl
@[go_sem] theorem byT_222 : byT Tryz.prog 222 = 8 := by kernel_rfl
@[go_sem] theorem conc_222 : Tryz.prog.concrete 222 = true := by kernel_rfl
@[go_sem] theorem szT_223 : szT Tryz.prog 223 = some 2 := by kernel_rfl
@[go_sem] theorem aggT_223 : aggT Tryz.prog 223 = some true := by kernel_rfl
@[go_sem] theorem offT_223x0 : offT Tryz.prog 223 0 = some 0 := by kernel_rfl
@[go_sem] theorem offT_223x1 : offT Tryz.prog 223 1 = some 1 := by kernel_rfl
@[go_sem] theorem plcs_223 : plcs Tryz.prog 223 = some [(0, 1), (1, 1)] := by kernel_rfl
@[go_sem] theorem zeT_223 : zeT Tryz.prog 223 = some (.agg #[.slice none 0 0, .nilIface]) := by kernel_rfl
@[go_sem] theorem elZ_223 : elZ Tryz.prog 223 = some 2 := by kernel_rfl
@[go_sem] theorem byT_223 : byT Tryz.prog 223 = 40 := by kernel_rfl
@[go_sem] theorem conc_223 : Tryz.prog.concrete 223 = true := by kernel_rfl
@[go_sem] theorem szT_224 : szT Tryz.prog 224 = some 2 := by kernel_rfl
@[go_sem] theorem aggT_224 : aggT Tryz.prog 224 = some true := by kernel_rfl
@[go_sem] theorem offT_224x0 : offT Tryz.prog 224 0 = some 0 := by kernel_rfl
@[go_sem] theorem offT_224x1 : offT Tryz.prog 224 1 = some 1 := by kernel_rfl
@[go_sem] theorem plcs_224 : plcs Tryz.prog 224 = some [(0, 1), (1, 1)] := by kernel_rfl
@[go_sem] theorem zeT_224 : zeT Tryz.prog 224 = some (.agg #[.slice none 0 0, .nilIface]) := by kernel_rfl
@[go_sem] theorem elZ_224 : elZ Tryz.prog 224 = some 2 := by kernel_rfl
@[go_sem] theorem byT_224 : byT Tryz.prog 224 = 40 := by kernel_rfl
@[go_sem] theorem conc_224 : Tryz.prog.concrete 224 = true := by kernel_rfl
@[go_sem] theorem szT_225 : szT Tryz.prog 225 = some 1 := by kernel_rfl
@[go_sem] theorem aggT_225 : aggT Tryz.prog 225 = some false := by kernel_rfl
@[go_sem] theorem zeT_225 : zeT Tryz.prog 225 = some (.pointer none) := by kernel_rfl
@[go_sem] theorem elZ_225 : elZ Tryz.prog 225 = some 1 := by kernel_rfl
@[go_sem] theorem byT_225 : byT Tryz.prog 225 = 8 := by kernel_rfl
@[go_sem] theorem conc_225 : Tryz.prog.concrete 225 = true := by kernel_rfl
@[go_sem] theorem szT_226 : szT Tryz.prog 226 = some 2 := by kernel_rfl
@[go_sem] theorem aggT_226 : aggT Tryz.prog 226 = some true := by kernel_rfl
@[go_sem] theorem offT_226x0 : offT Tryz.prog 226 0 = some 0 := by kernel_rfl
@[go_sem] theorem offT_226x1 : offT Tryz.prog 226 1 = some 1 := by kernel_rfl
@[go_sem] theorem plcs_226 : plcs Tryz.prog 226 = some [(0, 1), (1, 1)] := by kernel_rfl
@[go_sem] theorem zeT_226 : zeT Tryz.prog 226 = some (.agg #[.int .i64 0, .int .i64 0]) := by kernel_rfl
@[go_sem] theorem elZ_226 : elZ Tryz.prog 226 = some 2 := by kernel_rfl
@[go_sem] theorem byT_226 : byT Tryz.prog 226 = 16 := by kernel_rfl
@[go_sem] theorem conc_226 : Tryz.prog.concrete 226 = true := by kernel_rfl
@[go_sem] theorem eqg_226 : Program.eqGuardType Tryz.prog (Program.depth Tryz.prog) 226 = false := by kernel_rfl
@[go_sem] theorem stood_226 : Tryz.prog.stoodInHeld 226 = false := by kernel_rfl
@[go_sem] theorem szT_227 : szT Tryz.prog 227 = some 2 := by kernel_rfl
@[go_sem] theorem aggT_227 : aggT Tryz.prog 227 = some true := by kernel_rfl
@[go_sem] theorem offT_227x0 : offT Tryz.prog 227 0 = some 0 := by kernel_rfl
@[go_sem] theorem offT_227x1 : offT Tryz.prog 227 1 = some 1 := by kernel_rfl
@[go_sem] theorem plcs_227 : plcs Tryz.prog 227 = some [(0, 1), (1, 1)] := by kernel_rfl
@[go_sem] theorem zeT_227 : zeT Tryz.prog 227 = some (.agg #[.int .i64 0, .int .i64 0]) := by kernel_rfl
@[go_sem] theorem elZ_227 : elZ Tryz.prog 227 = some 2 := by kernel_rfl
@[go_sem] theorem byT_227 : byT Tryz.prog 227 = 16 := by kernel_rfl
@[go_sem] theorem conc_227 : Tryz.prog.concrete 227 = true := by kernel_rfl
@[go_sem] theorem eqg_227 : Program.eqGuardType Tryz.prog (Program.depth Tryz.prog) 227 = false := by kernel_rfl
@[go_sem] theorem stood_227 : Tryz.prog.stoodInHeld 227 = false := by kernel_rfl
@[go_sem] theorem szT_229 : szT Tryz.prog 229 = some 1 := by kernel_rfl
@[go_sem] theorem aggT_229 : aggT Tryz.prog 229 = some false := by kernel_rfl
@[go_sem] theorem zeT_229 : zeT Tryz.prog 229 = some (.nilFunc) := by kernel_rfl
@[go_sem] theorem elZ_229 : elZ Tryz.prog 229 = some 1 := by kernel_rfl
@[go_sem] theorem byT_229 : byT Tryz.prog 229 = 8 := by kernel_rfl
@[go_sem] theorem conc_229 : Tryz.prog.concrete 229 = true := by kernel_rfl
@[go_sem] theorem szT_230 : szT Tryz.prog 230 = some 1 := by kernel_rfl
@[go_sem] theorem aggT_230 : aggT Tryz.prog 230 = some false := by kernel_rfl
@[go_sem] theorem zeT_230 : zeT Tryz.prog 230 = some (.pointer none) := by kernel_rfl
@[go_sem] theorem elZ_230 : elZ Tryz.prog 230 = some 1 := by kernel_rfl
@[go_sem] theorem byT_230 : byT Tryz.prog 230 = 8 := by kernel_rfl
@[go_sem] theorem conc_230 : Tryz.prog.concrete 230 = true := by kernel_rfl
@[go_sem] theorem szT_231 : szT Tryz.prog 231 = some 1 := by kernel_rfl
@[go_sem] theorem aggT_231 : aggT Tryz.prog 231 = some false := by kernel_rfl
@[go_sem] theorem zeT_231 : zeT Tryz.prog 231 = some (.pointer none) := by kernel_rfl
@[go_sem] theorem elZ_231 : elZ Tryz.prog 231 = some 1 := by kernel_rfl
@[go_sem] theorem byT_231 : byT Tryz.prog 231 = 8 := by kernel_rfl
@[go_sem] theorem conc_231 : Tryz.prog.concrete 231 = true := by kernel_rfl
@[go_sem] theorem szT_233 : szT Tryz.prog 233 = some 1 := by kernel_rfl
@[go_sem] theorem aggT_233 : aggT Tryz.prog 233 = some false := by kernel_rfl
@[go_sem] theorem zeT_233 : zeT Tryz.prog 233 = some (.nilFunc) := by kernel_rfl
@[go_sem] theorem elZ_233 : elZ Tryz.prog 233 = some 1 := by kernel_rfl
@[go_sem] theorem byT_233 : byT Tryz.prog 233 = 8 := by kernel_rfl
@[go_sem] theorem conc_233 : Tryz.prog.concrete 233 = true := by kernel_rfl
@[go_sem] theorem szT_234 : szT Tryz.prog 234 = some 1 := by kernel_rfl
@[go_sem] theorem aggT_234 : aggT Tryz.prog 234 = some false := by kernel_rfl
@[go_sem] theorem zeT_234 : zeT Tryz.prog 234 = some (.nilFunc) := by kernel_rfl
@[go_sem] theorem elZ_234 : elZ Tryz.prog 234 = some 1 := by kernel_rfl
@[go_sem] theorem byT_234 : byT Tryz.prog 234 = 8 := by kernel_rfl
@[go_sem] theorem conc_234 : Tryz.prog.concrete 234 = true := by kernel_rfl
@[go_sem] theorem szT_235 : szT Tryz.prog 235 = some 1 := by kernel_rfl
@[go_sem] theorem aggT_235 : aggT Tryz.prog 235 = some false := by kernel_rfl
@[go_sem] theorem zeT_235 : zeT Tryz.prog 235 = some (.nilFunc) := by kernel_rfl
@[go_sem] theorem elZ_235 : elZ Tryz.prog 235 = some 1 := by kernel_rfl
@[go_sem] theorem byT_235 : byT Tryz.prog 235 = 8 := by kernel_rfl
@[go_sem] theorem conc_235 : Tryz.prog.concrete 235 = true := by kernel_rfl
@[go_sem] theorem szT_236 : szT Tryz.prog 236 = some 1 := by kernel_rfl
@[go_sem] theorem aggT_236 : aggT Tryz.prog 236 = some false := by kernel_rfl
@[go_sem] theorem zeT_236 : zeT Tryz.prog 236 = some (.nilFunc) := by kernel_rfl
@[go_sem] theorem elZ_236 : elZ Tryz.prog 236 = some 1 := by kernel_rfl
@[go_sem] theorem byT_236 : byT Tryz.prog 236 = 8 := by kernel_rfl
@[go_sem] theorem conc_236 : Tryz.prog.concrete 236 = true := by kernel_rfl
@[go_sem] theorem szT_238 : szT Tryz.prog 238 = some 1 := by kernel_rfl
@[go_sem] theorem aggT_238 : aggT Tryz.prog 238 = some false := by kernel_rfl
@[go_sem] theorem zeT_238 : zeT Tryz.prog 238 = some (.nilFunc) := by kernel_rfl
@[go_sem] theorem elZ_238 : elZ Tryz.prog 238 = some 1 := by kernel_rfl
@[go_sem] theorem byT_238 : byT Tryz.prog 238 = 8 := by kernel_rfl
@[go_sem] theorem conc_238 : Tryz.prog.concrete 238 = true := by kernel_rfl
@[go_sem] theorem szT_239 : szT Tryz.prog 239 = some 1 := by kernel_rfl
@[go_sem] theorem aggT_239 : aggT Tryz.prog 239 = some false := by kernel_rfl
@[go_sem] theorem zeT_239 : zeT Tryz.prog 239 = some (.nilFunc) := by kernel_rfl
@[go_sem] theorem elZ_239 : elZ Tryz.prog 239 = some 1 := by kernel_rfl
@[go_sem] theorem byT_239 : byT Tryz.prog 239 = 8 := by kernel_rfl
@[go_sem] theorem conc_239 : Tryz.prog.concrete 239 = true := by kernel_rfl
@[go_sem] theorem szT_240 : szT Tryz.prog 240 = some 1 := by kernel_rfl
@[go_sem] theorem aggT_240 : aggT Tryz.prog 240 = some false := by kernel_rfl
@[go_sem] theorem zeT_240 : zeT Tryz.prog 240 = some (.nilFunc) := by kernel_rfl
@[go_sem] theorem elZ_240 : elZ Tryz.prog 240 = some 1 := by kernel_rfl
@[go_sem] theorem byT_240 : byT Tryz.prog 240 = 8 := by kernel_rfl
@[go_sem] theorem conc_240 : Tryz.prog.concrete 240 = true := by kernel_rfl
@[go_sem] theorem szT_241 : szT Tryz.prog 241 = some 1 := by kernel_rfl
@[go_sem] theorem aggT_241 : aggT Tryz.prog 241 = some false := by kernel_rfl
@[go_sem] theorem zeT_241 : zeT Tryz.prog 241 = some (.nilFunc) := by kernel_rfl
@[go_sem] theorem elZ_241 : elZ Tryz.prog 241 = some 1 := by kernel_rfl
@[go_sem] theorem byT_241 : byT Tryz.prog 241 = 8 := by kernel_rfl
@[go_sem] theorem conc_241 : Tryz.prog.concrete 241 = true := by kernel_rfl
@[go_sem] theorem szT_243 : szT Tryz.prog 243 = some 1 := by kernel_rfl
@[go_sem] theorem aggT_243 : aggT Tryz.prog 243 = some false := by kernel_rfl
@[go_sem] theorem zeT_243 : zeT Tryz.prog 243 = some (.nilFunc) := by kernel_rfl
@[go_sem] theorem elZ_243 : elZ Tryz.prog 243 = some 1 := by kernel_rfl
@[go_sem] theorem byT_243 : byT Tryz.prog 243 = 8 := by kernel_rfl
@[go_sem] theorem conc_243 : Tryz.prog.concrete 243 = true := by kernel_rfl
@[go_sem] theorem szT_244 : szT Tryz.prog 244 = some 1 := by kernel_rfl
@[go_sem] theorem aggT_244 : aggT Tryz.prog 244 = some false := by kernel_rfl
@[go_sem] theorem zeT_244 : zeT Tryz.prog 244 = some (.nilFunc) := by kernel_rfl
@[go_sem] theorem elZ_244 : elZ Tryz.prog 244 = some 1 := by kernel_rfl
@[go_sem] theorem byT_244 : byT Tryz.prog 244 = 8 := by kernel_rfl
@[go_sem] theorem conc_244 : Tryz.prog.concrete 244 = true := by kernel_rfl
@[go_sem] theorem szT_245 : szT Tryz.prog 245 = some 4 := by kernel_rfl
@[go_sem] theorem aggT_245 : aggT Tryz.prog 245 = some true := by kernel_rfl
@[go_sem] theorem offT_245x0 : offT Tryz.prog 245 0 = some 0 := by kernel_rfl
@[go_sem] theorem offT_245x1 : offT Tryz.prog 245 1 = some 1 := by kernel_rfl
@[go_sem] theorem offT_245x2 : offT Tryz.prog 245 2 = some 2 := by kernel_rfl
@[go_sem] theorem offT_245x3 : offT Tryz.prog 245 3 = some 3 := by kernel_rfl
@[go_sem] theorem plcs_245 : plcs Tryz.prog 245 = some [(0, 1), (1, 1), (2, 1), (3, 1)] := by kernel_rfl
@[go_sem] theorem zeT_245 : zeT Tryz.prog 245 = some (.agg #[.pointer none, .pointer none, .pointer none, .string ⟨#[]⟩]) := by kernel_rfl
@[go_sem] theorem elZ_245 : elZ Tryz.prog 245 = some 4 := by kernel_rfl
@[go_sem] theorem byT_245 : byT Tryz.prog 245 = 40 := by kernel_rfl
@[go_sem] theorem conc_245 : Tryz.prog.concrete 245 = true := by kernel_rfl
@[go_sem] theorem szT_246 : szT Tryz.prog 246 = some 4 := by kernel_rfl
@[go_sem] theorem aggT_246 : aggT Tryz.prog 246 = some true := by kernel_rfl
@[go_sem] theorem offT_246x0 : offT Tryz.prog 246 0 = some 0 := by kernel_rfl
@[go_sem] theorem offT_246x1 : offT Tryz.prog 246 1 = some 1 := by kernel_rfl
@[go_sem] theorem offT_246x2 : offT Tryz.prog 246 2 = some 2 := by kernel_rfl
@[go_sem] theorem offT_246x3 : offT Tryz.prog 246 3 = some 3 := by kernel_rfl
@[go_sem] theorem plcs_246 : plcs Tryz.prog 246 = some [(0, 1), (1, 1), (2, 1), (3, 1)] := by kernel_rfl
@[go_sem] theorem zeT_246 : zeT Tryz.prog 246 = some (.agg #[.pointer none, .pointer none, .pointer none, .string ⟨#[]⟩]) := by kernel_rfl
@[go_sem] theorem elZ_246 : elZ Tryz.prog 246 = some 4 := by kernel_rfl
@[go_sem] theorem byT_246 : byT Tryz.prog 246 = 40 := by kernel_rfl
@[go_sem] theorem conc_246 : Tryz.prog.concrete 246 = true := by kernel_rfl
@[go_sem] theorem szT_248 : szT Tryz.prog 248 = some 0 := by kernel_rfl
@[go_sem] theorem aggT_248 : aggT Tryz.prog 248 = some true := by kernel_rfl
@[go_sem] theorem zeT_248 : zeT Tryz.prog 248 = some (.agg #[]) := by kernel_rfl
@[go_sem] theorem byT_248 : byT Tryz.prog 248 = 0 := by kernel_rfl
@[go_sem] theorem conc_248 : Tryz.prog.concrete 248 = true := by kernel_rfl
@[go_sem] theorem szT_249 : szT Tryz.prog 249 = some 0 := by kernel_rfl
@[go_sem] theorem aggT_249 : aggT Tryz.prog 249 = some true := by kernel_rfl
@[go_sem] theorem zeT_249 : zeT Tryz.prog 249 = some (.agg #[]) := by kernel_rfl
@[go_sem] theorem byT_249 : byT Tryz.prog 249 = 0 := by kernel_rfl
@[go_sem] theorem conc_249 : Tryz.prog.concrete 249 = true := by kernel_rfl
@[go_sem] theorem szT_250 : szT Tryz.prog 250 = some 1 := by kernel_rfl
@[go_sem] theorem aggT_250 : aggT Tryz.prog 250 = some false := by kernel_rfl
@[go_sem] theorem zeT_250 : zeT Tryz.prog 250 = some (.nilFunc) := by kernel_rfl
@[go_sem] theorem elZ_250 : elZ Tryz.prog 250 = some 1 := by kernel_rfl
@[go_sem] theorem byT_250 : byT Tryz.prog 250 = 8 := by kernel_rfl
@[go_sem] theorem conc_250 : Tryz.prog.concrete 250 = true := by kernel_rfl
@[go_sem] theorem szT_251 : szT Tryz.prog 251 = some 1 := by kernel_rfl
@[go_sem] theorem aggT_251 : aggT Tryz.prog 251 = some false := by kernel_rfl
@[go_sem] theorem zeT_251 : zeT Tryz.prog 251 = some (.int .u8 0) := by kernel_rfl
@[go_sem] theorem elZ_251 : elZ Tryz.prog 251 = some 1 := by kernel_rfl
@[go_sem] theorem byT_251 : byT Tryz.prog 251 = 1 := by kernel_rfl
@[go_sem] theorem conc_251 : Tryz.prog.concrete 251 = true := by kernel_rfl
@[go_sem] theorem szT_252 : szT Tryz.prog 252 = some 1 := by kernel_rfl
@[go_sem] theorem aggT_252 : aggT Tryz.prog 252 = some false := by kernel_rfl
@[go_sem] theorem zeT_252 : zeT Tryz.prog 252 = some (.int .u8 0) := by kernel_rfl
@[go_sem] theorem elZ_252 : elZ Tryz.prog 252 = some 1 := by kernel_rfl
@[go_sem] theorem byT_252 : byT Tryz.prog 252 = 1 := by kernel_rfl
@[go_sem] theorem conc_252 : Tryz.prog.concrete 252 = true := by kernel_rfl
@[go_sem] theorem szT_253 : szT Tryz.prog 253 = some 1 := by kernel_rfl
@[go_sem] theorem aggT_253 : aggT Tryz.prog 253 = some false := by kernel_rfl
@[go_sem] theorem zeT_253 : zeT Tryz.prog 253 = some (.nilFunc) := by kernel_rfl
@[go_sem] theorem elZ_253 : elZ Tryz.prog 253 = some 1 := by kernel_rfl
@[go_sem] theorem byT_253 : byT Tryz.prog 253 = 8 := by kernel_rfl
@[go_sem] theorem conc_253 : Tryz.prog.concrete 253 = true := by kernel_rfl
@[go_sem] theorem szT_254 : szT Tryz.prog 254 = some 1 := by kernel_rfl
@[go_sem] theorem aggT_254 : aggT Tryz.prog 254 = some false := by kernel_rfl
@[go_sem] theorem zeT_254 : zeT Tryz.prog 254 = some (.pointer none) := by kernel_rfl
@[go_sem] theorem elZ_254 : elZ Tryz.prog 254 = some 1 := by kernel_rfl
@[go_sem] theorem byT_254 : byT Tryz.prog 254 = 8 := by kernel_rfl
@[go_sem] theorem conc_254 : Tryz.prog.concrete 254 = true := by kernel_rfl
@[go_sem] theorem szT_255 : szT Tryz.prog 255 = some 1 := by kernel_rfl
@[go_sem] theorem aggT_255 : aggT Tryz.prog 255 = some false := by kernel_rfl
@[go_sem] theorem zeT_255 : zeT Tryz.prog 255 = some (.int .i32 0) := by kernel_rfl
@[go_sem] theorem elZ_255 : elZ Tryz.prog 255 = some 1 := by kernel_rfl
@[go_sem] theorem byT_255 : byT Tryz.prog 255 = 4 := by kernel_rfl
@[go_sem] theorem conc_255 : Tryz.prog.concrete 255 = true := by kernel_rfl
@[go_sem] theorem szT_256 : szT Tryz.prog 256 = some 1 := by kernel_rfl
@[go_sem] theorem aggT_256 : aggT Tryz.prog 256 = some false := by kernel_rfl
@[go_sem] theorem zeT_256 : zeT Tryz.prog 256 = some (.int .i32 0) := by kernel_rfl
@[go_sem] theorem elZ_256 : elZ Tryz.prog 256 = some 1 := by kernel_rfl
@[go_sem] theorem byT_256 : byT Tryz.prog 256 = 4 := by kernel_rfl
@[go_sem] theorem conc_256 : Tryz.prog.concrete 256 = true := by kernel_rfl
@[go_sem] theorem szT_257 : szT Tryz.prog 257 = some 11 := by kernel_rfl
@[go_sem] theorem aggT_257 : aggT Tryz.prog 257 = some true := by kernel_rfl
@[go_sem] theorem offT_257x0 : offT Tryz.prog 257 0 = some 0 := by kernel_rfl
@[go_sem] theorem offT_257x1 : offT Tryz.prog 257 1 = some 1 := by kernel_rfl
@[go_sem] theorem offT_257x2 : offT Tryz.prog 257 2 = some 2 := by kernel_rfl
@[go_sem] theorem offT_257x3 : offT Tryz.prog 257 3 = some 3 := by kernel_rfl
@[go_sem] theorem offT_257x4 : offT Tryz.prog 257 4 = some 4 := by kernel_rfl
@[go_sem] theorem offT_257x5 : offT Tryz.prog 257 5 = some 5 := by kernel_rfl
@[go_sem] theorem offT_257x6 : offT Tryz.prog 257 6 = some 6 := by kernel_rfl
@[go_sem] theorem offT_257x7 : offT Tryz.prog 257 7 = some 7 := by kernel_rfl
@[go_sem] theorem offT_257x8 : offT Tryz.prog 257 8 = some 8 := by kernel_rfl
@[go_sem] theorem offT_257x9 : offT Tryz.prog 257 9 = some 9 := by kernel_rfl
@[go_sem] theorem offT_257x10 : offT Tryz.prog 257 10 = some 10 := by kernel_rfl
@[go_sem] theorem plcs_257 : plcs Tryz.prog 257 = some [(0, 1), (1, 1), (2, 1), (3, 1), (4, 1), (5, 1), (6, 1), (7, 1), (8, 1), (9, 1), (10, 1)] := by kernel_rfl
@[go_sem] theorem zeT_257 : zeT Tryz.prog 257 = some (.agg #[.int .u64 0, .int .u64 0, .int .u32 0, .int .u8 0, .int .u8 0, .int .u8 0, .int .u8 0, .nilFunc, .pointer none, .int .i32 0, .int .i32 0]) := by kernel_rfl
@[go_sem] theorem elZ_257 : elZ Tryz.prog 257 = some 11 := by kernel_rfl
@[go_sem] theorem byT_257 : byT Tryz.prog 257 = 48 := by kernel_rfl
@[go_sem] theorem conc_257 : Tryz.prog.concrete 257 = true := by kernel_rfl
@[go_sem] theorem szT_258 : szT Tryz.prog 258 = some 11 := by kernel_rfl
@[go_sem] theorem aggT_258 : aggT Tryz.prog 258 = some true := by kernel_rfl
@[go_sem] theorem offT_258x0 : offT Tryz.prog 258 0 = some 0 := by kernel_rfl
@[go_sem] theorem offT_258x1 : offT Tryz.prog 258 1 = some 1 := by kernel_rfl
@[go_sem] theorem offT_258x2 : offT Tryz.prog 258 2 = some 2 := by kernel_rfl
@[go_sem] theorem offT_258x3 : offT Tryz.prog 258 3 = some 3 := by kernel_rfl
@[go_sem] theorem offT_258x4 : offT Tryz.prog 258 4 = some 4 := by kernel_rfl
@[go_sem] theorem offT_258x5 : offT Tryz.prog 258 5 = some 5 := by kernel_rfl
@[go_sem] theorem offT_258x6 : offT Tryz.prog 258 6 = some 6 := by kernel_rfl
@[go_sem] theorem offT_258x7 : offT Tryz.prog 258 7 = some 7 := by kernel_rfl
@[go_sem] theorem offT_258x8 : offT Tryz.prog 258 8 = some 8 := by kernel_rfl
@[go_sem] theorem offT_258x9 : offT Tryz.prog 258 9 = some 9 := by kernel_rfl
@[go_sem] theorem offT_258x10 : offT Tryz.prog 258 10 = some 10 := by kernel_rfl
@[go_sem] theorem plcs_258 : plcs Tryz.prog 258 = some [(0, 1), (1, 1), (2, 1), (3, 1), (4, 1), (5, 1), (6, 1), (7, 1), (8, 1), (9, 1), (10, 1)] := by kernel_rfl
@[go_sem] theorem zeT_258 : zeT Tryz.prog 258 = some (.agg #[.int .u64 0, .int .u64 0, .int .u32 0, .int .u8 0, .int .u8 0, .int .u8 0, .int .u8 0, .nilFunc, .pointer none, .int .i32 0, .int .i32 0]) := by kernel_rfl
@[go_sem] theorem elZ_258 : elZ Tryz.prog 258 = some 11 := by kernel_rfl
@[go_sem] theorem byT_258 : byT Tryz.prog 258 = 48 := by kernel_rfl
@[go_sem] theorem conc_258 : Tryz.prog.concrete 258 = true := by kernel_rfl
@[go_sem] theorem szT_259 : szT Tryz.prog 259 = some 1 := by kernel_rfl
@[go_sem] theorem aggT_259 : aggT Tryz.prog 259 = some false := by kernel_rfl
@[go_sem] theorem zeT_259 : zeT Tryz.prog 259 = some (.nilFunc) := by kernel_rfl
@[go_sem] theorem elZ_259 : elZ Tryz.prog 259 = some 1 := by kernel_rfl
@[go_sem] theorem byT_259 : byT Tryz.prog 259 = 8 := by kernel_rfl
@[go_sem] theorem conc_259 : Tryz.prog.concrete 259 = true := by kernel_rfl
theorem mixed : Tryz.prog.follows .mixedOrders = true := by kernel_rfl
attribute [go_sem] Tryz.underlying0
attribute [go_sem] Tryz.underlying1
attribute [go_sem] Tryz.underlying2
attribute [go_sem] Tryz.underlying3
attribute [go_sem] Tryz.underlying4
attribute [go_sem] Tryz.underlying5
attribute [go_sem] Tryz.underlying6
attribute [go_sem] Tryz.underlying7
attribute [go_sem] Tryz.underlying8
attribute [go_sem] Tryz.underlying9
attribute [go_sem] Tryz.underlying10
attribute [go_sem] Tryz.underlying11
attribute [go_sem] Tryz.underlying12
attribute [go_sem] Tryz.underlying13
attribute [go_sem] Tryz.underlying14
attribute [go_sem] Tryz.underlying15
attribute [go_sem] Tryz.underlying16
attribute [go_sem] Tryz.underlying17
attribute [go_sem] Tryz.underlying18
attribute [go_sem] Tryz.underlying19
attribute [go_sem] Tryz.underlying20
attribute [go_sem] Tryz.underlying21
attribute [go_sem] Tryz.underlying22
attribute [go_sem] Tryz.underlying23
attribute [go_sem] Tryz.underlying24
attribute [go_sem] Tryz.underlying25
attribute [go_sem] Tryz.underlying26
attribute [go_sem] Tryz.underlying27
attribute [go_sem] Tryz.underlying28
attribute [go_sem] Tryz.underlying29
attribute [go_sem] Tryz.underlying30
attribute [go_sem] Tryz.underlying31
attribute [go_sem] Tryz.underlying32
attribute [go_sem] Tryz.underlying33
attribute [go_sem] Tryz.underlying34
attribute [go_sem] Tryz.underlying35
attribute [go_sem] Tryz.underlying36
attribute [go_sem] Tryz.underlying37
attribute [go_sem] Tryz.underlying38
attribute [go_sem] Tryz.underlying39
attribute [go_sem] Tryz.underlying40
attribute [go_sem] Tryz.underlying41
attribute [go_sem] Tryz.underlying42
attribute [go_sem] Tryz.underlying43
attribute [go_sem] Tryz.underlying44
attribute [go_sem] Tryz.underlying45
attribute [go_sem] Tryz.underlying46
attribute [go_sem] Tryz.underlying47
attribute [go_sem] Tryz.underlying48
attribute [go_sem] Tryz.underlying49
attribute [go_sem] Tryz.underlying50
attribute [go_sem] Tryz.underlying51
attribute [go_sem] Tryz.underlying52
attribute [go_sem] Tryz.underlying53
attribute [go_sem] Tryz.underlying54
attribute [go_sem] Tryz.underlying55
attribute [go_sem] Tryz.underlying56
attribute [go_sem] Tryz.underlying57
attribute [go_sem] Tryz.underlying58
attribute [go_sem] Tryz.underlying59
attribute [go_sem] Tryz.underlying60
attribute [go_sem] Tryz.underlying61
attribute [go_sem] Tryz.underlying62
attribute [go_sem] Tryz.underlying63
attribute [go_sem] Tryz.underlying64
attribute [go_sem] Tryz.underlying65
attribute [go_sem] Tryz.underlying66
attribute [go_sem] Tryz.underlying67
attribute [go_sem] Tryz.underlying68
attribute [go_sem] Tryz.underlying69
attribute [go_sem] Tryz.underlying70
attribute [go_sem] Tryz.underlying71
attribute [go_sem] Tryz.underlying72
attribute [go_sem] Tryz.underlying73
attribute [go_sem] Tryz.underlying74
attribute [go_sem] Tryz.underlying75
attribute [go_sem] Tryz.underlying76
attribute [go_sem] Tryz.underlying77
attribute [go_sem] Tryz.underlying78
attribute [go_sem] Tryz.underlying79
attribute [go_sem] Tryz.underlying80
attribute [go_sem] Tryz.underlying81
attribute [go_sem] Tryz.underlying82
attribute [go_sem] Tryz.underlying83
attribute [go_sem] Tryz.underlying84
attribute [go_sem] Tryz.underlying85
attribute [go_sem] Tryz.underlying86
attribute [go_sem] Tryz.underlying87
attribute [go_sem] Tryz.underlying88
attribute [go_sem] Tryz.underlying89
attribute [go_sem] Tryz.underlying90
attribute [go_sem] Tryz.underlying91
attribute [go_sem] Tryz.underlying92
attribute [go_sem] Tryz.underlying93
attribute [go_sem] Tryz.underlying94
attribute [go_sem] Tryz.underlying95
attribute [go_sem] Tryz.underlying96
attribute [go_sem] Tryz.underlying97
attribute [go_sem] Tryz.underlying98
attribute [go_sem] Tryz.underlying99
attribute [go_sem] Tryz.underlying100
attribute [go_sem] Tryz.underlying101
attribute [go_sem] Tryz.underlying102
attribute [go_sem] Tryz.underlying103
attribute [go_sem] Tryz.underlying104
attribute [go_sem] Tryz.underlying105
attribute [go_sem] Tryz.underlying106
attribute [go_sem] Tryz.underlying107
attribute [go_sem] Tryz.underlying108
attribute [go_sem] Tryz.underlying109
attribute [go_sem] Tryz.underlying110
attribute [go_sem] Tryz.underlying111
attribute [go_sem] Tryz.underlying112
attribute [go_sem] Tryz.underlying113
attribute [go_sem] Tryz.underlying114
attribute [go_sem] Tryz.underlying115
attribute [go_sem] Tryz.underlying116
attribute [go_sem] Tryz.underlying117
attribute [go_sem] Tryz.underlying118
attribute [go_sem] Tryz.underlying119
attribute [go_sem] Tryz.underlying120
attribute [go_sem] Tryz.underlying121
attribute [go_sem] Tryz.underlying122
attribute [go_sem] Tryz.underlying123
attribute [go_sem] Tryz.underlying124
attribute [go_sem] Tryz.underlying125
attribute [go_sem] Tryz.underlying126
attribute [go_sem] Tryz.underlying127
attribute [go_sem] Tryz.underlying128
attribute [go_sem] Tryz.underlying129
attribute [go_sem] Tryz.underlying130
attribute [go_sem] Tryz.underlying131
attribute [go_sem] Tryz.underlying132
attribute [go_sem] Tryz.underlying133
attribute [go_sem] Tryz.underlying134
attribute [go_sem] Tryz.underlying135
attribute [go_sem] Tryz.underlying136
attribute [go_sem] Tryz.underlying137
attribute [go_sem] Tryz.underlying138
attribute [go_sem] Tryz.underlying139
attribute [go_sem] Tryz.underlying140
attribute [go_sem] Tryz.underlying141
attribute [go_sem] Tryz.underlying142
attribute [go_sem] Tryz.underlying143
attribute [go_sem] Tryz.underlying144
attribute [go_sem] Tryz.underlying145
attribute [go_sem] Tryz.underlying146
attribute [go_sem] Tryz.underlying147
attribute [go_sem] Tryz.underlying148
attribute [go_sem] Tryz.underlying149
attribute [go_sem] Tryz.underlying150
attribute [go_sem] Tryz.underlying151
attribute [go_sem] Tryz.underlying152
attribute [go_sem] Tryz.underlying153
attribute [go_sem] Tryz.underlying154
attribute [go_sem] Tryz.underlying155
attribute [go_sem] Tryz.underlying156
attribute [go_sem] Tryz.underlying157
attribute [go_sem] Tryz.underlying158
attribute [go_sem] Tryz.underlying159
attribute [go_sem] Tryz.underlying160
attribute [go_sem] Tryz.underlying161
attribute [go_sem] Tryz.underlying162
attribute [go_sem] Tryz.underlying163
attribute [go_sem] Tryz.underlying164
attribute [go_sem] Tryz.underlying165
attribute [go_sem] Tryz.underlying166
attribute [go_sem] Tryz.underlying167
attribute [go_sem] Tryz.underlying168
attribute [go_sem] Tryz.underlying169
attribute [go_sem] Tryz.underlying170
attribute [go_sem] Tryz.underlying171
attribute [go_sem] Tryz.underlying172
attribute [go_sem] Tryz.underlying173
attribute [go_sem] Tryz.underlying174
attribute [go_sem] Tryz.underlying175
attribute [go_sem] Tryz.underlying176
attribute [go_sem] Tryz.underlying177
attribute [go_sem] Tryz.underlying178
attribute [go_sem] Tryz.underlying179
attribute [go_sem] Tryz.underlying180
attribute [go_sem] Tryz.underlying181
attribute [go_sem] Tryz.underlying182
attribute [go_sem] Tryz.underlying183
attribute [go_sem] Tryz.underlying184
attribute [go_sem] Tryz.underlying185
attribute [go_sem] Tryz.underlying186
attribute [go_sem] Tryz.underlying187
attribute [go_sem] Tryz.underlying188
attribute [go_sem] Tryz.underlying189
attribute [go_sem] Tryz.underlying190
attribute [go_sem] Tryz.underlying191
attribute [go_sem] Tryz.underlying192
attribute [go_sem] Tryz.underlying193
attribute [go_sem] Tryz.underlying194
attribute [go_sem] Tryz.underlying195
attribute [go_sem] Tryz.underlying196
attribute [go_sem] Tryz.underlying197
attribute [go_sem] Tryz.underlying198
attribute [go_sem] Tryz.underlying199
attribute [go_sem] Tryz.underlying200
attribute [go_sem] Tryz.underlying201
attribute [go_sem] Tryz.underlying202
attribute [go_sem] Tryz.underlying203
attribute [go_sem] Tryz.underlying204
attribute [go_sem] Tryz.underlying205
attribute [go_sem] Tryz.underlying206
attribute [go_sem] Tryz.underlying207
attribute [go_sem] Tryz.underlying208
attribute [go_sem] Tryz.underlying209
attribute [go_sem] Tryz.underlying210
attribute [go_sem] Tryz.underlying211
attribute [go_sem] Tryz.underlying212
attribute [go_sem] Tryz.underlying213
attribute [go_sem] Tryz.underlying214
attribute [go_sem] Tryz.underlying215
attribute [go_sem] Tryz.underlying216
attribute [go_sem] Tryz.underlying217
attribute [go_sem] Tryz.underlying218
attribute [go_sem] Tryz.underlying219
attribute [go_sem] Tryz.underlying220
attribute [go_sem] Tryz.underlying221
attribute [go_sem] Tryz.underlying222
attribute [go_sem] Tryz.underlying223
attribute [go_sem] Tryz.underlying224
attribute [go_sem] Tryz.underlying225
attribute [go_sem] Tryz.underlying226
attribute [go_sem] Tryz.underlying227
attribute [go_sem] Tryz.underlying228
attribute [go_sem] Tryz.underlying229
attribute [go_sem] Tryz.underlying230
attribute [go_sem] Tryz.underlying231
attribute [go_sem] Tryz.underlying232
attribute [go_sem] Tryz.underlying233
attribute [go_sem] Tryz.underlying234
attribute [go_sem] Tryz.underlying235
attribute [go_sem] Tryz.underlying236
attribute [go_sem] Tryz.underlying237
attribute [go_sem] Tryz.underlying238
attribute [go_sem] Tryz.underlying239
attribute [go_sem] Tryz.underlying240
attribute [go_sem] Tryz.underlying241
attribute [go_sem] Tryz.underlying242
attribute [go_sem] Tryz.underlying243
attribute [go_sem] Tryz.underlying244
attribute [go_sem] Tryz.underlying245
attribute [go_sem] Tryz.underlying246
attribute [go_sem] Tryz.underlying247
attribute [go_sem] Tryz.underlying248
attribute [go_sem] Tryz.underlying249
attribute [go_sem] Tryz.underlying250
attribute [go_sem] Tryz.underlying251
attribute [go_sem] Tryz.underlying252
attribute [go_sem] Tryz.underlying253
attribute [go_sem] Tryz.underlying254
attribute [go_sem] Tryz.underlying255
attribute [go_sem] Tryz.underlying256
attribute [go_sem] Tryz.underlying257
attribute [go_sem] Tryz.underlying258
attribute [go_sem] Tryz.underlying259
attribute [go_sem] Tryz.underlying260
end Go.Proofs
