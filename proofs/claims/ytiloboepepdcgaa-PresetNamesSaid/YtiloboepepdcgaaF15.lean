/- This text is a part of the proofs of the statements of this seat: the ideal states and their rules, or what one of the functions that the statements reach comes to. Conditions: none beyond those that each theorem names. -/
import Derived.Test.YtiloboepepdcgaaProg
import Derived.Test.YtiloboepepdcgaaIdl7
import Derived.KernelRfl
namespace Go.Proofs
open Go.Idl
@[go_sem] theorem szT_1 : szT Try.prog 1 = some 1 := by kernel_rfl
@[go_sem] theorem aggT_1 : aggT Try.prog 1 = some false := by kernel_rfl
@[go_sem] theorem zeT_1 : zeT Try.prog 1 = some (.nilFunc) := by kernel_rfl
@[go_sem] theorem elZ_1 : elZ Try.prog 1 = some 1 := by kernel_rfl
@[go_sem] theorem byT_1 : byT Try.prog 1 = 8 := by kernel_rfl
@[go_sem] theorem conc_1 : Try.prog.concrete 1 = true := by kernel_rfl
@[go_sem] theorem szT_2 : szT Try.prog 2 = some 1 := by kernel_rfl
@[go_sem] theorem aggT_2 : aggT Try.prog 2 = some false := by kernel_rfl
@[go_sem] theorem zeT_2 : zeT Try.prog 2 = some (.int .i64 0) := by kernel_rfl
@[go_sem] theorem elZ_2 : elZ Try.prog 2 = some 1 := by kernel_rfl
@[go_sem] theorem byT_2 : byT Try.prog 2 = 8 := by kernel_rfl
@[go_sem] theorem conc_2 : Try.prog.concrete 2 = true := by kernel_rfl
@[go_sem] theorem szT_3 : szT Try.prog 3 = some 1 := by kernel_rfl
@[go_sem] theorem aggT_3 : aggT Try.prog 3 = some false := by kernel_rfl
@[go_sem] theorem zeT_3 : zeT Try.prog 3 = some (.int .i64 0) := by kernel_rfl
@[go_sem] theorem elZ_3 : elZ Try.prog 3 = some 1 := by kernel_rfl
@[go_sem] theorem byT_3 : byT Try.prog 3 = 8 := by kernel_rfl
@[go_sem] theorem conc_3 : Try.prog.concrete 3 = true := by kernel_rfl
@[go_sem] theorem szT_4 : szT Try.prog 4 = some 1 := by kernel_rfl
@[go_sem] theorem aggT_4 : aggT Try.prog 4 = some false := by kernel_rfl
@[go_sem] theorem zeT_4 : zeT Try.prog 4 = some (.bool false) := by kernel_rfl
@[go_sem] theorem elZ_4 : elZ Try.prog 4 = some 1 := by kernel_rfl
@[go_sem] theorem byT_4 : byT Try.prog 4 = 1 := by kernel_rfl
@[go_sem] theorem conc_4 : Try.prog.concrete 4 = true := by kernel_rfl
@[go_sem] theorem szT_5 : szT Try.prog 5 = some 1 := by kernel_rfl
@[go_sem] theorem aggT_5 : aggT Try.prog 5 = some false := by kernel_rfl
@[go_sem] theorem zeT_5 : zeT Try.prog 5 = some (.int .u8 0) := by kernel_rfl
@[go_sem] theorem elZ_5 : elZ Try.prog 5 = some 1 := by kernel_rfl
@[go_sem] theorem byT_5 : byT Try.prog 5 = 1 := by kernel_rfl
@[go_sem] theorem conc_5 : Try.prog.concrete 5 = true := by kernel_rfl
@[go_sem] theorem szT_6 : szT Try.prog 6 = some 1 := by kernel_rfl
@[go_sem] theorem aggT_6 : aggT Try.prog 6 = some false := by kernel_rfl
@[go_sem] theorem zeT_6 : zeT Try.prog 6 = some (.int .u8 0) := by kernel_rfl
@[go_sem] theorem elZ_6 : elZ Try.prog 6 = some 1 := by kernel_rfl
@[go_sem] theorem byT_6 : byT Try.prog 6 = 1 := by kernel_rfl
@[go_sem] theorem conc_6 : Try.prog.concrete 6 = true := by kernel_rfl
@[go_sem] theorem szT_7 : szT Try.prog 7 = some 4 := by kernel_rfl
@[go_sem] theorem aggT_7 : aggT Try.prog 7 = some true := by kernel_rfl
@[go_sem] theorem offT_7x0 : offT Try.prog 7 0 = some 0 := by kernel_rfl
@[go_sem] theorem offT_7x1 : offT Try.prog 7 1 = some 1 := by kernel_rfl
@[go_sem] theorem offT_7x2 : offT Try.prog 7 2 = some 2 := by kernel_rfl
@[go_sem] theorem offT_7x3 : offT Try.prog 7 3 = some 3 := by kernel_rfl
@[go_sem] theorem plcs_7 : plcs Try.prog 7 = some [(0, 1), (1, 1), (2, 1), (3, 1)] := by kernel_rfl
@[go_sem] theorem zeT_7 : zeT Try.prog 7 = some (.agg #[.int .i64 0, .int .i64 0, .bool false, .int .u8 0]) := by kernel_rfl
@[go_sem] theorem elZ_7 : elZ Try.prog 7 = some 4 := by kernel_rfl
@[go_sem] theorem byT_7 : byT Try.prog 7 = 24 := by kernel_rfl
@[go_sem] theorem conc_7 : Try.prog.concrete 7 = true := by kernel_rfl
@[go_sem] theorem eqg_7 : Program.eqGuardType Try.prog (Program.depth Try.prog) 7 = false := by kernel_rfl
@[go_sem] theorem stood_7 : Try.prog.stoodInHeld 7 = false := by kernel_rfl
@[go_sem] theorem szT_8 : szT Try.prog 8 = some 4 := by kernel_rfl
@[go_sem] theorem aggT_8 : aggT Try.prog 8 = some true := by kernel_rfl
@[go_sem] theorem offT_8x0 : offT Try.prog 8 0 = some 0 := by kernel_rfl
@[go_sem] theorem offT_8x1 : offT Try.prog 8 1 = some 1 := by kernel_rfl
@[go_sem] theorem offT_8x2 : offT Try.prog 8 2 = some 2 := by kernel_rfl
@[go_sem] theorem offT_8x3 : offT Try.prog 8 3 = some 3 := by kernel_rfl
@[go_sem] theorem plcs_8 : plcs Try.prog 8 = some [(0, 1), (1, 1), (2, 1), (3, 1)] := by kernel_rfl
@[go_sem] theorem zeT_8 : zeT Try.prog 8 = some (.agg #[.int .i64 0, .int .i64 0, .bool false, .int .u8 0]) := by kernel_rfl
@[go_sem] theorem elZ_8 : elZ Try.prog 8 = some 4 := by kernel_rfl
@[go_sem] theorem byT_8 : byT Try.prog 8 = 24 := by kernel_rfl
@[go_sem] theorem conc_8 : Try.prog.concrete 8 = true := by kernel_rfl
@[go_sem] theorem eqg_8 : Program.eqGuardType Try.prog (Program.depth Try.prog) 8 = false := by kernel_rfl
@[go_sem] theorem stood_8 : Try.prog.stoodInHeld 8 = false := by kernel_rfl
@[go_sem] theorem szT_9 : szT Try.prog 9 = some 1 := by kernel_rfl
@[go_sem] theorem aggT_9 : aggT Try.prog 9 = some false := by kernel_rfl
@[go_sem] theorem zeT_9 : zeT Try.prog 9 = some (.string ⟨#[]⟩) := by kernel_rfl
@[go_sem] theorem elZ_9 : elZ Try.prog 9 = some 1 := by kernel_rfl
@[go_sem] theorem byT_9 : byT Try.prog 9 = 16 := by kernel_rfl
@[go_sem] theorem conc_9 : Try.prog.concrete 9 = true := by kernel_rfl
@[go_sem] theorem szT_10 : szT Try.prog 10 = some 1 := by kernel_rfl
@[go_sem] theorem aggT_10 : aggT Try.prog 10 = some false := by kernel_rfl
@[go_sem] theorem zeT_10 : zeT Try.prog 10 = some (.string ⟨#[]⟩) := by kernel_rfl
@[go_sem] theorem elZ_10 : elZ Try.prog 10 = some 1 := by kernel_rfl
@[go_sem] theorem byT_10 : byT Try.prog 10 = 16 := by kernel_rfl
@[go_sem] theorem conc_10 : Try.prog.concrete 10 = true := by kernel_rfl
@[go_sem] theorem szT_11 : szT Try.prog 11 = some 1 := by kernel_rfl
@[go_sem] theorem aggT_11 : aggT Try.prog 11 = some false := by kernel_rfl
@[go_sem] theorem zeT_11 : zeT Try.prog 11 = some (.string ⟨#[]⟩) := by kernel_rfl
@[go_sem] theorem elZ_11 : elZ Try.prog 11 = some 1 := by kernel_rfl
@[go_sem] theorem byT_11 : byT Try.prog 11 = 16 := by kernel_rfl
@[go_sem] theorem conc_11 : Try.prog.concrete 11 = true := by kernel_rfl
@[go_sem] theorem szT_12 : szT Try.prog 12 = some 1 := by kernel_rfl
@[go_sem] theorem aggT_12 : aggT Try.prog 12 = some false := by kernel_rfl
@[go_sem] theorem zeT_12 : zeT Try.prog 12 = some (.int .u64 0) := by kernel_rfl
@[go_sem] theorem elZ_12 : elZ Try.prog 12 = some 1 := by kernel_rfl
@[go_sem] theorem byT_12 : byT Try.prog 12 = 8 := by kernel_rfl
@[go_sem] theorem conc_12 : Try.prog.concrete 12 = true := by kernel_rfl
@[go_sem] theorem szT_13 : szT Try.prog 13 = some 2 := by kernel_rfl
@[go_sem] theorem aggT_13 : aggT Try.prog 13 = some true := by kernel_rfl
@[go_sem] theorem offT_13x0 : offT Try.prog 13 0 = some 0 := by kernel_rfl
@[go_sem] theorem offT_13x1 : offT Try.prog 13 1 = some 1 := by kernel_rfl
@[go_sem] theorem plcs_13 : plcs Try.prog 13 = some [(0, 1), (1, 1)] := by kernel_rfl
@[go_sem] theorem zeT_13 : zeT Try.prog 13 = some (.agg #[.string ⟨#[]⟩, .int .u64 0]) := by kernel_rfl
@[go_sem] theorem elZ_13 : elZ Try.prog 13 = some 2 := by kernel_rfl
@[go_sem] theorem byT_13 : byT Try.prog 13 = 24 := by kernel_rfl
@[go_sem] theorem conc_13 : Try.prog.concrete 13 = true := by kernel_rfl
@[go_sem] theorem eqg_13 : Program.eqGuardType Try.prog (Program.depth Try.prog) 13 = false := by kernel_rfl
@[go_sem] theorem szT_14 : szT Try.prog 14 = some 2 := by kernel_rfl
@[go_sem] theorem aggT_14 : aggT Try.prog 14 = some true := by kernel_rfl
@[go_sem] theorem offT_14x0 : offT Try.prog 14 0 = some 0 := by kernel_rfl
@[go_sem] theorem offT_14x1 : offT Try.prog 14 1 = some 1 := by kernel_rfl
@[go_sem] theorem plcs_14 : plcs Try.prog 14 = some [(0, 1), (1, 1)] := by kernel_rfl
@[go_sem] theorem zeT_14 : zeT Try.prog 14 = some (.agg #[.string ⟨#[]⟩, .int .u64 0]) := by kernel_rfl
@[go_sem] theorem elZ_14 : elZ Try.prog 14 = some 2 := by kernel_rfl
@[go_sem] theorem byT_14 : byT Try.prog 14 = 24 := by kernel_rfl
@[go_sem] theorem conc_14 : Try.prog.concrete 14 = true := by kernel_rfl
@[go_sem] theorem eqg_14 : Program.eqGuardType Try.prog (Program.depth Try.prog) 14 = false := by kernel_rfl
@[go_sem] theorem szT_15 : szT Try.prog 15 = some 1 := by kernel_rfl
@[go_sem] theorem aggT_15 : aggT Try.prog 15 = some false := by kernel_rfl
@[go_sem] theorem zeT_15 : zeT Try.prog 15 = some (.pointer none) := by kernel_rfl
@[go_sem] theorem elZ_15 : elZ Try.prog 15 = some 1 := by kernel_rfl
@[go_sem] theorem byT_15 : byT Try.prog 15 = 8 := by kernel_rfl
@[go_sem] theorem conc_15 : Try.prog.concrete 15 = true := by kernel_rfl
@[go_sem] theorem szT_16 : szT Try.prog 16 = some 1 := by kernel_rfl
@[go_sem] theorem aggT_16 : aggT Try.prog 16 = some false := by kernel_rfl
@[go_sem] theorem zeT_16 : zeT Try.prog 16 = some (.pointer none) := by kernel_rfl
@[go_sem] theorem elZ_16 : elZ Try.prog 16 = some 1 := by kernel_rfl
@[go_sem] theorem byT_16 : byT Try.prog 16 = 8 := by kernel_rfl
@[go_sem] theorem conc_16 : Try.prog.concrete 16 = true := by kernel_rfl
@[go_sem] theorem szT_17 : szT Try.prog 17 = some 1 := by kernel_rfl
@[go_sem] theorem aggT_17 : aggT Try.prog 17 = some false := by kernel_rfl
@[go_sem] theorem zeT_17 : zeT Try.prog 17 = some (.pointer none) := by kernel_rfl
@[go_sem] theorem elZ_17 : elZ Try.prog 17 = some 1 := by kernel_rfl
@[go_sem] theorem byT_17 : byT Try.prog 17 = 8 := by kernel_rfl
@[go_sem] theorem conc_17 : Try.prog.concrete 17 = true := by kernel_rfl
@[go_sem] theorem szT_18 : szT Try.prog 18 = some 1 := by kernel_rfl
@[go_sem] theorem aggT_18 : aggT Try.prog 18 = some true := by kernel_rfl
@[go_sem] theorem offT_18x0 : offT Try.prog 18 0 = some 0 := by kernel_rfl
@[go_sem] theorem plcs_18 : plcs Try.prog 18 = some [(0, 1)] := by kernel_rfl
@[go_sem] theorem zeT_18 : zeT Try.prog 18 = some (.agg #[.pointer none]) := by kernel_rfl
@[go_sem] theorem elZ_18 : elZ Try.prog 18 = some 1 := by kernel_rfl
@[go_sem] theorem byT_18 : byT Try.prog 18 = 8 := by kernel_rfl
@[go_sem] theorem conc_18 : Try.prog.concrete 18 = true := by kernel_rfl
@[go_sem] theorem szT_19 : szT Try.prog 19 = some 1 := by kernel_rfl
@[go_sem] theorem aggT_19 : aggT Try.prog 19 = some true := by kernel_rfl
@[go_sem] theorem offT_19x0 : offT Try.prog 19 0 = some 0 := by kernel_rfl
@[go_sem] theorem plcs_19 : plcs Try.prog 19 = some [(0, 1)] := by kernel_rfl
@[go_sem] theorem zeT_19 : zeT Try.prog 19 = some (.agg #[.pointer none]) := by kernel_rfl
@[go_sem] theorem elZ_19 : elZ Try.prog 19 = some 1 := by kernel_rfl
@[go_sem] theorem byT_19 : byT Try.prog 19 = 8 := by kernel_rfl
@[go_sem] theorem conc_19 : Try.prog.concrete 19 = true := by kernel_rfl
@[go_sem] theorem szT_20 : szT Try.prog 20 = some 1 := by kernel_rfl
@[go_sem] theorem aggT_20 : aggT Try.prog 20 = some false := by kernel_rfl
@[go_sem] theorem zeT_20 : zeT Try.prog 20 = some (.nilIface) := by kernel_rfl
@[go_sem] theorem elZ_20 : elZ Try.prog 20 = some 1 := by kernel_rfl
@[go_sem] theorem byT_20 : byT Try.prog 20 = 16 := by kernel_rfl
@[go_sem] theorem szT_21 : szT Try.prog 21 = some 1 := by kernel_rfl
@[go_sem] theorem aggT_21 : aggT Try.prog 21 = some false := by kernel_rfl
@[go_sem] theorem zeT_21 : zeT Try.prog 21 = some (.int .i32 0) := by kernel_rfl
@[go_sem] theorem elZ_21 : elZ Try.prog 21 = some 1 := by kernel_rfl
@[go_sem] theorem byT_21 : byT Try.prog 21 = 4 := by kernel_rfl
@[go_sem] theorem conc_21 : Try.prog.concrete 21 = true := by kernel_rfl
@[go_sem] theorem szT_22 : szT Try.prog 22 = some 1 := by kernel_rfl
@[go_sem] theorem aggT_22 : aggT Try.prog 22 = some false := by kernel_rfl
@[go_sem] theorem zeT_22 : zeT Try.prog 22 = some (.slice none 0 0) := by kernel_rfl
@[go_sem] theorem elZ_22 : elZ Try.prog 22 = some 1 := by kernel_rfl
@[go_sem] theorem byT_22 : byT Try.prog 22 = 24 := by kernel_rfl
@[go_sem] theorem elT_22 : elT Try.prog 22 = some 67 := by kernel_rfl
@[go_sem] theorem conc_22 : Try.prog.concrete 22 = true := by kernel_rfl
@[go_sem] theorem szT_23 : szT Try.prog 23 = some 1 := by kernel_rfl
@[go_sem] theorem aggT_23 : aggT Try.prog 23 = some false := by kernel_rfl
@[go_sem] theorem zeT_23 : zeT Try.prog 23 = some (.slice none 0 0) := by kernel_rfl
@[go_sem] theorem elZ_23 : elZ Try.prog 23 = some 1 := by kernel_rfl
@[go_sem] theorem byT_23 : byT Try.prog 23 = 24 := by kernel_rfl
@[go_sem] theorem elT_23 : elT Try.prog 23 = some 5 := by kernel_rfl
@[go_sem] theorem conc_23 : Try.prog.concrete 23 = true := by kernel_rfl
@[go_sem] theorem szT_24 : szT Try.prog 24 = some 1 := by kernel_rfl
@[go_sem] theorem aggT_24 : aggT Try.prog 24 = some false := by kernel_rfl
@[go_sem] theorem zeT_24 : zeT Try.prog 24 = some (.nilFunc) := by kernel_rfl
@[go_sem] theorem elZ_24 : elZ Try.prog 24 = some 1 := by kernel_rfl
@[go_sem] theorem byT_24 : byT Try.prog 24 = 8 := by kernel_rfl
@[go_sem] theorem conc_24 : Try.prog.concrete 24 = true := by kernel_rfl
@[go_sem] theorem szT_25 : szT Try.prog 25 = some 1 := by kernel_rfl
@[go_sem] theorem aggT_25 : aggT Try.prog 25 = some false := by kernel_rfl
@[go_sem] theorem zeT_25 : zeT Try.prog 25 = some (.nilFunc) := by kernel_rfl
@[go_sem] theorem elZ_25 : elZ Try.prog 25 = some 1 := by kernel_rfl
@[go_sem] theorem byT_25 : byT Try.prog 25 = 8 := by kernel_rfl
@[go_sem] theorem conc_25 : Try.prog.concrete 25 = true := by kernel_rfl
@[go_sem] theorem szT_26 : szT Try.prog 26 = some 1 := by kernel_rfl
@[go_sem] theorem aggT_26 : aggT Try.prog 26 = some false := by kernel_rfl
@[go_sem] theorem zeT_26 : zeT Try.prog 26 = some (.pointer none) := by kernel_rfl
@[go_sem] theorem elZ_26 : elZ Try.prog 26 = some 1 := by kernel_rfl
@[go_sem] theorem byT_26 : byT Try.prog 26 = 8 := by kernel_rfl
@[go_sem] theorem conc_26 : Try.prog.concrete 26 = true := by kernel_rfl
@[go_sem] theorem szT_27 : szT Try.prog 27 = some 1 := by kernel_rfl
@[go_sem] theorem aggT_27 : aggT Try.prog 27 = some false := by kernel_rfl
@[go_sem] theorem zeT_27 : zeT Try.prog 27 = some (.nilFunc) := by kernel_rfl
@[go_sem] theorem elZ_27 : elZ Try.prog 27 = some 1 := by kernel_rfl
@[go_sem] theorem byT_27 : byT Try.prog 27 = 8 := by kernel_rfl
@[go_sem] theorem conc_27 : Try.prog.concrete 27 = true := by kernel_rfl
@[go_sem] theorem szT_28 : szT Try.prog 28 = some 1 := by kernel_rfl
@[go_sem] theorem aggT_28 : aggT Try.prog 28 = some false := by kernel_rfl
@[go_sem] theorem zeT_28 : zeT Try.prog 28 = some (.pointer none) := by kernel_rfl
@[go_sem] theorem elZ_28 : elZ Try.prog 28 = some 1 := by kernel_rfl
@[go_sem] theorem byT_28 : byT Try.prog 28 = 8 := by kernel_rfl
@[go_sem] theorem conc_28 : Try.prog.concrete 28 = true := by kernel_rfl
@[go_sem] theorem szT_29 : szT Try.prog 29 = some 1 := by kernel_rfl
@[go_sem] theorem aggT_29 : aggT Try.prog 29 = some false := by kernel_rfl
@[go_sem] theorem zeT_29 : zeT Try.prog 29 = some (.nilFunc) := by kernel_rfl
@[go_sem] theorem elZ_29 : elZ Try.prog 29 = some 1 := by kernel_rfl
@[go_sem] theorem byT_29 : byT Try.prog 29 = 8 := by kernel_rfl
@[go_sem] theorem conc_29 : Try.prog.concrete 29 = true := by kernel_rfl
@[go_sem] theorem szT_30 : szT Try.prog 30 = some 1 := by kernel_rfl
@[go_sem] theorem aggT_30 : aggT Try.prog 30 = some false := by kernel_rfl
@[go_sem] theorem zeT_30 : zeT Try.prog 30 = some (.int .i64 0) := by kernel_rfl
@[go_sem] theorem elZ_30 : elZ Try.prog 30 = some 1 := by kernel_rfl
@[go_sem] theorem byT_30 : byT Try.prog 30 = 8 := by kernel_rfl
@[go_sem] theorem conc_30 : Try.prog.concrete 30 = true := by kernel_rfl
@[go_sem] theorem szT_31 : szT Try.prog 31 = some 1 := by kernel_rfl
@[go_sem] theorem aggT_31 : aggT Try.prog 31 = some false := by kernel_rfl
@[go_sem] theorem zeT_31 : zeT Try.prog 31 = some (.nilFunc) := by kernel_rfl
@[go_sem] theorem elZ_31 : elZ Try.prog 31 = some 1 := by kernel_rfl
@[go_sem] theorem byT_31 : byT Try.prog 31 = 8 := by kernel_rfl
@[go_sem] theorem conc_31 : Try.prog.concrete 31 = true := by kernel_rfl
@[go_sem] theorem szT_32 : szT Try.prog 32 = some 1 := by kernel_rfl
@[go_sem] theorem aggT_32 : aggT Try.prog 32 = some false := by kernel_rfl
@[go_sem] theorem zeT_32 : zeT Try.prog 32 = some (.nilFunc) := by kernel_rfl
@[go_sem] theorem elZ_32 : elZ Try.prog 32 = some 1 := by kernel_rfl
@[go_sem] theorem byT_32 : byT Try.prog 32 = 8 := by kernel_rfl
@[go_sem] theorem conc_32 : Try.prog.concrete 32 = true := by kernel_rfl
@[go_sem] theorem szT_33 : szT Try.prog 33 = some 1 := by kernel_rfl
@[go_sem] theorem aggT_33 : aggT Try.prog 33 = some false := by kernel_rfl
@[go_sem] theorem zeT_33 : zeT Try.prog 33 = some (.nilFunc) := by kernel_rfl
@[go_sem] theorem elZ_33 : elZ Try.prog 33 = some 1 := by kernel_rfl
@[go_sem] theorem byT_33 : byT Try.prog 33 = 8 := by kernel_rfl
@[go_sem] theorem conc_33 : Try.prog.concrete 33 = true := by kernel_rfl
@[go_sem] theorem szT_34 : szT Try.prog 34 = some 1 := by kernel_rfl
@[go_sem] theorem aggT_34 : aggT Try.prog 34 = some false := by kernel_rfl
@[go_sem] theorem zeT_34 : zeT Try.prog 34 = some (.nilFunc) := by kernel_rfl
@[go_sem] theorem elZ_34 : elZ Try.prog 34 = some 1 := by kernel_rfl
@[go_sem] theorem byT_34 : byT Try.prog 34 = 8 := by kernel_rfl
@[go_sem] theorem conc_34 : Try.prog.concrete 34 = true := by kernel_rfl
@[go_sem] theorem szT_35 : szT Try.prog 35 = some 1 := by kernel_rfl
@[go_sem] theorem aggT_35 : aggT Try.prog 35 = some false := by kernel_rfl
@[go_sem] theorem zeT_35 : zeT Try.prog 35 = some (.slice none 0 0) := by kernel_rfl
@[go_sem] theorem elZ_35 : elZ Try.prog 35 = some 1 := by kernel_rfl
@[go_sem] theorem byT_35 : byT Try.prog 35 = 24 := by kernel_rfl
@[go_sem] theorem elT_35 : elT Try.prog 35 = some 38 := by kernel_rfl
@[go_sem] theorem conc_35 : Try.prog.concrete 35 = true := by kernel_rfl
@[go_sem] theorem szT_36 : szT Try.prog 36 = some 1 := by kernel_rfl
@[go_sem] theorem aggT_36 : aggT Try.prog 36 = some false := by kernel_rfl
@[go_sem] theorem zeT_36 : zeT Try.prog 36 = some (.nilFunc) := by kernel_rfl
@[go_sem] theorem elZ_36 : elZ Try.prog 36 = some 1 := by kernel_rfl
@[go_sem] theorem byT_36 : byT Try.prog 36 = 8 := by kernel_rfl
@[go_sem] theorem conc_36 : Try.prog.concrete 36 = true := by kernel_rfl
@[go_sem] theorem szT_37 : szT Try.prog 37 = some 4 := by kernel_rfl
@[go_sem] theorem aggT_37 : aggT Try.prog 37 = some true := by kernel_rfl
@[go_sem] theorem offT_37x0 : offT Try.prog 37 0 = some 0 := by kernel_rfl
@[go_sem] theorem offT_37x1 : offT Try.prog 37 1 = some 1 := by kernel_rfl
@[go_sem] theorem offT_37x2 : offT Try.prog 37 2 = some 2 := by kernel_rfl
@[go_sem] theorem offT_37x3 : offT Try.prog 37 3 = some 3 := by kernel_rfl
@[go_sem] theorem plcs_37 : plcs Try.prog 37 = some [(0, 1), (1, 1), (2, 1), (3, 1)] := by kernel_rfl
@[go_sem] theorem zeT_37 : zeT Try.prog 37 = some (.agg #[.int .u8 0, .int .i64 0, .int .i64 0, .string ⟨#[]⟩]) := by kernel_rfl
@[go_sem] theorem elZ_37 : elZ Try.prog 37 = some 4 := by kernel_rfl
@[go_sem] theorem byT_37 : byT Try.prog 37 = 40 := by kernel_rfl
@[go_sem] theorem conc_37 : Try.prog.concrete 37 = true := by kernel_rfl
@[go_sem] theorem eqg_37 : Program.eqGuardType Try.prog (Program.depth Try.prog) 37 = false := by kernel_rfl
@[go_sem] theorem stood_37 : Try.prog.stoodInHeld 37 = false := by kernel_rfl
@[go_sem] theorem szT_38 : szT Try.prog 38 = some 4 := by kernel_rfl
@[go_sem] theorem aggT_38 : aggT Try.prog 38 = some true := by kernel_rfl
@[go_sem] theorem offT_38x0 : offT Try.prog 38 0 = some 0 := by kernel_rfl
@[go_sem] theorem offT_38x1 : offT Try.prog 38 1 = some 1 := by kernel_rfl
@[go_sem] theorem offT_38x2 : offT Try.prog 38 2 = some 2 := by kernel_rfl
@[go_sem] theorem offT_38x3 : offT Try.prog 38 3 = some 3 := by kernel_rfl
@[go_sem] theorem plcs_38 : plcs Try.prog 38 = some [(0, 1), (1, 1), (2, 1), (3, 1)] := by kernel_rfl
@[go_sem] theorem zeT_38 : zeT Try.prog 38 = some (.agg #[.int .u8 0, .int .i64 0, .int .i64 0, .string ⟨#[]⟩]) := by kernel_rfl
@[go_sem] theorem elZ_38 : elZ Try.prog 38 = some 4 := by kernel_rfl
@[go_sem] theorem byT_38 : byT Try.prog 38 = 40 := by kernel_rfl
@[go_sem] theorem conc_38 : Try.prog.concrete 38 = true := by kernel_rfl
@[go_sem] theorem eqg_38 : Program.eqGuardType Try.prog (Program.depth Try.prog) 38 = false := by kernel_rfl
@[go_sem] theorem stood_38 : Try.prog.stoodInHeld 38 = false := by kernel_rfl
@[go_sem] theorem szT_39 : szT Try.prog 39 = some 1 := by kernel_rfl
@[go_sem] theorem aggT_39 : aggT Try.prog 39 = some false := by kernel_rfl
@[go_sem] theorem zeT_39 : zeT Try.prog 39 = some (.nilFunc) := by kernel_rfl
@[go_sem] theorem elZ_39 : elZ Try.prog 39 = some 1 := by kernel_rfl
@[go_sem] theorem byT_39 : byT Try.prog 39 = 8 := by kernel_rfl
@[go_sem] theorem conc_39 : Try.prog.concrete 39 = true := by kernel_rfl
@[go_sem] theorem szT_40 : szT Try.prog 40 = some 1 := by kernel_rfl
@[go_sem] theorem aggT_40 : aggT Try.prog 40 = some false := by kernel_rfl
@[go_sem] theorem zeT_40 : zeT Try.prog 40 = some (.slice none 0 0) := by kernel_rfl
@[go_sem] theorem elZ_40 : elZ Try.prog 40 = some 1 := by kernel_rfl
@[go_sem] theorem byT_40 : byT Try.prog 40 = 24 := by kernel_rfl
@[go_sem] theorem elT_40 : elT Try.prog 40 = some 47 := by kernel_rfl
@[go_sem] theorem conc_40 : Try.prog.concrete 40 = true := by kernel_rfl
@[go_sem] theorem szT_41 : szT Try.prog 41 = some 1 := by kernel_rfl
@[go_sem] theorem aggT_41 : aggT Try.prog 41 = some false := by kernel_rfl
@[go_sem] theorem zeT_41 : zeT Try.prog 41 = some (.slice none 0 0) := by kernel_rfl
@[go_sem] theorem elZ_41 : elZ Try.prog 41 = some 1 := by kernel_rfl
@[go_sem] theorem byT_41 : byT Try.prog 41 = 24 := by kernel_rfl
@[go_sem] theorem elT_41 : elT Try.prog 41 = some 57 := by kernel_rfl
@[go_sem] theorem conc_41 : Try.prog.concrete 41 = true := by kernel_rfl
@[go_sem] theorem szT_42 : szT Try.prog 42 = some 1 := by kernel_rfl
@[go_sem] theorem aggT_42 : aggT Try.prog 42 = some true := by kernel_rfl
@[go_sem] theorem offT_42x0 : offT Try.prog 42 0 = some 0 := by kernel_rfl
@[go_sem] theorem plcs_42 : plcs Try.prog 42 = some [(0, 1)] := by kernel_rfl
@[go_sem] theorem zeT_42 : zeT Try.prog 42 = some (.agg #[.slice none 0 0]) := by kernel_rfl
@[go_sem] theorem elZ_42 : elZ Try.prog 42 = some 1 := by kernel_rfl
@[go_sem] theorem byT_42 : byT Try.prog 42 = 24 := by kernel_rfl
@[go_sem] theorem conc_42 : Try.prog.concrete 42 = true := by kernel_rfl
@[go_sem] theorem szT_43 : szT Try.prog 43 = some 1 := by kernel_rfl
@[go_sem] theorem aggT_43 : aggT Try.prog 43 = some true := by kernel_rfl
@[go_sem] theorem offT_43x0 : offT Try.prog 43 0 = some 0 := by kernel_rfl
@[go_sem] theorem plcs_43 : plcs Try.prog 43 = some [(0, 1)] := by kernel_rfl
@[go_sem] theorem zeT_43 : zeT Try.prog 43 = some (.agg #[.slice none 0 0]) := by kernel_rfl
@[go_sem] theorem elZ_43 : elZ Try.prog 43 = some 1 := by kernel_rfl
@[go_sem] theorem byT_43 : byT Try.prog 43 = 24 := by kernel_rfl
@[go_sem] theorem conc_43 : Try.prog.concrete 43 = true := by kernel_rfl
@[go_sem] theorem szT_44 : szT Try.prog 44 = some 1 := by kernel_rfl
@[go_sem] theorem aggT_44 : aggT Try.prog 44 = some false := by kernel_rfl
@[go_sem] theorem zeT_44 : zeT Try.prog 44 = some (.slice none 0 0) := by kernel_rfl
@[go_sem] theorem elZ_44 : elZ Try.prog 44 = some 1 := by kernel_rfl
@[go_sem] theorem byT_44 : byT Try.prog 44 = 24 := by kernel_rfl
@[go_sem] theorem elT_44 : elT Try.prog 44 = some 28 := by kernel_rfl
@[go_sem] theorem conc_44 : Try.prog.concrete 44 = true := by kernel_rfl
@[go_sem] theorem szT_45 : szT Try.prog 45 = some 1 := by kernel_rfl
@[go_sem] theorem aggT_45 : aggT Try.prog 45 = some false := by kernel_rfl
@[go_sem] theorem zeT_45 : zeT Try.prog 45 = some (.slice none 0 0) := by kernel_rfl
@[go_sem] theorem elZ_45 : elZ Try.prog 45 = some 1 := by kernel_rfl
@[go_sem] theorem byT_45 : byT Try.prog 45 = 24 := by kernel_rfl
@[go_sem] theorem elT_45 : elT Try.prog 45 = some 3 := by kernel_rfl
@[go_sem] theorem conc_45 : Try.prog.concrete 45 = true := by kernel_rfl
@[go_sem] theorem szT_46 : szT Try.prog 46 = some 5 := by kernel_rfl
@[go_sem] theorem aggT_46 : aggT Try.prog 46 = some true := by kernel_rfl
@[go_sem] theorem offT_46x0 : offT Try.prog 46 0 = some 0 := by kernel_rfl
@[go_sem] theorem offT_46x1 : offT Try.prog 46 1 = some 1 := by kernel_rfl
@[go_sem] theorem offT_46x2 : offT Try.prog 46 2 = some 2 := by kernel_rfl
@[go_sem] theorem offT_46x3 : offT Try.prog 46 3 = some 3 := by kernel_rfl
@[go_sem] theorem offT_46x4 : offT Try.prog 46 4 = some 4 := by kernel_rfl
@[go_sem] theorem plcs_46 : plcs Try.prog 46 = some [(0, 1), (1, 1), (2, 1), (3, 1), (4, 1)] := by kernel_rfl
@[go_sem] theorem zeT_46 : zeT Try.prog 46 = some (.agg #[.int .i64 0, .int .i64 0, .slice none 0 0, .slice none 0 0, .slice none 0 0]) := by kernel_rfl
@[go_sem] theorem elZ_46 : elZ Try.prog 46 = some 5 := by kernel_rfl
@[go_sem] theorem byT_46 : byT Try.prog 46 = 88 := by kernel_rfl
@[go_sem] theorem conc_46 : Try.prog.concrete 46 = true := by kernel_rfl
@[go_sem] theorem szT_47 : szT Try.prog 47 = some 5 := by kernel_rfl
@[go_sem] theorem aggT_47 : aggT Try.prog 47 = some true := by kernel_rfl
@[go_sem] theorem offT_47x0 : offT Try.prog 47 0 = some 0 := by kernel_rfl
@[go_sem] theorem offT_47x1 : offT Try.prog 47 1 = some 1 := by kernel_rfl
@[go_sem] theorem offT_47x2 : offT Try.prog 47 2 = some 2 := by kernel_rfl
@[go_sem] theorem offT_47x3 : offT Try.prog 47 3 = some 3 := by kernel_rfl
@[go_sem] theorem offT_47x4 : offT Try.prog 47 4 = some 4 := by kernel_rfl
@[go_sem] theorem plcs_47 : plcs Try.prog 47 = some [(0, 1), (1, 1), (2, 1), (3, 1), (4, 1)] := by kernel_rfl
@[go_sem] theorem zeT_47 : zeT Try.prog 47 = some (.agg #[.int .i64 0, .int .i64 0, .slice none 0 0, .slice none 0 0, .slice none 0 0]) := by kernel_rfl
@[go_sem] theorem elZ_47 : elZ Try.prog 47 = some 5 := by kernel_rfl
@[go_sem] theorem byT_47 : byT Try.prog 47 = 88 := by kernel_rfl
@[go_sem] theorem conc_47 : Try.prog.concrete 47 = true := by kernel_rfl
@[go_sem] theorem szT_49 : szT Try.prog 49 = some 1 := by kernel_rfl
@[go_sem] theorem aggT_49 : aggT Try.prog 49 = some false := by kernel_rfl
@[go_sem] theorem zeT_49 : zeT Try.prog 49 = some (.nilFunc) := by kernel_rfl
@[go_sem] theorem elZ_49 : elZ Try.prog 49 = some 1 := by kernel_rfl
@[go_sem] theorem byT_49 : byT Try.prog 49 = 8 := by kernel_rfl
@[go_sem] theorem conc_49 : Try.prog.concrete 49 = true := by kernel_rfl
@[go_sem] theorem szT_50 : szT Try.prog 50 = some 1 := by kernel_rfl
@[go_sem] theorem aggT_50 : aggT Try.prog 50 = some false := by kernel_rfl
@[go_sem] theorem zeT_50 : zeT Try.prog 50 = some (.nilFunc) := by kernel_rfl
@[go_sem] theorem elZ_50 : elZ Try.prog 50 = some 1 := by kernel_rfl
@[go_sem] theorem byT_50 : byT Try.prog 50 = 8 := by kernel_rfl
@[go_sem] theorem conc_50 : Try.prog.concrete 50 = true := by kernel_rfl
@[go_sem] theorem szT_51 : szT Try.prog 51 = some 1 := by kernel_rfl
@[go_sem] theorem aggT_51 : aggT Try.prog 51 = some false := by kernel_rfl
@[go_sem] theorem zeT_51 : zeT Try.prog 51 = some (.nilFunc) := by kernel_rfl
@[go_sem] theorem elZ_51 : elZ Try.prog 51 = some 1 := by kernel_rfl
@[go_sem] theorem byT_51 : byT Try.prog 51 = 8 := by kernel_rfl
@[go_sem] theorem conc_51 : Try.prog.concrete 51 = true := by kernel_rfl
@[go_sem] theorem szT_52 : szT Try.prog 52 = some 1 := by kernel_rfl
@[go_sem] theorem aggT_52 : aggT Try.prog 52 = some false := by kernel_rfl
@[go_sem] theorem zeT_52 : zeT Try.prog 52 = some (.nilFunc) := by kernel_rfl
@[go_sem] theorem elZ_52 : elZ Try.prog 52 = some 1 := by kernel_rfl
@[go_sem] theorem byT_52 : byT Try.prog 52 = 8 := by kernel_rfl
@[go_sem] theorem conc_52 : Try.prog.concrete 52 = true := by kernel_rfl
@[go_sem] theorem szT_54 : szT Try.prog 54 = some 1 := by kernel_rfl
@[go_sem] theorem aggT_54 : aggT Try.prog 54 = some false := by kernel_rfl
@[go_sem] theorem zeT_54 : zeT Try.prog 54 = some (.nilFunc) := by kernel_rfl
@[go_sem] theorem elZ_54 : elZ Try.prog 54 = some 1 := by kernel_rfl
@[go_sem] theorem byT_54 : byT Try.prog 54 = 8 := by kernel_rfl
@[go_sem] theorem conc_54 : Try.prog.concrete 54 = true := by kernel_rfl
@[go_sem] theorem szT_55 : szT Try.prog 55 = some 1 := by kernel_rfl
@[go_sem] theorem aggT_55 : aggT Try.prog 55 = some false := by kernel_rfl
@[go_sem] theorem zeT_55 : zeT Try.prog 55 = some (.nilFunc) := by kernel_rfl
@[go_sem] theorem elZ_55 : elZ Try.prog 55 = some 1 := by kernel_rfl
@[go_sem] theorem byT_55 : byT Try.prog 55 = 8 := by kernel_rfl
@[go_sem] theorem conc_55 : Try.prog.concrete 55 = true := by kernel_rfl
@[go_sem] theorem szT_56 : szT Try.prog 56 = some 6 := by kernel_rfl
@[go_sem] theorem aggT_56 : aggT Try.prog 56 = some true := by kernel_rfl
@[go_sem] theorem offT_56x0 : offT Try.prog 56 0 = some 0 := by kernel_rfl
@[go_sem] theorem offT_56x1 : offT Try.prog 56 1 = some 1 := by kernel_rfl
@[go_sem] theorem offT_56x2 : offT Try.prog 56 2 = some 2 := by kernel_rfl
@[go_sem] theorem offT_56x3 : offT Try.prog 56 3 = some 3 := by kernel_rfl
@[go_sem] theorem offT_56x4 : offT Try.prog 56 4 = some 4 := by kernel_rfl
@[go_sem] theorem offT_56x5 : offT Try.prog 56 5 = some 5 := by kernel_rfl
@[go_sem] theorem plcs_56 : plcs Try.prog 56 = some [(0, 1), (1, 1), (2, 1), (3, 1), (4, 1), (5, 1)] := by kernel_rfl
@[go_sem] theorem zeT_56 : zeT Try.prog 56 = some (.agg #[.int .i64 0, .bool false, .int .i64 0, .int .i64 0, .slice none 0 0, .bool false]) := by kernel_rfl
@[go_sem] theorem elZ_56 : elZ Try.prog 56 = some 6 := by kernel_rfl
@[go_sem] theorem byT_56 : byT Try.prog 56 = 64 := by kernel_rfl
@[go_sem] theorem conc_56 : Try.prog.concrete 56 = true := by kernel_rfl
@[go_sem] theorem szT_57 : szT Try.prog 57 = some 6 := by kernel_rfl
@[go_sem] theorem aggT_57 : aggT Try.prog 57 = some true := by kernel_rfl
@[go_sem] theorem offT_57x0 : offT Try.prog 57 0 = some 0 := by kernel_rfl
@[go_sem] theorem offT_57x1 : offT Try.prog 57 1 = some 1 := by kernel_rfl
@[go_sem] theorem offT_57x2 : offT Try.prog 57 2 = some 2 := by kernel_rfl
@[go_sem] theorem offT_57x3 : offT Try.prog 57 3 = some 3 := by kernel_rfl
@[go_sem] theorem offT_57x4 : offT Try.prog 57 4 = some 4 := by kernel_rfl
@[go_sem] theorem offT_57x5 : offT Try.prog 57 5 = some 5 := by kernel_rfl
@[go_sem] theorem plcs_57 : plcs Try.prog 57 = some [(0, 1), (1, 1), (2, 1), (3, 1), (4, 1), (5, 1)] := by kernel_rfl
@[go_sem] theorem zeT_57 : zeT Try.prog 57 = some (.agg #[.int .i64 0, .bool false, .int .i64 0, .int .i64 0, .slice none 0 0, .bool false]) := by kernel_rfl
@[go_sem] theorem elZ_57 : elZ Try.prog 57 = some 6 := by kernel_rfl
@[go_sem] theorem byT_57 : byT Try.prog 57 = 64 := by kernel_rfl
@[go_sem] theorem conc_57 : Try.prog.concrete 57 = true := by kernel_rfl
@[go_sem] theorem szT_58 : szT Try.prog 58 = some 1 := by kernel_rfl
@[go_sem] theorem aggT_58 : aggT Try.prog 58 = some false := by kernel_rfl
@[go_sem] theorem zeT_58 : zeT Try.prog 58 = some (.nilFunc) := by kernel_rfl
@[go_sem] theorem elZ_58 : elZ Try.prog 58 = some 1 := by kernel_rfl
@[go_sem] theorem byT_58 : byT Try.prog 58 = 8 := by kernel_rfl
@[go_sem] theorem conc_58 : Try.prog.concrete 58 = true := by kernel_rfl
@[go_sem] theorem szT_59 : szT Try.prog 59 = some 1 := by kernel_rfl
@[go_sem] theorem aggT_59 : aggT Try.prog 59 = some false := by kernel_rfl
@[go_sem] theorem zeT_59 : zeT Try.prog 59 = some (.nilFunc) := by kernel_rfl
@[go_sem] theorem elZ_59 : elZ Try.prog 59 = some 1 := by kernel_rfl
@[go_sem] theorem byT_59 : byT Try.prog 59 = 8 := by kernel_rfl
@[go_sem] theorem conc_59 : Try.prog.concrete 59 = true := by kernel_rfl
@[go_sem] theorem szT_60 : szT Try.prog 60 = some 1 := by kernel_rfl
@[go_sem] theorem aggT_60 : aggT Try.prog 60 = some false := by kernel_rfl
@[go_sem] theorem zeT_60 : zeT Try.prog 60 = some (.nilFunc) := by kernel_rfl
@[go_sem] theorem elZ_60 : elZ Try.prog 60 = some 1 := by kernel_rfl
@[go_sem] theorem byT_60 : byT Try.prog 60 = 8 := by kernel_rfl
@[go_sem] theorem conc_60 : Try.prog.concrete 60 = true := by kernel_rfl
@[go_sem] theorem szT_61 : szT Try.prog 61 = some 1 := by kernel_rfl
@[go_sem] theorem aggT_61 : aggT Try.prog 61 = some false := by kernel_rfl
@[go_sem] theorem zeT_61 : zeT Try.prog 61 = some (.nilFunc) := by kernel_rfl
@[go_sem] theorem elZ_61 : elZ Try.prog 61 = some 1 := by kernel_rfl
@[go_sem] theorem byT_61 : byT Try.prog 61 = 8 := by kernel_rfl
@[go_sem] theorem conc_61 : Try.prog.concrete 61 = true := by kernel_rfl
@[go_sem] theorem szT_62 : szT Try.prog 62 = some 1 := by kernel_rfl
@[go_sem] theorem aggT_62 : aggT Try.prog 62 = some false := by kernel_rfl
@[go_sem] theorem zeT_62 : zeT Try.prog 62 = some (.nilFunc) := by kernel_rfl
@[go_sem] theorem elZ_62 : elZ Try.prog 62 = some 1 := by kernel_rfl
@[go_sem] theorem byT_62 : byT Try.prog 62 = 8 := by kernel_rfl
@[go_sem] theorem conc_62 : Try.prog.concrete 62 = true := by kernel_rfl
@[go_sem] theorem szT_63 : szT Try.prog 63 = some 1 := by kernel_rfl
@[go_sem] theorem aggT_63 : aggT Try.prog 63 = some false := by kernel_rfl
@[go_sem] theorem zeT_63 : zeT Try.prog 63 = some (.nilFunc) := by kernel_rfl
@[go_sem] theorem elZ_63 : elZ Try.prog 63 = some 1 := by kernel_rfl
@[go_sem] theorem byT_63 : byT Try.prog 63 = 8 := by kernel_rfl
@[go_sem] theorem conc_63 : Try.prog.concrete 63 = true := by kernel_rfl
@[go_sem] theorem szT_64 : szT Try.prog 64 = some 4 := by kernel_rfl
@[go_sem] theorem aggT_64 : aggT Try.prog 64 = some true := by kernel_rfl
@[go_sem] theorem offT_64x0 : offT Try.prog 64 0 = some 0 := by kernel_rfl
@[go_sem] theorem offT_64x1 : offT Try.prog 64 1 = some 1 := by kernel_rfl
@[go_sem] theorem offT_64x2 : offT Try.prog 64 2 = some 2 := by kernel_rfl
@[go_sem] theorem offT_64x3 : offT Try.prog 64 3 = some 3 := by kernel_rfl
@[go_sem] theorem plcs_64 : plcs Try.prog 64 = some [(0, 1), (1, 1), (2, 1), (3, 1)] := by kernel_rfl
@[go_sem] theorem zeT_64 : zeT Try.prog 64 = some (.agg #[.int .i64 0, .int .i64 0, .int .i64 0, .int .i64 0]) := by kernel_rfl
@[go_sem] theorem elZ_64 : elZ Try.prog 64 = some 4 := by kernel_rfl
@[go_sem] theorem byT_64 : byT Try.prog 64 = 32 := by kernel_rfl
@[go_sem] theorem conc_64 : Try.prog.concrete 64 = true := by kernel_rfl
@[go_sem] theorem eqg_64 : Program.eqGuardType Try.prog (Program.depth Try.prog) 64 = false := by kernel_rfl
@[go_sem] theorem stood_64 : Try.prog.stoodInHeld 64 = false := by kernel_rfl
@[go_sem] theorem szT_65 : szT Try.prog 65 = some 4 := by kernel_rfl
@[go_sem] theorem aggT_65 : aggT Try.prog 65 = some true := by kernel_rfl
@[go_sem] theorem offT_65x0 : offT Try.prog 65 0 = some 0 := by kernel_rfl
@[go_sem] theorem offT_65x1 : offT Try.prog 65 1 = some 1 := by kernel_rfl
@[go_sem] theorem offT_65x2 : offT Try.prog 65 2 = some 2 := by kernel_rfl
@[go_sem] theorem offT_65x3 : offT Try.prog 65 3 = some 3 := by kernel_rfl
@[go_sem] theorem plcs_65 : plcs Try.prog 65 = some [(0, 1), (1, 1), (2, 1), (3, 1)] := by kernel_rfl
@[go_sem] theorem zeT_65 : zeT Try.prog 65 = some (.agg #[.int .i64 0, .int .i64 0, .int .i64 0, .int .i64 0]) := by kernel_rfl
@[go_sem] theorem elZ_65 : elZ Try.prog 65 = some 4 := by kernel_rfl
@[go_sem] theorem byT_65 : byT Try.prog 65 = 32 := by kernel_rfl
@[go_sem] theorem conc_65 : Try.prog.concrete 65 = true := by kernel_rfl
@[go_sem] theorem eqg_65 : Program.eqGuardType Try.prog (Program.depth Try.prog) 65 = false := by kernel_rfl
@[go_sem] theorem stood_65 : Try.prog.stoodInHeld 65 = false := by kernel_rfl
@[go_sem] theorem szT_66 : szT Try.prog 66 = some 5 := by kernel_rfl
@[go_sem] theorem aggT_66 : aggT Try.prog 66 = some true := by kernel_rfl
@[go_sem] theorem offT_66x0 : offT Try.prog 66 0 = some 0 := by kernel_rfl
@[go_sem] theorem offT_66x1 : offT Try.prog 66 1 = some 1 := by kernel_rfl
@[go_sem] theorem plcs_66 : plcs Try.prog 66 = some [(0, 1), (1, 4)] := by kernel_rfl
@[go_sem] theorem zeT_66 : zeT Try.prog 66 = some (.agg #[.int .i64 0, .int .i64 0, .int .i64 0, .int .i64 0, .int .i64 0]) := by kernel_rfl
@[go_sem] theorem elZ_66 : elZ Try.prog 66 = some 5 := by kernel_rfl
@[go_sem] theorem byT_66 : byT Try.prog 66 = 40 := by kernel_rfl
@[go_sem] theorem conc_66 : Try.prog.concrete 66 = true := by kernel_rfl
@[go_sem] theorem eqg_66 : Program.eqGuardType Try.prog (Program.depth Try.prog) 66 = false := by kernel_rfl
@[go_sem] theorem stood_66 : Try.prog.stoodInHeld 66 = false := by kernel_rfl
@[go_sem] theorem szT_67 : szT Try.prog 67 = some 5 := by kernel_rfl
@[go_sem] theorem aggT_67 : aggT Try.prog 67 = some true := by kernel_rfl
@[go_sem] theorem offT_67x0 : offT Try.prog 67 0 = some 0 := by kernel_rfl
@[go_sem] theorem offT_67x1 : offT Try.prog 67 1 = some 1 := by kernel_rfl
@[go_sem] theorem plcs_67 : plcs Try.prog 67 = some [(0, 1), (1, 4)] := by kernel_rfl
@[go_sem] theorem zeT_67 : zeT Try.prog 67 = some (.agg #[.int .i64 0, .int .i64 0, .int .i64 0, .int .i64 0, .int .i64 0]) := by kernel_rfl
@[go_sem] theorem elZ_67 : elZ Try.prog 67 = some 5 := by kernel_rfl
@[go_sem] theorem byT_67 : byT Try.prog 67 = 40 := by kernel_rfl
@[go_sem] theorem conc_67 : Try.prog.concrete 67 = true := by kernel_rfl
@[go_sem] theorem eqg_67 : Program.eqGuardType Try.prog (Program.depth Try.prog) 67 = false := by kernel_rfl
@[go_sem] theorem stood_67 : Try.prog.stoodInHeld 67 = false := by kernel_rfl
@[go_sem] theorem szT_68 : szT Try.prog 68 = some 1 := by kernel_rfl
@[go_sem] theorem aggT_68 : aggT Try.prog 68 = some false := by kernel_rfl
@[go_sem] theorem zeT_68 : zeT Try.prog 68 = some (.nilFunc) := by kernel_rfl
@[go_sem] theorem elZ_68 : elZ Try.prog 68 = some 1 := by kernel_rfl
@[go_sem] theorem byT_68 : byT Try.prog 68 = 8 := by kernel_rfl
@[go_sem] theorem conc_68 : Try.prog.concrete 68 = true := by kernel_rfl
@[go_sem] theorem szT_69 : szT Try.prog 69 = some 1 := by kernel_rfl
@[go_sem] theorem aggT_69 : aggT Try.prog 69 = some false := by kernel_rfl
@[go_sem] theorem zeT_69 : zeT Try.prog 69 = some (.nilFunc) := by kernel_rfl
@[go_sem] theorem elZ_69 : elZ Try.prog 69 = some 1 := by kernel_rfl
@[go_sem] theorem byT_69 : byT Try.prog 69 = 8 := by kernel_rfl
@[go_sem] theorem conc_69 : Try.prog.concrete 69 = true := by kernel_rfl
@[go_sem] theorem szT_70 : szT Try.prog 70 = some 1 := by kernel_rfl
@[go_sem] theorem aggT_70 : aggT Try.prog 70 = some false := by kernel_rfl
@[go_sem] theorem zeT_70 : zeT Try.prog 70 = some (.slice none 0 0) := by kernel_rfl
@[go_sem] theorem elZ_70 : elZ Try.prog 70 = some 1 := by kernel_rfl
@[go_sem] theorem byT_70 : byT Try.prog 70 = 24 := by kernel_rfl
@[go_sem] theorem elT_70 : elT Try.prog 70 = some 72 := by kernel_rfl
@[go_sem] theorem conc_70 : Try.prog.concrete 70 = true := by kernel_rfl
@[go_sem] theorem szT_71 : szT Try.prog 71 = some 7 := by kernel_rfl
@[go_sem] theorem aggT_71 : aggT Try.prog 71 = some true := by kernel_rfl
@[go_sem] theorem offT_71x0 : offT Try.prog 71 0 = some 0 := by kernel_rfl
@[go_sem] theorem offT_71x1 : offT Try.prog 71 1 = some 1 := by kernel_rfl
@[go_sem] theorem offT_71x2 : offT Try.prog 71 2 = some 5 := by kernel_rfl
@[go_sem] theorem offT_71x3 : offT Try.prog 71 3 = some 6 := by kernel_rfl
@[go_sem] theorem plcs_71 : plcs Try.prog 71 = some [(0, 1), (1, 4), (5, 1), (6, 1)] := by kernel_rfl
@[go_sem] theorem zeT_71 : zeT Try.prog 71 = some (.agg #[.int .u8 0, .int .i64 0, .int .i64 0, .int .i64 0, .int .i64 0, .int .i64 0, .slice none 0 0]) := by kernel_rfl
@[go_sem] theorem elZ_71 : elZ Try.prog 71 = some 7 := by kernel_rfl
@[go_sem] theorem byT_71 : byT Try.prog 71 = 72 := by kernel_rfl
@[go_sem] theorem conc_71 : Try.prog.concrete 71 = true := by kernel_rfl
@[go_sem] theorem szT_72 : szT Try.prog 72 = some 7 := by kernel_rfl
@[go_sem] theorem aggT_72 : aggT Try.prog 72 = some true := by kernel_rfl
@[go_sem] theorem offT_72x0 : offT Try.prog 72 0 = some 0 := by kernel_rfl
@[go_sem] theorem offT_72x1 : offT Try.prog 72 1 = some 1 := by kernel_rfl
@[go_sem] theorem offT_72x2 : offT Try.prog 72 2 = some 5 := by kernel_rfl
@[go_sem] theorem offT_72x3 : offT Try.prog 72 3 = some 6 := by kernel_rfl
@[go_sem] theorem plcs_72 : plcs Try.prog 72 = some [(0, 1), (1, 4), (5, 1), (6, 1)] := by kernel_rfl
@[go_sem] theorem zeT_72 : zeT Try.prog 72 = some (.agg #[.int .u8 0, .int .i64 0, .int .i64 0, .int .i64 0, .int .i64 0, .int .i64 0, .slice none 0 0]) := by kernel_rfl
@[go_sem] theorem elZ_72 : elZ Try.prog 72 = some 7 := by kernel_rfl
@[go_sem] theorem byT_72 : byT Try.prog 72 = 72 := by kernel_rfl
@[go_sem] theorem conc_72 : Try.prog.concrete 72 = true := by kernel_rfl
@[go_sem] theorem szT_73 : szT Try.prog 73 = some 1 := by kernel_rfl
@[go_sem] theorem aggT_73 : aggT Try.prog 73 = some false := by kernel_rfl
@[go_sem] theorem zeT_73 : zeT Try.prog 73 = some (.nilFunc) := by kernel_rfl
@[go_sem] theorem elZ_73 : elZ Try.prog 73 = some 1 := by kernel_rfl
@[go_sem] theorem byT_73 : byT Try.prog 73 = 8 := by kernel_rfl
@[go_sem] theorem conc_73 : Try.prog.concrete 73 = true := by kernel_rfl
@[go_sem] theorem szT_75 : szT Try.prog 75 = some 1 := by kernel_rfl
@[go_sem] theorem aggT_75 : aggT Try.prog 75 = some false := by kernel_rfl
@[go_sem] theorem zeT_75 : zeT Try.prog 75 = some (.nilFunc) := by kernel_rfl
@[go_sem] theorem elZ_75 : elZ Try.prog 75 = some 1 := by kernel_rfl
@[go_sem] theorem byT_75 : byT Try.prog 75 = 8 := by kernel_rfl
@[go_sem] theorem conc_75 : Try.prog.concrete 75 = true := by kernel_rfl
@[go_sem] theorem szT_77 : szT Try.prog 77 = some 1 := by kernel_rfl
@[go_sem] theorem aggT_77 : aggT Try.prog 77 = some false := by kernel_rfl
@[go_sem] theorem zeT_77 : zeT Try.prog 77 = some (.nilFunc) := by kernel_rfl
@[go_sem] theorem elZ_77 : elZ Try.prog 77 = some 1 := by kernel_rfl
@[go_sem] theorem byT_77 : byT Try.prog 77 = 8 := by kernel_rfl
@[go_sem] theorem conc_77 : Try.prog.concrete 77 = true := by kernel_rfl
@[go_sem] theorem szT_78 : szT Try.prog 78 = some 1 := by kernel_rfl
@[go_sem] theorem aggT_78 : aggT Try.prog 78 = some false := by kernel_rfl
@[go_sem] theorem zeT_78 : zeT Try.prog 78 = some (.nilFunc) := by kernel_rfl
@[go_sem] theorem elZ_78 : elZ Try.prog 78 = some 1 := by kernel_rfl
@[go_sem] theorem byT_78 : byT Try.prog 78 = 8 := by kernel_rfl
@[go_sem] theorem conc_78 : Try.prog.concrete 78 = true := by kernel_rfl
@[go_sem] theorem szT_79 : szT Try.prog 79 = some 1 := by kernel_rfl
@[go_sem] theorem aggT_79 : aggT Try.prog 79 = some false := by kernel_rfl
@[go_sem] theorem zeT_79 : zeT Try.prog 79 = some (.nilFunc) := by kernel_rfl
@[go_sem] theorem elZ_79 : elZ Try.prog 79 = some 1 := by kernel_rfl
@[go_sem] theorem byT_79 : byT Try.prog 79 = 8 := by kernel_rfl
@[go_sem] theorem conc_79 : Try.prog.concrete 79 = true := by kernel_rfl
@[go_sem] theorem szT_80 : szT Try.prog 80 = some 1 := by kernel_rfl
@[go_sem] theorem aggT_80 : aggT Try.prog 80 = some false := by kernel_rfl
@[go_sem] theorem zeT_80 : zeT Try.prog 80 = some (.nilFunc) := by kernel_rfl
@[go_sem] theorem elZ_80 : elZ Try.prog 80 = some 1 := by kernel_rfl
@[go_sem] theorem byT_80 : byT Try.prog 80 = 8 := by kernel_rfl
@[go_sem] theorem conc_80 : Try.prog.concrete 80 = true := by kernel_rfl
@[go_sem] theorem szT_81 : szT Try.prog 81 = some 1 := by kernel_rfl
@[go_sem] theorem aggT_81 : aggT Try.prog 81 = some false := by kernel_rfl
@[go_sem] theorem zeT_81 : zeT Try.prog 81 = some (.nilFunc) := by kernel_rfl
@[go_sem] theorem elZ_81 : elZ Try.prog 81 = some 1 := by kernel_rfl
@[go_sem] theorem byT_81 : byT Try.prog 81 = 8 := by kernel_rfl
@[go_sem] theorem conc_81 : Try.prog.concrete 81 = true := by kernel_rfl
@[go_sem] theorem szT_82 : szT Try.prog 82 = some 1 := by kernel_rfl
@[go_sem] theorem aggT_82 : aggT Try.prog 82 = some false := by kernel_rfl
@[go_sem] theorem zeT_82 : zeT Try.prog 82 = some (.nilFunc) := by kernel_rfl
@[go_sem] theorem elZ_82 : elZ Try.prog 82 = some 1 := by kernel_rfl
@[go_sem] theorem byT_82 : byT Try.prog 82 = 8 := by kernel_rfl
@[go_sem] theorem conc_82 : Try.prog.concrete 82 = true := by kernel_rfl
@[go_sem] theorem szT_83 : szT Try.prog 83 = some 1 := by kernel_rfl
@[go_sem] theorem aggT_83 : aggT Try.prog 83 = some false := by kernel_rfl
@[go_sem] theorem zeT_83 : zeT Try.prog 83 = some (.nilFunc) := by kernel_rfl
@[go_sem] theorem elZ_83 : elZ Try.prog 83 = some 1 := by kernel_rfl
@[go_sem] theorem byT_83 : byT Try.prog 83 = 8 := by kernel_rfl
@[go_sem] theorem conc_83 : Try.prog.concrete 83 = true := by kernel_rfl
@[go_sem] theorem szT_85 : szT Try.prog 85 = some 1 := by kernel_rfl
@[go_sem] theorem aggT_85 : aggT Try.prog 85 = some false := by kernel_rfl
@[go_sem] theorem zeT_85 : zeT Try.prog 85 = some (.nilFunc) := by kernel_rfl
@[go_sem] theorem elZ_85 : elZ Try.prog 85 = some 1 := by kernel_rfl
@[go_sem] theorem byT_85 : byT Try.prog 85 = 8 := by kernel_rfl
@[go_sem] theorem conc_85 : Try.prog.concrete 85 = true := by kernel_rfl
@[go_sem] theorem szT_86 : szT Try.prog 86 = some 1 := by kernel_rfl
@[go_sem] theorem aggT_86 : aggT Try.prog 86 = some false := by kernel_rfl
@[go_sem] theorem zeT_86 : zeT Try.prog 86 = some (.nilFunc) := by kernel_rfl
@[go_sem] theorem elZ_86 : elZ Try.prog 86 = some 1 := by kernel_rfl
@[go_sem] theorem byT_86 : byT Try.prog 86 = 8 := by kernel_rfl
@[go_sem] theorem conc_86 : Try.prog.concrete 86 = true := by kernel_rfl
@[go_sem] theorem szT_87 : szT Try.prog 87 = some 1 := by kernel_rfl
@[go_sem] theorem aggT_87 : aggT Try.prog 87 = some false := by kernel_rfl
@[go_sem] theorem zeT_87 : zeT Try.prog 87 = some (.nilFunc) := by kernel_rfl
@[go_sem] theorem elZ_87 : elZ Try.prog 87 = some 1 := by kernel_rfl
@[go_sem] theorem byT_87 : byT Try.prog 87 = 8 := by kernel_rfl
@[go_sem] theorem conc_87 : Try.prog.concrete 87 = true := by kernel_rfl
@[go_sem] theorem szT_88 : szT Try.prog 88 = some 1 := by kernel_rfl
@[go_sem] theorem aggT_88 : aggT Try.prog 88 = some false := by kernel_rfl
@[go_sem] theorem zeT_88 : zeT Try.prog 88 = some (.nilFunc) := by kernel_rfl
@[go_sem] theorem elZ_88 : elZ Try.prog 88 = some 1 := by kernel_rfl
@[go_sem] theorem byT_88 : byT Try.prog 88 = 8 := by kernel_rfl
@[go_sem] theorem conc_88 : Try.prog.concrete 88 = true := by kernel_rfl
@[go_sem] theorem szT_89 : szT Try.prog 89 = some 1 := by kernel_rfl
@[go_sem] theorem aggT_89 : aggT Try.prog 89 = some false := by kernel_rfl
@[go_sem] theorem zeT_89 : zeT Try.prog 89 = some (.slice none 0 0) := by kernel_rfl
@[go_sem] theorem elZ_89 : elZ Try.prog 89 = some 1 := by kernel_rfl
@[go_sem] theorem byT_89 : byT Try.prog 89 = 24 := by kernel_rfl
@[go_sem] theorem elT_89 : elT Try.prog 89 = some 9 := by kernel_rfl
@[go_sem] theorem conc_89 : Try.prog.concrete 89 = true := by kernel_rfl
@[go_sem] theorem szT_90 : szT Try.prog 90 = some 1 := by kernel_rfl
@[go_sem] theorem aggT_90 : aggT Try.prog 90 = some false := by kernel_rfl
@[go_sem] theorem zeT_90 : zeT Try.prog 90 = some (.nilFunc) := by kernel_rfl
@[go_sem] theorem elZ_90 : elZ Try.prog 90 = some 1 := by kernel_rfl
@[go_sem] theorem byT_90 : byT Try.prog 90 = 8 := by kernel_rfl
@[go_sem] theorem conc_90 : Try.prog.concrete 90 = true := by kernel_rfl
@[go_sem] theorem szT_91 : szT Try.prog 91 = some 1 := by kernel_rfl
@[go_sem] theorem aggT_91 : aggT Try.prog 91 = some false := by kernel_rfl
@[go_sem] theorem zeT_91 : zeT Try.prog 91 = some (.nilFunc) := by kernel_rfl
@[go_sem] theorem elZ_91 : elZ Try.prog 91 = some 1 := by kernel_rfl
@[go_sem] theorem byT_91 : byT Try.prog 91 = 8 := by kernel_rfl
@[go_sem] theorem conc_91 : Try.prog.concrete 91 = true := by kernel_rfl
@[go_sem] theorem szT_92 : szT Try.prog 92 = some 1 := by kernel_rfl
@[go_sem] theorem aggT_92 : aggT Try.prog 92 = some false := by kernel_rfl
@[go_sem] theorem zeT_92 : zeT Try.prog 92 = some (.nilFunc) := by kernel_rfl
@[go_sem] theorem elZ_92 : elZ Try.prog 92 = some 1 := by kernel_rfl
@[go_sem] theorem byT_92 : byT Try.prog 92 = 8 := by kernel_rfl
@[go_sem] theorem conc_92 : Try.prog.concrete 92 = true := by kernel_rfl
@[go_sem] theorem szT_93 : szT Try.prog 93 = some 1 := by kernel_rfl
@[go_sem] theorem aggT_93 : aggT Try.prog 93 = some false := by kernel_rfl
@[go_sem] theorem zeT_93 : zeT Try.prog 93 = some (.map none) := by kernel_rfl
@[go_sem] theorem elZ_93 : elZ Try.prog 93 = some 1 := by kernel_rfl
@[go_sem] theorem byT_93 : byT Try.prog 93 = 8 := by kernel_rfl
@[go_sem] theorem conc_93 : Try.prog.concrete 93 = true := by kernel_rfl
@[go_sem] theorem szT_94 : szT Try.prog 94 = some 1 := by kernel_rfl
@[go_sem] theorem aggT_94 : aggT Try.prog 94 = some true := by kernel_rfl
@[go_sem] theorem offT_94x0 : offT Try.prog 94 0 = some 0 := by kernel_rfl
@[go_sem] theorem plcs_94 : plcs Try.prog 94 = some [(0, 1)] := by kernel_rfl
@[go_sem] theorem zeT_94 : zeT Try.prog 94 = some (.agg #[.map none]) := by kernel_rfl
@[go_sem] theorem elZ_94 : elZ Try.prog 94 = some 1 := by kernel_rfl
@[go_sem] theorem byT_94 : byT Try.prog 94 = 8 := by kernel_rfl
@[go_sem] theorem conc_94 : Try.prog.concrete 94 = true := by kernel_rfl
@[go_sem] theorem szT_95 : szT Try.prog 95 = some 1 := by kernel_rfl
@[go_sem] theorem aggT_95 : aggT Try.prog 95 = some true := by kernel_rfl
@[go_sem] theorem offT_95x0 : offT Try.prog 95 0 = some 0 := by kernel_rfl
@[go_sem] theorem plcs_95 : plcs Try.prog 95 = some [(0, 1)] := by kernel_rfl
@[go_sem] theorem zeT_95 : zeT Try.prog 95 = some (.agg #[.map none]) := by kernel_rfl
@[go_sem] theorem elZ_95 : elZ Try.prog 95 = some 1 := by kernel_rfl
@[go_sem] theorem byT_95 : byT Try.prog 95 = 8 := by kernel_rfl
@[go_sem] theorem conc_95 : Try.prog.concrete 95 = true := by kernel_rfl
@[go_sem] theorem szT_96 : szT Try.prog 96 = some 1 := by kernel_rfl
@[go_sem] theorem aggT_96 : aggT Try.prog 96 = some true := by kernel_rfl
@[go_sem] theorem offT_96x0 : offT Try.prog 96 0 = some 0 := by kernel_rfl
@[go_sem] theorem plcs_96 : plcs Try.prog 96 = some [(0, 1)] := by kernel_rfl
@[go_sem] theorem zeT_96 : zeT Try.prog 96 = some (.agg #[.slice none 0 0]) := by kernel_rfl
@[go_sem] theorem elZ_96 : elZ Try.prog 96 = some 1 := by kernel_rfl
@[go_sem] theorem byT_96 : byT Try.prog 96 = 24 := by kernel_rfl
@[go_sem] theorem conc_96 : Try.prog.concrete 96 = true := by kernel_rfl
@[go_sem] theorem szT_97 : szT Try.prog 97 = some 1 := by kernel_rfl
@[go_sem] theorem aggT_97 : aggT Try.prog 97 = some true := by kernel_rfl
@[go_sem] theorem offT_97x0 : offT Try.prog 97 0 = some 0 := by kernel_rfl
@[go_sem] theorem plcs_97 : plcs Try.prog 97 = some [(0, 1)] := by kernel_rfl
@[go_sem] theorem zeT_97 : zeT Try.prog 97 = some (.agg #[.slice none 0 0]) := by kernel_rfl
@[go_sem] theorem elZ_97 : elZ Try.prog 97 = some 1 := by kernel_rfl
@[go_sem] theorem byT_97 : byT Try.prog 97 = 24 := by kernel_rfl
@[go_sem] theorem conc_97 : Try.prog.concrete 97 = true := by kernel_rfl
@[go_sem] theorem szT_98 : szT Try.prog 98 = some 1 := by kernel_rfl
@[go_sem] theorem aggT_98 : aggT Try.prog 98 = some false := by kernel_rfl
@[go_sem] theorem zeT_98 : zeT Try.prog 98 = some (.nilIface) := by kernel_rfl
@[go_sem] theorem elZ_98 : elZ Try.prog 98 = some 1 := by kernel_rfl
@[go_sem] theorem byT_98 : byT Try.prog 98 = 16 := by kernel_rfl
@[go_sem] theorem szT_99 : szT Try.prog 99 = some 1 := by kernel_rfl
@[go_sem] theorem aggT_99 : aggT Try.prog 99 = some false := by kernel_rfl
@[go_sem] theorem zeT_99 : zeT Try.prog 99 = some (.nilIface) := by kernel_rfl
@[go_sem] theorem elZ_99 : elZ Try.prog 99 = some 1 := by kernel_rfl
@[go_sem] theorem byT_99 : byT Try.prog 99 = 16 := by kernel_rfl
@[go_sem] theorem szT_100 : szT Try.prog 100 = some 1 := by kernel_rfl
@[go_sem] theorem aggT_100 : aggT Try.prog 100 = some false := by kernel_rfl
@[go_sem] theorem zeT_100 : zeT Try.prog 100 = some (.pointer none) := by kernel_rfl
@[go_sem] theorem elZ_100 : elZ Try.prog 100 = some 1 := by kernel_rfl
@[go_sem] theorem byT_100 : byT Try.prog 100 = 8 := by kernel_rfl
@[go_sem] theorem conc_100 : Try.prog.concrete 100 = true := by kernel_rfl
@[go_sem] theorem szT_101 : szT Try.prog 101 = some 1 := by kernel_rfl
@[go_sem] theorem aggT_101 : aggT Try.prog 101 = some false := by kernel_rfl
@[go_sem] theorem zeT_101 : zeT Try.prog 101 = some (.nilFunc) := by kernel_rfl
@[go_sem] theorem elZ_101 : elZ Try.prog 101 = some 1 := by kernel_rfl
@[go_sem] theorem byT_101 : byT Try.prog 101 = 8 := by kernel_rfl
@[go_sem] theorem conc_101 : Try.prog.concrete 101 = true := by kernel_rfl
@[go_sem] theorem szT_102 : szT Try.prog 102 = some 4 := by kernel_rfl
@[go_sem] theorem aggT_102 : aggT Try.prog 102 = some true := by kernel_rfl
@[go_sem] theorem offT_102x0 : offT Try.prog 102 0 = some 0 := by kernel_rfl
@[go_sem] theorem offT_102x1 : offT Try.prog 102 1 = some 1 := by kernel_rfl
@[go_sem] theorem offT_102x2 : offT Try.prog 102 2 = some 2 := by kernel_rfl
@[go_sem] theorem offT_102x3 : offT Try.prog 102 3 = some 3 := by kernel_rfl
@[go_sem] theorem plcs_102 : plcs Try.prog 102 = some [(0, 1), (1, 1), (2, 1), (3, 1)] := by kernel_rfl
@[go_sem] theorem zeT_102 : zeT Try.prog 102 = some (.agg #[.nilIface, .bool false, .int .i64 0, .int .i64 0]) := by kernel_rfl
@[go_sem] theorem elZ_102 : elZ Try.prog 102 = some 4 := by kernel_rfl
@[go_sem] theorem byT_102 : byT Try.prog 102 = 40 := by kernel_rfl
@[go_sem] theorem conc_102 : Try.prog.concrete 102 = true := by kernel_rfl
@[go_sem] theorem szT_103 : szT Try.prog 103 = some 4 := by kernel_rfl
@[go_sem] theorem aggT_103 : aggT Try.prog 103 = some true := by kernel_rfl
@[go_sem] theorem offT_103x0 : offT Try.prog 103 0 = some 0 := by kernel_rfl
@[go_sem] theorem offT_103x1 : offT Try.prog 103 1 = some 1 := by kernel_rfl
@[go_sem] theorem offT_103x2 : offT Try.prog 103 2 = some 2 := by kernel_rfl
@[go_sem] theorem offT_103x3 : offT Try.prog 103 3 = some 3 := by kernel_rfl
@[go_sem] theorem plcs_103 : plcs Try.prog 103 = some [(0, 1), (1, 1), (2, 1), (3, 1)] := by kernel_rfl
@[go_sem] theorem zeT_103 : zeT Try.prog 103 = some (.agg #[.nilIface, .bool false, .int .i64 0, .int .i64 0]) := by kernel_rfl
@[go_sem] theorem elZ_103 : elZ Try.prog 103 = some 4 := by kernel_rfl
@[go_sem] theorem byT_103 : byT Try.prog 103 = 40 := by kernel_rfl
@[go_sem] theorem conc_103 : Try.prog.concrete 103 = true := by kernel_rfl
@[go_sem] theorem szT_104 : szT Try.prog 104 = some 1 := by kernel_rfl
@[go_sem] theorem aggT_104 : aggT Try.prog 104 = some false := by kernel_rfl
@[go_sem] theorem zeT_104 : zeT Try.prog 104 = some (.nilFunc) := by kernel_rfl
@[go_sem] theorem elZ_104 : elZ Try.prog 104 = some 1 := by kernel_rfl
@[go_sem] theorem byT_104 : byT Try.prog 104 = 8 := by kernel_rfl
@[go_sem] theorem conc_104 : Try.prog.concrete 104 = true := by kernel_rfl
@[go_sem] theorem szT_105 : szT Try.prog 105 = some 1 := by kernel_rfl
@[go_sem] theorem aggT_105 : aggT Try.prog 105 = some false := by kernel_rfl
@[go_sem] theorem zeT_105 : zeT Try.prog 105 = some (.nilFunc) := by kernel_rfl
@[go_sem] theorem elZ_105 : elZ Try.prog 105 = some 1 := by kernel_rfl
@[go_sem] theorem byT_105 : byT Try.prog 105 = 8 := by kernel_rfl
@[go_sem] theorem conc_105 : Try.prog.concrete 105 = true := by kernel_rfl
@[go_sem] theorem szT_106 : szT Try.prog 106 = some 1 := by kernel_rfl
@[go_sem] theorem aggT_106 : aggT Try.prog 106 = some false := by kernel_rfl
@[go_sem] theorem zeT_106 : zeT Try.prog 106 = some (.nilFunc) := by kernel_rfl
@[go_sem] theorem elZ_106 : elZ Try.prog 106 = some 1 := by kernel_rfl
@[go_sem] theorem byT_106 : byT Try.prog 106 = 8 := by kernel_rfl
@[go_sem] theorem conc_106 : Try.prog.concrete 106 = true := by kernel_rfl
@[go_sem] theorem szT_107 : szT Try.prog 107 = some 1 := by kernel_rfl
@[go_sem] theorem aggT_107 : aggT Try.prog 107 = some false := by kernel_rfl
@[go_sem] theorem zeT_107 : zeT Try.prog 107 = some (.nilFunc) := by kernel_rfl
@[go_sem] theorem elZ_107 : elZ Try.prog 107 = some 1 := by kernel_rfl
@[go_sem] theorem byT_107 : byT Try.prog 107 = 8 := by kernel_rfl
@[go_sem] theorem conc_107 : Try.prog.concrete 107 = true := by kernel_rfl
@[go_sem] theorem szT_108 : szT Try.prog 108 = some 1 := by kernel_rfl
@[go_sem] theorem aggT_108 : aggT Try.prog 108 = some false := by kernel_rfl
@[go_sem] theorem zeT_108 : zeT Try.prog 108 = some (.nilFunc) := by kernel_rfl
@[go_sem] theorem elZ_108 : elZ Try.prog 108 = some 1 := by kernel_rfl
@[go_sem] theorem byT_108 : byT Try.prog 108 = 8 := by kernel_rfl
@[go_sem] theorem conc_108 : Try.prog.concrete 108 = true := by kernel_rfl
@[go_sem] theorem szT_109 : szT Try.prog 109 = some 1 := by kernel_rfl
@[go_sem] theorem aggT_109 : aggT Try.prog 109 = some false := by kernel_rfl
@[go_sem] theorem zeT_109 : zeT Try.prog 109 = some (.nilFunc) := by kernel_rfl
@[go_sem] theorem elZ_109 : elZ Try.prog 109 = some 1 := by kernel_rfl
@[go_sem] theorem byT_109 : byT Try.prog 109 = 8 := by kernel_rfl
@[go_sem] theorem conc_109 : Try.prog.concrete 109 = true := by kernel_rfl
@[go_sem] theorem szT_110 : szT Try.prog 110 = some 1 := by kernel_rfl
@[go_sem] theorem aggT_110 : aggT Try.prog 110 = some false := by kernel_rfl
@[go_sem] theorem zeT_110 : zeT Try.prog 110 = some (.nilFunc) := by kernel_rfl
@[go_sem] theorem elZ_110 : elZ Try.prog 110 = some 1 := by kernel_rfl
@[go_sem] theorem byT_110 : byT Try.prog 110 = 8 := by kernel_rfl
@[go_sem] theorem conc_110 : Try.prog.concrete 110 = true := by kernel_rfl
@[go_sem] theorem szT_111 : szT Try.prog 111 = some 1 := by kernel_rfl
@[go_sem] theorem aggT_111 : aggT Try.prog 111 = some false := by kernel_rfl
@[go_sem] theorem zeT_111 : zeT Try.prog 111 = some (.nilFunc) := by kernel_rfl
@[go_sem] theorem elZ_111 : elZ Try.prog 111 = some 1 := by kernel_rfl
@[go_sem] theorem byT_111 : byT Try.prog 111 = 8 := by kernel_rfl
@[go_sem] theorem conc_111 : Try.prog.concrete 111 = true := by kernel_rfl
@[go_sem] theorem szT_112 : szT Try.prog 112 = some 1 := by kernel_rfl
@[go_sem] theorem aggT_112 : aggT Try.prog 112 = some false := by kernel_rfl
@[go_sem] theorem zeT_112 : zeT Try.prog 112 = some (.nilFunc) := by kernel_rfl
@[go_sem] theorem elZ_112 : elZ Try.prog 112 = some 1 := by kernel_rfl
@[go_sem] theorem byT_112 : byT Try.prog 112 = 8 := by kernel_rfl
@[go_sem] theorem conc_112 : Try.prog.concrete 112 = true := by kernel_rfl
@[go_sem] theorem szT_113 : szT Try.prog 113 = some 1 := by kernel_rfl
@[go_sem] theorem aggT_113 : aggT Try.prog 113 = some false := by kernel_rfl
@[go_sem] theorem zeT_113 : zeT Try.prog 113 = some (.nilFunc) := by kernel_rfl
@[go_sem] theorem elZ_113 : elZ Try.prog 113 = some 1 := by kernel_rfl
@[go_sem] theorem byT_113 : byT Try.prog 113 = 8 := by kernel_rfl
@[go_sem] theorem conc_113 : Try.prog.concrete 113 = true := by kernel_rfl
@[go_sem] theorem szT_114 : szT Try.prog 114 = some 1 := by kernel_rfl
@[go_sem] theorem aggT_114 : aggT Try.prog 114 = some false := by kernel_rfl
@[go_sem] theorem zeT_114 : zeT Try.prog 114 = some (.nilFunc) := by kernel_rfl
@[go_sem] theorem elZ_114 : elZ Try.prog 114 = some 1 := by kernel_rfl
@[go_sem] theorem byT_114 : byT Try.prog 114 = 8 := by kernel_rfl
@[go_sem] theorem conc_114 : Try.prog.concrete 114 = true := by kernel_rfl
@[go_sem] theorem szT_115 : szT Try.prog 115 = some 1 := by kernel_rfl
@[go_sem] theorem aggT_115 : aggT Try.prog 115 = some false := by kernel_rfl
@[go_sem] theorem zeT_115 : zeT Try.prog 115 = some (.nilFunc) := by kernel_rfl
@[go_sem] theorem elZ_115 : elZ Try.prog 115 = some 1 := by kernel_rfl
@[go_sem] theorem byT_115 : byT Try.prog 115 = 8 := by kernel_rfl
@[go_sem] theorem conc_115 : Try.prog.concrete 115 = true := by kernel_rfl
@[go_sem] theorem szT_116 : szT Try.prog 116 = some 1 := by kernel_rfl
@[go_sem] theorem aggT_116 : aggT Try.prog 116 = some false := by kernel_rfl
@[go_sem] theorem zeT_116 : zeT Try.prog 116 = some (.nilFunc) := by kernel_rfl
@[go_sem] theorem elZ_116 : elZ Try.prog 116 = some 1 := by kernel_rfl
@[go_sem] theorem byT_116 : byT Try.prog 116 = 8 := by kernel_rfl
@[go_sem] theorem conc_116 : Try.prog.concrete 116 = true := by kernel_rfl
@[go_sem] theorem szT_117 : szT Try.prog 117 = some 1 := by kernel_rfl
@[go_sem] theorem aggT_117 : aggT Try.prog 117 = some false := by kernel_rfl
@[go_sem] theorem zeT_117 : zeT Try.prog 117 = some (.nilFunc) := by kernel_rfl
@[go_sem] theorem elZ_117 : elZ Try.prog 117 = some 1 := by kernel_rfl
@[go_sem] theorem byT_117 : byT Try.prog 117 = 8 := by kernel_rfl
@[go_sem] theorem conc_117 : Try.prog.concrete 117 = true := by kernel_rfl
@[go_sem] theorem szT_118 : szT Try.prog 118 = some 1 := by kernel_rfl
@[go_sem] theorem aggT_118 : aggT Try.prog 118 = some false := by kernel_rfl
@[go_sem] theorem zeT_118 : zeT Try.prog 118 = some (.nilFunc) := by kernel_rfl
@[go_sem] theorem elZ_118 : elZ Try.prog 118 = some 1 := by kernel_rfl
@[go_sem] theorem byT_118 : byT Try.prog 118 = 8 := by kernel_rfl
@[go_sem] theorem conc_118 : Try.prog.concrete 118 = true := by kernel_rfl
@[go_sem] theorem szT_119 : szT Try.prog 119 = some 1 := by kernel_rfl
@[go_sem] theorem aggT_119 : aggT Try.prog 119 = some false := by kernel_rfl
@[go_sem] theorem zeT_119 : zeT Try.prog 119 = some (.nilFunc) := by kernel_rfl
@[go_sem] theorem elZ_119 : elZ Try.prog 119 = some 1 := by kernel_rfl
@[go_sem] theorem byT_119 : byT Try.prog 119 = 8 := by kernel_rfl
@[go_sem] theorem conc_119 : Try.prog.concrete 119 = true := by kernel_rfl
@[go_sem] theorem szT_120 : szT Try.prog 120 = some 1 := by kernel_rfl
@[go_sem] theorem aggT_120 : aggT Try.prog 120 = some false := by kernel_rfl
@[go_sem] theorem zeT_120 : zeT Try.prog 120 = some (.nilFunc) := by kernel_rfl
@[go_sem] theorem elZ_120 : elZ Try.prog 120 = some 1 := by kernel_rfl
@[go_sem] theorem byT_120 : byT Try.prog 120 = 8 := by kernel_rfl
@[go_sem] theorem conc_120 : Try.prog.concrete 120 = true := by kernel_rfl
@[go_sem] theorem szT_121 : szT Try.prog 121 = some 1 := by kernel_rfl
@[go_sem] theorem aggT_121 : aggT Try.prog 121 = some false := by kernel_rfl
@[go_sem] theorem zeT_121 : zeT Try.prog 121 = some (.nilFunc) := by kernel_rfl
@[go_sem] theorem elZ_121 : elZ Try.prog 121 = some 1 := by kernel_rfl
@[go_sem] theorem byT_121 : byT Try.prog 121 = 8 := by kernel_rfl
@[go_sem] theorem conc_121 : Try.prog.concrete 121 = true := by kernel_rfl
@[go_sem] theorem szT_122 : szT Try.prog 122 = some 1 := by kernel_rfl
@[go_sem] theorem aggT_122 : aggT Try.prog 122 = some false := by kernel_rfl
@[go_sem] theorem zeT_122 : zeT Try.prog 122 = some (.nilFunc) := by kernel_rfl
@[go_sem] theorem elZ_122 : elZ Try.prog 122 = some 1 := by kernel_rfl
@[go_sem] theorem byT_122 : byT Try.prog 122 = 8 := by kernel_rfl
@[go_sem] theorem conc_122 : Try.prog.concrete 122 = true := by kernel_rfl
@[go_sem] theorem szT_123 : szT Try.prog 123 = some 1 := by kernel_rfl
@[go_sem] theorem aggT_123 : aggT Try.prog 123 = some false := by kernel_rfl
@[go_sem] theorem zeT_123 : zeT Try.prog 123 = some (.nilFunc) := by kernel_rfl
@[go_sem] theorem elZ_123 : elZ Try.prog 123 = some 1 := by kernel_rfl
@[go_sem] theorem byT_123 : byT Try.prog 123 = 8 := by kernel_rfl
@[go_sem] theorem conc_123 : Try.prog.concrete 123 = true := by kernel_rfl
@[go_sem] theorem szT_124 : szT Try.prog 124 = some 1 := by kernel_rfl
@[go_sem] theorem aggT_124 : aggT Try.prog 124 = some false := by kernel_rfl
@[go_sem] theorem zeT_124 : zeT Try.prog 124 = some (.nilFunc) := by kernel_rfl
@[go_sem] theorem elZ_124 : elZ Try.prog 124 = some 1 := by kernel_rfl
@[go_sem] theorem byT_124 : byT Try.prog 124 = 8 := by kernel_rfl
@[go_sem] theorem conc_124 : Try.prog.concrete 124 = true := by kernel_rfl
@[go_sem] theorem szT_125 : szT Try.prog 125 = some 1 := by kernel_rfl
@[go_sem] theorem aggT_125 : aggT Try.prog 125 = some false := by kernel_rfl
@[go_sem] theorem zeT_125 : zeT Try.prog 125 = some (.nilFunc) := by kernel_rfl
@[go_sem] theorem elZ_125 : elZ Try.prog 125 = some 1 := by kernel_rfl
@[go_sem] theorem byT_125 : byT Try.prog 125 = 8 := by kernel_rfl
@[go_sem] theorem conc_125 : Try.prog.concrete 125 = true := by kernel_rfl
@[go_sem] theorem szT_127 : szT Try.prog 127 = some 1 := by kernel_rfl
@[go_sem] theorem aggT_127 : aggT Try.prog 127 = some false := by kernel_rfl
@[go_sem] theorem zeT_127 : zeT Try.prog 127 = some (.nilFunc) := by kernel_rfl
@[go_sem] theorem elZ_127 : elZ Try.prog 127 = some 1 := by kernel_rfl
@[go_sem] theorem byT_127 : byT Try.prog 127 = 8 := by kernel_rfl
@[go_sem] theorem conc_127 : Try.prog.concrete 127 = true := by kernel_rfl
@[go_sem] theorem szT_128 : szT Try.prog 128 = some 1 := by kernel_rfl
@[go_sem] theorem aggT_128 : aggT Try.prog 128 = some false := by kernel_rfl
@[go_sem] theorem zeT_128 : zeT Try.prog 128 = some (.nilFunc) := by kernel_rfl
@[go_sem] theorem elZ_128 : elZ Try.prog 128 = some 1 := by kernel_rfl
@[go_sem] theorem byT_128 : byT Try.prog 128 = 8 := by kernel_rfl
@[go_sem] theorem conc_128 : Try.prog.concrete 128 = true := by kernel_rfl
@[go_sem] theorem szT_129 : szT Try.prog 129 = some 1 := by kernel_rfl
@[go_sem] theorem aggT_129 : aggT Try.prog 129 = some false := by kernel_rfl
@[go_sem] theorem zeT_129 : zeT Try.prog 129 = some (.nilFunc) := by kernel_rfl
@[go_sem] theorem elZ_129 : elZ Try.prog 129 = some 1 := by kernel_rfl
@[go_sem] theorem byT_129 : byT Try.prog 129 = 8 := by kernel_rfl
@[go_sem] theorem conc_129 : Try.prog.concrete 129 = true := by kernel_rfl
@[go_sem] theorem szT_130 : szT Try.prog 130 = some 1 := by kernel_rfl
@[go_sem] theorem aggT_130 : aggT Try.prog 130 = some false := by kernel_rfl
@[go_sem] theorem zeT_130 : zeT Try.prog 130 = some (.slice none 0 0) := by kernel_rfl
@[go_sem] theorem elZ_130 : elZ Try.prog 130 = some 1 := by kernel_rfl
@[go_sem] theorem byT_130 : byT Try.prog 130 = 24 := by kernel_rfl
@[go_sem] theorem elT_130 : elT Try.prog 130 = some 65 := by kernel_rfl
@[go_sem] theorem conc_130 : Try.prog.concrete 130 = true := by kernel_rfl
@[go_sem] theorem szT_132 : szT Try.prog 132 = some 1 := by kernel_rfl
@[go_sem] theorem aggT_132 : aggT Try.prog 132 = some false := by kernel_rfl
@[go_sem] theorem zeT_132 : zeT Try.prog 132 = some (.nilFunc) := by kernel_rfl
@[go_sem] theorem elZ_132 : elZ Try.prog 132 = some 1 := by kernel_rfl
@[go_sem] theorem byT_132 : byT Try.prog 132 = 8 := by kernel_rfl
@[go_sem] theorem conc_132 : Try.prog.concrete 132 = true := by kernel_rfl
@[go_sem] theorem szT_133 : szT Try.prog 133 = some 1 := by kernel_rfl
@[go_sem] theorem aggT_133 : aggT Try.prog 133 = some false := by kernel_rfl
@[go_sem] theorem zeT_133 : zeT Try.prog 133 = some (.nilFunc) := by kernel_rfl
@[go_sem] theorem elZ_133 : elZ Try.prog 133 = some 1 := by kernel_rfl
@[go_sem] theorem byT_133 : byT Try.prog 133 = 8 := by kernel_rfl
@[go_sem] theorem conc_133 : Try.prog.concrete 133 = true := by kernel_rfl
@[go_sem] theorem szT_134 : szT Try.prog 134 = some 1 := by kernel_rfl
@[go_sem] theorem aggT_134 : aggT Try.prog 134 = some false := by kernel_rfl
@[go_sem] theorem zeT_134 : zeT Try.prog 134 = some (.nilFunc) := by kernel_rfl
@[go_sem] theorem elZ_134 : elZ Try.prog 134 = some 1 := by kernel_rfl
@[go_sem] theorem byT_134 : byT Try.prog 134 = 8 := by kernel_rfl
@[go_sem] theorem conc_134 : Try.prog.concrete 134 = true := by kernel_rfl
@[go_sem] theorem szT_135 : szT Try.prog 135 = some 1 := by kernel_rfl
@[go_sem] theorem aggT_135 : aggT Try.prog 135 = some false := by kernel_rfl
@[go_sem] theorem zeT_135 : zeT Try.prog 135 = some (.nilFunc) := by kernel_rfl
@[go_sem] theorem elZ_135 : elZ Try.prog 135 = some 1 := by kernel_rfl
@[go_sem] theorem byT_135 : byT Try.prog 135 = 8 := by kernel_rfl
@[go_sem] theorem conc_135 : Try.prog.concrete 135 = true := by kernel_rfl
@[go_sem] theorem szT_136 : szT Try.prog 136 = some 1 := by kernel_rfl
@[go_sem] theorem aggT_136 : aggT Try.prog 136 = some false := by kernel_rfl
@[go_sem] theorem zeT_136 : zeT Try.prog 136 = some (.nilFunc) := by kernel_rfl
@[go_sem] theorem elZ_136 : elZ Try.prog 136 = some 1 := by kernel_rfl
@[go_sem] theorem byT_136 : byT Try.prog 136 = 8 := by kernel_rfl
@[go_sem] theorem conc_136 : Try.prog.concrete 136 = true := by kernel_rfl
@[go_sem] theorem szT_137 : szT Try.prog 137 = some 1 := by kernel_rfl
@[go_sem] theorem aggT_137 : aggT Try.prog 137 = some false := by kernel_rfl
@[go_sem] theorem zeT_137 : zeT Try.prog 137 = some (.nilFunc) := by kernel_rfl
@[go_sem] theorem elZ_137 : elZ Try.prog 137 = some 1 := by kernel_rfl
@[go_sem] theorem byT_137 : byT Try.prog 137 = 8 := by kernel_rfl
@[go_sem] theorem conc_137 : Try.prog.concrete 137 = true := by kernel_rfl
@[go_sem] theorem szT_139 : szT Try.prog 139 = some 1 := by kernel_rfl
@[go_sem] theorem aggT_139 : aggT Try.prog 139 = some false := by kernel_rfl
@[go_sem] theorem zeT_139 : zeT Try.prog 139 = some (.nilFunc) := by kernel_rfl
@[go_sem] theorem elZ_139 : elZ Try.prog 139 = some 1 := by kernel_rfl
@[go_sem] theorem byT_139 : byT Try.prog 139 = 8 := by kernel_rfl
@[go_sem] theorem conc_139 : Try.prog.concrete 139 = true := by kernel_rfl
@[go_sem] theorem szT_140 : szT Try.prog 140 = some 1 := by kernel_rfl
@[go_sem] theorem aggT_140 : aggT Try.prog 140 = some false := by kernel_rfl
@[go_sem] theorem zeT_140 : zeT Try.prog 140 = some (.nilFunc) := by kernel_rfl
@[go_sem] theorem elZ_140 : elZ Try.prog 140 = some 1 := by kernel_rfl
@[go_sem] theorem byT_140 : byT Try.prog 140 = 8 := by kernel_rfl
@[go_sem] theorem conc_140 : Try.prog.concrete 140 = true := by kernel_rfl
@[go_sem] theorem szT_141 : szT Try.prog 141 = some 1 := by kernel_rfl
@[go_sem] theorem aggT_141 : aggT Try.prog 141 = some false := by kernel_rfl
@[go_sem] theorem zeT_141 : zeT Try.prog 141 = some (.nilFunc) := by kernel_rfl
@[go_sem] theorem elZ_141 : elZ Try.prog 141 = some 1 := by kernel_rfl
@[go_sem] theorem byT_141 : byT Try.prog 141 = 8 := by kernel_rfl
@[go_sem] theorem conc_141 : Try.prog.concrete 141 = true := by kernel_rfl
@[go_sem] theorem szT_142 : szT Try.prog 142 = some 1 := by kernel_rfl
@[go_sem] theorem aggT_142 : aggT Try.prog 142 = some false := by kernel_rfl
@[go_sem] theorem zeT_142 : zeT Try.prog 142 = some (.nilFunc) := by kernel_rfl
@[go_sem] theorem elZ_142 : elZ Try.prog 142 = some 1 := by kernel_rfl
@[go_sem] theorem byT_142 : byT Try.prog 142 = 8 := by kernel_rfl
@[go_sem] theorem conc_142 : Try.prog.concrete 142 = true := by kernel_rfl
@[go_sem] theorem szT_143 : szT Try.prog 143 = some 1 := by kernel_rfl
@[go_sem] theorem aggT_143 : aggT Try.prog 143 = some false := by kernel_rfl
@[go_sem] theorem zeT_143 : zeT Try.prog 143 = some (.int .u64 0) := by kernel_rfl
@[go_sem] theorem elZ_143 : elZ Try.prog 143 = some 1 := by kernel_rfl
@[go_sem] theorem byT_143 : byT Try.prog 143 = 8 := by kernel_rfl
@[go_sem] theorem conc_143 : Try.prog.concrete 143 = true := by kernel_rfl
@[go_sem] theorem szT_144 : szT Try.prog 144 = some 1 := by kernel_rfl
@[go_sem] theorem aggT_144 : aggT Try.prog 144 = some false := by kernel_rfl
@[go_sem] theorem zeT_144 : zeT Try.prog 144 = some (.nilFunc) := by kernel_rfl
@[go_sem] theorem elZ_144 : elZ Try.prog 144 = some 1 := by kernel_rfl
@[go_sem] theorem byT_144 : byT Try.prog 144 = 8 := by kernel_rfl
@[go_sem] theorem conc_144 : Try.prog.concrete 144 = true := by kernel_rfl
@[go_sem] theorem szT_145 : szT Try.prog 145 = some 0 := by kernel_rfl
@[go_sem] theorem aggT_145 : aggT Try.prog 145 = some true := by kernel_rfl
@[go_sem] theorem plcs_145 : plcs Try.prog 145 = some [] := by kernel_rfl
@[go_sem] theorem zeT_145 : zeT Try.prog 145 = some (.agg #[]) := by kernel_rfl
@[go_sem] theorem byT_145 : byT Try.prog 145 = 0 := by kernel_rfl
@[go_sem] theorem conc_145 : Try.prog.concrete 145 = true := by kernel_rfl
@[go_sem] theorem eqg_145 : Program.eqGuardType Try.prog (Program.depth Try.prog) 145 = false := by kernel_rfl
@[go_sem] theorem stood_145 : Try.prog.stoodInHeld 145 = false := by kernel_rfl
@[go_sem] theorem szT_146 : szT Try.prog 146 = some 0 := by kernel_rfl
@[go_sem] theorem aggT_146 : aggT Try.prog 146 = some true := by kernel_rfl
@[go_sem] theorem plcs_146 : plcs Try.prog 146 = some [] := by kernel_rfl
@[go_sem] theorem zeT_146 : zeT Try.prog 146 = some (.agg #[]) := by kernel_rfl
@[go_sem] theorem byT_146 : byT Try.prog 146 = 0 := by kernel_rfl
@[go_sem] theorem conc_146 : Try.prog.concrete 146 = true := by kernel_rfl
@[go_sem] theorem eqg_146 : Program.eqGuardType Try.prog (Program.depth Try.prog) 146 = false := by kernel_rfl
@[go_sem] theorem stood_146 : Try.prog.stoodInHeld 146 = false := by kernel_rfl
@[go_sem] theorem szT_147 : szT Try.prog 147 = some 1 := by kernel_rfl
@[go_sem] theorem aggT_147 : aggT Try.prog 147 = some false := by kernel_rfl
@[go_sem] theorem zeT_147 : zeT Try.prog 147 = some (.nilFunc) := by kernel_rfl
@[go_sem] theorem elZ_147 : elZ Try.prog 147 = some 1 := by kernel_rfl
@[go_sem] theorem byT_147 : byT Try.prog 147 = 8 := by kernel_rfl
@[go_sem] theorem conc_147 : Try.prog.concrete 147 = true := by kernel_rfl
@[go_sem] theorem szT_148 : szT Try.prog 148 = some 1 := by kernel_rfl
@[go_sem] theorem aggT_148 : aggT Try.prog 148 = some false := by kernel_rfl
@[go_sem] theorem zeT_148 : zeT Try.prog 148 = some (.nilFunc) := by kernel_rfl
@[go_sem] theorem elZ_148 : elZ Try.prog 148 = some 1 := by kernel_rfl
@[go_sem] theorem byT_148 : byT Try.prog 148 = 8 := by kernel_rfl
@[go_sem] theorem conc_148 : Try.prog.concrete 148 = true := by kernel_rfl
@[go_sem] theorem szT_149 : szT Try.prog 149 = some 1 := by kernel_rfl
@[go_sem] theorem aggT_149 : aggT Try.prog 149 = some false := by kernel_rfl
@[go_sem] theorem zeT_149 : zeT Try.prog 149 = some (.nilFunc) := by kernel_rfl
@[go_sem] theorem elZ_149 : elZ Try.prog 149 = some 1 := by kernel_rfl
@[go_sem] theorem byT_149 : byT Try.prog 149 = 8 := by kernel_rfl
@[go_sem] theorem conc_149 : Try.prog.concrete 149 = true := by kernel_rfl
@[go_sem] theorem szT_151 : szT Try.prog 151 = some 1 := by kernel_rfl
@[go_sem] theorem aggT_151 : aggT Try.prog 151 = some false := by kernel_rfl
@[go_sem] theorem zeT_151 : zeT Try.prog 151 = some (.nilFunc) := by kernel_rfl
@[go_sem] theorem elZ_151 : elZ Try.prog 151 = some 1 := by kernel_rfl
@[go_sem] theorem byT_151 : byT Try.prog 151 = 8 := by kernel_rfl
@[go_sem] theorem conc_151 : Try.prog.concrete 151 = true := by kernel_rfl
@[go_sem] theorem szT_152 : szT Try.prog 152 = some 1 := by kernel_rfl
@[go_sem] theorem aggT_152 : aggT Try.prog 152 = some false := by kernel_rfl
@[go_sem] theorem zeT_152 : zeT Try.prog 152 = some (.nilFunc) := by kernel_rfl
@[go_sem] theorem elZ_152 : elZ Try.prog 152 = some 1 := by kernel_rfl
@[go_sem] theorem byT_152 : byT Try.prog 152 = 8 := by kernel_rfl
@[go_sem] theorem conc_152 : Try.prog.concrete 152 = true := by kernel_rfl
@[go_sem] theorem szT_153 : szT Try.prog 153 = some 1 := by kernel_rfl
@[go_sem] theorem aggT_153 : aggT Try.prog 153 = some false := by kernel_rfl
@[go_sem] theorem zeT_153 : zeT Try.prog 153 = some (.nilFunc) := by kernel_rfl
@[go_sem] theorem elZ_153 : elZ Try.prog 153 = some 1 := by kernel_rfl
@[go_sem] theorem byT_153 : byT Try.prog 153 = 8 := by kernel_rfl
@[go_sem] theorem conc_153 : Try.prog.concrete 153 = true := by kernel_rfl
@[go_sem] theorem szT_155 : szT Try.prog 155 = some 1 := by kernel_rfl
@[go_sem] theorem aggT_155 : aggT Try.prog 155 = some false := by kernel_rfl
@[go_sem] theorem zeT_155 : zeT Try.prog 155 = some (.nilFunc) := by kernel_rfl
@[go_sem] theorem elZ_155 : elZ Try.prog 155 = some 1 := by kernel_rfl
@[go_sem] theorem byT_155 : byT Try.prog 155 = 8 := by kernel_rfl
@[go_sem] theorem conc_155 : Try.prog.concrete 155 = true := by kernel_rfl
@[go_sem] theorem szT_157 : szT Try.prog 157 = some 1 := by kernel_rfl
@[go_sem] theorem aggT_157 : aggT Try.prog 157 = some false := by kernel_rfl
@[go_sem] theorem zeT_157 : zeT Try.prog 157 = some (.nilFunc) := by kernel_rfl
@[go_sem] theorem elZ_157 : elZ Try.prog 157 = some 1 := by kernel_rfl
@[go_sem] theorem byT_157 : byT Try.prog 157 = 8 := by kernel_rfl
@[go_sem] theorem conc_157 : Try.prog.concrete 157 = true := by kernel_rfl
@[go_sem] theorem szT_158 : szT Try.prog 158 = some 1 := by kernel_rfl
@[go_sem] theorem aggT_158 : aggT Try.prog 158 = some false := by kernel_rfl
@[go_sem] theorem zeT_158 : zeT Try.prog 158 = some (.nilFunc) := by kernel_rfl
@[go_sem] theorem elZ_158 : elZ Try.prog 158 = some 1 := by kernel_rfl
@[go_sem] theorem byT_158 : byT Try.prog 158 = 8 := by kernel_rfl
@[go_sem] theorem conc_158 : Try.prog.concrete 158 = true := by kernel_rfl
@[go_sem] theorem szT_159 : szT Try.prog 159 = some 1 := by kernel_rfl
@[go_sem] theorem aggT_159 : aggT Try.prog 159 = some false := by kernel_rfl
@[go_sem] theorem zeT_159 : zeT Try.prog 159 = some (.slice none 0 0) := by kernel_rfl
@[go_sem] theorem elZ_159 : elZ Try.prog 159 = some 1 := by kernel_rfl
@[go_sem] theorem byT_159 : byT Try.prog 159 = 24 := by kernel_rfl
@[go_sem] theorem elT_159 : elT Try.prog 159 = some 45 := by kernel_rfl
@[go_sem] theorem conc_159 : Try.prog.concrete 159 = true := by kernel_rfl
@[go_sem] theorem szT_160 : szT Try.prog 160 = some 1 := by kernel_rfl
@[go_sem] theorem aggT_160 : aggT Try.prog 160 = some false := by kernel_rfl
@[go_sem] theorem zeT_160 : zeT Try.prog 160 = some (.nilFunc) := by kernel_rfl
@[go_sem] theorem elZ_160 : elZ Try.prog 160 = some 1 := by kernel_rfl
@[go_sem] theorem byT_160 : byT Try.prog 160 = 8 := by kernel_rfl
@[go_sem] theorem conc_160 : Try.prog.concrete 160 = true := by kernel_rfl
@[go_sem] theorem szT_161 : szT Try.prog 161 = some 1 := by kernel_rfl
@[go_sem] theorem aggT_161 : aggT Try.prog 161 = some false := by kernel_rfl
@[go_sem] theorem zeT_161 : zeT Try.prog 161 = some (.nilFunc) := by kernel_rfl
@[go_sem] theorem elZ_161 : elZ Try.prog 161 = some 1 := by kernel_rfl
@[go_sem] theorem byT_161 : byT Try.prog 161 = 8 := by kernel_rfl
@[go_sem] theorem conc_161 : Try.prog.concrete 161 = true := by kernel_rfl
@[go_sem] theorem szT_162 : szT Try.prog 162 = some 1 := by kernel_rfl
@[go_sem] theorem aggT_162 : aggT Try.prog 162 = some false := by kernel_rfl
@[go_sem] theorem zeT_162 : zeT Try.prog 162 = some (.nilIface) := by kernel_rfl
@[go_sem] theorem elZ_162 : elZ Try.prog 162 = some 1 := by kernel_rfl
@[go_sem] theorem byT_162 : byT Try.prog 162 = 16 := by kernel_rfl
@[go_sem] theorem szT_163 : szT Try.prog 163 = some 1 := by kernel_rfl
@[go_sem] theorem aggT_163 : aggT Try.prog 163 = some false := by kernel_rfl
@[go_sem] theorem zeT_163 : zeT Try.prog 163 = some (.nilIface) := by kernel_rfl
@[go_sem] theorem elZ_163 : elZ Try.prog 163 = some 1 := by kernel_rfl
@[go_sem] theorem byT_163 : byT Try.prog 163 = 16 := by kernel_rfl
@[go_sem] theorem szT_164 : szT Try.prog 164 = some 1 := by kernel_rfl
@[go_sem] theorem aggT_164 : aggT Try.prog 164 = some false := by kernel_rfl
@[go_sem] theorem zeT_164 : zeT Try.prog 164 = some (.nilFunc) := by kernel_rfl
@[go_sem] theorem elZ_164 : elZ Try.prog 164 = some 1 := by kernel_rfl
@[go_sem] theorem byT_164 : byT Try.prog 164 = 8 := by kernel_rfl
@[go_sem] theorem conc_164 : Try.prog.concrete 164 = true := by kernel_rfl
@[go_sem] theorem szT_166 : szT Try.prog 166 = some 1 := by kernel_rfl
@[go_sem] theorem aggT_166 : aggT Try.prog 166 = some false := by kernel_rfl
@[go_sem] theorem zeT_166 : zeT Try.prog 166 = some (.nilFunc) := by kernel_rfl
@[go_sem] theorem elZ_166 : elZ Try.prog 166 = some 1 := by kernel_rfl
@[go_sem] theorem byT_166 : byT Try.prog 166 = 8 := by kernel_rfl
@[go_sem] theorem conc_166 : Try.prog.concrete 166 = true := by kernel_rfl
@[go_sem] theorem szT_167 : szT Try.prog 167 = some 1 := by kernel_rfl
@[go_sem] theorem aggT_167 : aggT Try.prog 167 = some false := by kernel_rfl
@[go_sem] theorem zeT_167 : zeT Try.prog 167 = some (.nilFunc) := by kernel_rfl
@[go_sem] theorem elZ_167 : elZ Try.prog 167 = some 1 := by kernel_rfl
@[go_sem] theorem byT_167 : byT Try.prog 167 = 8 := by kernel_rfl
@[go_sem] theorem conc_167 : Try.prog.concrete 167 = true := by kernel_rfl
@[go_sem] theorem szT_168 : szT Try.prog 168 = some 1 := by kernel_rfl
@[go_sem] theorem aggT_168 : aggT Try.prog 168 = some false := by kernel_rfl
@[go_sem] theorem zeT_168 : zeT Try.prog 168 = some (.int .i64 0) := by kernel_rfl
@[go_sem] theorem elZ_168 : elZ Try.prog 168 = some 1 := by kernel_rfl
@[go_sem] theorem byT_168 : byT Try.prog 168 = 8 := by kernel_rfl
@[go_sem] theorem conc_168 : Try.prog.concrete 168 = true := by kernel_rfl
@[go_sem] theorem szT_170 : szT Try.prog 170 = some 1 := by kernel_rfl
@[go_sem] theorem aggT_170 : aggT Try.prog 170 = some false := by kernel_rfl
@[go_sem] theorem zeT_170 : zeT Try.prog 170 = some (.nilFunc) := by kernel_rfl
@[go_sem] theorem elZ_170 : elZ Try.prog 170 = some 1 := by kernel_rfl
@[go_sem] theorem byT_170 : byT Try.prog 170 = 8 := by kernel_rfl
@[go_sem] theorem conc_170 : Try.prog.concrete 170 = true := by kernel_rfl
@[go_sem] theorem szT_171 : szT Try.prog 171 = some 1 := by kernel_rfl
@[go_sem] theorem aggT_171 : aggT Try.prog 171 = some false := by kernel_rfl
@[go_sem] theorem zeT_171 : zeT Try.prog 171 = some (.nilFunc) := by kernel_rfl
@[go_sem] theorem elZ_171 : elZ Try.prog 171 = some 1 := by kernel_rfl
@[go_sem] theorem byT_171 : byT Try.prog 171 = 8 := by kernel_rfl
@[go_sem] theorem conc_171 : Try.prog.concrete 171 = true := by kernel_rfl
@[go_sem] theorem szT_172 : szT Try.prog 172 = some 1 := by kernel_rfl
@[go_sem] theorem aggT_172 : aggT Try.prog 172 = some false := by kernel_rfl
@[go_sem] theorem zeT_172 : zeT Try.prog 172 = some (.nilFunc) := by kernel_rfl
@[go_sem] theorem elZ_172 : elZ Try.prog 172 = some 1 := by kernel_rfl
@[go_sem] theorem byT_172 : byT Try.prog 172 = 8 := by kernel_rfl
@[go_sem] theorem conc_172 : Try.prog.concrete 172 = true := by kernel_rfl
@[go_sem] theorem szT_173 : szT Try.prog 173 = some 1 := by kernel_rfl
@[go_sem] theorem aggT_173 : aggT Try.prog 173 = some false := by kernel_rfl
@[go_sem] theorem zeT_173 : zeT Try.prog 173 = some (.nilFunc) := by kernel_rfl
@[go_sem] theorem elZ_173 : elZ Try.prog 173 = some 1 := by kernel_rfl
@[go_sem] theorem byT_173 : byT Try.prog 173 = 8 := by kernel_rfl
@[go_sem] theorem conc_173 : Try.prog.concrete 173 = true := by kernel_rfl
@[go_sem] theorem szT_175 : szT Try.prog 175 = some 1 := by kernel_rfl
@[go_sem] theorem aggT_175 : aggT Try.prog 175 = some false := by kernel_rfl
@[go_sem] theorem zeT_175 : zeT Try.prog 175 = some (.nilFunc) := by kernel_rfl
@[go_sem] theorem elZ_175 : elZ Try.prog 175 = some 1 := by kernel_rfl
@[go_sem] theorem byT_175 : byT Try.prog 175 = 8 := by kernel_rfl
@[go_sem] theorem conc_175 : Try.prog.concrete 175 = true := by kernel_rfl
@[go_sem] theorem szT_176 : szT Try.prog 176 = some 1 := by kernel_rfl
@[go_sem] theorem aggT_176 : aggT Try.prog 176 = some false := by kernel_rfl
@[go_sem] theorem zeT_176 : zeT Try.prog 176 = some (.nilFunc) := by kernel_rfl
@[go_sem] theorem elZ_176 : elZ Try.prog 176 = some 1 := by kernel_rfl
@[go_sem] theorem byT_176 : byT Try.prog 176 = 8 := by kernel_rfl
@[go_sem] theorem conc_176 : Try.prog.concrete 176 = true := by kernel_rfl
@[go_sem] theorem szT_177 : szT Try.prog 177 = some 1 := by kernel_rfl
@[go_sem] theorem aggT_177 : aggT Try.prog 177 = some false := by kernel_rfl
@[go_sem] theorem zeT_177 : zeT Try.prog 177 = some (.int .u32 0) := by kernel_rfl
@[go_sem] theorem elZ_177 : elZ Try.prog 177 = some 1 := by kernel_rfl
@[go_sem] theorem byT_177 : byT Try.prog 177 = 4 := by kernel_rfl
@[go_sem] theorem conc_177 : Try.prog.concrete 177 = true := by kernel_rfl
@[go_sem] theorem szT_178 : szT Try.prog 178 = some 1 := by kernel_rfl
@[go_sem] theorem aggT_178 : aggT Try.prog 178 = some false := by kernel_rfl
@[go_sem] theorem zeT_178 : zeT Try.prog 178 = some (.nilFunc) := by kernel_rfl
@[go_sem] theorem elZ_178 : elZ Try.prog 178 = some 1 := by kernel_rfl
@[go_sem] theorem byT_178 : byT Try.prog 178 = 8 := by kernel_rfl
@[go_sem] theorem conc_178 : Try.prog.concrete 178 = true := by kernel_rfl
@[go_sem] theorem szT_179 : szT Try.prog 179 = some 1 := by kernel_rfl
@[go_sem] theorem aggT_179 : aggT Try.prog 179 = some false := by kernel_rfl
@[go_sem] theorem zeT_179 : zeT Try.prog 179 = some (.int .u64 0) := by kernel_rfl
@[go_sem] theorem elZ_179 : elZ Try.prog 179 = some 1 := by kernel_rfl
@[go_sem] theorem byT_179 : byT Try.prog 179 = 8 := by kernel_rfl
@[go_sem] theorem conc_179 : Try.prog.concrete 179 = true := by kernel_rfl
@[go_sem] theorem szT_180 : szT Try.prog 180 = some 1 := by kernel_rfl
@[go_sem] theorem aggT_180 : aggT Try.prog 180 = some false := by kernel_rfl
@[go_sem] theorem zeT_180 : zeT Try.prog 180 = some (.nilFunc) := by kernel_rfl
@[go_sem] theorem elZ_180 : elZ Try.prog 180 = some 1 := by kernel_rfl
@[go_sem] theorem byT_180 : byT Try.prog 180 = 8 := by kernel_rfl
@[go_sem] theorem conc_180 : Try.prog.concrete 180 = true := by kernel_rfl
@[go_sem] theorem szT_181 : szT Try.prog 181 = some 1 := by kernel_rfl
@[go_sem] theorem aggT_181 : aggT Try.prog 181 = some false := by kernel_rfl
@[go_sem] theorem zeT_181 : zeT Try.prog 181 = some (.nilFunc) := by kernel_rfl
@[go_sem] theorem elZ_181 : elZ Try.prog 181 = some 1 := by kernel_rfl
@[go_sem] theorem byT_181 : byT Try.prog 181 = 8 := by kernel_rfl
@[go_sem] theorem conc_181 : Try.prog.concrete 181 = true := by kernel_rfl
@[go_sem] theorem szT_182 : szT Try.prog 182 = some 1 := by kernel_rfl
@[go_sem] theorem aggT_182 : aggT Try.prog 182 = some false := by kernel_rfl
@[go_sem] theorem zeT_182 : zeT Try.prog 182 = some (.nilFunc) := by kernel_rfl
@[go_sem] theorem elZ_182 : elZ Try.prog 182 = some 1 := by kernel_rfl
@[go_sem] theorem byT_182 : byT Try.prog 182 = 8 := by kernel_rfl
@[go_sem] theorem conc_182 : Try.prog.concrete 182 = true := by kernel_rfl
@[go_sem] theorem szT_183 : szT Try.prog 183 = some 1 := by kernel_rfl
@[go_sem] theorem aggT_183 : aggT Try.prog 183 = some false := by kernel_rfl
@[go_sem] theorem zeT_183 : zeT Try.prog 183 = some (.nilFunc) := by kernel_rfl
@[go_sem] theorem elZ_183 : elZ Try.prog 183 = some 1 := by kernel_rfl
@[go_sem] theorem byT_183 : byT Try.prog 183 = 8 := by kernel_rfl
@[go_sem] theorem conc_183 : Try.prog.concrete 183 = true := by kernel_rfl
@[go_sem] theorem szT_184 : szT Try.prog 184 = some 1 := by kernel_rfl
@[go_sem] theorem aggT_184 : aggT Try.prog 184 = some false := by kernel_rfl
@[go_sem] theorem zeT_184 : zeT Try.prog 184 = some (.nilFunc) := by kernel_rfl
@[go_sem] theorem elZ_184 : elZ Try.prog 184 = some 1 := by kernel_rfl
@[go_sem] theorem byT_184 : byT Try.prog 184 = 8 := by kernel_rfl
@[go_sem] theorem conc_184 : Try.prog.concrete 184 = true := by kernel_rfl
@[go_sem] theorem szT_185 : szT Try.prog 185 = some 1 := by kernel_rfl
@[go_sem] theorem aggT_185 : aggT Try.prog 185 = some false := by kernel_rfl
@[go_sem] theorem zeT_185 : zeT Try.prog 185 = some (.nilFunc) := by kernel_rfl
@[go_sem] theorem elZ_185 : elZ Try.prog 185 = some 1 := by kernel_rfl
@[go_sem] theorem byT_185 : byT Try.prog 185 = 8 := by kernel_rfl
@[go_sem] theorem conc_185 : Try.prog.concrete 185 = true := by kernel_rfl
@[go_sem] theorem szT_186 : szT Try.prog 186 = some 1 := by kernel_rfl
@[go_sem] theorem aggT_186 : aggT Try.prog 186 = some false := by kernel_rfl
@[go_sem] theorem zeT_186 : zeT Try.prog 186 = some (.nilFunc) := by kernel_rfl
@[go_sem] theorem elZ_186 : elZ Try.prog 186 = some 1 := by kernel_rfl
@[go_sem] theorem byT_186 : byT Try.prog 186 = 8 := by kernel_rfl
@[go_sem] theorem conc_186 : Try.prog.concrete 186 = true := by kernel_rfl
@[go_sem] theorem szT_187 : szT Try.prog 187 = some 1 := by kernel_rfl
@[go_sem] theorem aggT_187 : aggT Try.prog 187 = some false := by kernel_rfl
@[go_sem] theorem zeT_187 : zeT Try.prog 187 = some (.nilFunc) := by kernel_rfl
@[go_sem] theorem elZ_187 : elZ Try.prog 187 = some 1 := by kernel_rfl
@[go_sem] theorem byT_187 : byT Try.prog 187 = 8 := by kernel_rfl
@[go_sem] theorem conc_187 : Try.prog.concrete 187 = true := by kernel_rfl
@[go_sem] theorem szT_188 : szT Try.prog 188 = some 1 := by kernel_rfl
@[go_sem] theorem aggT_188 : aggT Try.prog 188 = some false := by kernel_rfl
@[go_sem] theorem zeT_188 : zeT Try.prog 188 = some (.nilFunc) := by kernel_rfl
@[go_sem] theorem elZ_188 : elZ Try.prog 188 = some 1 := by kernel_rfl
@[go_sem] theorem byT_188 : byT Try.prog 188 = 8 := by kernel_rfl
@[go_sem] theorem conc_188 : Try.prog.concrete 188 = true := by kernel_rfl
@[go_sem] theorem szT_189 : szT Try.prog 189 = some 1 := by kernel_rfl
@[go_sem] theorem aggT_189 : aggT Try.prog 189 = some false := by kernel_rfl
@[go_sem] theorem zeT_189 : zeT Try.prog 189 = some (.nilFunc) := by kernel_rfl
@[go_sem] theorem elZ_189 : elZ Try.prog 189 = some 1 := by kernel_rfl
@[go_sem] theorem byT_189 : byT Try.prog 189 = 8 := by kernel_rfl
@[go_sem] theorem conc_189 : Try.prog.concrete 189 = true := by kernel_rfl
@[go_sem] theorem szT_190 : szT Try.prog 190 = some 1 := by kernel_rfl
@[go_sem] theorem aggT_190 : aggT Try.prog 190 = some false := by kernel_rfl
@[go_sem] theorem zeT_190 : zeT Try.prog 190 = some (.pointer none) := by kernel_rfl
@[go_sem] theorem elZ_190 : elZ Try.prog 190 = some 1 := by kernel_rfl
@[go_sem] theorem byT_190 : byT Try.prog 190 = 8 := by kernel_rfl
@[go_sem] theorem conc_190 : Try.prog.concrete 190 = true := by kernel_rfl
@[go_sem] theorem szT_191 : szT Try.prog 191 = some 2 := by kernel_rfl
@[go_sem] theorem aggT_191 : aggT Try.prog 191 = some true := by kernel_rfl
@[go_sem] theorem offT_191x0 : offT Try.prog 191 0 = some 0 := by kernel_rfl
@[go_sem] theorem offT_191x1 : offT Try.prog 191 1 = some 1 := by kernel_rfl
@[go_sem] theorem plcs_191 : plcs Try.prog 191 = some [(0, 1), (1, 1)] := by kernel_rfl
@[go_sem] theorem zeT_191 : zeT Try.prog 191 = some (.agg #[.int .i64 0, .slice none 0 0]) := by kernel_rfl
@[go_sem] theorem elZ_191 : elZ Try.prog 191 = some 2 := by kernel_rfl
@[go_sem] theorem byT_191 : byT Try.prog 191 = 32 := by kernel_rfl
@[go_sem] theorem conc_191 : Try.prog.concrete 191 = true := by kernel_rfl
@[go_sem] theorem szT_192 : szT Try.prog 192 = some 2 := by kernel_rfl
@[go_sem] theorem aggT_192 : aggT Try.prog 192 = some true := by kernel_rfl
@[go_sem] theorem offT_192x0 : offT Try.prog 192 0 = some 0 := by kernel_rfl
@[go_sem] theorem offT_192x1 : offT Try.prog 192 1 = some 1 := by kernel_rfl
@[go_sem] theorem plcs_192 : plcs Try.prog 192 = some [(0, 1), (1, 1)] := by kernel_rfl
@[go_sem] theorem zeT_192 : zeT Try.prog 192 = some (.agg #[.int .i64 0, .slice none 0 0]) := by kernel_rfl
@[go_sem] theorem elZ_192 : elZ Try.prog 192 = some 2 := by kernel_rfl
@[go_sem] theorem byT_192 : byT Try.prog 192 = 32 := by kernel_rfl
@[go_sem] theorem conc_192 : Try.prog.concrete 192 = true := by kernel_rfl
@[go_sem] theorem szT_193 : szT Try.prog 193 = some 1 := by kernel_rfl
@[go_sem] theorem aggT_193 : aggT Try.prog 193 = some false := by kernel_rfl
@[go_sem] theorem zeT_193 : zeT Try.prog 193 = some (.nilFunc) := by kernel_rfl
@[go_sem] theorem elZ_193 : elZ Try.prog 193 = some 1 := by kernel_rfl
@[go_sem] theorem byT_193 : byT Try.prog 193 = 8 := by kernel_rfl
@[go_sem] theorem conc_193 : Try.prog.concrete 193 = true := by kernel_rfl
@[go_sem] theorem szT_194 : szT Try.prog 194 = some 1 := by kernel_rfl
@[go_sem] theorem aggT_194 : aggT Try.prog 194 = some false := by kernel_rfl
@[go_sem] theorem zeT_194 : zeT Try.prog 194 = some (.nilFunc) := by kernel_rfl
@[go_sem] theorem elZ_194 : elZ Try.prog 194 = some 1 := by kernel_rfl
@[go_sem] theorem byT_194 : byT Try.prog 194 = 8 := by kernel_rfl
@[go_sem] theorem conc_194 : Try.prog.concrete 194 = true := by kernel_rfl
@[go_sem] theorem szT_195 : szT Try.prog 195 = some 1 := by kernel_rfl
@[go_sem] theorem aggT_195 : aggT Try.prog 195 = some false := by kernel_rfl
@[go_sem] theorem zeT_195 : zeT Try.prog 195 = some (.nilFunc) := by kernel_rfl
@[go_sem] theorem elZ_195 : elZ Try.prog 195 = some 1 := by kernel_rfl
@[go_sem] theorem byT_195 : byT Try.prog 195 = 8 := by kernel_rfl
@[go_sem] theorem conc_195 : Try.prog.concrete 195 = true := by kernel_rfl
@[go_sem] theorem szT_196 : szT Try.prog 196 = some 1 := by kernel_rfl
@[go_sem] theorem aggT_196 : aggT Try.prog 196 = some false := by kernel_rfl
@[go_sem] theorem zeT_196 : zeT Try.prog 196 = some (.int .u64 0) := by kernel_rfl
@[go_sem] theorem elZ_196 : elZ Try.prog 196 = some 1 := by kernel_rfl
@[go_sem] theorem byT_196 : byT Try.prog 196 = 8 := by kernel_rfl
@[go_sem] theorem conc_196 : Try.prog.concrete 196 = true := by kernel_rfl
@[go_sem] theorem szT_197 : szT Try.prog 197 = some 1 := by kernel_rfl
@[go_sem] theorem aggT_197 : aggT Try.prog 197 = some false := by kernel_rfl
@[go_sem] theorem zeT_197 : zeT Try.prog 197 = some (.nilFunc) := by kernel_rfl
@[go_sem] theorem elZ_197 : elZ Try.prog 197 = some 1 := by kernel_rfl
@[go_sem] theorem byT_197 : byT Try.prog 197 = 8 := by kernel_rfl
@[go_sem] theorem conc_197 : Try.prog.concrete 197 = true := by kernel_rfl
@[go_sem] theorem szT_198 : szT Try.prog 198 = some 1 := by kernel_rfl
@[go_sem] theorem aggT_198 : aggT Try.prog 198 = some false := by kernel_rfl
@[go_sem] theorem zeT_198 : zeT Try.prog 198 = some (.nilFunc) := by kernel_rfl
@[go_sem] theorem elZ_198 : elZ Try.prog 198 = some 1 := by kernel_rfl
@[go_sem] theorem byT_198 : byT Try.prog 198 = 8 := by kernel_rfl
@[go_sem] theorem conc_198 : Try.prog.concrete 198 = true := by kernel_rfl
@[go_sem] theorem szT_199 : szT Try.prog 199 = some 1 := by kernel_rfl
@[go_sem] theorem aggT_199 : aggT Try.prog 199 = some false := by kernel_rfl
@[go_sem] theorem zeT_199 : zeT Try.prog 199 = some (.nilFunc) := by kernel_rfl
@[go_sem] theorem elZ_199 : elZ Try.prog 199 = some 1 := by kernel_rfl
@[go_sem] theorem byT_199 : byT Try.prog 199 = 8 := by kernel_rfl
@[go_sem] theorem conc_199 : Try.prog.concrete 199 = true := by kernel_rfl
@[go_sem] theorem szT_200 : szT Try.prog 200 = some 1 := by kernel_rfl
@[go_sem] theorem aggT_200 : aggT Try.prog 200 = some false := by kernel_rfl
@[go_sem] theorem zeT_200 : zeT Try.prog 200 = some (.pointer none) := by kernel_rfl
@[go_sem] theorem elZ_200 : elZ Try.prog 200 = some 1 := by kernel_rfl
@[go_sem] theorem byT_200 : byT Try.prog 200 = 8 := by kernel_rfl
@[go_sem] theorem conc_200 : Try.prog.concrete 200 = true := by kernel_rfl
@[go_sem] theorem szT_201 : szT Try.prog 201 = some 1 := by kernel_rfl
@[go_sem] theorem aggT_201 : aggT Try.prog 201 = some false := by kernel_rfl
@[go_sem] theorem zeT_201 : zeT Try.prog 201 = some (.nilFunc) := by kernel_rfl
@[go_sem] theorem elZ_201 : elZ Try.prog 201 = some 1 := by kernel_rfl
@[go_sem] theorem byT_201 : byT Try.prog 201 = 8 := by kernel_rfl
@[go_sem] theorem conc_201 : Try.prog.concrete 201 = true := by kernel_rfl
@[go_sem] theorem szT_202 : szT Try.prog 202 = some 1 := by kernel_rfl
@[go_sem] theorem aggT_202 : aggT Try.prog 202 = some false := by kernel_rfl
@[go_sem] theorem zeT_202 : zeT Try.prog 202 = some (.nilFunc) := by kernel_rfl
@[go_sem] theorem elZ_202 : elZ Try.prog 202 = some 1 := by kernel_rfl
@[go_sem] theorem byT_202 : byT Try.prog 202 = 8 := by kernel_rfl
@[go_sem] theorem conc_202 : Try.prog.concrete 202 = true := by kernel_rfl
@[go_sem] theorem szT_203 : szT Try.prog 203 = some 1 := by kernel_rfl
@[go_sem] theorem aggT_203 : aggT Try.prog 203 = some false := by kernel_rfl
@[go_sem] theorem zeT_203 : zeT Try.prog 203 = some (.nilFunc) := by kernel_rfl
@[go_sem] theorem elZ_203 : elZ Try.prog 203 = some 1 := by kernel_rfl
@[go_sem] theorem byT_203 : byT Try.prog 203 = 8 := by kernel_rfl
@[go_sem] theorem conc_203 : Try.prog.concrete 203 = true := by kernel_rfl
@[go_sem] theorem szT_204 : szT Try.prog 204 = some 1 := by kernel_rfl
@[go_sem] theorem aggT_204 : aggT Try.prog 204 = some false := by kernel_rfl
@[go_sem] theorem zeT_204 : zeT Try.prog 204 = some (.pointer none) := by kernel_rfl
@[go_sem] theorem elZ_204 : elZ Try.prog 204 = some 1 := by kernel_rfl
@[go_sem] theorem byT_204 : byT Try.prog 204 = 8 := by kernel_rfl
@[go_sem] theorem conc_204 : Try.prog.concrete 204 = true := by kernel_rfl
@[go_sem] theorem szT_205 : szT Try.prog 205 = some 1 := by kernel_rfl
@[go_sem] theorem aggT_205 : aggT Try.prog 205 = some false := by kernel_rfl
@[go_sem] theorem zeT_205 : zeT Try.prog 205 = some (.nilFunc) := by kernel_rfl
@[go_sem] theorem elZ_205 : elZ Try.prog 205 = some 1 := by kernel_rfl
@[go_sem] theorem byT_205 : byT Try.prog 205 = 8 := by kernel_rfl
@[go_sem] theorem conc_205 : Try.prog.concrete 205 = true := by kernel_rfl
@[go_sem] theorem szT_206 : szT Try.prog 206 = some 2 := by kernel_rfl
@[go_sem] theorem aggT_206 : aggT Try.prog 206 = some true := by kernel_rfl
@[go_sem] theorem offT_206x0 : offT Try.prog 206 0 = some 0 := by kernel_rfl
@[go_sem] theorem offT_206x1 : offT Try.prog 206 1 = some 1 := by kernel_rfl
@[go_sem] theorem plcs_206 : plcs Try.prog 206 = some [(0, 1), (1, 1)] := by kernel_rfl
@[go_sem] theorem zeT_206 : zeT Try.prog 206 = some (.agg #[.slice none 0 0, .nilIface]) := by kernel_rfl
@[go_sem] theorem elZ_206 : elZ Try.prog 206 = some 2 := by kernel_rfl
@[go_sem] theorem byT_206 : byT Try.prog 206 = 40 := by kernel_rfl
@[go_sem] theorem conc_206 : Try.prog.concrete 206 = true := by kernel_rfl
@[go_sem] theorem szT_207 : szT Try.prog 207 = some 2 := by kernel_rfl
@[go_sem] theorem aggT_207 : aggT Try.prog 207 = some true := by kernel_rfl
@[go_sem] theorem offT_207x0 : offT Try.prog 207 0 = some 0 := by kernel_rfl
@[go_sem] theorem offT_207x1 : offT Try.prog 207 1 = some 1 := by kernel_rfl
@[go_sem] theorem plcs_207 : plcs Try.prog 207 = some [(0, 1), (1, 1)] := by kernel_rfl
@[go_sem] theorem zeT_207 : zeT Try.prog 207 = some (.agg #[.slice none 0 0, .nilIface]) := by kernel_rfl
@[go_sem] theorem elZ_207 : elZ Try.prog 207 = some 2 := by kernel_rfl
@[go_sem] theorem byT_207 : byT Try.prog 207 = 40 := by kernel_rfl
@[go_sem] theorem conc_207 : Try.prog.concrete 207 = true := by kernel_rfl
@[go_sem] theorem szT_208 : szT Try.prog 208 = some 1 := by kernel_rfl
@[go_sem] theorem aggT_208 : aggT Try.prog 208 = some false := by kernel_rfl
@[go_sem] theorem zeT_208 : zeT Try.prog 208 = some (.pointer none) := by kernel_rfl
@[go_sem] theorem elZ_208 : elZ Try.prog 208 = some 1 := by kernel_rfl
@[go_sem] theorem byT_208 : byT Try.prog 208 = 8 := by kernel_rfl
@[go_sem] theorem conc_208 : Try.prog.concrete 208 = true := by kernel_rfl
@[go_sem] theorem szT_209 : szT Try.prog 209 = some 2 := by kernel_rfl
@[go_sem] theorem aggT_209 : aggT Try.prog 209 = some true := by kernel_rfl
@[go_sem] theorem offT_209x0 : offT Try.prog 209 0 = some 0 := by kernel_rfl
@[go_sem] theorem offT_209x1 : offT Try.prog 209 1 = some 1 := by kernel_rfl
@[go_sem] theorem plcs_209 : plcs Try.prog 209 = some [(0, 1), (1, 1)] := by kernel_rfl
@[go_sem] theorem zeT_209 : zeT Try.prog 209 = some (.agg #[.int .i64 0, .int .i64 0]) := by kernel_rfl
@[go_sem] theorem elZ_209 : elZ Try.prog 209 = some 2 := by kernel_rfl
@[go_sem] theorem byT_209 : byT Try.prog 209 = 16 := by kernel_rfl
@[go_sem] theorem conc_209 : Try.prog.concrete 209 = true := by kernel_rfl
@[go_sem] theorem eqg_209 : Program.eqGuardType Try.prog (Program.depth Try.prog) 209 = false := by kernel_rfl
@[go_sem] theorem stood_209 : Try.prog.stoodInHeld 209 = false := by kernel_rfl
@[go_sem] theorem szT_210 : szT Try.prog 210 = some 2 := by kernel_rfl
@[go_sem] theorem aggT_210 : aggT Try.prog 210 = some true := by kernel_rfl
@[go_sem] theorem offT_210x0 : offT Try.prog 210 0 = some 0 := by kernel_rfl
@[go_sem] theorem offT_210x1 : offT Try.prog 210 1 = some 1 := by kernel_rfl
@[go_sem] theorem plcs_210 : plcs Try.prog 210 = some [(0, 1), (1, 1)] := by kernel_rfl
@[go_sem] theorem zeT_210 : zeT Try.prog 210 = some (.agg #[.int .i64 0, .int .i64 0]) := by kernel_rfl
@[go_sem] theorem elZ_210 : elZ Try.prog 210 = some 2 := by kernel_rfl
@[go_sem] theorem byT_210 : byT Try.prog 210 = 16 := by kernel_rfl
@[go_sem] theorem conc_210 : Try.prog.concrete 210 = true := by kernel_rfl
@[go_sem] theorem eqg_210 : Program.eqGuardType Try.prog (Program.depth Try.prog) 210 = false := by kernel_rfl
@[go_sem] theorem stood_210 : Try.prog.stoodInHeld 210 = false := by kernel_rfl
@[go_sem] theorem szT_211 : szT Try.prog 211 = some 1 := by kernel_rfl
@[go_sem] theorem aggT_211 : aggT Try.prog 211 = some false := by kernel_rfl
@[go_sem] theorem zeT_211 : zeT Try.prog 211 = some (.pointer none) := by kernel_rfl
@[go_sem] theorem elZ_211 : elZ Try.prog 211 = some 1 := by kernel_rfl
@[go_sem] theorem byT_211 : byT Try.prog 211 = 8 := by kernel_rfl
@[go_sem] theorem conc_211 : Try.prog.concrete 211 = true := by kernel_rfl
@[go_sem] theorem szT_212 : szT Try.prog 212 = some 1 := by kernel_rfl
@[go_sem] theorem aggT_212 : aggT Try.prog 212 = some false := by kernel_rfl
@[go_sem] theorem zeT_212 : zeT Try.prog 212 = some (.nilFunc) := by kernel_rfl
@[go_sem] theorem elZ_212 : elZ Try.prog 212 = some 1 := by kernel_rfl
@[go_sem] theorem byT_212 : byT Try.prog 212 = 8 := by kernel_rfl
@[go_sem] theorem conc_212 : Try.prog.concrete 212 = true := by kernel_rfl
@[go_sem] theorem szT_213 : szT Try.prog 213 = some 1 := by kernel_rfl
@[go_sem] theorem aggT_213 : aggT Try.prog 213 = some false := by kernel_rfl
@[go_sem] theorem zeT_213 : zeT Try.prog 213 = some (.nilFunc) := by kernel_rfl
@[go_sem] theorem elZ_213 : elZ Try.prog 213 = some 1 := by kernel_rfl
@[go_sem] theorem byT_213 : byT Try.prog 213 = 8 := by kernel_rfl
@[go_sem] theorem conc_213 : Try.prog.concrete 213 = true := by kernel_rfl
@[go_sem] theorem szT_215 : szT Try.prog 215 = some 1 := by kernel_rfl
@[go_sem] theorem aggT_215 : aggT Try.prog 215 = some false := by kernel_rfl
@[go_sem] theorem zeT_215 : zeT Try.prog 215 = some (.nilFunc) := by kernel_rfl
@[go_sem] theorem elZ_215 : elZ Try.prog 215 = some 1 := by kernel_rfl
@[go_sem] theorem byT_215 : byT Try.prog 215 = 8 := by kernel_rfl
@[go_sem] theorem conc_215 : Try.prog.concrete 215 = true := by kernel_rfl
@[go_sem] theorem szT_216 : szT Try.prog 216 = some 1 := by kernel_rfl
@[go_sem] theorem aggT_216 : aggT Try.prog 216 = some false := by kernel_rfl
@[go_sem] theorem zeT_216 : zeT Try.prog 216 = some (.map none) := by kernel_rfl
@[go_sem] theorem elZ_216 : elZ Try.prog 216 = some 1 := by kernel_rfl
@[go_sem] theorem byT_216 : byT Try.prog 216 = 8 := by kernel_rfl
@[go_sem] theorem conc_216 : Try.prog.concrete 216 = true := by kernel_rfl
@[go_sem] theorem szT_217 : szT Try.prog 217 = some 1 := by kernel_rfl
@[go_sem] theorem aggT_217 : aggT Try.prog 217 = some false := by kernel_rfl
@[go_sem] theorem zeT_217 : zeT Try.prog 217 = some (.nilFunc) := by kernel_rfl
@[go_sem] theorem elZ_217 : elZ Try.prog 217 = some 1 := by kernel_rfl
@[go_sem] theorem byT_217 : byT Try.prog 217 = 8 := by kernel_rfl
@[go_sem] theorem conc_217 : Try.prog.concrete 217 = true := by kernel_rfl
@[go_sem] theorem szT_218 : szT Try.prog 218 = some 1 := by kernel_rfl
@[go_sem] theorem aggT_218 : aggT Try.prog 218 = some false := by kernel_rfl
@[go_sem] theorem zeT_218 : zeT Try.prog 218 = some (.nilFunc) := by kernel_rfl
@[go_sem] theorem elZ_218 : elZ Try.prog 218 = some 1 := by kernel_rfl
@[go_sem] theorem byT_218 : byT Try.prog 218 = 8 := by kernel_rfl
@[go_sem] theorem conc_218 : Try.prog.concrete 218 = true := by kernel_rfl
@[go_sem] theorem szT_219 : szT Try.prog 219 = some 1 := by kernel_rfl
@[go_sem] theorem aggT_219 : aggT Try.prog 219 = some false := by kernel_rfl
@[go_sem] theorem zeT_219 : zeT Try.prog 219 = some (.nilFunc) := by kernel_rfl
@[go_sem] theorem elZ_219 : elZ Try.prog 219 = some 1 := by kernel_rfl
@[go_sem] theorem byT_219 : byT Try.prog 219 = 8 := by kernel_rfl
@[go_sem] theorem conc_219 : Try.prog.concrete 219 = true := by kernel_rfl
@[go_sem] theorem szT_220 : szT Try.prog 220 = some 1 := by kernel_rfl
@[go_sem] theorem aggT_220 : aggT Try.prog 220 = some false := by kernel_rfl
@[go_sem] theorem zeT_220 : zeT Try.prog 220 = some (.nilFunc) := by kernel_rfl
@[go_sem] theorem elZ_220 : elZ Try.prog 220 = some 1 := by kernel_rfl
@[go_sem] theorem byT_220 : byT Try.prog 220 = 8 := by kernel_rfl
@[go_sem] theorem conc_220 : Try.prog.concrete 220 = true := by kernel_rfl
@[go_sem] theorem szT_221 : szT Try.prog 221 = some 1 := by kernel_rfl
@[go_sem] theorem aggT_221 : aggT Try.prog 221 = some false := by kernel_rfl
@[go_sem] theorem zeT_221 : zeT Try.prog 221 = some (.nilFunc) := by kernel_rfl
@[go_sem] theorem elZ_221 : elZ Try.prog 221 = some 1 := by kernel_rfl
@[go_sem] theorem byT_221 : byT Try.prog 221 = 8 := by kernel_rfl
@[go_sem] theorem conc_221 : Try.prog.concrete 221 = true := by kernel_rfl
@[go_sem] theorem szT_222 : szT Try.prog 222 = some 1 := by kernel_rfl
@[go_sem] theorem aggT_222 : aggT Try.prog 222 = some false := by kernel_rfl
@[go_sem] theorem zeT_222 : zeT Try.prog 222 = some (.nilFunc) := by kernel_rfl
@[go_sem] theorem elZ_222 : elZ Try.prog 222 = some 1 := by kernel_rfl
@[go_sem] theorem byT_222 : byT Try.prog 222 = 8 := by kernel_rfl
@[go_sem] theorem conc_222 : Try.prog.concrete 222 = true := by kernel_rfl
@[go_sem] theorem szT_223 : szT Try.prog 223 = some 1 := by kernel_rfl
@[go_sem] theorem aggT_223 : aggT Try.prog 223 = some false := by kernel_rfl
@[go_sem] theorem zeT_223 : zeT Try.prog 223 = some (.nilFunc) := by kernel_rfl
@[go_sem] theorem elZ_223 : elZ Try.prog 223 = some 1 := by kernel_rfl
@[go_sem] theorem byT_223 : byT Try.prog 223 = 8 := by kernel_rfl
@[go_sem] theorem conc_223 : Try.prog.concrete 223 = true := by kernel_rfl
@[go_sem] theorem szT_224 : szT Try.prog 224 = some 4 := by kernel_rfl
@[go_sem] theorem aggT_224 : aggT Try.prog 224 = some true := by kernel_rfl
@[go_sem] theorem offT_224x0 : offT Try.prog 224 0 = some 0 := by kernel_rfl
@[go_sem] theorem offT_224x1 : offT Try.prog 224 1 = some 1 := by kernel_rfl
@[go_sem] theorem offT_224x2 : offT Try.prog 224 2 = some 2 := by kernel_rfl
@[go_sem] theorem offT_224x3 : offT Try.prog 224 3 = some 3 := by kernel_rfl
@[go_sem] theorem plcs_224 : plcs Try.prog 224 = some [(0, 1), (1, 1), (2, 1), (3, 1)] := by kernel_rfl
@[go_sem] theorem zeT_224 : zeT Try.prog 224 = some (.agg #[.pointer none, .pointer none, .pointer none, .string ⟨#[]⟩]) := by kernel_rfl
@[go_sem] theorem elZ_224 : elZ Try.prog 224 = some 4 := by kernel_rfl
@[go_sem] theorem byT_224 : byT Try.prog 224 = 40 := by kernel_rfl
@[go_sem] theorem conc_224 : Try.prog.concrete 224 = true := by kernel_rfl
@[go_sem] theorem szT_225 : szT Try.prog 225 = some 4 := by kernel_rfl
@[go_sem] theorem aggT_225 : aggT Try.prog 225 = some true := by kernel_rfl
@[go_sem] theorem offT_225x0 : offT Try.prog 225 0 = some 0 := by kernel_rfl
@[go_sem] theorem offT_225x1 : offT Try.prog 225 1 = some 1 := by kernel_rfl
@[go_sem] theorem offT_225x2 : offT Try.prog 225 2 = some 2 := by kernel_rfl
@[go_sem] theorem offT_225x3 : offT Try.prog 225 3 = some 3 := by kernel_rfl
@[go_sem] theorem plcs_225 : plcs Try.prog 225 = some [(0, 1), (1, 1), (2, 1), (3, 1)] := by kernel_rfl
@[go_sem] theorem zeT_225 : zeT Try.prog 225 = some (.agg #[.pointer none, .pointer none, .pointer none, .string ⟨#[]⟩]) := by kernel_rfl
@[go_sem] theorem elZ_225 : elZ Try.prog 225 = some 4 := by kernel_rfl
@[go_sem] theorem byT_225 : byT Try.prog 225 = 40 := by kernel_rfl
@[go_sem] theorem conc_225 : Try.prog.concrete 225 = true := by kernel_rfl
@[go_sem] theorem szT_227 : szT Try.prog 227 = some 0 := by kernel_rfl
@[go_sem] theorem aggT_227 : aggT Try.prog 227 = some true := by kernel_rfl
@[go_sem] theorem zeT_227 : zeT Try.prog 227 = some (.agg #[]) := by kernel_rfl
@[go_sem] theorem byT_227 : byT Try.prog 227 = 0 := by kernel_rfl
@[go_sem] theorem conc_227 : Try.prog.concrete 227 = true := by kernel_rfl
@[go_sem] theorem szT_228 : szT Try.prog 228 = some 0 := by kernel_rfl
@[go_sem] theorem aggT_228 : aggT Try.prog 228 = some true := by kernel_rfl
@[go_sem] theorem zeT_228 : zeT Try.prog 228 = some (.agg #[]) := by kernel_rfl
@[go_sem] theorem byT_228 : byT Try.prog 228 = 0 := by kernel_rfl
@[go_sem] theorem conc_228 : Try.prog.concrete 228 = true := by kernel_rfl
@[go_sem] theorem szT_229 : szT Try.prog 229 = some 1 := by kernel_rfl
@[go_sem] theorem aggT_229 : aggT Try.prog 229 = some false := by kernel_rfl
@[go_sem] theorem zeT_229 : zeT Try.prog 229 = some (.nilFunc) := by kernel_rfl
@[go_sem] theorem elZ_229 : elZ Try.prog 229 = some 1 := by kernel_rfl
@[go_sem] theorem byT_229 : byT Try.prog 229 = 8 := by kernel_rfl
@[go_sem] theorem conc_229 : Try.prog.concrete 229 = true := by kernel_rfl
@[go_sem] theorem szT_230 : szT Try.prog 230 = some 1 := by kernel_rfl
@[go_sem] theorem aggT_230 : aggT Try.prog 230 = some false := by kernel_rfl
@[go_sem] theorem zeT_230 : zeT Try.prog 230 = some (.nilFunc) := by kernel_rfl
@[go_sem] theorem elZ_230 : elZ Try.prog 230 = some 1 := by kernel_rfl
@[go_sem] theorem byT_230 : byT Try.prog 230 = 8 := by kernel_rfl
@[go_sem] theorem conc_230 : Try.prog.concrete 230 = true := by kernel_rfl
@[go_sem] theorem szT_231 : szT Try.prog 231 = some 1 := by kernel_rfl
@[go_sem] theorem aggT_231 : aggT Try.prog 231 = some false := by kernel_rfl
@[go_sem] theorem zeT_231 : zeT Try.prog 231 = some (.int .u8 0) := by kernel_rfl
@[go_sem] theorem elZ_231 : elZ Try.prog 231 = some 1 := by kernel_rfl
@[go_sem] theorem byT_231 : byT Try.prog 231 = 1 := by kernel_rfl
@[go_sem] theorem conc_231 : Try.prog.concrete 231 = true := by kernel_rfl
@[go_sem] theorem szT_232 : szT Try.prog 232 = some 1 := by kernel_rfl
@[go_sem] theorem aggT_232 : aggT Try.prog 232 = some false := by kernel_rfl
@[go_sem] theorem zeT_232 : zeT Try.prog 232 = some (.int .u8 0) := by kernel_rfl
@[go_sem] theorem elZ_232 : elZ Try.prog 232 = some 1 := by kernel_rfl
@[go_sem] theorem byT_232 : byT Try.prog 232 = 1 := by kernel_rfl
@[go_sem] theorem conc_232 : Try.prog.concrete 232 = true := by kernel_rfl
@[go_sem] theorem szT_233 : szT Try.prog 233 = some 1 := by kernel_rfl
@[go_sem] theorem aggT_233 : aggT Try.prog 233 = some false := by kernel_rfl
@[go_sem] theorem zeT_233 : zeT Try.prog 233 = some (.nilFunc) := by kernel_rfl
@[go_sem] theorem elZ_233 : elZ Try.prog 233 = some 1 := by kernel_rfl
@[go_sem] theorem byT_233 : byT Try.prog 233 = 8 := by kernel_rfl
@[go_sem] theorem conc_233 : Try.prog.concrete 233 = true := by kernel_rfl
@[go_sem] theorem szT_234 : szT Try.prog 234 = some 1 := by kernel_rfl
@[go_sem] theorem aggT_234 : aggT Try.prog 234 = some false := by kernel_rfl
@[go_sem] theorem zeT_234 : zeT Try.prog 234 = some (.pointer none) := by kernel_rfl
@[go_sem] theorem elZ_234 : elZ Try.prog 234 = some 1 := by kernel_rfl
@[go_sem] theorem byT_234 : byT Try.prog 234 = 8 := by kernel_rfl
@[go_sem] theorem conc_234 : Try.prog.concrete 234 = true := by kernel_rfl
@[go_sem] theorem szT_235 : szT Try.prog 235 = some 1 := by kernel_rfl
@[go_sem] theorem aggT_235 : aggT Try.prog 235 = some false := by kernel_rfl
@[go_sem] theorem zeT_235 : zeT Try.prog 235 = some (.int .i32 0) := by kernel_rfl
@[go_sem] theorem elZ_235 : elZ Try.prog 235 = some 1 := by kernel_rfl
@[go_sem] theorem byT_235 : byT Try.prog 235 = 4 := by kernel_rfl
@[go_sem] theorem conc_235 : Try.prog.concrete 235 = true := by kernel_rfl
@[go_sem] theorem szT_236 : szT Try.prog 236 = some 1 := by kernel_rfl
@[go_sem] theorem aggT_236 : aggT Try.prog 236 = some false := by kernel_rfl
@[go_sem] theorem zeT_236 : zeT Try.prog 236 = some (.int .i32 0) := by kernel_rfl
@[go_sem] theorem elZ_236 : elZ Try.prog 236 = some 1 := by kernel_rfl
@[go_sem] theorem byT_236 : byT Try.prog 236 = 4 := by kernel_rfl
@[go_sem] theorem conc_236 : Try.prog.concrete 236 = true := by kernel_rfl
@[go_sem] theorem szT_237 : szT Try.prog 237 = some 11 := by kernel_rfl
@[go_sem] theorem aggT_237 : aggT Try.prog 237 = some true := by kernel_rfl
@[go_sem] theorem offT_237x0 : offT Try.prog 237 0 = some 0 := by kernel_rfl
@[go_sem] theorem offT_237x1 : offT Try.prog 237 1 = some 1 := by kernel_rfl
@[go_sem] theorem offT_237x2 : offT Try.prog 237 2 = some 2 := by kernel_rfl
@[go_sem] theorem offT_237x3 : offT Try.prog 237 3 = some 3 := by kernel_rfl
@[go_sem] theorem offT_237x4 : offT Try.prog 237 4 = some 4 := by kernel_rfl
@[go_sem] theorem offT_237x5 : offT Try.prog 237 5 = some 5 := by kernel_rfl
@[go_sem] theorem offT_237x6 : offT Try.prog 237 6 = some 6 := by kernel_rfl
@[go_sem] theorem offT_237x7 : offT Try.prog 237 7 = some 7 := by kernel_rfl
@[go_sem] theorem offT_237x8 : offT Try.prog 237 8 = some 8 := by kernel_rfl
@[go_sem] theorem offT_237x9 : offT Try.prog 237 9 = some 9 := by kernel_rfl
@[go_sem] theorem offT_237x10 : offT Try.prog 237 10 = some 10 := by kernel_rfl
@[go_sem] theorem plcs_237 : plcs Try.prog 237 = some [(0, 1), (1, 1), (2, 1), (3, 1), (4, 1), (5, 1), (6, 1), (7, 1), (8, 1), (9, 1), (10, 1)] := by kernel_rfl
@[go_sem] theorem zeT_237 : zeT Try.prog 237 = some (.agg #[.int .u64 0, .int .u64 0, .int .u32 0, .int .u8 0, .int .u8 0, .int .u8 0, .int .u8 0, .nilFunc, .pointer none, .int .i32 0, .int .i32 0]) := by kernel_rfl
@[go_sem] theorem elZ_237 : elZ Try.prog 237 = some 11 := by kernel_rfl
@[go_sem] theorem byT_237 : byT Try.prog 237 = 48 := by kernel_rfl
@[go_sem] theorem conc_237 : Try.prog.concrete 237 = true := by kernel_rfl
@[go_sem] theorem szT_238 : szT Try.prog 238 = some 11 := by kernel_rfl
@[go_sem] theorem aggT_238 : aggT Try.prog 238 = some true := by kernel_rfl
@[go_sem] theorem offT_238x0 : offT Try.prog 238 0 = some 0 := by kernel_rfl
@[go_sem] theorem offT_238x1 : offT Try.prog 238 1 = some 1 := by kernel_rfl
@[go_sem] theorem offT_238x2 : offT Try.prog 238 2 = some 2 := by kernel_rfl
@[go_sem] theorem offT_238x3 : offT Try.prog 238 3 = some 3 := by kernel_rfl
@[go_sem] theorem offT_238x4 : offT Try.prog 238 4 = some 4 := by kernel_rfl
@[go_sem] theorem offT_238x5 : offT Try.prog 238 5 = some 5 := by kernel_rfl
@[go_sem] theorem offT_238x6 : offT Try.prog 238 6 = some 6 := by kernel_rfl
@[go_sem] theorem offT_238x7 : offT Try.prog 238 7 = some 7 := by kernel_rfl
@[go_sem] theorem offT_238x8 : offT Try.prog 238 8 = some 8 := by kernel_rfl
@[go_sem] theorem offT_238x9 : offT Try.prog 238 9 = some 9 := by kernel_rfl
@[go_sem] theorem offT_238x10 : offT Try.prog 238 10 = some 10 := by kernel_rfl
@[go_sem] theorem plcs_238 : plcs Try.prog 238 = some [(0, 1), (1, 1), (2, 1), (3, 1), (4, 1), (5, 1), (6, 1), (7, 1), (8, 1), (9, 1), (10, 1)] := by kernel_rfl
@[go_sem] theorem zeT_238 : zeT Try.prog 238 = some (.agg #[.int .u64 0, .int .u64 0, .int .u32 0, .int .u8 0, .int .u8 0, .int .u8 0, .int .u8 0, .nilFunc, .pointer none, .int .i32 0, .int .i32 0]) := by kernel_rfl
@[go_sem] theorem elZ_238 : elZ Try.prog 238 = some 11 := by kernel_rfl
@[go_sem] theorem byT_238 : byT Try.prog 238 = 48 := by kernel_rfl
@[go_sem] theorem conc_238 : Try.prog.concrete 238 = true := by kernel_rfl
theorem mixed : Try.prog.follows .mixedOrders = true := by kernel_rfl
attribute [go_sem] Try.underlying0
attribute [go_sem] Try.underlying1
attribute [go_sem] Try.underlying2
attribute [go_sem] Try.underlying3
attribute [go_sem] Try.underlying4
attribute [go_sem] Try.underlying5
attribute [go_sem] Try.underlying6
attribute [go_sem] Try.underlying7
attribute [go_sem] Try.underlying8
attribute [go_sem] Try.underlying9
attribute [go_sem] Try.underlying10
attribute [go_sem] Try.underlying11
attribute [go_sem] Try.underlying12
attribute [go_sem] Try.underlying13
attribute [go_sem] Try.underlying14
attribute [go_sem] Try.underlying15
attribute [go_sem] Try.underlying16
attribute [go_sem] Try.underlying17
attribute [go_sem] Try.underlying18
attribute [go_sem] Try.underlying19
attribute [go_sem] Try.underlying20
attribute [go_sem] Try.underlying21
attribute [go_sem] Try.underlying22
attribute [go_sem] Try.underlying23
attribute [go_sem] Try.underlying24
attribute [go_sem] Try.underlying25
attribute [go_sem] Try.underlying26
attribute [go_sem] Try.underlying27
attribute [go_sem] Try.underlying28
attribute [go_sem] Try.underlying29
attribute [go_sem] Try.underlying30
attribute [go_sem] Try.underlying31
attribute [go_sem] Try.underlying32
attribute [go_sem] Try.underlying33
attribute [go_sem] Try.underlying34
attribute [go_sem] Try.underlying35
attribute [go_sem] Try.underlying36
attribute [go_sem] Try.underlying37
attribute [go_sem] Try.underlying38
attribute [go_sem] Try.underlying39
attribute [go_sem] Try.underlying40
attribute [go_sem] Try.underlying41
attribute [go_sem] Try.underlying42
attribute [go_sem] Try.underlying43
attribute [go_sem] Try.underlying44
attribute [go_sem] Try.underlying45
attribute [go_sem] Try.underlying46
attribute [go_sem] Try.underlying47
attribute [go_sem] Try.underlying48
attribute [go_sem] Try.underlying49
attribute [go_sem] Try.underlying50
attribute [go_sem] Try.underlying51
attribute [go_sem] Try.underlying52
attribute [go_sem] Try.underlying53
attribute [go_sem] Try.underlying54
attribute [go_sem] Try.underlying55
attribute [go_sem] Try.underlying56
attribute [go_sem] Try.underlying57
attribute [go_sem] Try.underlying58
attribute [go_sem] Try.underlying59
attribute [go_sem] Try.underlying60
attribute [go_sem] Try.underlying61
attribute [go_sem] Try.underlying62
attribute [go_sem] Try.underlying63
attribute [go_sem] Try.underlying64
attribute [go_sem] Try.underlying65
attribute [go_sem] Try.underlying66
attribute [go_sem] Try.underlying67
attribute [go_sem] Try.underlying68
attribute [go_sem] Try.underlying69
attribute [go_sem] Try.underlying70
attribute [go_sem] Try.underlying71
attribute [go_sem] Try.underlying72
attribute [go_sem] Try.underlying73
attribute [go_sem] Try.underlying74
attribute [go_sem] Try.underlying75
attribute [go_sem] Try.underlying76
attribute [go_sem] Try.underlying77
attribute [go_sem] Try.underlying78
attribute [go_sem] Try.underlying79
attribute [go_sem] Try.underlying80
attribute [go_sem] Try.underlying81
attribute [go_sem] Try.underlying82
attribute [go_sem] Try.underlying83
attribute [go_sem] Try.underlying84
attribute [go_sem] Try.underlying85
attribute [go_sem] Try.underlying86
attribute [go_sem] Try.underlying87
attribute [go_sem] Try.underlying88
attribute [go_sem] Try.underlying89
attribute [go_sem] Try.underlying90
attribute [go_sem] Try.underlying91
attribute [go_sem] Try.underlying92
attribute [go_sem] Try.underlying93
attribute [go_sem] Try.underlying94
attribute [go_sem] Try.underlying95
attribute [go_sem] Try.underlying96
attribute [go_sem] Try.underlying97
attribute [go_sem] Try.underlying98
attribute [go_sem] Try.underlying99
attribute [go_sem] Try.underlying100
attribute [go_sem] Try.underlying101
attribute [go_sem] Try.underlying102
attribute [go_sem] Try.underlying103
attribute [go_sem] Try.underlying104
attribute [go_sem] Try.underlying105
attribute [go_sem] Try.underlying106
attribute [go_sem] Try.underlying107
attribute [go_sem] Try.underlying108
attribute [go_sem] Try.underlying109
attribute [go_sem] Try.underlying110
attribute [go_sem] Try.underlying111
attribute [go_sem] Try.underlying112
attribute [go_sem] Try.underlying113
attribute [go_sem] Try.underlying114
attribute [go_sem] Try.underlying115
attribute [go_sem] Try.underlying116
attribute [go_sem] Try.underlying117
attribute [go_sem] Try.underlying118
attribute [go_sem] Try.underlying119
attribute [go_sem] Try.underlying120
attribute [go_sem] Try.underlying121
attribute [go_sem] Try.underlying122
attribute [go_sem] Try.underlying123
attribute [go_sem] Try.underlying124
attribute [go_sem] Try.underlying125
attribute [go_sem] Try.underlying126
attribute [go_sem] Try.underlying127
attribute [go_sem] Try.underlying128
attribute [go_sem] Try.underlying129
attribute [go_sem] Try.underlying130
attribute [go_sem] Try.underlying131
attribute [go_sem] Try.underlying132
attribute [go_sem] Try.underlying133
attribute [go_sem] Try.underlying134
attribute [go_sem] Try.underlying135
attribute [go_sem] Try.underlying136
attribute [go_sem] Try.underlying137
attribute [go_sem] Try.underlying138
attribute [go_sem] Try.underlying139
attribute [go_sem] Try.underlying140
attribute [go_sem] Try.underlying141
attribute [go_sem] Try.underlying142
attribute [go_sem] Try.underlying143
attribute [go_sem] Try.underlying144
attribute [go_sem] Try.underlying145
attribute [go_sem] Try.underlying146
attribute [go_sem] Try.underlying147
attribute [go_sem] Try.underlying148
attribute [go_sem] Try.underlying149
attribute [go_sem] Try.underlying150
attribute [go_sem] Try.underlying151
attribute [go_sem] Try.underlying152
attribute [go_sem] Try.underlying153
attribute [go_sem] Try.underlying154
attribute [go_sem] Try.underlying155
attribute [go_sem] Try.underlying156
attribute [go_sem] Try.underlying157
attribute [go_sem] Try.underlying158
attribute [go_sem] Try.underlying159
attribute [go_sem] Try.underlying160
attribute [go_sem] Try.underlying161
attribute [go_sem] Try.underlying162
attribute [go_sem] Try.underlying163
attribute [go_sem] Try.underlying164
attribute [go_sem] Try.underlying165
attribute [go_sem] Try.underlying166
attribute [go_sem] Try.underlying167
attribute [go_sem] Try.underlying168
attribute [go_sem] Try.underlying169
attribute [go_sem] Try.underlying170
attribute [go_sem] Try.underlying171
attribute [go_sem] Try.underlying172
attribute [go_sem] Try.underlying173
attribute [go_sem] Try.underlying174
attribute [go_sem] Try.underlying175
attribute [go_sem] Try.underlying176
attribute [go_sem] Try.underlying177
attribute [go_sem] Try.underlying178
attribute [go_sem] Try.underlying179
attribute [go_sem] Try.underlying180
attribute [go_sem] Try.underlying181
attribute [go_sem] Try.underlying182
attribute [go_sem] Try.underlying183
attribute [go_sem] Try.underlying184
attribute [go_sem] Try.underlying185
attribute [go_sem] Try.underlying186
attribute [go_sem] Try.underlying187
attribute [go_sem] Try.underlying188
attribute [go_sem] Try.underlying189
attribute [go_sem] Try.underlying190
attribute [go_sem] Try.underlying191
attribute [go_sem] Try.underlying192
attribute [go_sem] Try.underlying193
attribute [go_sem] Try.underlying194
attribute [go_sem] Try.underlying195
attribute [go_sem] Try.underlying196
attribute [go_sem] Try.underlying197
attribute [go_sem] Try.underlying198
attribute [go_sem] Try.underlying199
attribute [go_sem] Try.underlying200
attribute [go_sem] Try.underlying201
attribute [go_sem] Try.underlying202
attribute [go_sem] Try.underlying203
attribute [go_sem] Try.underlying204
attribute [go_sem] Try.underlying205
attribute [go_sem] Try.underlying206
attribute [go_sem] Try.underlying207
attribute [go_sem] Try.underlying208
attribute [go_sem] Try.underlying209
attribute [go_sem] Try.underlying210
attribute [go_sem] Try.underlying211
attribute [go_sem] Try.underlying212
attribute [go_sem] Try.underlying213
attribute [go_sem] Try.underlying214
attribute [go_sem] Try.underlying215
attribute [go_sem] Try.underlying216
attribute [go_sem] Try.underlying217
attribute [go_sem] Try.underlying218
attribute [go_sem] Try.underlying219
attribute [go_sem] Try.underlying220
attribute [go_sem] Try.underlying221
attribute [go_sem] Try.underlying222
attribute [go_sem] Try.underlying223
attribute [go_sem] Try.underlying224
attribute [go_sem] Try.underlying225
attribute [go_sem] Try.underlying226
attribute [go_sem] Try.underlying227
attribute [go_sem] Try.underlying228
attribute [go_sem] Try.underlying229
attribute [go_sem] Try.underlying230
attribute [go_sem] Try.underlying231
attribute [go_sem] Try.underlying232
attribute [go_sem] Try.underlying233
attribute [go_sem] Try.underlying234
attribute [go_sem] Try.underlying235
attribute [go_sem] Try.underlying236
attribute [go_sem] Try.underlying237
attribute [go_sem] Try.underlying238
attribute [go_sem] Try.underlying239
end Go.Proofs
