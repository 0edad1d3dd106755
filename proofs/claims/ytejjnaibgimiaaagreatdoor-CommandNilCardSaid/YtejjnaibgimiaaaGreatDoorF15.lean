/- This text is a part of the proofs of the statements of this seat: the ideal states and their rules, or what one of the functions that the statements reach comes to. Conditions: none beyond those that each theorem names. -/
import Derived.Test.YtejjnaibgimiaaaGreatDoorProg
import Derived.Test.YtejjnaibgimiaaaGreatDoorIdl7
import Derived.KernelRfl
namespace Go.Proofs
open Go.Idl
@[go_sem] theorem szT_3 : szT Tryz.prog 3 = some 1 := by kernel_rfl
@[go_sem] theorem aggT_3 : aggT Tryz.prog 3 = some false := by kernel_rfl
@[go_sem] theorem zeT_3 : zeT Tryz.prog 3 = some (.int .i64 0) := by kernel_rfl
@[go_sem] theorem elZ_3 : elZ Tryz.prog 3 = some 1 := by kernel_rfl
@[go_sem] theorem byT_3 : byT Tryz.prog 3 = 8 := by kernel_rfl
@[go_sem] theorem szT_4 : szT Tryz.prog 4 = some 1 := by kernel_rfl
@[go_sem] theorem aggT_4 : aggT Tryz.prog 4 = some false := by kernel_rfl
@[go_sem] theorem zeT_4 : zeT Tryz.prog 4 = some (.bool false) := by kernel_rfl
@[go_sem] theorem szT_5 : szT Tryz.prog 5 = some 1 := by kernel_rfl
@[go_sem] theorem aggT_5 : aggT Tryz.prog 5 = some false := by kernel_rfl
@[go_sem] theorem zeT_5 : zeT Tryz.prog 5 = some (.int .u8 0) := by kernel_rfl
@[go_sem] theorem elZ_5 : elZ Tryz.prog 5 = some 1 := by kernel_rfl
@[go_sem] theorem byT_5 : byT Tryz.prog 5 = 1 := by kernel_rfl
@[go_sem] theorem szT_9 : szT Tryz.prog 9 = some 1 := by kernel_rfl
@[go_sem] theorem aggT_9 : aggT Tryz.prog 9 = some false := by kernel_rfl
@[go_sem] theorem zeT_9 : zeT Tryz.prog 9 = some (.string ⟨#[]⟩) := by kernel_rfl
@[go_sem] theorem elZ_9 : elZ Tryz.prog 9 = some 1 := by kernel_rfl
@[go_sem] theorem byT_9 : byT Tryz.prog 9 = 16 := by kernel_rfl
@[go_sem] theorem conc_9 : Tryz.prog.concrete 9 = true := by kernel_rfl
@[go_sem] theorem szT_20 : szT Tryz.prog 20 = some 1 := by kernel_rfl
@[go_sem] theorem aggT_20 : aggT Tryz.prog 20 = some false := by kernel_rfl
@[go_sem] theorem zeT_20 : zeT Tryz.prog 20 = some (.nilIface) := by kernel_rfl
@[go_sem] theorem szT_23 : szT Tryz.prog 23 = some 1 := by kernel_rfl
@[go_sem] theorem aggT_23 : aggT Tryz.prog 23 = some false := by kernel_rfl
@[go_sem] theorem zeT_23 : zeT Tryz.prog 23 = some (.slice none 0 0) := by kernel_rfl
@[go_sem] theorem elZ_23 : elZ Tryz.prog 23 = some 1 := by kernel_rfl
@[go_sem] theorem byT_23 : byT Tryz.prog 23 = 24 := by kernel_rfl
@[go_sem] theorem elT_23 : elT Tryz.prog 23 = some 9 := by kernel_rfl
@[go_sem] theorem szT_27 : szT Tryz.prog 27 = some 1 := by kernel_rfl
@[go_sem] theorem aggT_27 : aggT Tryz.prog 27 = some false := by kernel_rfl
@[go_sem] theorem szT_29 : szT Tryz.prog 29 = some 1 := by kernel_rfl
@[go_sem] theorem aggT_29 : aggT Tryz.prog 29 = some false := by kernel_rfl
@[go_sem] theorem zeT_29 : zeT Tryz.prog 29 = some (.int .i64 0) := by kernel_rfl
@[go_sem] theorem conc_29 : Tryz.prog.concrete 29 = true := by kernel_rfl
@[go_sem] theorem szT_33 : szT Tryz.prog 33 = some 1 := by kernel_rfl
@[go_sem] theorem aggT_33 : aggT Tryz.prog 33 = some false := by kernel_rfl
@[go_sem] theorem zeT_33 : zeT Tryz.prog 33 = some (.slice none 0 0) := by kernel_rfl
@[go_sem] theorem elZ_33 : elZ Tryz.prog 33 = some 1 := by kernel_rfl
@[go_sem] theorem byT_33 : byT Tryz.prog 33 = 24 := by kernel_rfl
@[go_sem] theorem elT_33 : elT Tryz.prog 33 = some 3 := by kernel_rfl
@[go_sem] theorem szT_40 : szT Tryz.prog 40 = some 1 := by kernel_rfl
@[go_sem] theorem aggT_40 : aggT Tryz.prog 40 = some false := by kernel_rfl
@[go_sem] theorem szT_45 : szT Tryz.prog 45 = some 1 := by kernel_rfl
@[go_sem] theorem aggT_45 : aggT Tryz.prog 45 = some false := by kernel_rfl
@[go_sem] theorem elT_45 : elT Tryz.prog 45 = some 23 := by kernel_rfl
@[go_sem] theorem szT_47 : szT Tryz.prog 47 = some 1 := by kernel_rfl
@[go_sem] theorem aggT_47 : aggT Tryz.prog 47 = some false := by kernel_rfl
@[go_sem] theorem zeT_47 : zeT Tryz.prog 47 = some (.nilIface) := by kernel_rfl
@[go_sem] theorem szT_54 : szT Tryz.prog 54 = some 1 := by kernel_rfl
@[go_sem] theorem aggT_54 : aggT Tryz.prog 54 = some false := by kernel_rfl
@[go_sem] theorem szT_56 : szT Tryz.prog 56 = some 1 := by kernel_rfl
@[go_sem] theorem aggT_56 : aggT Tryz.prog 56 = some false := by kernel_rfl
@[go_sem] theorem szT_57 : szT Tryz.prog 57 = some 1 := by kernel_rfl
@[go_sem] theorem aggT_57 : aggT Tryz.prog 57 = some false := by kernel_rfl
@[go_sem] theorem offT_59x0 : offT Tryz.prog 59 0 = some 0 := by kernel_rfl
@[go_sem] theorem offT_59x1 : offT Tryz.prog 59 1 = some 1 := by kernel_rfl
@[go_sem] theorem offT_59x2 : offT Tryz.prog 59 2 = some 2 := by kernel_rfl
@[go_sem] theorem offT_59x3 : offT Tryz.prog 59 3 = some 3 := by kernel_rfl
@[go_sem] theorem plcs_59 : plcs Tryz.prog 59 = some [(0, 1), (1, 1), (2, 1), (3, 1)] := by kernel_rfl
@[go_sem] theorem zeT_59 : zeT Tryz.prog 59 = some (.agg #[.pointer none, .map none, .map none, .int .i64 0]) := by kernel_rfl
@[go_sem] theorem szT_60 : szT Tryz.prog 60 = some 1 := by kernel_rfl
@[go_sem] theorem aggT_60 : aggT Tryz.prog 60 = some false := by kernel_rfl
@[go_sem] theorem zeT_60 : zeT Tryz.prog 60 = some (.pointer none) := by kernel_rfl
@[go_sem] theorem szT_61 : szT Tryz.prog 61 = some 1 := by kernel_rfl
@[go_sem] theorem aggT_61 : aggT Tryz.prog 61 = some false := by kernel_rfl
@[go_sem] theorem offT_64x0 : offT Tryz.prog 64 0 = some 0 := by kernel_rfl
@[go_sem] theorem offT_64x1 : offT Tryz.prog 64 1 = some 1 := by kernel_rfl
@[go_sem] theorem plcs_64 : plcs Tryz.prog 64 = some [(0, 1), (1, 1)] := by kernel_rfl
@[go_sem] theorem zeT_64 : zeT Tryz.prog 64 = some (.agg #[.pointer none, .int .i64 0]) := by kernel_rfl
@[go_sem] theorem szT_74 : szT Tryz.prog 74 = some 1 := by kernel_rfl
@[go_sem] theorem aggT_74 : aggT Tryz.prog 74 = some false := by kernel_rfl
@[go_sem] theorem zeT_74 : zeT Tryz.prog 74 = some (.slice none 0 0) := by kernel_rfl
@[go_sem] theorem elZ_74 : elZ Tryz.prog 74 = some 1 := by kernel_rfl
@[go_sem] theorem byT_74 : byT Tryz.prog 74 = 24 := by kernel_rfl
@[go_sem] theorem elT_74 : elT Tryz.prog 74 = some 5 := by kernel_rfl
@[go_sem] theorem szT_78 : szT Tryz.prog 78 = some 2 := by kernel_rfl
@[go_sem] theorem aggT_78 : aggT Tryz.prog 78 = some true := by kernel_rfl
@[go_sem] theorem offT_78x0 : offT Tryz.prog 78 0 = some 0 := by kernel_rfl
@[go_sem] theorem offT_78x1 : offT Tryz.prog 78 1 = some 1 := by kernel_rfl
@[go_sem] theorem plcs_78 : plcs Tryz.prog 78 = some [(0, 1), (1, 1)] := by kernel_rfl
@[go_sem] theorem zeT_78 : zeT Tryz.prog 78 = some (.agg #[.int .u8 0, .string ⟨#[]⟩]) := by kernel_rfl
@[go_sem] theorem elZ_78 : elZ Tryz.prog 78 = some 2 := by kernel_rfl
@[go_sem] theorem byT_78 : byT Tryz.prog 78 = 24 := by kernel_rfl
@[go_sem] theorem elT_79 : elT Tryz.prog 79 = some 74 := by kernel_rfl
@[go_sem] theorem elT_80 : elT Tryz.prog 80 = some 78 := by kernel_rfl
@[go_sem] theorem szT_85 : szT Tryz.prog 85 = some 1 := by kernel_rfl
@[go_sem] theorem aggT_85 : aggT Tryz.prog 85 = some false := by kernel_rfl
@[go_sem] theorem szT_87 : szT Tryz.prog 87 = some 1 := by kernel_rfl
@[go_sem] theorem aggT_87 : aggT Tryz.prog 87 = some false := by kernel_rfl
@[go_sem] theorem szT_88 : szT Tryz.prog 88 = some 1 := by kernel_rfl
@[go_sem] theorem aggT_88 : aggT Tryz.prog 88 = some false := by kernel_rfl
@[go_sem] theorem szT_89 : szT Tryz.prog 89 = some 1 := by kernel_rfl
@[go_sem] theorem aggT_89 : aggT Tryz.prog 89 = some false := by kernel_rfl
@[go_sem] theorem szT_90 : szT Tryz.prog 90 = some 1 := by kernel_rfl
@[go_sem] theorem aggT_90 : aggT Tryz.prog 90 = some false := by kernel_rfl
@[go_sem] theorem szT_92 : szT Tryz.prog 92 = some 3 := by kernel_rfl
@[go_sem] theorem aggT_92 : aggT Tryz.prog 92 = some true := by kernel_rfl
@[go_sem] theorem offT_92x0 : offT Tryz.prog 92 0 = some 0 := by kernel_rfl
@[go_sem] theorem offT_92x1 : offT Tryz.prog 92 1 = some 1 := by kernel_rfl
@[go_sem] theorem offT_92x2 : offT Tryz.prog 92 2 = some 2 := by kernel_rfl
@[go_sem] theorem offT_94x0 : offT Tryz.prog 94 0 = some 0 := by kernel_rfl
@[go_sem] theorem offT_94x1 : offT Tryz.prog 94 1 = some 3 := by kernel_rfl
@[go_sem] theorem offT_94x2 : offT Tryz.prog 94 2 = some 4 := by kernel_rfl
@[go_sem] theorem offT_94x3 : offT Tryz.prog 94 3 = some 5 := by kernel_rfl
@[go_sem] theorem offT_94x4 : offT Tryz.prog 94 4 = some 6 := by kernel_rfl
@[go_sem] theorem offT_94x5 : offT Tryz.prog 94 5 = some 7 := by kernel_rfl
@[go_sem] theorem offT_94x6 : offT Tryz.prog 94 6 = some 8 := by kernel_rfl
@[go_sem] theorem plcs_94 : plcs Tryz.prog 94 = some [(0, 3), (3, 1), (4, 1), (5, 1), (6, 1), (7, 1), (8, 1)] := by kernel_rfl
@[go_sem] theorem zeT_94 : zeT Tryz.prog 94 = some (.agg #[.int .i64 0, .int .i64 0, .int .i64 0, .pointer none, .nilFunc, .map none, .map none, .map none, .map none]) := by kernel_rfl
@[go_sem] theorem offT_99x0 : offT Tryz.prog 99 0 = some 0 := by kernel_rfl
@[go_sem] theorem offT_99x1 : offT Tryz.prog 99 1 = some 1 := by kernel_rfl
@[go_sem] theorem offT_99x2 : offT Tryz.prog 99 2 = some 2 := by kernel_rfl
@[go_sem] theorem offT_99x3 : offT Tryz.prog 99 3 = some 3 := by kernel_rfl
@[go_sem] theorem plcs_99 : plcs Tryz.prog 99 = some [(0, 1), (1, 1), (2, 1), (3, 1)] := by kernel_rfl
@[go_sem] theorem zeT_99 : zeT Tryz.prog 99 = some (.agg #[.slice none 0 0, .slice none 0 0, .slice none 0 0, .bool false]) := by kernel_rfl
@[go_sem] theorem conc_103 : Tryz.prog.concrete 103 = true := by kernel_rfl
@[go_sem] theorem szT_105 : szT Tryz.prog 105 = some 1 := by kernel_rfl
@[go_sem] theorem aggT_105 : aggT Tryz.prog 105 = some true := by kernel_rfl
@[go_sem] theorem offT_105x0 : offT Tryz.prog 105 0 = some 0 := by kernel_rfl
@[go_sem] theorem plcs_105 : plcs Tryz.prog 105 = some [(0, 1)] := by kernel_rfl
@[go_sem] theorem zeT_105 : zeT Tryz.prog 105 = some (.agg #[.int .i64 0]) := by kernel_rfl
@[go_sem] theorem conc_105 : Tryz.prog.concrete 105 = true := by kernel_rfl
@[go_sem] theorem szT_109 : szT Tryz.prog 109 = some 1 := by kernel_rfl
@[go_sem] theorem aggT_109 : aggT Tryz.prog 109 = some false := by kernel_rfl
@[go_sem] theorem szT_110 : szT Tryz.prog 110 = some 1 := by kernel_rfl
@[go_sem] theorem aggT_110 : aggT Tryz.prog 110 = some false := by kernel_rfl
@[go_sem] theorem offT_112x0 : offT Tryz.prog 112 0 = some 0 := by kernel_rfl
@[go_sem] theorem offT_112x1 : offT Tryz.prog 112 1 = some 1 := by kernel_rfl
@[go_sem] theorem offT_112x2 : offT Tryz.prog 112 2 = some 2 := by kernel_rfl
@[go_sem] theorem offT_112x3 : offT Tryz.prog 112 3 = some 3 := by kernel_rfl
@[go_sem] theorem offT_112x4 : offT Tryz.prog 112 4 = some 4 := by kernel_rfl
@[go_sem] theorem offT_112x5 : offT Tryz.prog 112 5 = some 5 := by kernel_rfl
@[go_sem] theorem plcs_112 : plcs Tryz.prog 112 = some [(0, 1), (1, 1), (2, 1), (3, 1), (4, 1), (5, 1)] := by kernel_rfl
@[go_sem] theorem zeT_112 : zeT Tryz.prog 112 = some (.agg #[.pointer none, .int .i64 0, .string ⟨#[]⟩, .map none, .slice none 0 0, .map none]) := by kernel_rfl
@[go_sem] theorem szT_114 : szT Tryz.prog 114 = some 1 := by kernel_rfl
@[go_sem] theorem aggT_114 : aggT Tryz.prog 114 = some true := by kernel_rfl
@[go_sem] theorem offT_114x0 : offT Tryz.prog 114 0 = some 0 := by kernel_rfl
@[go_sem] theorem offT_116x0 : offT Tryz.prog 116 0 = some 0 := by kernel_rfl
@[go_sem] theorem offT_116x1 : offT Tryz.prog 116 1 = some 1 := by kernel_rfl
@[go_sem] theorem offT_116x2 : offT Tryz.prog 116 2 = some 2 := by kernel_rfl
@[go_sem] theorem plcs_116 : plcs Tryz.prog 116 = some [(0, 1), (1, 1), (2, 1)] := by kernel_rfl
@[go_sem] theorem zeT_116 : zeT Tryz.prog 116 = some (.agg #[.slice none 0 0, .int .i64 0, .bool false]) := by kernel_rfl
@[go_sem] theorem szT_119 : szT Tryz.prog 119 = some 1 := by kernel_rfl
@[go_sem] theorem aggT_119 : aggT Tryz.prog 119 = some false := by kernel_rfl
@[go_sem] theorem zeT_119 : zeT Tryz.prog 119 = some (.map none) := by kernel_rfl
@[go_sem] theorem szT_121 : szT Tryz.prog 121 = some 3 := by kernel_rfl
@[go_sem] theorem aggT_121 : aggT Tryz.prog 121 = some true := by kernel_rfl
@[go_sem] theorem offT_121x0 : offT Tryz.prog 121 0 = some 0 := by kernel_rfl
@[go_sem] theorem offT_121x1 : offT Tryz.prog 121 1 = some 1 := by kernel_rfl
@[go_sem] theorem offT_121x2 : offT Tryz.prog 121 2 = some 2 := by kernel_rfl
@[go_sem] theorem plcs_121 : plcs Tryz.prog 121 = some [(0, 1), (1, 1), (2, 1)] := by kernel_rfl
@[go_sem] theorem zeT_121 : zeT Tryz.prog 121 = some (.agg #[.int .i64 0, .int .i64 0, .int .i64 0]) := by kernel_rfl
@[go_sem] theorem eqg_121 : Program.eqGuardType Tryz.prog (Program.depth Tryz.prog) 121 = false := by kernel_rfl
@[go_sem] theorem stood_121 : Tryz.prog.stoodInHeld 121 = false := by kernel_rfl
@[go_sem] theorem szT_125 : szT Tryz.prog 125 = some 4 := by kernel_rfl
@[go_sem] theorem aggT_125 : aggT Tryz.prog 125 = some true := by kernel_rfl
@[go_sem] theorem offT_125x0 : offT Tryz.prog 125 0 = some 0 := by kernel_rfl
@[go_sem] theorem offT_125x1 : offT Tryz.prog 125 1 = some 1 := by kernel_rfl
@[go_sem] theorem offT_125x2 : offT Tryz.prog 125 2 = some 2 := by kernel_rfl
@[go_sem] theorem offT_125x3 : offT Tryz.prog 125 3 = some 3 := by kernel_rfl
@[go_sem] theorem plcs_125 : plcs Tryz.prog 125 = some [(0, 1), (1, 1), (2, 1), (3, 1)] := by kernel_rfl
@[go_sem] theorem zeT_125 : zeT Tryz.prog 125 = some (.agg #[.int .i64 0, .int .i64 0, .int .i64 0, .int .i64 0]) := by kernel_rfl
@[go_sem] theorem elZ_125 : elZ Tryz.prog 125 = some 4 := by kernel_rfl
@[go_sem] theorem byT_125 : byT Tryz.prog 125 = 32 := by kernel_rfl
@[go_sem] theorem eqg_125 : Program.eqGuardType Tryz.prog (Program.depth Tryz.prog) 125 = false := by kernel_rfl
@[go_sem] theorem stood_125 : Tryz.prog.stoodInHeld 125 = false := by kernel_rfl
@[go_sem] theorem szT_126 : szT Tryz.prog 126 = some 1 := by kernel_rfl
@[go_sem] theorem aggT_126 : aggT Tryz.prog 126 = some false := by kernel_rfl
@[go_sem] theorem elT_126 : elT Tryz.prog 126 = some 128 := by kernel_rfl
@[go_sem] theorem szT_128 : szT Tryz.prog 128 = some 7 := by kernel_rfl
@[go_sem] theorem aggT_128 : aggT Tryz.prog 128 = some true := by kernel_rfl
@[go_sem] theorem offT_128x0 : offT Tryz.prog 128 0 = some 0 := by kernel_rfl
@[go_sem] theorem offT_128x1 : offT Tryz.prog 128 1 = some 1 := by kernel_rfl
@[go_sem] theorem offT_128x2 : offT Tryz.prog 128 2 = some 5 := by kernel_rfl
@[go_sem] theorem offT_128x3 : offT Tryz.prog 128 3 = some 6 := by kernel_rfl
@[go_sem] theorem plcs_128 : plcs Tryz.prog 128 = some [(0, 1), (1, 4), (5, 1), (6, 1)] := by kernel_rfl
@[go_sem] theorem zeT_128 : zeT Tryz.prog 128 = some (.agg #[.int .u8 0, .int .i64 0, .int .i64 0, .int .i64 0, .int .i64 0, .int .i64 0, .slice none 0 0]) := by kernel_rfl
@[go_sem] theorem elZ_128 : elZ Tryz.prog 128 = some 7 := by kernel_rfl
@[go_sem] theorem byT_128 : byT Tryz.prog 128 = 72 := by kernel_rfl
@[go_sem] theorem szT_130 : szT Tryz.prog 130 = some 9 := by kernel_rfl
@[go_sem] theorem aggT_130 : aggT Tryz.prog 130 = some true := by kernel_rfl
@[go_sem] theorem offT_130x0 : offT Tryz.prog 130 0 = some 0 := by kernel_rfl
@[go_sem] theorem offT_130x1 : offT Tryz.prog 130 1 = some 7 := by kernel_rfl
@[go_sem] theorem offT_130x2 : offT Tryz.prog 130 2 = some 8 := by kernel_rfl
@[go_sem] theorem plcs_130 : plcs Tryz.prog 130 = some [(0, 7), (7, 1), (8, 1)] := by kernel_rfl
@[go_sem] theorem zeT_130 : zeT Tryz.prog 130 = some (.agg #[.int .u8 0, .int .i64 0, .int .i64 0, .int .i64 0, .int .i64 0, .int .i64 0, .slice none 0 0, .int .i64 0, .bool false]) := by kernel_rfl
@[go_sem] theorem elZ_130 : elZ Tryz.prog 130 = some 9 := by kernel_rfl
@[go_sem] theorem byT_130 : byT Tryz.prog 130 = 88 := by kernel_rfl
@[go_sem] theorem szT_137 : szT Tryz.prog 137 = some 1 := by kernel_rfl
@[go_sem] theorem aggT_137 : aggT Tryz.prog 137 = some false := by kernel_rfl
@[go_sem] theorem offT_139x0 : offT Tryz.prog 139 0 = some 0 := by kernel_rfl
@[go_sem] theorem plcs_139 : plcs Tryz.prog 139 = some [(0, 1)] := by kernel_rfl
@[go_sem] theorem zeT_139 : zeT Tryz.prog 139 = some (.agg #[.map none]) := by kernel_rfl
@[go_sem] theorem conc_140 : Tryz.prog.concrete 140 = true := by kernel_rfl
@[go_sem] theorem offT_143x1 : offT Tryz.prog 143 1 = some 1 := by kernel_rfl
@[go_sem] theorem plcs_143 : plcs Tryz.prog 143 = some [(0, 1), (1, 1)] := by kernel_rfl
@[go_sem] theorem zeT_143 : zeT Tryz.prog 143 = some (.agg #[.slice none 0 0, .nilIface]) := by kernel_rfl
@[go_sem] theorem conc_144 : Tryz.prog.concrete 144 = true := by kernel_rfl
@[go_sem] theorem offT_146x0 : offT Tryz.prog 146 0 = some 0 := by kernel_rfl
@[go_sem] theorem plcs_146 : plcs Tryz.prog 146 = some [(0, 1), (1, 1)] := by kernel_rfl
@[go_sem] theorem zeT_146 : zeT Tryz.prog 146 = some (.agg #[.int .i64 0, .int .i64 0]) := by kernel_rfl
@[go_sem] theorem szT_163 : szT Tryz.prog 163 = some 3 := by kernel_rfl
@[go_sem] theorem aggT_163 : aggT Tryz.prog 163 = some true := by kernel_rfl
@[go_sem] theorem offT_163x0 : offT Tryz.prog 163 0 = some 0 := by kernel_rfl
@[go_sem] theorem offT_163x1 : offT Tryz.prog 163 1 = some 1 := by kernel_rfl
@[go_sem] theorem offT_163x2 : offT Tryz.prog 163 2 = some 2 := by kernel_rfl
@[go_sem] theorem plcs_163 : plcs Tryz.prog 163 = some [(0, 1), (1, 1), (2, 1)] := by kernel_rfl
@[go_sem] theorem zeT_163 : zeT Tryz.prog 163 = some (.agg #[.string ⟨#[]⟩, .string ⟨#[]⟩, .int .i64 0]) := by kernel_rfl
@[go_sem] theorem szT_178 : szT Tryz.prog 178 = some 1 := by kernel_rfl
@[go_sem] theorem aggT_178 : aggT Tryz.prog 178 = some false := by kernel_rfl
@[go_sem] theorem zeT_178 : zeT Tryz.prog 178 = some (.pointer none) := by kernel_rfl
@[go_sem] theorem szT_181 : szT Tryz.prog 181 = some 1 := by kernel_rfl
@[go_sem] theorem aggT_181 : aggT Tryz.prog 181 = some false := by kernel_rfl
@[go_sem] theorem offT_183x0 : offT Tryz.prog 183 0 = some 0 := by kernel_rfl
@[go_sem] theorem offT_183x1 : offT Tryz.prog 183 1 = some 1 := by kernel_rfl
@[go_sem] theorem offT_183x2 : offT Tryz.prog 183 2 = some 2 := by kernel_rfl
@[go_sem] theorem offT_183x3 : offT Tryz.prog 183 3 = some 3 := by kernel_rfl
@[go_sem] theorem plcs_183 : plcs Tryz.prog 183 = some [(0, 1), (1, 1), (2, 1), (3, 1)] := by kernel_rfl
@[go_sem] theorem zeT_183 : zeT Tryz.prog 183 = some (.agg #[.nilIface, .bool false, .int .i64 0, .int .i64 0]) := by kernel_rfl
@[go_sem] theorem szT_191 : szT Tryz.prog 191 = some 1 := by kernel_rfl
@[go_sem] theorem aggT_191 : aggT Tryz.prog 191 = some false := by kernel_rfl
@[go_sem] theorem zeT_191 : zeT Tryz.prog 191 = some (.pointer none) := by kernel_rfl
@[go_sem] theorem szT_194 : szT Tryz.prog 194 = some 4 := by kernel_rfl
@[go_sem] theorem aggT_194 : aggT Tryz.prog 194 = some true := by kernel_rfl
@[go_sem] theorem offT_194x0 : offT Tryz.prog 194 0 = some 0 := by kernel_rfl
@[go_sem] theorem offT_194x1 : offT Tryz.prog 194 1 = some 1 := by kernel_rfl
@[go_sem] theorem offT_194x2 : offT Tryz.prog 194 2 = some 2 := by kernel_rfl
@[go_sem] theorem offT_194x3 : offT Tryz.prog 194 3 = some 3 := by kernel_rfl
@[go_sem] theorem plcs_194 : plcs Tryz.prog 194 = some [(0, 1), (1, 1), (2, 1), (3, 1)] := by kernel_rfl
@[go_sem] theorem zeT_194 : zeT Tryz.prog 194 = some (.agg #[.int .i64 0, .string ⟨#[]⟩, .slice none 0 0, .int .i64 0]) := by kernel_rfl
@[go_sem] theorem elZ_194 : elZ Tryz.prog 194 = some 4 := by kernel_rfl
@[go_sem] theorem byT_194 : byT Tryz.prog 194 = 56 := by kernel_rfl
@[go_sem] theorem elT_197 : elT Tryz.prog 197 = some 250 := by kernel_rfl
@[go_sem] theorem szT_208 : szT Tryz.prog 208 = some 1 := by kernel_rfl
@[go_sem] theorem aggT_208 : aggT Tryz.prog 208 = some false := by kernel_rfl
@[go_sem] theorem szT_210 : szT Tryz.prog 210 = some 2 := by kernel_rfl
@[go_sem] theorem aggT_210 : aggT Tryz.prog 210 = some true := by kernel_rfl
@[go_sem] theorem offT_210x0 : offT Tryz.prog 210 0 = some 0 := by kernel_rfl
@[go_sem] theorem offT_210x1 : offT Tryz.prog 210 1 = some 1 := by kernel_rfl
@[go_sem] theorem zeT_210 : zeT Tryz.prog 210 = some (.agg #[.pointer none, .slice none 0 0]) := by kernel_rfl
@[go_sem] theorem szT_250 : szT Tryz.prog 250 = some 5 := by kernel_rfl
@[go_sem] theorem aggT_250 : aggT Tryz.prog 250 = some true := by kernel_rfl
@[go_sem] theorem offT_250x0 : offT Tryz.prog 250 0 = some 0 := by kernel_rfl
@[go_sem] theorem offT_250x1 : offT Tryz.prog 250 1 = some 1 := by kernel_rfl
@[go_sem] theorem plcs_250 : plcs Tryz.prog 250 = some [(0, 1), (1, 4)] := by kernel_rfl
@[go_sem] theorem zeT_250 : zeT Tryz.prog 250 = some (.agg #[.int .i64 0, .int .i64 0, .int .i64 0, .int .i64 0, .int .i64 0]) := by kernel_rfl
@[go_sem] theorem elZ_250 : elZ Tryz.prog 250 = some 5 := by kernel_rfl
@[go_sem] theorem byT_250 : byT Tryz.prog 250 = 40 := by kernel_rfl
@[go_sem] theorem eqg_250 : Program.eqGuardType Tryz.prog (Program.depth Tryz.prog) 250 = false := by kernel_rfl
@[go_sem] theorem stood_250 : Tryz.prog.stoodInHeld 250 = false := by kernel_rfl
@[go_sem] theorem szT_268 : szT Tryz.prog 268 = some 1 := by kernel_rfl
@[go_sem] theorem aggT_268 : aggT Tryz.prog 268 = some false := by kernel_rfl
@[go_sem] theorem szT_272 : szT Tryz.prog 272 = some 10 := by kernel_rfl
@[go_sem] theorem aggT_272 : aggT Tryz.prog 272 = some true := by kernel_rfl
@[go_sem] theorem offT_272x0 : offT Tryz.prog 272 0 = some 0 := by kernel_rfl
@[go_sem] theorem offT_272x1 : offT Tryz.prog 272 1 = some 7 := by kernel_rfl
@[go_sem] theorem offT_272x2 : offT Tryz.prog 272 2 = some 8 := by kernel_rfl
@[go_sem] theorem offT_272x3 : offT Tryz.prog 272 3 = some 9 := by kernel_rfl
@[go_sem] theorem plcs_272 : plcs Tryz.prog 272 = some [(0, 7), (7, 1), (8, 1), (9, 1)] := by kernel_rfl
@[go_sem] theorem zeT_272 : zeT Tryz.prog 272 = some (.agg #[.int .u8 0, .int .i64 0, .int .i64 0, .int .i64 0, .int .i64 0, .int .i64 0, .slice none 0 0, .slice none 0 0, .int .i64 0, .int .i64 0]) := by kernel_rfl
@[go_sem] theorem elT_293 : elT Tryz.prog 293 = some 194 := by kernel_rfl
@[go_sem] theorem szT_318 : szT Tryz.prog 318 = some 1 := by kernel_rfl
@[go_sem] theorem aggT_318 : aggT Tryz.prog 318 = some false := by kernel_rfl
@[go_sem] theorem zeT_318 : zeT Tryz.prog 318 = some (.int .u64 0) := by kernel_rfl
@[go_sem] theorem szT_339 : szT Tryz.prog 339 = some 1 := by kernel_rfl
@[go_sem] theorem aggT_339 : aggT Tryz.prog 339 = some false := by kernel_rfl
@[go_sem] theorem zeT_339 : zeT Tryz.prog 339 = some (.pointer none) := by kernel_rfl
@[go_sem] theorem elZ_339 : elZ Tryz.prog 339 = some 1 := by kernel_rfl
@[go_sem] theorem byT_339 : byT Tryz.prog 339 = 8 := by kernel_rfl
@[go_sem] theorem conc_339 : Tryz.prog.concrete 339 = true := by kernel_rfl
@[go_sem] theorem szT_343 : szT Tryz.prog 343 = some 10 := by kernel_rfl
@[go_sem] theorem aggT_343 : aggT Tryz.prog 343 = some true := by kernel_rfl
@[go_sem] theorem offT_343x0 : offT Tryz.prog 343 0 = some 0 := by kernel_rfl
@[go_sem] theorem offT_343x1 : offT Tryz.prog 343 1 = some 7 := by kernel_rfl
@[go_sem] theorem offT_343x2 : offT Tryz.prog 343 2 = some 8 := by kernel_rfl
@[go_sem] theorem offT_343x3 : offT Tryz.prog 343 3 = some 9 := by kernel_rfl
@[go_sem] theorem plcs_343 : plcs Tryz.prog 343 = some [(0, 7), (7, 1), (8, 1), (9, 1)] := by kernel_rfl
@[go_sem] theorem zeT_343 : zeT Tryz.prog 343 = some (.agg #[.int .u8 0, .int .i64 0, .int .i64 0, .int .i64 0, .int .i64 0, .int .i64 0, .slice none 0 0, .slice none 0 0, .int .i64 0, .int .u8 0]) := by kernel_rfl
@[go_sem] theorem elT_349 : elT Tryz.prog 349 = some 130 := by kernel_rfl
@[go_sem] theorem offT_353x0 : offT Tryz.prog 353 0 = some 0 := by kernel_rfl
@[go_sem] theorem plcs_353 : plcs Tryz.prog 353 = some [(0, 2)] := by kernel_rfl
@[go_sem] theorem zeT_353 : zeT Tryz.prog 353 = some (.agg #[.pointer none, .slice none 0 0]) := by kernel_rfl
@[go_sem] theorem szT_359 : szT Tryz.prog 359 = some 1 := by kernel_rfl
@[go_sem] theorem aggT_359 : aggT Tryz.prog 359 = some false := by kernel_rfl
@[go_sem] theorem elT_359 : elT Tryz.prog 359 = some 33 := by kernel_rfl
@[go_sem] theorem szT_363 : szT Tryz.prog 363 = some 1 := by kernel_rfl
@[go_sem] theorem aggT_363 : aggT Tryz.prog 363 = some false := by kernel_rfl
@[go_sem] theorem szT_364 : szT Tryz.prog 364 = some 1 := by kernel_rfl
@[go_sem] theorem aggT_364 : aggT Tryz.prog 364 = some false := by kernel_rfl
@[go_sem] theorem elT_364 : elT Tryz.prog 364 = some 125 := by kernel_rfl
@[go_sem] theorem elT_379 : elT Tryz.prog 379 = none := by kernel_rfl
@[go_sem] theorem szT_389 : szT Tryz.prog 389 = some 1 := by kernel_rfl
@[go_sem] theorem aggT_389 : aggT Tryz.prog 389 = some false := by kernel_rfl
@[go_sem] theorem elT_389 : elT Tryz.prog 389 = some 504 := by kernel_rfl
@[go_sem] theorem offT_391x0 : offT Tryz.prog 391 0 = some 0 := by kernel_rfl
@[go_sem] theorem plcs_391 : plcs Tryz.prog 391 = some [(0, 1)] := by kernel_rfl
@[go_sem] theorem zeT_391 : zeT Tryz.prog 391 = some (.agg #[.slice none 0 0]) := by kernel_rfl
@[go_sem] theorem szT_402 : szT Tryz.prog 402 = some 1 := by kernel_rfl
@[go_sem] theorem aggT_402 : aggT Tryz.prog 402 = some false := by kernel_rfl
@[go_sem] theorem offT_404x0 : offT Tryz.prog 404 0 = some 0 := by kernel_rfl
@[go_sem] theorem offT_404x1 : offT Tryz.prog 404 1 = some 1 := by kernel_rfl
@[go_sem] theorem plcs_404 : plcs Tryz.prog 404 = some [(0, 1), (1, 1)] := by kernel_rfl
@[go_sem] theorem zeT_404 : zeT Tryz.prog 404 = some (.agg #[.int .i64 0, .slice none 0 0]) := by kernel_rfl
@[go_sem] theorem offT_412x0 : offT Tryz.prog 412 0 = some 0 := by kernel_rfl
@[go_sem] theorem offT_412x1 : offT Tryz.prog 412 1 = some 1 := by kernel_rfl
@[go_sem] theorem offT_412x2 : offT Tryz.prog 412 2 = some 2 := by kernel_rfl
@[go_sem] theorem plcs_412 : plcs Tryz.prog 412 = some [(0, 1), (1, 1), (2, 1)] := by kernel_rfl
@[go_sem] theorem zeT_412 : zeT Tryz.prog 412 = some (.agg #[.string ⟨#[]⟩, .int .i64 0, .int .i64 0]) := by kernel_rfl
@[go_sem] theorem elT_417 : elT Tryz.prog 417 = none := by kernel_rfl
@[go_sem] theorem elT_418 : elT Tryz.prog 418 = none := by kernel_rfl
@[go_sem] theorem conc_419 : Tryz.prog.concrete 419 = true := by kernel_rfl
@[go_sem] theorem conc_420 : Tryz.prog.concrete 420 = true := by kernel_rfl
@[go_sem] theorem szT_437 : szT Tryz.prog 437 = some 0 := by kernel_rfl
@[go_sem] theorem aggT_437 : aggT Tryz.prog 437 = some true := by kernel_rfl
@[go_sem] theorem plcs_437 : plcs Tryz.prog 437 = some [] := by kernel_rfl
@[go_sem] theorem zeT_437 : zeT Tryz.prog 437 = some (.agg #[]) := by kernel_rfl
@[go_sem] theorem conc_437 : Tryz.prog.concrete 437 = true := by kernel_rfl
@[go_sem] theorem szT_440 : szT Tryz.prog 440 = some 1 := by kernel_rfl
@[go_sem] theorem aggT_440 : aggT Tryz.prog 440 = some false := by kernel_rfl
@[go_sem] theorem szT_444 : szT Tryz.prog 444 = some 1 := by kernel_rfl
@[go_sem] theorem aggT_444 : aggT Tryz.prog 444 = some true := by kernel_rfl
@[go_sem] theorem offT_444x0 : offT Tryz.prog 444 0 = some 0 := by kernel_rfl
@[go_sem] theorem plcs_444 : plcs Tryz.prog 444 = some [(0, 1)] := by kernel_rfl
@[go_sem] theorem zeT_444 : zeT Tryz.prog 444 = some (.agg #[.nilIface]) := by kernel_rfl
@[go_sem] theorem conc_444 : Tryz.prog.concrete 444 = true := by kernel_rfl
@[go_sem] theorem offT_448x2 : offT Tryz.prog 448 2 = some 2 := by kernel_rfl
@[go_sem] theorem plcs_448 : plcs Tryz.prog 448 = some [(0, 1), (1, 1), (2, 1)] := by kernel_rfl
@[go_sem] theorem zeT_448 : zeT Tryz.prog 448 = some (.agg #[.string ⟨#[]⟩, .string ⟨#[]⟩, .nilIface]) := by kernel_rfl
@[go_sem] theorem elT_474 : elT Tryz.prog 474 = none := by kernel_rfl
@[go_sem] theorem elT_475 : elT Tryz.prog 475 = none := by kernel_rfl
@[go_sem] theorem szT_504 : szT Tryz.prog 504 = some 4 := by kernel_rfl
@[go_sem] theorem aggT_504 : aggT Tryz.prog 504 = some true := by kernel_rfl
@[go_sem] theorem plcs_504 : plcs Tryz.prog 504 = some [(0, 1), (1, 1), (2, 1), (3, 1)] := by kernel_rfl
@[go_sem] theorem zeT_504 : zeT Tryz.prog 504 = some (.agg #[.int .u8 0, .int .i64 0, .int .i64 0, .string ⟨#[]⟩]) := by kernel_rfl
@[go_sem] theorem elZ_504 : elZ Tryz.prog 504 = some 4 := by kernel_rfl
@[go_sem] theorem byT_504 : byT Tryz.prog 504 = 40 := by kernel_rfl
@[go_sem] theorem eqg_504 : Program.eqGuardType Tryz.prog (Program.depth Tryz.prog) 504 = false := by kernel_rfl
@[go_sem] theorem stood_504 : Tryz.prog.stoodInHeld 504 = false := by kernel_rfl
theorem mixed : Tryz.prog.follows .mixedOrders = true := by kernel_rfl
attribute [go_sem] Tryz.underlying2 Tryz.underlying3 Tryz.underlying4 Tryz.underlying5 Tryz.underlying9 Tryz.underlying20 Tryz.underlying21 Tryz.underlying23 Tryz.underlying27 Tryz.underlying29 Tryz.underlying33 Tryz.underlying40 Tryz.underlying45 Tryz.underlying47 Tryz.underlying54 Tryz.underlying55 Tryz.underlying56 Tryz.underlying57 Tryz.underlying59 Tryz.underlying60 Tryz.underlying61 Tryz.underlying64 Tryz.underlying67 Tryz.underlying72 Tryz.underlying74 Tryz.underlying78 Tryz.underlying79 Tryz.underlying80 Tryz.underlying85 Tryz.underlying87 Tryz.underlying88 Tryz.underlying89 Tryz.underlying90 Tryz.underlying92 Tryz.underlying94 Tryz.underlying97 Tryz.underlying99 Tryz.underlying105 Tryz.underlying106 Tryz.underlying109 Tryz.underlying110 Tryz.underlying112 Tryz.underlying114 Tryz.underlying116 Tryz.underlying119 Tryz.underlying121 Tryz.underlying125 Tryz.underlying126 Tryz.underlying128 Tryz.underlying130 Tryz.underlying137 Tryz.underlying139 Tryz.underlying143 Tryz.underlying146 Tryz.underlying149 Tryz.underlying163 Tryz.underlying175 Tryz.underlying178 Tryz.underlying181 Tryz.underlying183 Tryz.underlying185 Tryz.underlying190 Tryz.underlying191 Tryz.underlying194 Tryz.underlying197 Tryz.underlying208 Tryz.underlying210 Tryz.underlying250 Tryz.underlying258 Tryz.underlying266 Tryz.underlying268 Tryz.underlying270 Tryz.underlying272 Tryz.underlying283 Tryz.underlying287 Tryz.underlying293 Tryz.underlying296 Tryz.underlying310 Tryz.underlying318 Tryz.underlying322 Tryz.underlying339 Tryz.underlying343 Tryz.underlying348 Tryz.underlying349 Tryz.underlying351 Tryz.underlying353 Tryz.underlying356 Tryz.underlying359 Tryz.underlying363 Tryz.underlying364 Tryz.underlying366 Tryz.underlying379 Tryz.underlying389 Tryz.underlying391 Tryz.underlying392 Tryz.underlying402 Tryz.underlying404 Tryz.underlying410 Tryz.underlying412 Tryz.underlying417 Tryz.underlying418 Tryz.underlying437 Tryz.underlying440 Tryz.underlying444 Tryz.underlying448 Tryz.underlying461 Tryz.underlying465 Tryz.underlying469 Tryz.underlying474 Tryz.underlying475 Tryz.underlying479 Tryz.underlying504
end Go.Proofs
