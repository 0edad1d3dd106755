/- This text is a part of the proofs of the statements of this seat: the ideal states and their rules, or what one of the functions that the statements reach comes to. Conditions: none beyond those that each theorem names. -/
import Derived.Test.YtcknalapblabfaaGreatDoorProg
import Derived.Test.YtcknalapblabfaaGreatDoorIdl7
import Derived.KernelRfl
namespace Go.Proofs
open Go.Idl
@[go_sem] theorem szT_3 : szT Tryz.prog 3 = some 1 := by kernel_rfl
@[go_sem] theorem aggT_3 : aggT Tryz.prog 3 = some false := by kernel_rfl
@[go_sem] theorem zeT_3 : zeT Tryz.prog 3 = some (.int .i64 0) := by kernel_rfl
@[go_sem] theorem elZ_3 : elZ Tryz.prog 3 = some 1 := by kernel_rfl
@[go_sem] theorem byT_3 : byT Tryz.prog 3 = 8 := by kernel_rfl
@[go_sem] theorem szT_4 : szT Tryz.prog 4 = some 1 := by kernel_rfl
@[go_sem] theorem aggT_4 : aggT Tryz.prog 4 = some false := by kernel_rfl
@[go_sem] theorem zeT_4 : zeT Tryz.prog 4 = some (.bool false) := by kernel_rfl
@[go_sem] theorem szT_5 : szT Tryz.prog 5 = some 1 := by kernel_rfl
@[go_sem] theorem aggT_5 : aggT Tryz.prog 5 = some false := by kernel_rfl
@[go_sem] theorem zeT_5 : zeT Tryz.prog 5 = some (.int .u8 0) := by kernel_rfl
@[go_sem] theorem elZ_5 : elZ Tryz.prog 5 = some 1 := by kernel_rfl
@[go_sem] theorem byT_5 : byT Tryz.prog 5 = 1 := by kernel_rfl
@[go_sem] theorem szT_9 : szT Tryz.prog 9 = some 1 := by kernel_rfl
@[go_sem] theorem aggT_9 : aggT Tryz.prog 9 = some false := by kernel_rfl
@[go_sem] theorem zeT_9 : zeT Tryz.prog 9 = some (.string ⟨#[]⟩) := by kernel_rfl
@[go_sem] theorem elZ_9 : elZ Tryz.prog 9 = some 1 := by kernel_rfl
@[go_sem] theorem byT_9 : byT Tryz.prog 9 = 16 := by kernel_rfl
@[go_sem] theorem conc_9 : Tryz.prog.concrete 9 = true := by kernel_rfl
@[go_sem] theorem szT_20 : szT Tryz.prog 20 = some 1 := by kernel_rfl
@[go_sem] theorem aggT_20 : aggT Tryz.prog 20 = some false := by kernel_rfl
@[go_sem] theorem zeT_20 : zeT Tryz.prog 20 = some (.nilIface) := by kernel_rfl
@[go_sem] theorem szT_24 : szT Tryz.prog 24 = some 1 := by kernel_rfl
@[go_sem] theorem aggT_24 : aggT Tryz.prog 24 = some false := by kernel_rfl
@[go_sem] theorem zeT_24 : zeT Tryz.prog 24 = some (.int .i64 0) := by kernel_rfl
@[go_sem] theorem conc_24 : Tryz.prog.concrete 24 = true := by kernel_rfl
@[go_sem] theorem szT_27 : szT Tryz.prog 27 = some 1 := by kernel_rfl
@[go_sem] theorem aggT_27 : aggT Tryz.prog 27 = some false := by kernel_rfl
@[go_sem] theorem zeT_27 : zeT Tryz.prog 27 = some (.slice none 0 0) := by kernel_rfl
@[go_sem] theorem elZ_27 : elZ Tryz.prog 27 = some 1 := by kernel_rfl
@[go_sem] theorem byT_27 : byT Tryz.prog 27 = 24 := by kernel_rfl
@[go_sem] theorem elT_27 : elT Tryz.prog 27 = some 9 := by kernel_rfl
@[go_sem] theorem szT_31 : szT Tryz.prog 31 = some 1 := by kernel_rfl
@[go_sem] theorem aggT_31 : aggT Tryz.prog 31 = some false := by kernel_rfl
@[go_sem] theorem szT_36 : szT Tryz.prog 36 = some 1 := by kernel_rfl
@[go_sem] theorem aggT_36 : aggT Tryz.prog 36 = some false := by kernel_rfl
@[go_sem] theorem zeT_36 : zeT Tryz.prog 36 = some (.slice none 0 0) := by kernel_rfl
@[go_sem] theorem elZ_36 : elZ Tryz.prog 36 = some 1 := by kernel_rfl
@[go_sem] theorem byT_36 : byT Tryz.prog 36 = 24 := by kernel_rfl
@[go_sem] theorem elT_36 : elT Tryz.prog 36 = some 3 := by kernel_rfl
@[go_sem] theorem szT_43 : szT Tryz.prog 43 = some 1 := by kernel_rfl
@[go_sem] theorem aggT_43 : aggT Tryz.prog 43 = some false := by kernel_rfl
@[go_sem] theorem elT_46 : elT Tryz.prog 46 = some 48 := by kernel_rfl
@[go_sem] theorem szT_48 : szT Tryz.prog 48 = some 1 := by kernel_rfl
@[go_sem] theorem aggT_48 : aggT Tryz.prog 48 = some false := by kernel_rfl
@[go_sem] theorem zeT_48 : zeT Tryz.prog 48 = some (.slice none 0 0) := by kernel_rfl
@[go_sem] theorem elZ_48 : elZ Tryz.prog 48 = some 1 := by kernel_rfl
@[go_sem] theorem byT_48 : byT Tryz.prog 48 = 24 := by kernel_rfl
@[go_sem] theorem elT_48 : elT Tryz.prog 48 = some 111 := by kernel_rfl
@[go_sem] theorem szT_55 : szT Tryz.prog 55 = some 1 := by kernel_rfl
@[go_sem] theorem aggT_55 : aggT Tryz.prog 55 = some false := by kernel_rfl
@[go_sem] theorem zeT_55 : zeT Tryz.prog 55 = some (.nilFunc) := by kernel_rfl
@[go_sem] theorem elZ_55 : elZ Tryz.prog 55 = some 1 := by kernel_rfl
@[go_sem] theorem byT_55 : byT Tryz.prog 55 = 8 := by kernel_rfl
@[go_sem] theorem szT_57 : szT Tryz.prog 57 = some 4 := by kernel_rfl
@[go_sem] theorem aggT_57 : aggT Tryz.prog 57 = some true := by kernel_rfl
@[go_sem] theorem offT_57x0 : offT Tryz.prog 57 0 = some 0 := by kernel_rfl
@[go_sem] theorem offT_57x1 : offT Tryz.prog 57 1 = some 1 := by kernel_rfl
@[go_sem] theorem offT_57x2 : offT Tryz.prog 57 2 = some 2 := by kernel_rfl
@[go_sem] theorem offT_57x3 : offT Tryz.prog 57 3 = some 3 := by kernel_rfl
@[go_sem] theorem plcs_57 : plcs Tryz.prog 57 = some [(0, 1), (1, 1), (2, 1), (3, 1)] := by kernel_rfl
@[go_sem] theorem zeT_57 : zeT Tryz.prog 57 = some (.agg #[.int .i64 0, .int .i64 0, .int .i64 0, .int .i64 0]) := by kernel_rfl
@[go_sem] theorem elZ_57 : elZ Tryz.prog 57 = some 4 := by kernel_rfl
@[go_sem] theorem byT_57 : byT Tryz.prog 57 = 32 := by kernel_rfl
@[go_sem] theorem eqg_57 : Program.eqGuardType Tryz.prog (Program.depth Tryz.prog) 57 = false := by kernel_rfl
@[go_sem] theorem stood_57 : Tryz.prog.stoodInHeld 57 = false := by kernel_rfl
@[go_sem] theorem szT_58 : szT Tryz.prog 58 = some 1 := by kernel_rfl
@[go_sem] theorem aggT_58 : aggT Tryz.prog 58 = some false := by kernel_rfl
@[go_sem] theorem elT_58 : elT Tryz.prog 58 = some 60 := by kernel_rfl
@[go_sem] theorem szT_60 : szT Tryz.prog 60 = some 7 := by kernel_rfl
@[go_sem] theorem aggT_60 : aggT Tryz.prog 60 = some true := by kernel_rfl
@[go_sem] theorem offT_60x0 : offT Tryz.prog 60 0 = some 0 := by kernel_rfl
@[go_sem] theorem offT_60x1 : offT Tryz.prog 60 1 = some 1 := by kernel_rfl
@[go_sem] theorem offT_60x2 : offT Tryz.prog 60 2 = some 5 := by kernel_rfl
@[go_sem] theorem offT_60x3 : offT Tryz.prog 60 3 = some 6 := by kernel_rfl
@[go_sem] theorem plcs_60 : plcs Tryz.prog 60 = some [(0, 1), (1, 4), (5, 1), (6, 1)] := by kernel_rfl
@[go_sem] theorem zeT_60 : zeT Tryz.prog 60 = some (.agg #[.int .u8 0, .int .i64 0, .int .i64 0, .int .i64 0, .int .i64 0, .int .i64 0, .slice none 0 0]) := by kernel_rfl
@[go_sem] theorem elZ_60 : elZ Tryz.prog 60 = some 7 := by kernel_rfl
@[go_sem] theorem byT_60 : byT Tryz.prog 60 = 72 := by kernel_rfl
@[go_sem] theorem szT_62 : szT Tryz.prog 62 = some 9 := by kernel_rfl
@[go_sem] theorem aggT_62 : aggT Tryz.prog 62 = some true := by kernel_rfl
@[go_sem] theorem offT_62x0 : offT Tryz.prog 62 0 = some 0 := by kernel_rfl
@[go_sem] theorem offT_62x1 : offT Tryz.prog 62 1 = some 7 := by kernel_rfl
@[go_sem] theorem offT_62x2 : offT Tryz.prog 62 2 = some 8 := by kernel_rfl
@[go_sem] theorem plcs_62 : plcs Tryz.prog 62 = some [(0, 7), (7, 1), (8, 1)] := by kernel_rfl
@[go_sem] theorem zeT_62 : zeT Tryz.prog 62 = some (.agg #[.int .u8 0, .int .i64 0, .int .i64 0, .int .i64 0, .int .i64 0, .int .i64 0, .slice none 0 0, .int .i64 0, .bool false]) := by kernel_rfl
@[go_sem] theorem elZ_62 : elZ Tryz.prog 62 = some 9 := by kernel_rfl
@[go_sem] theorem byT_62 : byT Tryz.prog 62 = 88 := by kernel_rfl
@[go_sem] theorem elT_66 : elT Tryz.prog 66 = some 133 := by kernel_rfl
@[go_sem] theorem szT_71 : szT Tryz.prog 71 = some 1 := by kernel_rfl
@[go_sem] theorem aggT_71 : aggT Tryz.prog 71 = some false := by kernel_rfl
@[go_sem] theorem elT_71 : elT Tryz.prog 71 = some 27 := by kernel_rfl
@[go_sem] theorem szT_73 : szT Tryz.prog 73 = some 1 := by kernel_rfl
@[go_sem] theorem aggT_73 : aggT Tryz.prog 73 = some false := by kernel_rfl
@[go_sem] theorem zeT_73 : zeT Tryz.prog 73 = some (.nilIface) := by kernel_rfl
@[go_sem] theorem szT_79 : szT Tryz.prog 79 = some 1 := by kernel_rfl
@[go_sem] theorem aggT_79 : aggT Tryz.prog 79 = some false := by kernel_rfl
@[go_sem] theorem szT_81 : szT Tryz.prog 81 = some 1 := by kernel_rfl
@[go_sem] theorem aggT_81 : aggT Tryz.prog 81 = some false := by kernel_rfl
@[go_sem] theorem szT_82 : szT Tryz.prog 82 = some 1 := by kernel_rfl
@[go_sem] theorem aggT_82 : aggT Tryz.prog 82 = some false := by kernel_rfl
@[go_sem] theorem offT_84x0 : offT Tryz.prog 84 0 = some 0 := by kernel_rfl
@[go_sem] theorem offT_84x1 : offT Tryz.prog 84 1 = some 1 := by kernel_rfl
@[go_sem] theorem offT_84x2 : offT Tryz.prog 84 2 = some 2 := by kernel_rfl
@[go_sem] theorem offT_84x3 : offT Tryz.prog 84 3 = some 3 := by kernel_rfl
@[go_sem] theorem plcs_84 : plcs Tryz.prog 84 = some [(0, 1), (1, 1), (2, 1), (3, 1)] := by kernel_rfl
@[go_sem] theorem zeT_84 : zeT Tryz.prog 84 = some (.agg #[.pointer none, .map none, .map none, .int .i64 0]) := by kernel_rfl
@[go_sem] theorem szT_85 : szT Tryz.prog 85 = some 1 := by kernel_rfl
@[go_sem] theorem aggT_85 : aggT Tryz.prog 85 = some false := by kernel_rfl
@[go_sem] theorem zeT_85 : zeT Tryz.prog 85 = some (.pointer none) := by kernel_rfl
@[go_sem] theorem szT_86 : szT Tryz.prog 86 = some 1 := by kernel_rfl
@[go_sem] theorem aggT_86 : aggT Tryz.prog 86 = some false := by kernel_rfl
@[go_sem] theorem offT_89x0 : offT Tryz.prog 89 0 = some 0 := by kernel_rfl
@[go_sem] theorem offT_89x1 : offT Tryz.prog 89 1 = some 1 := by kernel_rfl
@[go_sem] theorem plcs_89 : plcs Tryz.prog 89 = some [(0, 1), (1, 1)] := by kernel_rfl
@[go_sem] theorem zeT_89 : zeT Tryz.prog 89 = some (.agg #[.pointer none, .int .i64 0]) := by kernel_rfl
@[go_sem] theorem szT_98 : szT Tryz.prog 98 = some 1 := by kernel_rfl
@[go_sem] theorem aggT_98 : aggT Tryz.prog 98 = some false := by kernel_rfl
@[go_sem] theorem zeT_98 : zeT Tryz.prog 98 = some (.slice none 0 0) := by kernel_rfl
@[go_sem] theorem elZ_98 : elZ Tryz.prog 98 = some 1 := by kernel_rfl
@[go_sem] theorem byT_98 : byT Tryz.prog 98 = 24 := by kernel_rfl
@[go_sem] theorem elT_98 : elT Tryz.prog 98 = some 5 := by kernel_rfl
@[go_sem] theorem szT_102 : szT Tryz.prog 102 = some 2 := by kernel_rfl
@[go_sem] theorem aggT_102 : aggT Tryz.prog 102 = some true := by kernel_rfl
@[go_sem] theorem offT_102x0 : offT Tryz.prog 102 0 = some 0 := by kernel_rfl
@[go_sem] theorem offT_102x1 : offT Tryz.prog 102 1 = some 1 := by kernel_rfl
@[go_sem] theorem plcs_102 : plcs Tryz.prog 102 = some [(0, 1), (1, 1)] := by kernel_rfl
@[go_sem] theorem zeT_102 : zeT Tryz.prog 102 = some (.agg #[.int .u8 0, .string ⟨#[]⟩]) := by kernel_rfl
@[go_sem] theorem elZ_102 : elZ Tryz.prog 102 = some 2 := by kernel_rfl
@[go_sem] theorem byT_102 : byT Tryz.prog 102 = 24 := by kernel_rfl
@[go_sem] theorem elT_103 : elT Tryz.prog 103 = some 98 := by kernel_rfl
@[go_sem] theorem elT_104 : elT Tryz.prog 104 = some 102 := by kernel_rfl
@[go_sem] theorem elT_109 : elT Tryz.prog 109 = some 55 := by kernel_rfl
@[go_sem] theorem szT_111 : szT Tryz.prog 111 = some 3 := by kernel_rfl
@[go_sem] theorem aggT_111 : aggT Tryz.prog 111 = some true := by kernel_rfl
@[go_sem] theorem offT_111x0 : offT Tryz.prog 111 0 = some 0 := by kernel_rfl
@[go_sem] theorem offT_111x1 : offT Tryz.prog 111 1 = some 1 := by kernel_rfl
@[go_sem] theorem offT_111x2 : offT Tryz.prog 111 2 = some 2 := by kernel_rfl
@[go_sem] theorem plcs_111 : plcs Tryz.prog 111 = some [(0, 1), (1, 1), (2, 1)] := by kernel_rfl
@[go_sem] theorem zeT_111 : zeT Tryz.prog 111 = some (.agg #[.int .u8 0, .int .i64 0, .string ⟨#[]⟩]) := by kernel_rfl
@[go_sem] theorem elZ_111 : elZ Tryz.prog 111 = some 3 := by kernel_rfl
@[go_sem] theorem byT_111 : byT Tryz.prog 111 = 32 := by kernel_rfl
@[go_sem] theorem eqg_111 : Program.eqGuardType Tryz.prog (Program.depth Tryz.prog) 111 = false := by kernel_rfl
@[go_sem] theorem stood_111 : Tryz.prog.stoodInHeld 111 = false := by kernel_rfl
@[go_sem] theorem szT_121 : szT Tryz.prog 121 = some 3 := by kernel_rfl
@[go_sem] theorem aggT_121 : aggT Tryz.prog 121 = some true := by kernel_rfl
@[go_sem] theorem offT_121x0 : offT Tryz.prog 121 0 = some 0 := by kernel_rfl
@[go_sem] theorem offT_121x1 : offT Tryz.prog 121 1 = some 1 := by kernel_rfl
@[go_sem] theorem offT_121x2 : offT Tryz.prog 121 2 = some 2 := by kernel_rfl
@[go_sem] theorem szT_122 : szT Tryz.prog 122 = some 1 := by kernel_rfl
@[go_sem] theorem aggT_122 : aggT Tryz.prog 122 = some false := by kernel_rfl
@[go_sem] theorem szT_123 : szT Tryz.prog 123 = some 1 := by kernel_rfl
@[go_sem] theorem aggT_123 : aggT Tryz.prog 123 = some false := by kernel_rfl
@[go_sem] theorem szT_124 : szT Tryz.prog 124 = some 1 := by kernel_rfl
@[go_sem] theorem aggT_124 : aggT Tryz.prog 124 = some false := by kernel_rfl
@[go_sem] theorem szT_125 : szT Tryz.prog 125 = some 1 := by kernel_rfl
@[go_sem] theorem aggT_125 : aggT Tryz.prog 125 = some false := by kernel_rfl
@[go_sem] theorem szT_126 : szT Tryz.prog 126 = some 1 := by kernel_rfl
@[go_sem] theorem aggT_126 : aggT Tryz.prog 126 = some false := by kernel_rfl
@[go_sem] theorem offT_128x0 : offT Tryz.prog 128 0 = some 0 := by kernel_rfl
@[go_sem] theorem offT_128x1 : offT Tryz.prog 128 1 = some 3 := by kernel_rfl
@[go_sem] theorem offT_128x2 : offT Tryz.prog 128 2 = some 4 := by kernel_rfl
@[go_sem] theorem offT_128x3 : offT Tryz.prog 128 3 = some 5 := by kernel_rfl
@[go_sem] theorem offT_128x4 : offT Tryz.prog 128 4 = some 6 := by kernel_rfl
@[go_sem] theorem offT_128x5 : offT Tryz.prog 128 5 = some 7 := by kernel_rfl
@[go_sem] theorem offT_128x6 : offT Tryz.prog 128 6 = some 8 := by kernel_rfl
@[go_sem] theorem plcs_128 : plcs Tryz.prog 128 = some [(0, 3), (3, 1), (4, 1), (5, 1), (6, 1), (7, 1), (8, 1)] := by kernel_rfl
@[go_sem] theorem zeT_128 : zeT Tryz.prog 128 = some (.agg #[.int .i64 0, .int .i64 0, .int .i64 0, .pointer none, .nilFunc, .map none, .map none, .map none, .map none]) := by kernel_rfl
@[go_sem] theorem szT_133 : szT Tryz.prog 133 = some 5 := by kernel_rfl
@[go_sem] theorem aggT_133 : aggT Tryz.prog 133 = some true := by kernel_rfl
@[go_sem] theorem offT_133x0 : offT Tryz.prog 133 0 = some 0 := by kernel_rfl
@[go_sem] theorem offT_133x1 : offT Tryz.prog 133 1 = some 1 := by kernel_rfl
@[go_sem] theorem plcs_133 : plcs Tryz.prog 133 = some [(0, 1), (1, 4)] := by kernel_rfl
@[go_sem] theorem zeT_133 : zeT Tryz.prog 133 = some (.agg #[.int .i64 0, .int .i64 0, .int .i64 0, .int .i64 0, .int .i64 0]) := by kernel_rfl
@[go_sem] theorem elZ_133 : elZ Tryz.prog 133 = some 5 := by kernel_rfl
@[go_sem] theorem byT_133 : byT Tryz.prog 133 = 40 := by kernel_rfl
@[go_sem] theorem eqg_133 : Program.eqGuardType Tryz.prog (Program.depth Tryz.prog) 133 = false := by kernel_rfl
@[go_sem] theorem stood_133 : Tryz.prog.stoodInHeld 133 = false := by kernel_rfl
@[go_sem] theorem offT_142x0 : offT Tryz.prog 142 0 = some 0 := by kernel_rfl
@[go_sem] theorem offT_142x1 : offT Tryz.prog 142 1 = some 1 := by kernel_rfl
@[go_sem] theorem offT_142x2 : offT Tryz.prog 142 2 = some 2 := by kernel_rfl
@[go_sem] theorem offT_142x3 : offT Tryz.prog 142 3 = some 3 := by kernel_rfl
@[go_sem] theorem plcs_142 : plcs Tryz.prog 142 = some [(0, 1), (1, 1), (2, 1), (3, 1)] := by kernel_rfl
@[go_sem] theorem zeT_142 : zeT Tryz.prog 142 = some (.agg #[.slice none 0 0, .slice none 0 0, .slice none 0 0, .bool false]) := by kernel_rfl
@[go_sem] theorem conc_145 : Tryz.prog.concrete 145 = true := by kernel_rfl
@[go_sem] theorem szT_147 : szT Tryz.prog 147 = some 1 := by kernel_rfl
@[go_sem] theorem aggT_147 : aggT Tryz.prog 147 = some true := by kernel_rfl
@[go_sem] theorem offT_147x0 : offT Tryz.prog 147 0 = some 0 := by kernel_rfl
@[go_sem] theorem plcs_147 : plcs Tryz.prog 147 = some [(0, 1)] := by kernel_rfl
@[go_sem] theorem zeT_147 : zeT Tryz.prog 147 = some (.agg #[.int .i64 0]) := by kernel_rfl
@[go_sem] theorem conc_147 : Tryz.prog.concrete 147 = true := by kernel_rfl
@[go_sem] theorem szT_151 : szT Tryz.prog 151 = some 1 := by kernel_rfl
@[go_sem] theorem aggT_151 : aggT Tryz.prog 151 = some false := by kernel_rfl
@[go_sem] theorem szT_152 : szT Tryz.prog 152 = some 1 := by kernel_rfl
@[go_sem] theorem aggT_152 : aggT Tryz.prog 152 = some false := by kernel_rfl
@[go_sem] theorem offT_154x0 : offT Tryz.prog 154 0 = some 0 := by kernel_rfl
@[go_sem] theorem offT_154x1 : offT Tryz.prog 154 1 = some 1 := by kernel_rfl
@[go_sem] theorem offT_154x2 : offT Tryz.prog 154 2 = some 2 := by kernel_rfl
@[go_sem] theorem offT_154x3 : offT Tryz.prog 154 3 = some 3 := by kernel_rfl
@[go_sem] theorem offT_154x4 : offT Tryz.prog 154 4 = some 4 := by kernel_rfl
@[go_sem] theorem offT_154x5 : offT Tryz.prog 154 5 = some 5 := by kernel_rfl
@[go_sem] theorem plcs_154 : plcs Tryz.prog 154 = some [(0, 1), (1, 1), (2, 1), (3, 1), (4, 1), (5, 1)] := by kernel_rfl
@[go_sem] theorem zeT_154 : zeT Tryz.prog 154 = some (.agg #[.pointer none, .int .i64 0, .string ⟨#[]⟩, .map none, .slice none 0 0, .map none]) := by kernel_rfl
@[go_sem] theorem szT_156 : szT Tryz.prog 156 = some 1 := by kernel_rfl
@[go_sem] theorem aggT_156 : aggT Tryz.prog 156 = some true := by kernel_rfl
@[go_sem] theorem offT_156x0 : offT Tryz.prog 156 0 = some 0 := by kernel_rfl
@[go_sem] theorem offT_158x0 : offT Tryz.prog 158 0 = some 0 := by kernel_rfl
@[go_sem] theorem offT_158x1 : offT Tryz.prog 158 1 = some 1 := by kernel_rfl
@[go_sem] theorem offT_158x2 : offT Tryz.prog 158 2 = some 2 := by kernel_rfl
@[go_sem] theorem plcs_158 : plcs Tryz.prog 158 = some [(0, 1), (1, 1), (2, 1)] := by kernel_rfl
@[go_sem] theorem zeT_158 : zeT Tryz.prog 158 = some (.agg #[.slice none 0 0, .int .i64 0, .bool false]) := by kernel_rfl
@[go_sem] theorem szT_161 : szT Tryz.prog 161 = some 1 := by kernel_rfl
@[go_sem] theorem aggT_161 : aggT Tryz.prog 161 = some false := by kernel_rfl
@[go_sem] theorem zeT_161 : zeT Tryz.prog 161 = some (.map none) := by kernel_rfl
@[go_sem] theorem szT_163 : szT Tryz.prog 163 = some 3 := by kernel_rfl
@[go_sem] theorem aggT_163 : aggT Tryz.prog 163 = some true := by kernel_rfl
@[go_sem] theorem offT_163x0 : offT Tryz.prog 163 0 = some 0 := by kernel_rfl
@[go_sem] theorem offT_163x1 : offT Tryz.prog 163 1 = some 1 := by kernel_rfl
@[go_sem] theorem offT_163x2 : offT Tryz.prog 163 2 = some 2 := by kernel_rfl
@[go_sem] theorem plcs_163 : plcs Tryz.prog 163 = some [(0, 1), (1, 1), (2, 1)] := by kernel_rfl
@[go_sem] theorem zeT_163 : zeT Tryz.prog 163 = some (.agg #[.int .i64 0, .int .i64 0, .int .i64 0]) := by kernel_rfl
@[go_sem] theorem eqg_163 : Program.eqGuardType Tryz.prog (Program.depth Tryz.prog) 163 = false := by kernel_rfl
@[go_sem] theorem stood_163 : Tryz.prog.stoodInHeld 163 = false := by kernel_rfl
@[go_sem] theorem szT_177 : szT Tryz.prog 177 = some 1 := by kernel_rfl
@[go_sem] theorem aggT_177 : aggT Tryz.prog 177 = some false := by kernel_rfl
@[go_sem] theorem szT_181 : szT Tryz.prog 181 = some 1 := by kernel_rfl
@[go_sem] theorem aggT_181 : aggT Tryz.prog 181 = some false := by kernel_rfl
@[go_sem] theorem offT_183x0 : offT Tryz.prog 183 0 = some 0 := by kernel_rfl
@[go_sem] theorem plcs_183 : plcs Tryz.prog 183 = some [(0, 1)] := by kernel_rfl
@[go_sem] theorem zeT_183 : zeT Tryz.prog 183 = some (.agg #[.map none]) := by kernel_rfl
@[go_sem] theorem szT_184 : szT Tryz.prog 184 = some 1 := by kernel_rfl
@[go_sem] theorem aggT_184 : aggT Tryz.prog 184 = some false := by kernel_rfl
@[go_sem] theorem szT_186 : szT Tryz.prog 186 = some 2 := by kernel_rfl
@[go_sem] theorem aggT_186 : aggT Tryz.prog 186 = some true := by kernel_rfl
@[go_sem] theorem offT_186x0 : offT Tryz.prog 186 0 = some 0 := by kernel_rfl
@[go_sem] theorem offT_186x1 : offT Tryz.prog 186 1 = some 1 := by kernel_rfl
@[go_sem] theorem zeT_186 : zeT Tryz.prog 186 = some (.agg #[.pointer none, .slice none 0 0]) := by kernel_rfl
@[go_sem] theorem conc_189 : Tryz.prog.concrete 189 = true := by kernel_rfl
@[go_sem] theorem offT_192x1 : offT Tryz.prog 192 1 = some 1 := by kernel_rfl
@[go_sem] theorem plcs_192 : plcs Tryz.prog 192 = some [(0, 1), (1, 1)] := by kernel_rfl
@[go_sem] theorem zeT_192 : zeT Tryz.prog 192 = some (.agg #[.slice none 0 0, .nilIface]) := by kernel_rfl
@[go_sem] theorem conc_193 : Tryz.prog.concrete 193 = true := by kernel_rfl
@[go_sem] theorem offT_195x0 : offT Tryz.prog 195 0 = some 0 := by kernel_rfl
@[go_sem] theorem plcs_195 : plcs Tryz.prog 195 = some [(0, 1), (1, 1)] := by kernel_rfl
@[go_sem] theorem zeT_195 : zeT Tryz.prog 195 = some (.agg #[.int .i64 0, .int .i64 0]) := by kernel_rfl
@[go_sem] theorem szT_210 : szT Tryz.prog 210 = some 3 := by kernel_rfl
@[go_sem] theorem aggT_210 : aggT Tryz.prog 210 = some true := by kernel_rfl
@[go_sem] theorem offT_210x0 : offT Tryz.prog 210 0 = some 0 := by kernel_rfl
@[go_sem] theorem offT_210x1 : offT Tryz.prog 210 1 = some 1 := by kernel_rfl
@[go_sem] theorem offT_210x2 : offT Tryz.prog 210 2 = some 2 := by kernel_rfl
@[go_sem] theorem plcs_210 : plcs Tryz.prog 210 = some [(0, 1), (1, 1), (2, 1)] := by kernel_rfl
@[go_sem] theorem zeT_210 : zeT Tryz.prog 210 = some (.agg #[.string ⟨#[]⟩, .string ⟨#[]⟩, .int .i64 0]) := by kernel_rfl
@[go_sem] theorem szT_224 : szT Tryz.prog 224 = some 1 := by kernel_rfl
@[go_sem] theorem aggT_224 : aggT Tryz.prog 224 = some false := by kernel_rfl
@[go_sem] theorem zeT_224 : zeT Tryz.prog 224 = some (.pointer none) := by kernel_rfl
@[go_sem] theorem szT_227 : szT Tryz.prog 227 = some 1 := by kernel_rfl
@[go_sem] theorem aggT_227 : aggT Tryz.prog 227 = some false := by kernel_rfl
@[go_sem] theorem offT_229x0 : offT Tryz.prog 229 0 = some 0 := by kernel_rfl
@[go_sem] theorem offT_229x1 : offT Tryz.prog 229 1 = some 1 := by kernel_rfl
@[go_sem] theorem offT_229x2 : offT Tryz.prog 229 2 = some 2 := by kernel_rfl
@[go_sem] theorem offT_229x3 : offT Tryz.prog 229 3 = some 3 := by kernel_rfl
@[go_sem] theorem plcs_229 : plcs Tryz.prog 229 = some [(0, 1), (1, 1), (2, 1), (3, 1)] := by kernel_rfl
@[go_sem] theorem zeT_229 : zeT Tryz.prog 229 = some (.agg #[.nilIface, .bool false, .int .i64 0, .int .i64 0]) := by kernel_rfl
@[go_sem] theorem szT_237 : szT Tryz.prog 237 = some 1 := by kernel_rfl
@[go_sem] theorem aggT_237 : aggT Tryz.prog 237 = some false := by kernel_rfl
@[go_sem] theorem zeT_237 : zeT Tryz.prog 237 = some (.pointer none) := by kernel_rfl
@[go_sem] theorem szT_240 : szT Tryz.prog 240 = some 4 := by kernel_rfl
@[go_sem] theorem aggT_240 : aggT Tryz.prog 240 = some true := by kernel_rfl
@[go_sem] theorem offT_240x0 : offT Tryz.prog 240 0 = some 0 := by kernel_rfl
@[go_sem] theorem offT_240x1 : offT Tryz.prog 240 1 = some 1 := by kernel_rfl
@[go_sem] theorem offT_240x2 : offT Tryz.prog 240 2 = some 2 := by kernel_rfl
@[go_sem] theorem offT_240x3 : offT Tryz.prog 240 3 = some 3 := by kernel_rfl
@[go_sem] theorem plcs_240 : plcs Tryz.prog 240 = some [(0, 1), (1, 1), (2, 1), (3, 1)] := by kernel_rfl
@[go_sem] theorem zeT_240 : zeT Tryz.prog 240 = some (.agg #[.int .i64 0, .string ⟨#[]⟩, .slice none 0 0, .int .i64 0]) := by kernel_rfl
@[go_sem] theorem elZ_240 : elZ Tryz.prog 240 = some 4 := by kernel_rfl
@[go_sem] theorem byT_240 : byT Tryz.prog 240 = 56 := by kernel_rfl
@[go_sem] theorem offT_255x0 : offT Tryz.prog 255 0 = some 0 := by kernel_rfl
@[go_sem] theorem offT_255x1 : offT Tryz.prog 255 1 = some 1 := by kernel_rfl
@[go_sem] theorem plcs_255 : plcs Tryz.prog 255 = some [(0, 1), (1, 1)] := by kernel_rfl
@[go_sem] theorem zeT_255 : zeT Tryz.prog 255 = some (.agg #[.pointer none, .slice none 0 0]) := by kernel_rfl
@[go_sem] theorem szT_258 : szT Tryz.prog 258 = some 1 := by kernel_rfl
@[go_sem] theorem aggT_258 : aggT Tryz.prog 258 = some false := by kernel_rfl
@[go_sem] theorem elT_258 : elT Tryz.prog 258 = some 57 := by kernel_rfl
@[go_sem] theorem szT_315 : szT Tryz.prog 315 = some 1 := by kernel_rfl
@[go_sem] theorem aggT_315 : aggT Tryz.prog 315 = some false := by kernel_rfl
@[go_sem] theorem szT_318 : szT Tryz.prog 318 = some 10 := by kernel_rfl
@[go_sem] theorem aggT_318 : aggT Tryz.prog 318 = some true := by kernel_rfl
@[go_sem] theorem offT_318x0 : offT Tryz.prog 318 0 = some 0 := by kernel_rfl
@[go_sem] theorem offT_318x1 : offT Tryz.prog 318 1 = some 7 := by kernel_rfl
@[go_sem] theorem offT_318x2 : offT Tryz.prog 318 2 = some 8 := by kernel_rfl
@[go_sem] theorem offT_318x3 : offT Tryz.prog 318 3 = some 9 := by kernel_rfl
@[go_sem] theorem plcs_318 : plcs Tryz.prog 318 = some [(0, 7), (7, 1), (8, 1), (9, 1)] := by kernel_rfl
@[go_sem] theorem zeT_318 : zeT Tryz.prog 318 = some (.agg #[.int .u8 0, .int .i64 0, .int .i64 0, .int .i64 0, .int .i64 0, .int .i64 0, .slice none 0 0, .slice none 0 0, .int .i64 0, .int .i64 0]) := by kernel_rfl
@[go_sem] theorem elT_348 : elT Tryz.prog 348 = some 240 := by kernel_rfl
@[go_sem] theorem szT_373 : szT Tryz.prog 373 = some 1 := by kernel_rfl
@[go_sem] theorem aggT_373 : aggT Tryz.prog 373 = some false := by kernel_rfl
@[go_sem] theorem zeT_373 : zeT Tryz.prog 373 = some (.int .u64 0) := by kernel_rfl
@[go_sem] theorem elT_390 : elT Tryz.prog 390 = none := by kernel_rfl
@[go_sem] theorem szT_399 : szT Tryz.prog 399 = some 1 := by kernel_rfl
@[go_sem] theorem aggT_399 : aggT Tryz.prog 399 = some false := by kernel_rfl
@[go_sem] theorem zeT_399 : zeT Tryz.prog 399 = some (.pointer none) := by kernel_rfl
@[go_sem] theorem elZ_399 : elZ Tryz.prog 399 = some 1 := by kernel_rfl
@[go_sem] theorem byT_399 : byT Tryz.prog 399 = 8 := by kernel_rfl
@[go_sem] theorem conc_399 : Tryz.prog.concrete 399 = true := by kernel_rfl
@[go_sem] theorem szT_403 : szT Tryz.prog 403 = some 10 := by kernel_rfl
@[go_sem] theorem aggT_403 : aggT Tryz.prog 403 = some true := by kernel_rfl
@[go_sem] theorem offT_403x0 : offT Tryz.prog 403 0 = some 0 := by kernel_rfl
@[go_sem] theorem offT_403x1 : offT Tryz.prog 403 1 = some 7 := by kernel_rfl
@[go_sem] theorem offT_403x2 : offT Tryz.prog 403 2 = some 8 := by kernel_rfl
@[go_sem] theorem offT_403x3 : offT Tryz.prog 403 3 = some 9 := by kernel_rfl
@[go_sem] theorem plcs_403 : plcs Tryz.prog 403 = some [(0, 7), (7, 1), (8, 1), (9, 1)] := by kernel_rfl
@[go_sem] theorem zeT_403 : zeT Tryz.prog 403 = some (.agg #[.int .u8 0, .int .i64 0, .int .i64 0, .int .i64 0, .int .i64 0, .int .i64 0, .slice none 0 0, .slice none 0 0, .int .i64 0, .int .u8 0]) := by kernel_rfl
@[go_sem] theorem elT_409 : elT Tryz.prog 409 = some 62 := by kernel_rfl
@[go_sem] theorem offT_413x0 : offT Tryz.prog 413 0 = some 0 := by kernel_rfl
@[go_sem] theorem plcs_413 : plcs Tryz.prog 413 = some [(0, 2)] := by kernel_rfl
@[go_sem] theorem zeT_413 : zeT Tryz.prog 413 = some (.agg #[.pointer none, .slice none 0 0]) := by kernel_rfl
@[go_sem] theorem szT_419 : szT Tryz.prog 419 = some 1 := by kernel_rfl
@[go_sem] theorem aggT_419 : aggT Tryz.prog 419 = some false := by kernel_rfl
@[go_sem] theorem elT_419 : elT Tryz.prog 419 = some 36 := by kernel_rfl
@[go_sem] theorem elT_438 : elT Tryz.prog 438 = none := by kernel_rfl
@[go_sem] theorem elT_439 : elT Tryz.prog 439 = none := by kernel_rfl
@[go_sem] theorem szT_446 : szT Tryz.prog 446 = some 1 := by kernel_rfl
@[go_sem] theorem aggT_446 : aggT Tryz.prog 446 = some false := by kernel_rfl
@[go_sem] theorem elT_446 : elT Tryz.prog 446 = some 548 := by kernel_rfl
@[go_sem] theorem offT_448x0 : offT Tryz.prog 448 0 = some 0 := by kernel_rfl
@[go_sem] theorem plcs_448 : plcs Tryz.prog 448 = some [(0, 1)] := by kernel_rfl
@[go_sem] theorem zeT_448 : zeT Tryz.prog 448 = some (.agg #[.slice none 0 0]) := by kernel_rfl
@[go_sem] theorem szT_457 : szT Tryz.prog 457 = some 1 := by kernel_rfl
@[go_sem] theorem aggT_457 : aggT Tryz.prog 457 = some false := by kernel_rfl
@[go_sem] theorem offT_459x0 : offT Tryz.prog 459 0 = some 0 := by kernel_rfl
@[go_sem] theorem offT_459x1 : offT Tryz.prog 459 1 = some 1 := by kernel_rfl
@[go_sem] theorem plcs_459 : plcs Tryz.prog 459 = some [(0, 1), (1, 1)] := by kernel_rfl
@[go_sem] theorem zeT_459 : zeT Tryz.prog 459 = some (.agg #[.int .i64 0, .slice none 0 0]) := by kernel_rfl
@[go_sem] theorem offT_467x0 : offT Tryz.prog 467 0 = some 0 := by kernel_rfl
@[go_sem] theorem offT_467x1 : offT Tryz.prog 467 1 = some 1 := by kernel_rfl
@[go_sem] theorem offT_467x2 : offT Tryz.prog 467 2 = some 2 := by kernel_rfl
@[go_sem] theorem plcs_467 : plcs Tryz.prog 467 = some [(0, 1), (1, 1), (2, 1)] := by kernel_rfl
@[go_sem] theorem zeT_467 : zeT Tryz.prog 467 = some (.agg #[.string ⟨#[]⟩, .int .i64 0, .int .i64 0]) := by kernel_rfl
@[go_sem] theorem conc_472 : Tryz.prog.concrete 472 = true := by kernel_rfl
@[go_sem] theorem conc_473 : Tryz.prog.concrete 473 = true := by kernel_rfl
@[go_sem] theorem szT_486 : szT Tryz.prog 486 = some 0 := by kernel_rfl
@[go_sem] theorem aggT_486 : aggT Tryz.prog 486 = some true := by kernel_rfl
@[go_sem] theorem plcs_486 : plcs Tryz.prog 486 = some [] := by kernel_rfl
@[go_sem] theorem zeT_486 : zeT Tryz.prog 486 = some (.agg #[]) := by kernel_rfl
@[go_sem] theorem conc_486 : Tryz.prog.concrete 486 = true := by kernel_rfl
@[go_sem] theorem szT_489 : szT Tryz.prog 489 = some 1 := by kernel_rfl
@[go_sem] theorem aggT_489 : aggT Tryz.prog 489 = some false := by kernel_rfl
@[go_sem] theorem szT_493 : szT Tryz.prog 493 = some 1 := by kernel_rfl
@[go_sem] theorem aggT_493 : aggT Tryz.prog 493 = some true := by kernel_rfl
@[go_sem] theorem offT_493x0 : offT Tryz.prog 493 0 = some 0 := by kernel_rfl
@[go_sem] theorem plcs_493 : plcs Tryz.prog 493 = some [(0, 1)] := by kernel_rfl
@[go_sem] theorem zeT_493 : zeT Tryz.prog 493 = some (.agg #[.nilIface]) := by kernel_rfl
@[go_sem] theorem conc_493 : Tryz.prog.concrete 493 = true := by kernel_rfl
@[go_sem] theorem elT_496 : elT Tryz.prog 496 = none := by kernel_rfl
@[go_sem] theorem elT_497 : elT Tryz.prog 497 = none := by kernel_rfl
@[go_sem] theorem offT_499x2 : offT Tryz.prog 499 2 = some 2 := by kernel_rfl
@[go_sem] theorem plcs_499 : plcs Tryz.prog 499 = some [(0, 1), (1, 1), (2, 1)] := by kernel_rfl
@[go_sem] theorem zeT_499 : zeT Tryz.prog 499 = some (.agg #[.string ⟨#[]⟩, .string ⟨#[]⟩, .nilIface]) := by kernel_rfl
@[go_sem] theorem szT_548 : szT Tryz.prog 548 = some 4 := by kernel_rfl
@[go_sem] theorem aggT_548 : aggT Tryz.prog 548 = some true := by kernel_rfl
@[go_sem] theorem plcs_548 : plcs Tryz.prog 548 = some [(0, 1), (1, 1), (2, 1), (3, 1)] := by kernel_rfl
@[go_sem] theorem zeT_548 : zeT Tryz.prog 548 = some (.agg #[.int .u8 0, .int .i64 0, .int .i64 0, .string ⟨#[]⟩]) := by kernel_rfl
@[go_sem] theorem elZ_548 : elZ Tryz.prog 548 = some 4 := by kernel_rfl
@[go_sem] theorem byT_548 : byT Tryz.prog 548 = 40 := by kernel_rfl
@[go_sem] theorem eqg_548 : Program.eqGuardType Tryz.prog (Program.depth Tryz.prog) 548 = false := by kernel_rfl
@[go_sem] theorem stood_548 : Tryz.prog.stoodInHeld 548 = false := by kernel_rfl
theorem mixed : Tryz.prog.follows .mixedOrders = true := by kernel_rfl
attribute [go_sem] Tryz.underlying2 Tryz.underlying3 Tryz.underlying4 Tryz.underlying5 Tryz.underlying9 Tryz.underlying20 Tryz.underlying21 Tryz.underlying24 Tryz.underlying27 Tryz.underlying31 Tryz.underlying36 Tryz.underlying43 Tryz.underlying46 Tryz.underlying48 Tryz.underlying54 Tryz.underlying55 Tryz.underlying57 Tryz.underlying58 Tryz.underlying60 Tryz.underlying62 Tryz.underlying66 Tryz.underlying71 Tryz.underlying73 Tryz.underlying79 Tryz.underlying80 Tryz.underlying81 Tryz.underlying82 Tryz.underlying84 Tryz.underlying85 Tryz.underlying86 Tryz.underlying89 Tryz.underlying92 Tryz.underlying98 Tryz.underlying102 Tryz.underlying103 Tryz.underlying104 Tryz.underlying109 Tryz.underlying111 Tryz.underlying113 Tryz.underlying121 Tryz.underlying122 Tryz.underlying123 Tryz.underlying124 Tryz.underlying125 Tryz.underlying126 Tryz.underlying128 Tryz.underlying131 Tryz.underlying133 Tryz.underlying140 Tryz.underlying142 Tryz.underlying147 Tryz.underlying148 Tryz.underlying151 Tryz.underlying152 Tryz.underlying154 Tryz.underlying156 Tryz.underlying158 Tryz.underlying161 Tryz.underlying163 Tryz.underlying172 Tryz.underlying177 Tryz.underlying181 Tryz.underlying183 Tryz.underlying184 Tryz.underlying186 Tryz.underlying192 Tryz.underlying195 Tryz.underlying196 Tryz.underlying210 Tryz.underlying222 Tryz.underlying224 Tryz.underlying227 Tryz.underlying229 Tryz.underlying231 Tryz.underlying236 Tryz.underlying237 Tryz.underlying240 Tryz.underlying253 Tryz.underlying255 Tryz.underlying258 Tryz.underlying261 Tryz.underlying305 Tryz.underlying313 Tryz.underlying315 Tryz.underlying318 Tryz.underlying327 Tryz.underlying348 Tryz.underlying351 Tryz.underlying365 Tryz.underlying373 Tryz.underlying377 Tryz.underlying387 Tryz.underlying390 Tryz.underlying399 Tryz.underlying403 Tryz.underlying408 Tryz.underlying409 Tryz.underlying411 Tryz.underlying413 Tryz.underlying416 Tryz.underlying419 Tryz.underlying438 Tryz.underlying439 Tryz.underlying446 Tryz.underlying448 Tryz.underlying449 Tryz.underlying457 Tryz.underlying459 Tryz.underlying465 Tryz.underlying467 Tryz.underlying486 Tryz.underlying489 Tryz.underlying493 Tryz.underlying496 Tryz.underlying497 Tryz.underlying499 Tryz.underlying507 Tryz.underlying511 Tryz.underlying515 Tryz.underlying523 Tryz.underlying548
end Go.Proofs
