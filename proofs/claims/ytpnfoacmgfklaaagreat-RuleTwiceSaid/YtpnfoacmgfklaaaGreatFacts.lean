/- Facts on the loaded program's types and functions, each a closed one. -/
import Derived.KernelRfl
import Derived.Test.YtpnfoacmgfklaaaGreatProg
import Derived.Test.YtpnfoacmgfklaaaGreatCoreQ
set_option linter.unusedVariables false
set_option linter.unusedSimpArgs false
namespace Go.Proofs.YtpnfoacmgfklaaaGreat.K
open Go.RowKit Go.Proofs
noncomputable abbrev PP : Program := Tryz.prog
theorem mixed_ : Tryz.prog.follows .mixedOrders = true := by kernel_rfl
theorem fn_8 : IsFn PP 8 := ⟨_, Tryz.func8, by kernel_rfl, by kernel_rfl⟩
theorem fn_14 : IsFn PP 14 := ⟨_, Tryz.func14, by kernel_rfl, by kernel_rfl⟩
theorem z_59 : zA PP 59 = some [(ANil), (ANil)] := by kernel_rfl
theorem sz_59 : sizeT PP 59 = some 2 := by kernel_rfl
theorem ag_59 : aggT PP 59 = some 2 := by kernel_rfl
theorem ag_55 : aggT PP 55 = some 15 := by kernel_rfl
theorem fn_15 : IsFn PP 15 := ⟨_, Tryz.func15, by kernel_rfl, by kernel_rfl⟩
theorem fn_10 : IsFn PP 10 := ⟨_, Tryz.func10, by kernel_rfl, by kernel_rfl⟩
theorem z_37 : zA PP 37 = some [(AStr (ByteArray.mk #[])), (ANil), (ANil), (ANil), (AInt .i64 0), (ANil), (ANil), (ANil), (ANil), (AInt .i64 0), (ANil), (ANil), (ANil), (ANil), (ANil), (ABool false), (AInt .i64 0), (ANil), (ANil), (ANil), (ANil), (ANil), (ANil), (AInt .i64 0), (ANil)] := by kernel_rfl
theorem sz_37 : sizeT PP 37 = some 25 := by kernel_rfl
theorem ag_37 : aggT PP 37 = some 25 := by kernel_rfl
theorem fn_16 : IsFn PP 16 := ⟨_, Tryz.func16, by kernel_rfl, by kernel_rfl⟩
theorem fn_17 : IsFn PP 17 := ⟨_, Tryz.func17, by kernel_rfl, by kernel_rfl⟩
theorem fn_18 : IsFn PP 18 := ⟨_, Tryz.func18, by kernel_rfl, by kernel_rfl⟩
theorem fn_13 : IsFn PP 13 := ⟨_, Tryz.func13, by kernel_rfl, by kernel_rfl⟩
theorem fn_19 : IsFn PP 19 := ⟨_, Tryz.func19, by kernel_rfl, by kernel_rfl⟩
theorem fn_31 : IsFn PP 31 := ⟨_, Tryz.func31, by kernel_rfl, by kernel_rfl⟩
theorem fn_32 : IsFn PP 32 := ⟨_, Tryz.func32, by kernel_rfl, by kernel_rfl⟩
theorem il_22 : isSlice PP 22 = true := by kernel_rfl
theorem el_22 : elemT PP 22 = some (3, 1) := by kernel_rfl
theorem zr_3_1 : zR PP 3 1 = some [(AInt .i64 0)] := by kernel_rfl
theorem fn_58 : IsFn PP 58 := ⟨_, Tryz.func58, by kernel_rfl, by kernel_rfl⟩
theorem pl_37 : (placesT PP 37).isSome = true := by kernel_rfl
theorem fn_59 : IsFn PP 59 := ⟨_, Tryz.func59, by kernel_rfl, by kernel_rfl⟩
theorem fo_37_1 : fieldOff PP 37 1 = some 1 := by kernel_rfl
theorem fo_29_0 : fieldOff PP 29 0 = some 0 := by kernel_rfl
theorem ag_25 : aggT PP 25 = some 2 := by kernel_rfl
theorem fn_60 : IsFn PP 60 := ⟨_, Tryz.func60, by kernel_rfl, by kernel_rfl⟩
theorem fn_39 : IsFn PP 39 := ⟨_, Tryz.func39, by kernel_rfl, by kernel_rfl⟩
theorem fo_37_2 : fieldOff PP 37 2 = some 6 := by kernel_rfl
theorem ag_29 : aggT PP 29 = some 5 := by kernel_rfl
theorem sz_29 : sizeT PP 29 = some 5 := by kernel_rfl
theorem fo_37_3 : fieldOff PP 37 3 = some 11 := by kernel_rfl
theorem fo_31_0 : fieldOff PP 31 0 = some 0 := by kernel_rfl
theorem sc_22 : scalT PP 22 = true := by kernel_rfl
theorem fo_37_4 : fieldOff PP 37 4 = some 13 := by kernel_rfl
theorem fo_32_0 : fieldOff PP 32 0 = some 0 := by kernel_rfl
theorem fn_61 : IsFn PP 61 := ⟨_, Tryz.func61, by kernel_rfl, by kernel_rfl⟩
theorem sz_22 : sizeT PP 22 = some 1 := by kernel_rfl
theorem fo_31_1 : fieldOff PP 31 1 = some 1 := by kernel_rfl
theorem fo_32_1 : fieldOff PP 32 1 = some 1 := by kernel_rfl
theorem fo_37_0 : fieldOff PP 37 0 = some 0 := by kernel_rfl
theorem sc_9 : scalT PP 9 = true := by kernel_rfl
theorem fn_89 : IsFn PP 89 := ⟨_, Tryz.func89, by kernel_rfl, by kernel_rfl⟩
theorem po_29_0 : placeOf PP 29 0 = some (0, 2) := by kernel_rfl
theorem pl_29 : (placesT PP 29).isSome = true := by kernel_rfl
theorem z_29 : zA PP 29 = some [(ANil), (ANil), (ANil), (AInt .i64 0), (ANil)] := by kernel_rfl
theorem fn_88 : IsFn PP 88 := ⟨_, Tryz.func88, by kernel_rfl, by kernel_rfl⟩
theorem po_31_1 : placeOf PP 31 1 = some (1, 1) := by kernel_rfl
theorem po_31_0 : placeOf PP 31 0 = some (0, 1) := by kernel_rfl
theorem pl_31 : (placesT PP 31).isSome = true := by kernel_rfl
theorem z_31 : zA PP 31 = some [(ANil), (ANil)] := by kernel_rfl
theorem po_32_1 : placeOf PP 32 1 = some (1, 1) := by kernel_rfl
theorem po_32_0 : placeOf PP 32 0 = some (0, 1) := by kernel_rfl
theorem pl_32 : (placesT PP 32).isSome = true := by kernel_rfl
theorem z_32 : zA PP 32 = some [(ANil), (ANil)] := by kernel_rfl
theorem fo_37_5 : fieldOff PP 37 5 = some 15 := by kernel_rfl
theorem sc_4 : scalT PP 4 = true := by kernel_rfl
theorem po_35_0 : placeOf PP 35 0 = some (0, 1) := by kernel_rfl
theorem pl_35 : (placesT PP 35).isSome = true := by kernel_rfl
theorem z_35 : zA PP 35 = some [(AInt .i64 0), (ANil), (ANil), (ANil), (ANil), (ANil), (ANil), (AInt .i64 0), (ANil)] := by kernel_rfl
theorem po_37_6 : placeOf PP 37 6 = some (16, 9) := by kernel_rfl
theorem po_37_5 : placeOf PP 37 5 = some (15, 1) := by kernel_rfl
theorem po_37_4 : placeOf PP 37 4 = some (13, 2) := by kernel_rfl
theorem po_37_3 : placeOf PP 37 3 = some (11, 2) := by kernel_rfl
theorem po_37_2 : placeOf PP 37 2 = some (6, 5) := by kernel_rfl
theorem po_37_1 : placeOf PP 37 1 = some (1, 5) := by kernel_rfl
theorem po_37_0 : placeOf PP 37 0 = some (0, 1) := by kernel_rfl
theorem ut_22 : PP.underlying 22 = some (.slice 3) := by kernel_rfl
theorem ap_22 : appT PP 22 = some (3, 1, 8) := by kernel_rfl
theorem z_25 : zA PP 25 = some [(ANil), (ANil)] := by kernel_rfl
theorem fo_25_0 : fieldOff PP 25 0 = some 0 := by kernel_rfl
theorem fo_25_1 : fieldOff PP 25 1 = some 1 := by kernel_rfl
theorem sc_23 : scalT PP 23 = true := by kernel_rfl
theorem fn_147 : IsFn PP 147 := ⟨_, Tryz.func147, by kernel_rfl, by kernel_rfl⟩
theorem po_25_1 : placeOf PP 25 1 = some (1, 1) := by kernel_rfl
theorem po_25_0 : placeOf PP 25 0 = some (0, 1) := by kernel_rfl
theorem pl_25 : (placesT PP 25).isSome = true := by kernel_rfl
theorem sz_25 : sizeT PP 25 = some 2 := by kernel_rfl
theorem ut_23 : PP.underlying 23 = some (.slice 135) := by kernel_rfl
theorem el_23 : elemT PP 23 = some (135, 3) := by kernel_rfl
theorem ap_23 : appT PP 23 = some (135, 3, 24) := by kernel_rfl
theorem fn_25 : IsFn PP 25 := ⟨_, Tryz.func25, by kernel_rfl, by kernel_rfl⟩
theorem fn_111 : IsFn PP 111 := ⟨_, Tryz.func111, by kernel_rfl, by kernel_rfl⟩
theorem fn_67 : IsFn PP 67 := ⟨_, Tryz.func67, by kernel_rfl, by kernel_rfl⟩
theorem fn_68 : IsFn PP 68 := ⟨_, Tryz.func68, by kernel_rfl, by kernel_rfl⟩
theorem fn_69 : IsFn PP 69 := ⟨_, Tryz.func69, by kernel_rfl, by kernel_rfl⟩
theorem fn_70 : IsFn PP 70 := ⟨_, Tryz.func70, by kernel_rfl, by kernel_rfl⟩
theorem fn_71 : IsFn PP 71 := ⟨_, Tryz.func71, by kernel_rfl, by kernel_rfl⟩
theorem fn_62 : IsFn PP 62 := ⟨_, Tryz.func62, by kernel_rfl, by kernel_rfl⟩
theorem fo_37_6 : fieldOff PP 37 6 = some 16 := by kernel_rfl
theorem ag_35 : aggT PP 35 = some 9 := by kernel_rfl
theorem fn_72 : IsFn PP 72 := ⟨_, Tryz.func72, by kernel_rfl, by kernel_rfl⟩
theorem fn_113 : IsFn PP 113 := ⟨_, Tryz.func113, by kernel_rfl, by kernel_rfl⟩
theorem fn_80 : IsFn PP 80 := ⟨_, Tryz.func80, by kernel_rfl, by kernel_rfl⟩
theorem fn_114 : IsFn PP 114 := ⟨_, Tryz.func114, by kernel_rfl, by kernel_rfl⟩
theorem fn_142 : IsFn PP 142 := ⟨_, Tryz.func142, by kernel_rfl, by kernel_rfl⟩
theorem sc_3 : scalT PP 3 = true := by kernel_rfl
theorem fo_59_0 : fieldOff PP 59 0 = some 0 := by kernel_rfl
theorem sc_56 : scalT PP 56 = true := by kernel_rfl
theorem el_56 : elemT PP 56 = some (106, 4) := by kernel_rfl
theorem fo_106_2 : fieldOff PP 106 2 = some 2 := by kernel_rfl
theorem ag_135 : aggT PP 135 = some 3 := by kernel_rfl
theorem z_135 : zA PP 135 = some [(AInt .i64 0), (AInt .i64 0), (AInt .i64 0)] := by kernel_rfl
theorem sz_135 : sizeT PP 135 = some 3 := by kernel_rfl
theorem fo_135_0 : fieldOff PP 135 0 = some 0 := by kernel_rfl
theorem fo_135_1 : fieldOff PP 135 1 = some 1 := by kernel_rfl
theorem fo_135_2 : fieldOff PP 135 2 = some 2 := by kernel_rfl
theorem fn_115 : IsFn PP 115 := ⟨_, Tryz.func115, by kernel_rfl, by kernel_rfl⟩
theorem zr_3_2 : zR PP 3 2 = some [(AInt .i64 0), (AInt .i64 0)] := by kernel_rfl
theorem fn_155 : IsFn PP 155 := ⟨_, Tryz.func155, by kernel_rfl, by kernel_rfl⟩
theorem fo_59_1 : fieldOff PP 59 1 = some 1 := by kernel_rfl
theorem sc_57 : scalT PP 57 = true := by kernel_rfl
theorem il_57 : isSlice PP 57 = true := by kernel_rfl
theorem el_57 : elemT PP 57 = some (111, 7) := by kernel_rfl
theorem fo_111_1 : fieldOff PP 111 1 = some 1 := by kernel_rfl
theorem fn_156 : IsFn PP 156 := ⟨_, Tryz.func156, by kernel_rfl, by kernel_rfl⟩
theorem fo_111_2 : fieldOff PP 111 2 = some 2 := by kernel_rfl
theorem fn_202 : IsFn PP 202 := ⟨_, Tryz.func202, by kernel_rfl, by kernel_rfl⟩
theorem il_56 : isSlice PP 56 = true := by kernel_rfl
theorem ag_106 : aggT PP 106 = some 4 := by kernel_rfl
theorem z_106 : zA PP 106 = some [(AStr (ByteArray.mk #[])), (AInt .i64 0), (ABool false), (ANil)] := by kernel_rfl
theorem sz_106 : sizeT PP 106 = some 4 := by kernel_rfl
theorem fn_124 : IsFn PP 124 := ⟨_, Tryz.func124, by kernel_rfl, by kernel_rfl⟩
theorem fo_106_0 : fieldOff PP 106 0 = some 0 := by kernel_rfl
theorem ag_111 : aggT PP 111 = some 7 := by kernel_rfl
theorem z_111 : zA PP 111 = some [(AStr (ByteArray.mk #[])), (AInt .i64 0), (AInt .i64 0), (AInt .i64 0), (AInt .i64 0), (AInt .i64 0), (AInt .i64 0)] := by kernel_rfl
theorem sz_111 : sizeT PP 111 = some 7 := by kernel_rfl
theorem fn_125 : IsFn PP 125 := ⟨_, Tryz.func125, by kernel_rfl, by kernel_rfl⟩
theorem fo_111_0 : fieldOff PP 111 0 = some 0 := by kernel_rfl
theorem fn_173 : IsFn PP 173 := ⟨_, Tryz.func173, by kernel_rfl, by kernel_rfl⟩
theorem fn_172 : IsFn PP 172 := ⟨_, Tryz.func172, by kernel_rfl, by kernel_rfl⟩
theorem fo_106_1 : fieldOff PP 106 1 = some 1 := by kernel_rfl
theorem fo_106_3 : fieldOff PP 106 3 = some 3 := by kernel_rfl
theorem sc_104 : scalT PP 104 = true := by kernel_rfl
theorem il_104 : isSlice PP 104 = true := by kernel_rfl
theorem fn_174 : IsFn PP 174 := ⟨_, Tryz.func174, by kernel_rfl, by kernel_rfl⟩
theorem el_104 : elemT PP 104 = some (109, 4) := by kernel_rfl
theorem ag_109 : aggT PP 109 = some 4 := by kernel_rfl
theorem fn_175 : IsFn PP 175 := ⟨_, Tryz.func175, by kernel_rfl, by kernel_rfl⟩
theorem po_185_1 : placeOf PP 185 1 = some (1, 1) := by kernel_rfl
theorem po_185_0 : placeOf PP 185 0 = some (0, 1) := by kernel_rfl
theorem pl_185 : (placesT PP 185).isSome = true := by kernel_rfl
theorem z_185 : zA PP 185 = some [(AInt .i64 0), (AStr (ByteArray.mk #[])), (AInt .i64 0)] := by kernel_rfl
theorem fn_126 : IsFn PP 126 := ⟨_, Tryz.func126, by kernel_rfl, by kernel_rfl⟩
theorem fo_185_1 : fieldOff PP 185 1 = some 1 := by kernel_rfl
theorem fo_185_0 : fieldOff PP 185 0 = some 0 := by kernel_rfl
theorem fn_180 : IsFn PP 180 := ⟨_, Tryz.func180, by kernel_rfl, by kernel_rfl⟩
theorem is_9 : isStr PP 9 = true := by kernel_rfl
theorem ut_9 : PP.underlying 9 = some (.string) := by kernel_rfl
theorem fn_233 : IsFn PP 233 := ⟨_, Tryz.func233, by kernel_rfl, by kernel_rfl⟩
theorem fn_235 : IsFn PP 235 := ⟨_, Tryz.func235, by kernel_rfl, by kernel_rfl⟩
theorem fn_234 : IsFn PP 234 := ⟨_, Tryz.func234, by kernel_rfl, by kernel_rfl⟩
theorem fn_236 : IsFn PP 236 := ⟨_, Tryz.func236, by kernel_rfl, by kernel_rfl⟩
theorem fn_228 : IsFn PP 228 := ⟨_, Tryz.func228, by kernel_rfl, by kernel_rfl⟩
theorem ap_104 : appT PP 104 = some (109, 4, 56) := by kernel_rfl
theorem fo_109_0 : fieldOff PP 109 0 = some 0 := by kernel_rfl
theorem fn_230 : IsFn PP 230 := ⟨_, Tryz.func230, by kernel_rfl, by kernel_rfl⟩
theorem fn_229 : IsFn PP 229 := ⟨_, Tryz.func229, by kernel_rfl, by kernel_rfl⟩
theorem fo_109_3 : fieldOff PP 109 3 = some 3 := by kernel_rfl
theorem sc_107 : scalT PP 107 = true := by kernel_rfl
theorem fn_231 : IsFn PP 231 := ⟨_, Tryz.func231, by kernel_rfl, by kernel_rfl⟩
theorem fo_109_1 : fieldOff PP 109 1 = some 1 := by kernel_rfl
theorem fo_109_2 : fieldOff PP 109 2 = some 2 := by kernel_rfl
theorem il_107 : isSlice PP 107 = true := by kernel_rfl
theorem fn_264 : IsFn PP 264 := ⟨_, Tryz.func264, by kernel_rfl, by kernel_rfl⟩
theorem el_107 : elemT PP 107 = some (9, 1) := by kernel_rfl
theorem fn_265 : IsFn PP 265 := ⟨_, Tryz.func265, by kernel_rfl, by kernel_rfl⟩
theorem fn_279 : IsFn PP 279 := ⟨_, Tryz.func279, by kernel_rfl, by kernel_rfl⟩
theorem fn_176 : IsFn PP 176 := ⟨_, Tryz.func176, by kernel_rfl, by kernel_rfl⟩
theorem fn_178 : IsFn PP 178 := ⟨_, Tryz.func178, by kernel_rfl, by kernel_rfl⟩
theorem fn_177 : IsFn PP 177 := ⟨_, Tryz.func177, by kernel_rfl, by kernel_rfl⟩
theorem fo_111_3 : fieldOff PP 111 3 = some 3 := by kernel_rfl
theorem fo_111_4 : fieldOff PP 111 4 = some 4 := by kernel_rfl
theorem fn_179 : IsFn PP 179 := ⟨_, Tryz.func179, by kernel_rfl, by kernel_rfl⟩
theorem fo_111_5 : fieldOff PP 111 5 = some 5 := by kernel_rfl
theorem fo_111_6 : fieldOff PP 111 6 = some 6 := by kernel_rfl
theorem fn_232 : IsFn PP 232 := ⟨_, Tryz.func232, by kernel_rfl, by kernel_rfl⟩
theorem fn_203 : IsFn PP 203 := ⟨_, Tryz.func203, by kernel_rfl, by kernel_rfl⟩
theorem fn_154 : IsFn PP 154 := ⟨_, Tryz.func154, by kernel_rfl, by kernel_rfl⟩
theorem fn_117 : IsFn PP 117 := ⟨_, Tryz.func117, by kernel_rfl, by kernel_rfl⟩
theorem fn_249 : IsFn PP 249 := ⟨_, Tryz.func249, by kernel_rfl, by kernel_rfl⟩
theorem sz_3 : sizeT PP 3 = some 1 := by kernel_rfl
theorem fn_112 : IsFn PP 112 := ⟨_, Tryz.func112, by kernel_rfl, by kernel_rfl⟩
theorem il_23 : isSlice PP 23 = true := by kernel_rfl
theorem fn_36 : IsFn PP 36 := ⟨_, Tryz.func36, by kernel_rfl, by kernel_rfl⟩
theorem fn_127 : IsFn PP 127 := ⟨_, Tryz.func127, by kernel_rfl, by kernel_rfl⟩
theorem fn_128 : IsFn PP 128 := ⟨_, Tryz.func128, by kernel_rfl, by kernel_rfl⟩
theorem fn_83 : IsFn PP 83 := ⟨_, Tryz.func83, by kernel_rfl, by kernel_rfl⟩
theorem fo_29_2 : fieldOff PP 29 2 = some 3 := by kernel_rfl
theorem fn_129 : IsFn PP 129 := ⟨_, Tryz.func129, by kernel_rfl, by kernel_rfl⟩
theorem fo_29_1 : fieldOff PP 29 1 = some 2 := by kernel_rfl
theorem sc_26 : scalT PP 26 = true := by kernel_rfl
theorem il_26 : isSlice PP 26 = true := by kernel_rfl
theorem fo_29_3 : fieldOff PP 29 3 = some 4 := by kernel_rfl
theorem sc_27 : scalT PP 27 = true := by kernel_rfl
theorem il_27 : isSlice PP 27 = true := by kernel_rfl
theorem ap_170 : appT PP 170 = some (4, 1, 1) := by kernel_rfl
theorem z_4 : zA PP 4 = some [(ABool false)] := by kernel_rfl
theorem el_26 : elemT PP 26 = some (156, 4) := by kernel_rfl
theorem ag_156 : aggT PP 156 = some 4 := by kernel_rfl
theorem z_156 : zA PP 156 = some [(AInt .i64 0), (AInt .i64 0), (AInt .i64 0), (AInt .i64 0)] := by kernel_rfl
theorem sz_156 : sizeT PP 156 = some 4 := by kernel_rfl
theorem fn_131 : IsFn PP 131 := ⟨_, Tryz.func131, by kernel_rfl, by kernel_rfl⟩
theorem fn_132 : IsFn PP 132 := ⟨_, Tryz.func132, by kernel_rfl, by kernel_rfl⟩
theorem fn_81 : IsFn PP 81 := ⟨_, Tryz.func81, by kernel_rfl, by kernel_rfl⟩
theorem fn_84 : IsFn PP 84 := ⟨_, Tryz.func84, by kernel_rfl, by kernel_rfl⟩
theorem fn_82 : IsFn PP 82 := ⟨_, Tryz.func82, by kernel_rfl, by kernel_rfl⟩
theorem fn_143 : IsFn PP 143 := ⟨_, Tryz.func143, by kernel_rfl, by kernel_rfl⟩
theorem fn_85 : IsFn PP 85 := ⟨_, Tryz.func85, by kernel_rfl, by kernel_rfl⟩
theorem el_27 : elemT PP 27 = some (158, 5) := by kernel_rfl
theorem ag_158 : aggT PP 158 = some 5 := by kernel_rfl
theorem z_158 : zA PP 158 = some [(AInt .i64 0), (AInt .i64 0), (AInt .i64 0), (AInt .i64 0), (AInt .i64 0)] := by kernel_rfl
theorem sz_158 : sizeT PP 158 = some 5 := by kernel_rfl
theorem fn_183 : IsFn PP 183 := ⟨_, Tryz.func183, by kernel_rfl, by kernel_rfl⟩
theorem il_170 : isSlice PP 170 = true := by kernel_rfl
theorem el_170 : elemT PP 170 = some (4, 1) := by kernel_rfl
theorem ut_4 : PP.underlying 4 = some (.bool) := by kernel_rfl
theorem fn_133 : IsFn PP 133 := ⟨_, Tryz.func133, by kernel_rfl, by kernel_rfl⟩
theorem fn_184 : IsFn PP 184 := ⟨_, Tryz.func184, by kernel_rfl, by kernel_rfl⟩
theorem fn_185 : IsFn PP 185 := ⟨_, Tryz.func185, by kernel_rfl, by kernel_rfl⟩
theorem ag_31 : aggT PP 31 = some 2 := by kernel_rfl
theorem fn_37 : IsFn PP 37 := ⟨_, Tryz.func37, by kernel_rfl, by kernel_rfl⟩
theorem sz_32 : sizeT PP 32 = some 2 := by kernel_rfl
theorem ag_32 : aggT PP 32 = some 2 := by kernel_rfl
theorem fn_38 : IsFn PP 38 := ⟨_, Tryz.func38, by kernel_rfl, by kernel_rfl⟩
theorem fn_135 : IsFn PP 135 := ⟨_, Tryz.func135, by kernel_rfl, by kernel_rfl⟩
theorem fn_86 : IsFn PP 86 := ⟨_, Tryz.func86, by kernel_rfl, by kernel_rfl⟩
theorem fn_87 : IsFn PP 87 := ⟨_, Tryz.func87, by kernel_rfl, by kernel_rfl⟩
theorem zr_135_1 : zR PP 135 1 = some [(AInt .i64 0), (AInt .i64 0), (AInt .i64 0)] := by kernel_rfl
theorem sz_23 : sizeT PP 23 = some 1 := by kernel_rfl
theorem fn_144 : IsFn PP 144 := ⟨_, Tryz.func144, by kernel_rfl, by kernel_rfl⟩
theorem fn_197 : IsFn PP 197 := ⟨_, Tryz.func197, by kernel_rfl, by kernel_rfl⟩
theorem fn_198 : IsFn PP 198 := ⟨_, Tryz.func198, by kernel_rfl, by kernel_rfl⟩
theorem us_3 : (PP.underlying 3).isSome = true := by kernel_rfl
theorem ut_201 : PP.underlying 201 = some (.int .u64) := by kernel_rfl
theorem us_201 : (PP.underlying 201).isSome = true := by kernel_rfl
theorem ut_3 : PP.underlying 3 = some (.int .i64) := by kernel_rfl
theorem fn_145 : IsFn PP 145 := ⟨_, Tryz.func145, by kernel_rfl, by kernel_rfl⟩
theorem fn_146 : IsFn PP 146 := ⟨_, Tryz.func146, by kernel_rfl, by kernel_rfl⟩
theorem fn_199 : IsFn PP 199 := ⟨_, Tryz.func199, by kernel_rfl, by kernel_rfl⟩
theorem fn_188 : IsFn PP 188 := ⟨_, Tryz.func188, by kernel_rfl, by kernel_rfl⟩
theorem fn_116 : IsFn PP 116 := ⟨_, Tryz.func116, by kernel_rfl, by kernel_rfl⟩
theorem fn_161 : IsFn PP 161 := ⟨_, Tryz.func161, by kernel_rfl, by kernel_rfl⟩
theorem fn_158 : IsFn PP 158 := ⟨_, Tryz.func158, by kernel_rfl, by kernel_rfl⟩
theorem fn_157 : IsFn PP 157 := ⟨_, Tryz.func157, by kernel_rfl, by kernel_rfl⟩
theorem fn_204 : IsFn PP 204 := ⟨_, Tryz.func204, by kernel_rfl, by kernel_rfl⟩
theorem fn_213 : IsFn PP 213 := ⟨_, Tryz.func213, by kernel_rfl, by kernel_rfl⟩
theorem us_52 : (PP.underlying 52).isSome = true := by kernel_rfl
theorem ut_5 : PP.underlying 5 = some (.int .u8) := by kernel_rfl
theorem us_5 : (PP.underlying 5).isSome = true := by kernel_rfl
theorem fn_136 : IsFn PP 136 := ⟨_, Tryz.func136, by kernel_rfl, by kernel_rfl⟩
theorem fn_137 : IsFn PP 137 := ⟨_, Tryz.func137, by kernel_rfl, by kernel_rfl⟩
theorem fn_189 : IsFn PP 189 := ⟨_, Tryz.func189, by kernel_rfl, by kernel_rfl⟩
theorem fn_190 : IsFn PP 190 := ⟨_, Tryz.func190, by kernel_rfl, by kernel_rfl⟩
theorem fo_35_1 : fieldOff PP 35 1 = some 1 := by kernel_rfl
theorem sc_33 : scalT PP 33 = true := by kernel_rfl
theorem il_33 : isSlice PP 33 = true := by kernel_rfl
theorem fo_35_0 : fieldOff PP 35 0 = some 0 := by kernel_rfl
theorem fn_243 : IsFn PP 243 := ⟨_, Tryz.func243, by kernel_rfl, by kernel_rfl⟩
theorem fn_245 : IsFn PP 245 := ⟨_, Tryz.func245, by kernel_rfl, by kernel_rfl⟩
theorem fn_244 : IsFn PP 244 := ⟨_, Tryz.func244, by kernel_rfl, by kernel_rfl⟩
theorem fo_35_3 : fieldOff PP 35 3 = some 4 := by kernel_rfl
theorem fo_35_2 : fieldOff PP 35 2 = some 2 := by kernel_rfl
theorem fn_268 : IsFn PP 268 := ⟨_, Tryz.func268, by kernel_rfl, by kernel_rfl⟩
theorem el_33 : elemT PP 33 = some (35, 9) := by kernel_rfl
theorem sz_35 : sizeT PP 35 = some 9 := by kernel_rfl
theorem po_109_2 : placeOf PP 109 2 = some (2, 1) := by kernel_rfl
theorem po_109_1 : placeOf PP 109 1 = some (1, 1) := by kernel_rfl
theorem po_109_0 : placeOf PP 109 0 = some (0, 1) := by kernel_rfl
theorem pl_109 : (placesT PP 109).isSome = true := by kernel_rfl
theorem z_109 : zA PP 109 = some [(AStr (ByteArray.mk #[])), (AInt .i64 0), (AInt .i64 0), (ANil)] := by kernel_rfl
theorem zr_109_1 : zR PP 109 1 = some [(AStr (ByteArray.mk #[])), (AInt .i64 0), (AInt .i64 0), (ANil)] := by kernel_rfl
theorem po_106_3 : placeOf PP 106 3 = some (3, 1) := by kernel_rfl
theorem po_106_2 : placeOf PP 106 2 = some (2, 1) := by kernel_rfl
theorem po_106_1 : placeOf PP 106 1 = some (1, 1) := by kernel_rfl
theorem po_106_0 : placeOf PP 106 0 = some (0, 1) := by kernel_rfl
theorem pl_106 : (placesT PP 106).isSome = true := by kernel_rfl
theorem zr_9_2 : zR PP 9 2 = some [(AStr (ByteArray.mk #[])), (AStr (ByteArray.mk #[]))] := by kernel_rfl
theorem po_109_3 : placeOf PP 109 3 = some (3, 1) := by kernel_rfl
theorem zr_106_4 : zR PP 106 4 = some [(AStr (ByteArray.mk #[])), (AInt .i64 0), (ABool false), (ANil), (AStr (ByteArray.mk #[])), (AInt .i64 0), (ABool false), (ANil), (AStr (ByteArray.mk #[])), (AInt .i64 0), (ABool false), (ANil), (AStr (ByteArray.mk #[])), (AInt .i64 0), (ABool false), (ANil)] := by kernel_rfl
theorem po_111_6 : placeOf PP 111 6 = some (6, 1) := by kernel_rfl
theorem po_111_5 : placeOf PP 111 5 = some (5, 1) := by kernel_rfl
theorem po_111_4 : placeOf PP 111 4 = some (4, 1) := by kernel_rfl
theorem po_111_2 : placeOf PP 111 2 = some (2, 1) := by kernel_rfl
theorem po_111_1 : placeOf PP 111 1 = some (1, 1) := by kernel_rfl
theorem po_111_0 : placeOf PP 111 0 = some (0, 1) := by kernel_rfl
theorem pl_111 : (placesT PP 111).isSome = true := by kernel_rfl
theorem zr_111_2 : zR PP 111 2 = some [(AStr (ByteArray.mk #[])), (AInt .i64 0), (AInt .i64 0), (AInt .i64 0), (AInt .i64 0), (AInt .i64 0), (AInt .i64 0), (AStr (ByteArray.mk #[])), (AInt .i64 0), (AInt .i64 0), (AInt .i64 0), (AInt .i64 0), (AInt .i64 0), (AInt .i64 0)] := by kernel_rfl
theorem po_59_1 : placeOf PP 59 1 = some (1, 1) := by kernel_rfl
theorem po_59_0 : placeOf PP 59 0 = some (0, 1) := by kernel_rfl
theorem pl_59 : (placesT PP 59).isSome = true := by kernel_rfl
theorem po_135_2 : placeOf PP 135 2 = some (2, 1) := by kernel_rfl
theorem po_135_1 : placeOf PP 135 1 = some (1, 1) := by kernel_rfl
theorem pl_135 : (placesT PP 135).isSome = true := by kernel_rfl
theorem zr_3_3 : zR PP 3 3 = some [(AInt .i64 0), (AInt .i64 0), (AInt .i64 0)] := by kernel_rfl
theorem zr_135_2 : zR PP 135 2 = some [(AInt .i64 0), (AInt .i64 0), (AInt .i64 0), (AInt .i64 0), (AInt .i64 0), (AInt .i64 0)] := by kernel_rfl
theorem fn_47 : IsFn PP 47 := ⟨_, Tryz.func47, by kernel_rfl, by kernel_rfl⟩
theorem fn_48 : IsFn PP 48 := ⟨_, Tryz.func48, by kernel_rfl, by kernel_rfl⟩
theorem fn_49 : IsFn PP 49 := ⟨_, Tryz.func49, by kernel_rfl, by kernel_rfl⟩
theorem fn_98 : IsFn PP 98 := ⟨_, Tryz.func98, by kernel_rfl, by kernel_rfl⟩
theorem fn_99 : IsFn PP 99 := ⟨_, Tryz.func99, by kernel_rfl, by kernel_rfl⟩
theorem fn_100 : IsFn PP 100 := ⟨_, Tryz.func100, by kernel_rfl, by kernel_rfl⟩
theorem fn_101 : IsFn PP 101 := ⟨_, Tryz.func101, by kernel_rfl, by kernel_rfl⟩
theorem fl_135 : flatI PP 9 135 = some 3 := by kernel_rfl
theorem st_135 : isStructT PP 135 = true := by kernel_rfl
theorem eg_135 : PP.eqGuardType PP.depth 135 = false := by kernel_rfl
theorem fl_156 : flatI PP 9 156 = some 4 := by kernel_rfl
theorem st_156 : isStructT PP 156 = true := by kernel_rfl
theorem eg_156 : PP.eqGuardType PP.depth 156 = false := by kernel_rfl
theorem fl_158 : flatI PP 9 158 = some 5 := by kernel_rfl
theorem st_158 : isStructT PP 158 = true := by kernel_rfl
theorem eg_158 : PP.eqGuardType PP.depth 158 = false := by kernel_rfl
theorem fn_102 : IsFn PP 102 := ⟨_, Tryz.func102, by kernel_rfl, by kernel_rfl⟩
theorem il_44 : isSlice PP 44 = true := by kernel_rfl
theorem pl_103 : (placesT PP 103).isSome = true := by kernel_rfl
theorem z_103 : zA PP 103 = some [(AInt .u8 0), (AInt .u8 0)] := by kernel_rfl
theorem sz_103 : sizeT PP 103 = some 2 := by kernel_rfl
theorem el_44 : elemT PP 44 = some (103, 2) := by kernel_rfl
theorem ag_103 : aggT PP 103 = some 2 := by kernel_rfl
theorem ar_103 : arrT PP 103 = some (2, 1) := by kernel_rfl
theorem sc_5 : scalT PP 5 = true := by kernel_rfl
theorem sz_104 : sizeT PP 104 = some 1 := by kernel_rfl
theorem zr_106_1 : zR PP 106 1 = some [(AStr (ByteArray.mk #[])), (AInt .i64 0), (ABool false), (ANil)] := by kernel_rfl
theorem ap_56 : appT PP 56 = some (106, 4, 56) := by kernel_rfl
theorem sz_56 : sizeT PP 56 = some 1 := by kernel_rfl
theorem zr_111_1 : zR PP 111 1 = some [(AStr (ByteArray.mk #[])), (AInt .i64 0), (AInt .i64 0), (AInt .i64 0), (AInt .i64 0), (AInt .i64 0), (AInt .i64 0)] := by kernel_rfl
theorem ap_57 : appT PP 57 = some (111, 7, 64) := by kernel_rfl
theorem sz_57 : sizeT PP 57 = some 1 := by kernel_rfl
theorem fo_55_0 : fieldOff PP 55 0 = some 0 := by kernel_rfl
theorem ag_51 : aggT PP 51 = some 4 := by kernel_rfl
theorem fn_50 : IsFn PP 50 := ⟨_, Tryz.func50, by kernel_rfl, by kernel_rfl⟩
theorem fo_55_6 : fieldOff PP 55 6 = some 9 := by kernel_rfl
theorem fo_55_1 : fieldOff PP 55 1 = some 4 := by kernel_rfl
theorem sc_52 : scalT PP 52 = true := by kernel_rfl
theorem fn_51 : IsFn PP 51 := ⟨_, Tryz.func51, by kernel_rfl, by kernel_rfl⟩
theorem fn_52 : IsFn PP 52 := ⟨_, Tryz.func52, by kernel_rfl, by kernel_rfl⟩
theorem fn_53 : IsFn PP 53 := ⟨_, Tryz.func53, by kernel_rfl, by kernel_rfl⟩
theorem fo_55_8 : fieldOff PP 55 8 = some 14 := by kernel_rfl
theorem sc_45 : scalT PP 45 = true := by kernel_rfl
theorem fn_54 : IsFn PP 54 := ⟨_, Tryz.func54, by kernel_rfl, by kernel_rfl⟩
theorem po_29_2 : placeOf PP 29 2 = some (3, 1) := by kernel_rfl
theorem fn_55 : IsFn PP 55 := ⟨_, Tryz.func55, by kernel_rfl, by kernel_rfl⟩
theorem fo_55_4 : fieldOff PP 55 4 = some 7 := by kernel_rfl
theorem sc_46 : scalT PP 46 = true := by kernel_rfl
theorem fn_56 : IsFn PP 56 := ⟨_, Tryz.func56, by kernel_rfl, by kernel_rfl⟩
theorem sz_26 : sizeT PP 26 = some 1 := by kernel_rfl
theorem fo_55_7 : fieldOff PP 55 7 = some 10 := by kernel_rfl
theorem ag_53 : aggT PP 53 = some 4 := by kernel_rfl
theorem fn_57 : IsFn PP 57 := ⟨_, Tryz.func57, by kernel_rfl, by kernel_rfl⟩
theorem fo_55_5 : fieldOff PP 55 5 = some 8 := by kernel_rfl
theorem fn_42 : IsFn PP 42 := ⟨_, Tryz.func42, by kernel_rfl, by kernel_rfl⟩
theorem fn_94 : IsFn PP 94 := ⟨_, Tryz.func94, by kernel_rfl, by kernel_rfl⟩
theorem fo_51_0 : fieldOff PP 51 0 = some 0 := by kernel_rfl
theorem ag_48 : aggT PP 48 = some 2 := by kernel_rfl
theorem fn_27 : IsFn PP 27 := ⟨_, Tryz.func27, by kernel_rfl, by kernel_rfl⟩
theorem fn_103 : IsFn PP 103 := ⟨_, Tryz.func103, by kernel_rfl, by kernel_rfl⟩
theorem po_166_1 : placeOf PP 166 1 = some (1, 1) := by kernel_rfl
theorem po_166_0 : placeOf PP 166 0 = some (0, 1) := by kernel_rfl
theorem pl_166 : (placesT PP 166).isSome = true := by kernel_rfl
theorem z_166 : zA PP 166 = some [(AInt .i64 0), (AInt .i64 0)] := by kernel_rfl
theorem el_163 : elemT PP 163 = some (166, 2) := by kernel_rfl
theorem zr_166_1 : zR PP 166 1 = some [(AInt .i64 0), (AInt .i64 0)] := by kernel_rfl
theorem ap_163 : appT PP 163 = some (166, 2, 16) := by kernel_rfl
theorem fo_51_1 : fieldOff PP 51 1 = some 2 := by kernel_rfl
theorem il_46 : isSlice PP 46 = true := by kernel_rfl
theorem il_163 : isSlice PP 163 = true := by kernel_rfl
theorem el_46 : elemT PP 46 = some (132, 3) := by kernel_rfl
theorem ag_132 : aggT PP 132 = some 3 := by kernel_rfl
theorem z_132 : zA PP 132 = some [(AInt .u8 0), (AInt .u8 0), (AInt .u8 0)] := by kernel_rfl
theorem sz_132 : sizeT PP 132 = some 3 := by kernel_rfl
theorem ar_132 : arrT PP 132 = some (3, 1) := by kernel_rfl
theorem ag_166 : aggT PP 166 = some 2 := by kernel_rfl
theorem sz_166 : sizeT PP 166 = some 2 := by kernel_rfl
theorem ar_166 : arrT PP 166 = some (2, 1) := by kernel_rfl
theorem po_154_1 : placeOf PP 154 1 = some (1, 1) := by kernel_rfl
theorem po_154_0 : placeOf PP 154 0 = some (0, 1) := by kernel_rfl
theorem pl_154 : (placesT PP 154).isSome = true := by kernel_rfl
theorem z_154 : zA PP 154 = some [(AInt .i64 0), (AInt .i64 0)] := by kernel_rfl
theorem po_156_2 : placeOf PP 156 2 = some (2, 2) := by kernel_rfl
theorem po_156_1 : placeOf PP 156 1 = some (1, 1) := by kernel_rfl
theorem po_156_0 : placeOf PP 156 0 = some (0, 1) := by kernel_rfl
theorem pl_156 : (placesT PP 156).isSome = true := by kernel_rfl
theorem fo_156_2 : fieldOff PP 156 2 = some 2 := by kernel_rfl
theorem fo_154_0 : fieldOff PP 154 0 = some 0 := by kernel_rfl
theorem sz_154 : sizeT PP 154 = some 2 := by kernel_rfl
theorem zr_156_1 : zR PP 156 1 = some [(AInt .i64 0), (AInt .i64 0), (AInt .i64 0), (AInt .i64 0)] := by kernel_rfl
theorem ap_26 : appT PP 26 = some (156, 4, 32) := by kernel_rfl
theorem fo_51_2 : fieldOff PP 51 2 = some 3 := by kernel_rfl
theorem sc_49 : scalT PP 49 = true := by kernel_rfl
theorem il_49 : isSlice PP 49 = true := by kernel_rfl
theorem el_49 : elemT PP 49 = some (169, 4) := by kernel_rfl
theorem ag_169 : aggT PP 169 = some 4 := by kernel_rfl
theorem fn_104 : IsFn PP 104 := ⟨_, Tryz.func104, by kernel_rfl, by kernel_rfl⟩
theorem zr_158_1 : zR PP 158 1 = some [(AInt .i64 0), (AInt .i64 0), (AInt .i64 0), (AInt .i64 0), (AInt .i64 0)] := by kernel_rfl
theorem ap_27 : appT PP 27 = some (158, 5, 40) := by kernel_rfl
theorem sz_27 : sizeT PP 27 = some 1 := by kernel_rfl
theorem fo_48_0 : fieldOff PP 48 0 = some 0 := by kernel_rfl
theorem il_45 : isSlice PP 45 = true := by kernel_rfl
theorem el_45 : elemT PP 45 = some (5, 1) := by kernel_rfl
theorem fo_48_1 : fieldOff PP 48 1 = some 1 := by kernel_rfl
theorem fn_74 : IsFn PP 74 := ⟨_, Tryz.func74, by kernel_rfl, by kernel_rfl⟩
theorem po_135_0 : placeOf PP 135 0 = some (0, 1) := by kernel_rfl
theorem fn_138 : IsFn PP 138 := ⟨_, Tryz.func138, by kernel_rfl, by kernel_rfl⟩
theorem fn_149 : IsFn PP 149 := ⟨_, Tryz.func149, by kernel_rfl, by kernel_rfl⟩
theorem fn_150 : IsFn PP 150 := ⟨_, Tryz.func150, by kernel_rfl, by kernel_rfl⟩
theorem sz_109 : sizeT PP 109 = some 4 := by kernel_rfl
theorem ap_107 : appT PP 107 = some (9, 1, 16) := by kernel_rfl
theorem sz_107 : sizeT PP 107 = some 1 := by kernel_rfl
theorem fn_139 : IsFn PP 139 := ⟨_, Tryz.func139, by kernel_rfl, by kernel_rfl⟩
theorem fn_153 : IsFn PP 153 := ⟨_, Tryz.func153, by kernel_rfl, by kernel_rfl⟩
theorem fn_192 : IsFn PP 192 := ⟨_, Tryz.func192, by kernel_rfl, by kernel_rfl⟩
theorem fn_193 : IsFn PP 193 := ⟨_, Tryz.func193, by kernel_rfl, by kernel_rfl⟩
theorem fn_164 : IsFn PP 164 := ⟨_, Tryz.func164, by kernel_rfl, by kernel_rfl⟩
theorem fn_247 : IsFn PP 247 := ⟨_, Tryz.func247, by kernel_rfl, by kernel_rfl⟩
theorem fn_219 : IsFn PP 219 := ⟨_, Tryz.func219, by kernel_rfl, by kernel_rfl⟩
theorem ag_185 : aggT PP 185 = some 3 := by kernel_rfl
theorem fn_256 : IsFn PP 256 := ⟨_, Tryz.func256, by kernel_rfl, by kernel_rfl⟩
theorem fn_257 : IsFn PP 257 := ⟨_, Tryz.func257, by kernel_rfl, by kernel_rfl⟩
theorem sz_185 : sizeT PP 185 = some 3 := by kernel_rfl
theorem fn_271 : IsFn PP 271 := ⟨_, Tryz.func271, by kernel_rfl, by kernel_rfl⟩
theorem fn_272 : IsFn PP 272 := ⟨_, Tryz.func272, by kernel_rfl, by kernel_rfl⟩
theorem fn_273 : IsFn PP 273 := ⟨_, Tryz.func273, by kernel_rfl, by kernel_rfl⟩
theorem fn_269 : IsFn PP 269 := ⟨_, Tryz.func269, by kernel_rfl, by kernel_rfl⟩
theorem fn_248 : IsFn PP 248 := ⟨_, Tryz.func248, by kernel_rfl, by kernel_rfl⟩
theorem ar_169 : arrT PP 169 = some (4, 1) := by kernel_rfl
theorem sc_168 : scalT PP 168 = true := by kernel_rfl
theorem us_168 : (PP.underlying 168).isSome = true := by kernel_rfl
theorem fn_151 : IsFn PP 151 := ⟨_, Tryz.func151, by kernel_rfl, by kernel_rfl⟩
theorem po_158_2 : placeOf PP 158 2 = some (3, 2) := by kernel_rfl
theorem po_158_1 : placeOf PP 158 1 = some (1, 2) := by kernel_rfl
theorem po_158_0 : placeOf PP 158 0 = some (0, 1) := by kernel_rfl
theorem pl_158 : (placesT PP 158).isSome = true := by kernel_rfl
theorem sz_4 : sizeT PP 4 = some 1 := by kernel_rfl
theorem fn_105 : IsFn PP 105 := ⟨_, Tryz.func105, by kernel_rfl, by kernel_rfl⟩
theorem sz_31 : sizeT PP 31 = some 2 := by kernel_rfl
theorem fn_152 : IsFn PP 152 := ⟨_, Tryz.func152, by kernel_rfl, by kernel_rfl⟩
theorem fn_92 : IsFn PP 92 := ⟨_, Tryz.func92, by kernel_rfl, by kernel_rfl⟩
theorem fn_106 : IsFn PP 106 := ⟨_, Tryz.func106, by kernel_rfl, by kernel_rfl⟩
theorem fn_40 : IsFn PP 40 := ⟨_, Tryz.func40, by kernel_rfl, by kernel_rfl⟩
theorem fn_148 : IsFn PP 148 := ⟨_, Tryz.func148, by kernel_rfl, by kernel_rfl⟩
theorem fn_90 : IsFn PP 90 := ⟨_, Tryz.func90, by kernel_rfl, by kernel_rfl⟩
theorem fn_91 : IsFn PP 91 := ⟨_, Tryz.func91, by kernel_rfl, by kernel_rfl⟩
theorem fn_200 : IsFn PP 200 := ⟨_, Tryz.func200, by kernel_rfl, by kernel_rfl⟩
theorem fn_201 : IsFn PP 201 := ⟨_, Tryz.func201, by kernel_rfl, by kernel_rfl⟩
theorem fn_107 : IsFn PP 107 := ⟨_, Tryz.func107, by kernel_rfl, by kernel_rfl⟩
theorem fo_55_2 : fieldOff PP 55 2 = some 5 := by kernel_rfl
theorem fo_55_3 : fieldOff PP 55 3 = some 6 := by kernel_rfl
theorem fn_108 : IsFn PP 108 := ⟨_, Tryz.func108, by kernel_rfl, by kernel_rfl⟩
theorem fn_109 : IsFn PP 109 := ⟨_, Tryz.func109, by kernel_rfl, by kernel_rfl⟩
theorem fn_110 : IsFn PP 110 := ⟨_, Tryz.func110, by kernel_rfl, by kernel_rfl⟩
theorem fo_156_0 : fieldOff PP 156 0 = some 0 := by kernel_rfl
theorem fo_156_1 : fieldOff PP 156 1 = some 1 := by kernel_rfl
theorem ar_53 : arrT PP 53 = some (4, 1) := by kernel_rfl
theorem fn_26 : IsFn PP 26 := ⟨_, Tryz.func26, by kernel_rfl, by kernel_rfl⟩
theorem zr_35_1 : zR PP 35 1 = some [(AInt .i64 0), (ANil), (ANil), (ANil), (ANil), (ANil), (ANil), (AInt .i64 0), (ANil)] := by kernel_rfl
theorem po_35_1 : placeOf PP 35 1 = some (1, 1) := by kernel_rfl
theorem po_35_3 : placeOf PP 35 3 = some (4, 5) := by kernel_rfl
theorem po_35_2 : placeOf PP 35 2 = some (2, 2) := by kernel_rfl
theorem fn_73 : IsFn PP 73 := ⟨_, Tryz.func73, by kernel_rfl, by kernel_rfl⟩
end Go.Proofs.YtpnfoacmgfklaaaGreat.K
