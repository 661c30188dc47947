/- Facts on the loaded program's types and functions, each a closed one. -/
import Derived.KernelRfl
import Derived.Test.YtngimdmkomkeoaaGreatProg
import Derived.Test.YtngimdmkomkeoaaGreatCoreT
set_option linter.unusedVariables false
set_option linter.unusedSimpArgs false
namespace Go.Proofs.YtngimdmkomkeoaaGreat.K
open Go.RowKit Go.Proofs
noncomputable abbrev PP : Program := Tryz.prog
theorem mixed_ : Tryz.prog.follows .mixedOrders = true := by kernel_rfl
theorem fn_9 : z26 PP 9 := ⟨_, Tryz.func9, by kernel_rfl, by kernel_rfl⟩
theorem z2j : aggT PP 25 = some 2 := by kernel_rfl
theorem ag_41 : aggT PP 41 = some 25 := by kernel_rfl
theorem el_44 : elemT PP 44 = some (41, 25) := by kernel_rfl
theorem fn_10 : z26 PP 10 := ⟨_, Tryz.func10, by kernel_rfl, by kernel_rfl⟩
theorem fn_11 : z26 PP 11 := ⟨_, Tryz.func11, by kernel_rfl, by kernel_rfl⟩
theorem fn_12 : z26 PP 12 := ⟨_, Tryz.func12, by kernel_rfl, by kernel_rfl⟩
theorem fn_13 : z26 PP 13 := ⟨_, Tryz.func13, by kernel_rfl, by kernel_rfl⟩
theorem fn_28 : z26 PP 28 := ⟨_, Tryz.func28, by kernel_rfl, by kernel_rfl⟩
theorem fn_29 : z26 PP 29 := ⟨_, Tryz.func29, by kernel_rfl, by kernel_rfl⟩
theorem z_25 : zA PP 25 = some [(z1m), (z1m)] := by kernel_rfl
theorem sz_25 : sizeT PP 25 = some 2 := by kernel_rfl
theorem fn_14 : z26 PP 14 := ⟨_, Tryz.func14, by kernel_rfl, by kernel_rfl⟩
theorem fn_17 : z26 PP 17 := ⟨_, Tryz.func17, by kernel_rfl, by kernel_rfl⟩
theorem z1w : elemT PP 26 = some (3, 1) := by kernel_rfl
theorem zr_3_6 : zR PP 3 6 = some [(z1z .i64 0), (z1z .i64 0), (z1z .i64 0), (z1z .i64 0), (z1z .i64 0), (z1z .i64 0)] := by kernel_rfl
theorem zr_3_2 : zR PP 3 2 = some [(z1z .i64 0), (z1z .i64 0)] := by kernel_rfl
theorem fn_31 : z26 PP 31 := ⟨_, Tryz.func31, by kernel_rfl, by kernel_rfl⟩
theorem fn_32 : z26 PP 32 := ⟨_, Tryz.func32, by kernel_rfl, by kernel_rfl⟩
theorem z2i : z1q PP 25 0 = some 0 := by kernel_rfl
theorem z4z : scalT PP 22 = true := by kernel_rfl
theorem z9h : z6p PP 22 = true := by kernel_rfl
theorem z3w : z1q PP 25 1 = some 1 := by kernel_rfl
theorem sc_23 : scalT PP 23 = true := by kernel_rfl
theorem il_23 : z6p PP 23 = true := by kernel_rfl
theorem el_22 : elemT PP 22 = some (97, 4) := by kernel_rfl
theorem ag_97 : aggT PP 97 = some 4 := by kernel_rfl
theorem z_97 : zA PP 97 = some [(z1h (ByteArray.mk #[])), (z1z .i64 0), (z00 false), (z1m)] := by kernel_rfl
theorem sz_97 : sizeT PP 97 = some 4 := by kernel_rfl
theorem fn_60 : z26 PP 60 := ⟨_, Tryz.func60, by kernel_rfl, by kernel_rfl⟩
theorem fo_97_0 : z1q PP 97 0 = some 0 := by kernel_rfl
theorem sc_9 : scalT PP 9 = true := by kernel_rfl
theorem el_23 : elemT PP 23 = some (102, 7) := by kernel_rfl
theorem ag_102 : aggT PP 102 = some 7 := by kernel_rfl
theorem z_102 : zA PP 102 = some [(z1h (ByteArray.mk #[])), (z1z .i64 0), (z1z .i64 0), (z1z .i64 0), (z1z .i64 0), (z1z .i64 0), (z1z .i64 0)] := by kernel_rfl
theorem sz_102 : sizeT PP 102 = some 7 := by kernel_rfl
theorem fn_61 : z26 PP 61 := ⟨_, Tryz.func61, by kernel_rfl, by kernel_rfl⟩
theorem fo_102_0 : z1q PP 102 0 = some 0 := by kernel_rfl
theorem fn_94 : z26 PP 94 := ⟨_, Tryz.func94, by kernel_rfl, by kernel_rfl⟩
theorem fn_96 : z26 PP 96 := ⟨_, Tryz.func96, by kernel_rfl, by kernel_rfl⟩
theorem fn_95 : z26 PP 95 := ⟨_, Tryz.func95, by kernel_rfl, by kernel_rfl⟩
theorem fo_97_1 : z1q PP 97 1 = some 1 := by kernel_rfl
theorem z1t : scalT PP 3 = true := by kernel_rfl
theorem fo_97_3 : z1q PP 97 3 = some 3 := by kernel_rfl
theorem sc_95 : scalT PP 95 = true := by kernel_rfl
theorem il_95 : z6p PP 95 = true := by kernel_rfl
theorem fn_97 : z26 PP 97 := ⟨_, Tryz.func97, by kernel_rfl, by kernel_rfl⟩
theorem el_95 : elemT PP 95 = some (100, 4) := by kernel_rfl
theorem ag_100 : aggT PP 100 = some 4 := by kernel_rfl
theorem fn_98 : z26 PP 98 := ⟨_, Tryz.func98, by kernel_rfl, by kernel_rfl⟩
theorem po_151_1 : z2z PP 151 1 = some (1, 1) := by kernel_rfl
theorem po_151_0 : z2z PP 151 0 = some (0, 1) := by kernel_rfl
theorem pl_151 : (z6o PP 151).isSome = true := by kernel_rfl
theorem z_151 : zA PP 151 = some [(z1z .i64 0), (z1h (ByteArray.mk #[])), (z1z .i64 0)] := by kernel_rfl
theorem fn_145 : z26 PP 145 := ⟨_, Tryz.func145, by kernel_rfl, by kernel_rfl⟩
theorem fo_151_1 : z1q PP 151 1 = some 1 := by kernel_rfl
theorem fo_151_0 : z1q PP 151 0 = some 0 := by kernel_rfl
theorem fn_181 : z26 PP 181 := ⟨_, Tryz.func181, by kernel_rfl, by kernel_rfl⟩
theorem is_9 : isStr PP 9 = true := by kernel_rfl
theorem ut_9 : PP.underlying 9 = some (.string) := by kernel_rfl
theorem fn_215 : z26 PP 215 := ⟨_, Tryz.func215, by kernel_rfl, by kernel_rfl⟩
theorem fn_217 : z26 PP 217 := ⟨_, Tryz.func217, by kernel_rfl, by kernel_rfl⟩
theorem fn_216 : z26 PP 216 := ⟨_, Tryz.func216, by kernel_rfl, by kernel_rfl⟩
theorem fn_218 : z26 PP 218 := ⟨_, Tryz.func218, by kernel_rfl, by kernel_rfl⟩
theorem fn_219 : z26 PP 219 := ⟨_, Tryz.func219, by kernel_rfl, by kernel_rfl⟩
theorem fn_220 : z26 PP 220 := ⟨_, Tryz.func220, by kernel_rfl, by kernel_rfl⟩
theorem fn_221 : z26 PP 221 := ⟨_, Tryz.func221, by kernel_rfl, by kernel_rfl⟩
theorem fn_237 : z26 PP 237 := ⟨_, Tryz.func237, by kernel_rfl, by kernel_rfl⟩
theorem el_98 : elemT PP 98 = some (9, 1) := by kernel_rfl
theorem zr_9_5 : zR PP 9 5 = some [(z1h (ByteArray.mk #[])), (z1h (ByteArray.mk #[])), (z1h (ByteArray.mk #[])), (z1h (ByteArray.mk #[])), (z1h (ByteArray.mk #[]))] := by kernel_rfl
theorem fn_183 : z26 PP 183 := ⟨_, Tryz.func183, by kernel_rfl, by kernel_rfl⟩
theorem fn_222 : z26 PP 222 := ⟨_, Tryz.func222, by kernel_rfl, by kernel_rfl⟩
theorem il_98 : z6p PP 98 = true := by kernel_rfl
theorem fn_238 : z26 PP 238 := ⟨_, Tryz.func238, by kernel_rfl, by kernel_rfl⟩
theorem ib_251 : IsIxByte PP 251 := ⟨_, Tryz.func251, by kernel_rfl, rfl, by kernel_rfl, by kernel_rfl⟩
theorem fn_146 : z26 PP 146 := ⟨_, Tryz.func146, by kernel_rfl, by kernel_rfl⟩
theorem ap_95 : appT PP 95 = some (100, 4, 56) := by kernel_rfl
theorem fo_100_0 : z1q PP 100 0 = some 0 := by kernel_rfl
theorem fn_148 : z26 PP 148 := ⟨_, Tryz.func148, by kernel_rfl, by kernel_rfl⟩
theorem fn_147 : z26 PP 147 := ⟨_, Tryz.func147, by kernel_rfl, by kernel_rfl⟩
theorem z7t : z1q PP 100 3 = some 3 := by kernel_rfl
theorem sc_98 : scalT PP 98 = true := by kernel_rfl
theorem fn_149 : z26 PP 149 := ⟨_, Tryz.func149, by kernel_rfl, by kernel_rfl⟩
theorem fo_100_1 : z1q PP 100 1 = some 1 := by kernel_rfl
theorem fo_100_2 : z1q PP 100 2 = some 2 := by kernel_rfl
theorem fn_182 : z26 PP 182 := ⟨_, Tryz.func182, by kernel_rfl, by kernel_rfl⟩
theorem fn_99 : z26 PP 99 := ⟨_, Tryz.func99, by kernel_rfl, by kernel_rfl⟩
theorem fn_101 : z26 PP 101 := ⟨_, Tryz.func101, by kernel_rfl, by kernel_rfl⟩
theorem fn_100 : z26 PP 100 := ⟨_, Tryz.func100, by kernel_rfl, by kernel_rfl⟩
theorem fo_102_1 : z1q PP 102 1 = some 1 := by kernel_rfl
theorem fo_102_2 : z1q PP 102 2 = some 2 := by kernel_rfl
theorem fo_102_3 : z1q PP 102 3 = some 3 := by kernel_rfl
theorem fo_102_4 : z1q PP 102 4 = some 4 := by kernel_rfl
theorem fn_102 : z26 PP 102 := ⟨_, Tryz.func102, by kernel_rfl, by kernel_rfl⟩
theorem fo_102_5 : z1q PP 102 5 = some 5 := by kernel_rfl
theorem fo_102_6 : z1q PP 102 6 = some 6 := by kernel_rfl
theorem fn_150 : z26 PP 150 := ⟨_, Tryz.func150, by kernel_rfl, by kernel_rfl⟩
theorem fn_62 : z26 PP 62 := ⟨_, Tryz.func62, by kernel_rfl, by kernel_rfl⟩
theorem fn_63 : z26 PP 63 := ⟨_, Tryz.func63, by kernel_rfl, by kernel_rfl⟩
theorem ap_26 : appT PP 26 = some (3, 1, 8) := by kernel_rfl
theorem z_3 : zA PP 3 = some [(z1z .i64 0)] := by kernel_rfl
theorem z2m : z6p PP 26 = true := by kernel_rfl
theorem z6q : z1q PP 41 1 = some 1 := by kernel_rfl
theorem z27 : z1q PP 33 0 = some 0 := by kernel_rfl
theorem z29 : z1q PP 29 0 = some 0 := by kernel_rfl
theorem z1s : scalT PP 26 = true := by kernel_rfl
theorem fn_64 : z26 PP 64 := ⟨_, Tryz.func64, by kernel_rfl, by kernel_rfl⟩
theorem sz_3 : sizeT PP 3 = some 1 := by kernel_rfl
theorem z2r : z1q PP 29 1 = some 1 := by kernel_rfl
theorem z5o : scalT PP 27 = true := by kernel_rfl
theorem el_27 : elemT PP 27 = some (77, 3) := by kernel_rfl
theorem z77 : z1q PP 77 0 = some 0 := by kernel_rfl
theorem z3e : z1q PP 41 2 = some 6 := by kernel_rfl
theorem fn_103 : z26 PP 103 := ⟨_, Tryz.func103, by kernel_rfl, by kernel_rfl⟩
theorem fn_104 : z26 PP 104 := ⟨_, Tryz.func104, by kernel_rfl, by kernel_rfl⟩
theorem fo_41_0 : z1q PP 41 0 = some 0 := by kernel_rfl
theorem ag_33 : aggT PP 33 = some 5 := by kernel_rfl
theorem fn_151 : z26 PP 151 := ⟨_, Tryz.func151, by kernel_rfl, by kernel_rfl⟩
theorem fn_152 : z26 PP 152 := ⟨_, Tryz.func152, by kernel_rfl, by kernel_rfl⟩
theorem fn_153 : z26 PP 153 := ⟨_, Tryz.func153, by kernel_rfl, by kernel_rfl⟩
theorem fn_105 : z26 PP 105 := ⟨_, Tryz.func105, by kernel_rfl, by kernel_rfl⟩
theorem z4d : aggT PP 29 = some 2 := by kernel_rfl
theorem fn_154 : z26 PP 154 := ⟨_, Tryz.func154, by kernel_rfl, by kernel_rfl⟩
theorem fo_41_6 : z1q PP 41 6 = some 16 := by kernel_rfl
theorem zaj : aggT PP 39 = some 9 := by kernel_rfl
theorem fn_155 : z26 PP 155 := ⟨_, Tryz.func155, by kernel_rfl, by kernel_rfl⟩
theorem fo_41_4 : z1q PP 41 4 = some 13 := by kernel_rfl
theorem z6a : z1q PP 36 0 = some 0 := by kernel_rfl
theorem fn_156 : z26 PP 156 := ⟨_, Tryz.func156, by kernel_rfl, by kernel_rfl⟩
theorem z92 : z1q PP 36 1 = some 1 := by kernel_rfl
theorem il_27 : z6p PP 27 = true := by kernel_rfl
theorem fn_158 : z26 PP 158 := ⟨_, Tryz.func158, by kernel_rfl, by kernel_rfl⟩
theorem zr_3_1 : zR PP 3 1 = some [(z1z .i64 0)] := by kernel_rfl
theorem fn_199 : z26 PP 199 := ⟨_, Tryz.func199, by kernel_rfl, by kernel_rfl⟩
theorem fn_86 : z26 PP 86 := ⟨_, Tryz.func86, by kernel_rfl, by kernel_rfl⟩
theorem fn_184 : z26 PP 184 := ⟨_, Tryz.func184, by kernel_rfl, by kernel_rfl⟩
theorem fn_82 : z26 PP 82 := ⟨_, Tryz.func82, by kernel_rfl, by kernel_rfl⟩
theorem fn_185 : z26 PP 185 := ⟨_, Tryz.func185, by kernel_rfl, by kernel_rfl⟩
theorem fn_137 : z26 PP 137 := ⟨_, Tryz.func137, by kernel_rfl, by kernel_rfl⟩
theorem z4q : z1q PP 33 2 = some 3 := by kernel_rfl
theorem fn_186 : z26 PP 186 := ⟨_, Tryz.func186, by kernel_rfl, by kernel_rfl⟩
theorem z55 : z1q PP 33 1 = some 2 := by kernel_rfl
theorem sc_30 : scalT PP 30 = true := by kernel_rfl
theorem il_30 : z6p PP 30 = true := by kernel_rfl
theorem fo_33_3 : z1q PP 33 3 = some 4 := by kernel_rfl
theorem sc_31 : scalT PP 31 = true := by kernel_rfl
theorem il_31 : z6p PP 31 = true := by kernel_rfl
theorem ap_213 : appT PP 213 = some (4, 1, 1) := by kernel_rfl
theorem z_4 : zA PP 4 = some [(z00 false)] := by kernel_rfl
theorem el_30 : elemT PP 30 = some (156, 4) := by kernel_rfl
theorem ag_156 : aggT PP 156 = some 4 := by kernel_rfl
theorem z_156 : zA PP 156 = some [(z1z .i64 0), (z1z .i64 0), (z1z .i64 0), (z1z .i64 0)] := by kernel_rfl
theorem sz_156 : sizeT PP 156 = some 4 := by kernel_rfl
theorem fn_187 : z26 PP 187 := ⟨_, Tryz.func187, by kernel_rfl, by kernel_rfl⟩
theorem z_100 : zA PP 100 = some [(z1h (ByteArray.mk #[])), (z1z .i64 0), (z1z .i64 0), (z1m)] := by kernel_rfl
theorem sz_100 : sizeT PP 100 = some 4 := by kernel_rfl
theorem z6b : z1q PP 156 2 = some 2 := by kernel_rfl
theorem z5l : z1q PP 154 0 = some 0 := by kernel_rfl
theorem fo_154_1 : z1q PP 154 1 = some 1 := by kernel_rfl
theorem el_213 : elemT PP 213 = some (4, 1) := by kernel_rfl
theorem sz_4 : sizeT PP 4 = some 1 := by kernel_rfl
theorem fn_188 : z26 PP 188 := ⟨_, Tryz.func188, by kernel_rfl, by kernel_rfl⟩
theorem fn_189 : z26 PP 189 := ⟨_, Tryz.func189, by kernel_rfl, by kernel_rfl⟩
theorem fn_126 : z26 PP 126 := ⟨_, Tryz.func126, by kernel_rfl, by kernel_rfl⟩
theorem fn_135 : z26 PP 135 := ⟨_, Tryz.func135, by kernel_rfl, by kernel_rfl⟩
theorem fn_138 : z26 PP 138 := ⟨_, Tryz.func138, by kernel_rfl, by kernel_rfl⟩
theorem fn_136 : z26 PP 136 := ⟨_, Tryz.func136, by kernel_rfl, by kernel_rfl⟩
theorem fn_180 : z26 PP 180 := ⟨_, Tryz.func180, by kernel_rfl, by kernel_rfl⟩
theorem ag_77 : aggT PP 77 = some 3 := by kernel_rfl
theorem fn_139 : z26 PP 139 := ⟨_, Tryz.func139, by kernel_rfl, by kernel_rfl⟩
theorem zaf : z1q PP 77 1 = some 1 := by kernel_rfl
theorem zae : z1q PP 77 2 = some 2 := by kernel_rfl
theorem z7s : z1q PP 156 0 = some 0 := by kernel_rfl
theorem pl_100 : (z6o PP 100).isSome = true := by kernel_rfl
theorem fn_223 : z26 PP 223 := ⟨_, Tryz.func223, by kernel_rfl, by kernel_rfl⟩
theorem zag : z1q PP 156 1 = some 1 := by kernel_rfl
theorem fn_106 : z26 PP 106 := ⟨_, Tryz.func106, by kernel_rfl, by kernel_rfl⟩
theorem fn_239 : z26 PP 239 := ⟨_, Tryz.func239, by kernel_rfl, by kernel_rfl⟩
theorem sz_98 : sizeT PP 98 = some 1 := by kernel_rfl
theorem fn_157 : z26 PP 157 := ⟨_, Tryz.func157, by kernel_rfl, by kernel_rfl⟩
theorem ut_98 : PP.underlying 98 = some (.slice 9) := by kernel_rfl
theorem ap_98 : appT PP 98 = some (9, 1, 16) := by kernel_rfl
theorem el_31 : elemT PP 31 = some (200, 5) := by kernel_rfl
theorem ag_200 : aggT PP 200 = some 5 := by kernel_rfl
theorem z_200 : zA PP 200 = some [(z1z .i64 0), (z1z .i64 0), (z1z .i64 0), (z1z .i64 0), (z1z .i64 0)] := by kernel_rfl
theorem sz_200 : sizeT PP 200 = some 5 := by kernel_rfl
theorem fn_224 : z26 PP 224 := ⟨_, Tryz.func224, by kernel_rfl, by kernel_rfl⟩
theorem fo_200_0 : z1q PP 200 0 = some 0 := by kernel_rfl
theorem fo_200_1 : z1q PP 200 1 = some 1 := by kernel_rfl
theorem ag_154 : aggT PP 154 = some 2 := by kernel_rfl
theorem fn_240 : z26 PP 240 := ⟨_, Tryz.func240, by kernel_rfl, by kernel_rfl⟩
theorem fo_200_2 : z1q PP 200 2 = some 3 := by kernel_rfl
theorem fn_225 : z26 PP 225 := ⟨_, Tryz.func225, by kernel_rfl, by kernel_rfl⟩
theorem il_213 : z6p PP 213 = true := by kernel_rfl
theorem sc_4 : scalT PP 4 = true := by kernel_rfl
theorem ut_4 : PP.underlying 4 = some (.bool) := by kernel_rfl
theorem fn_190 : z26 PP 190 := ⟨_, Tryz.func190, by kernel_rfl, by kernel_rfl⟩
theorem fn_191 : z26 PP 191 := ⟨_, Tryz.func191, by kernel_rfl, by kernel_rfl⟩
theorem fn_226 : z26 PP 226 := ⟨_, Tryz.func226, by kernel_rfl, by kernel_rfl⟩
theorem fn_227 : z26 PP 227 := ⟨_, Tryz.func227, by kernel_rfl, by kernel_rfl⟩
theorem z_154 : zA PP 154 = some [(z1z .i64 0), (z1z .i64 0)] := by kernel_rfl
theorem sz_154 : sizeT PP 154 = some 2 := by kernel_rfl
theorem fn_229 : z26 PP 229 := ⟨_, Tryz.func229, by kernel_rfl, by kernel_rfl⟩
theorem fn_228 : z26 PP 228 := ⟨_, Tryz.func228, by kernel_rfl, by kernel_rfl⟩
theorem fn_241 : z26 PP 241 := ⟨_, Tryz.func241, by kernel_rfl, by kernel_rfl⟩
theorem fo_41_3 : z1q PP 41 3 = some 11 := by kernel_rfl
theorem ag_35 : aggT PP 35 = some 2 := by kernel_rfl
theorem fn_192 : z26 PP 192 := ⟨_, Tryz.func192, by kernel_rfl, by kernel_rfl⟩
theorem z_29 : zA PP 29 = some [(z1m), (z1m)] := by kernel_rfl
theorem z_36 : zA PP 36 = some [(z1m), (z1m)] := by kernel_rfl
theorem sz_29 : sizeT PP 29 = some 2 := by kernel_rfl
theorem sz_36 : sizeT PP 36 = some 2 := by kernel_rfl
theorem ag_36 : aggT PP 36 = some 2 := by kernel_rfl
theorem fn_193 : z26 PP 193 := ⟨_, Tryz.func193, by kernel_rfl, by kernel_rfl⟩
theorem fn_194 : z26 PP 194 := ⟨_, Tryz.func194, by kernel_rfl, by kernel_rfl⟩
theorem fn_230 : z26 PP 230 := ⟨_, Tryz.func230, by kernel_rfl, by kernel_rfl⟩
theorem pl_29 : (z6o PP 29).isSome = true := by kernel_rfl
theorem pl_36 : (z6o PP 36).isSome = true := by kernel_rfl
theorem z6r : z1q PP 35 0 = some 0 := by kernel_rfl
theorem sz_26 : sizeT PP 26 = some 1 := by kernel_rfl
theorem fo_35_1 : z1q PP 35 1 = some 1 := by kernel_rfl
theorem z_77 : zA PP 77 = some [(z1z .i64 0), (z1z .i64 0), (z1z .i64 0)] := by kernel_rfl
theorem sz_77 : sizeT PP 77 = some 3 := by kernel_rfl
theorem fn_231 : z26 PP 231 := ⟨_, Tryz.func231, by kernel_rfl, by kernel_rfl⟩
theorem zr_77_1 : zR PP 77 1 = some [(z1z .i64 0), (z1z .i64 0), (z1z .i64 0)] := by kernel_rfl
theorem ap_27 : appT PP 27 = some (77, 3, 24) := by kernel_rfl
theorem sz_27 : sizeT PP 27 = some 1 := by kernel_rfl
theorem fn_20 : z26 PP 20 := ⟨_, Tryz.func20, by kernel_rfl, by kernel_rfl⟩
theorem po_36_1 : z2z PP 36 1 = some (1, 1) := by kernel_rfl
theorem po_36_0 : z2z PP 36 0 = some (0, 1) := by kernel_rfl
theorem ut_26 : PP.underlying 26 = some (.slice 3) := by kernel_rfl
theorem fn_242 : z26 PP 242 := ⟨_, Tryz.func242, by kernel_rfl, by kernel_rfl⟩
theorem fn_252 : z26 PP 252 := ⟨_, Tryz.func252, by kernel_rfl, by kernel_rfl⟩
theorem fn_253 : z26 PP 253 := ⟨_, Tryz.func253, by kernel_rfl, by kernel_rfl⟩
theorem us_3 : (PP.underlying 3).isSome = true := by kernel_rfl
theorem ut_251 : PP.underlying 251 = some (.int .u64) := by kernel_rfl
theorem us_251 : (PP.underlying 251).isSome = true := by kernel_rfl
theorem ut_3 : PP.underlying 3 = some (.int .i64) := by kernel_rfl
theorem fn_243 : z26 PP 243 := ⟨_, Tryz.func243, by kernel_rfl, by kernel_rfl⟩
theorem fn_244 : z26 PP 244 := ⟨_, Tryz.func244, by kernel_rfl, by kernel_rfl⟩
theorem fn_254 : z26 PP 254 := ⟨_, Tryz.func254, by kernel_rfl, by kernel_rfl⟩
theorem fn_232 : z26 PP 232 := ⟨_, Tryz.func232, by kernel_rfl, by kernel_rfl⟩
theorem fn_245 : z26 PP 245 := ⟨_, Tryz.func245, by kernel_rfl, by kernel_rfl⟩
theorem fn_246 : z26 PP 246 := ⟨_, Tryz.func246, by kernel_rfl, by kernel_rfl⟩
theorem fn_195 : z26 PP 195 := ⟨_, Tryz.func195, by kernel_rfl, by kernel_rfl⟩
theorem fn_196 : z26 PP 196 := ⟨_, Tryz.func196, by kernel_rfl, by kernel_rfl⟩
theorem fo_97_2 : z1q PP 97 2 = some 2 := by kernel_rfl
theorem fn_87 : z26 PP 87 := ⟨_, Tryz.func87, by kernel_rfl, by kernel_rfl⟩
theorem fn_107 : z26 PP 107 := ⟨_, Tryz.func107, by kernel_rfl, by kernel_rfl⟩
theorem fn_159 : z26 PP 159 := ⟨_, Tryz.func159, by kernel_rfl, by kernel_rfl⟩
theorem fn_200 : z26 PP 200 := ⟨_, Tryz.func200, by kernel_rfl, by kernel_rfl⟩
theorem fn_197 : z26 PP 197 := ⟨_, Tryz.func197, by kernel_rfl, by kernel_rfl⟩
theorem fn_198 : z26 PP 198 := ⟨_, Tryz.func198, by kernel_rfl, by kernel_rfl⟩
theorem fn_233 : z26 PP 233 := ⟨_, Tryz.func233, by kernel_rfl, by kernel_rfl⟩
theorem fn_234 : z26 PP 234 := ⟨_, Tryz.func234, by kernel_rfl, by kernel_rfl⟩
theorem z81 : z1q PP 39 1 = some 1 := by kernel_rfl
theorem sc_37 : scalT PP 37 = true := by kernel_rfl
theorem il_37 : z6p PP 37 = true := by kernel_rfl
theorem fo_39_0 : z1q PP 39 0 = some 0 := by kernel_rfl
theorem fn_247 : z26 PP 247 := ⟨_, Tryz.func247, by kernel_rfl, by kernel_rfl⟩
theorem fn_249 : z26 PP 249 := ⟨_, Tryz.func249, by kernel_rfl, by kernel_rfl⟩
theorem fn_248 : z26 PP 248 := ⟨_, Tryz.func248, by kernel_rfl, by kernel_rfl⟩
theorem fo_39_3 : z1q PP 39 3 = some 4 := by kernel_rfl
theorem z_33 : zA PP 33 = some [(z1m), (z1m), (z1m), (z1z .i64 0), (z1m)] := by kernel_rfl
theorem sz_33 : sizeT PP 33 = some 5 := by kernel_rfl
theorem fo_39_2 : z1q PP 39 2 = some 2 := by kernel_rfl
theorem fn_257 : z26 PP 257 := ⟨_, Tryz.func257, by kernel_rfl, by kernel_rfl⟩
theorem el_37 : elemT PP 37 = some (39, 9) := by kernel_rfl
theorem z_39 : zA PP 39 = some [(z1z .i64 0), (z1m), (z1m), (z1m), (z1m), (z1m), (z1m), (z1z .i64 0), (z1m)] := by kernel_rfl
theorem sz_39 : sizeT PP 39 = some 9 := by kernel_rfl
theorem fn_235 : z26 PP 235 := ⟨_, Tryz.func235, by kernel_rfl, by kernel_rfl⟩
theorem fn_250 : z26 PP 250 := ⟨_, Tryz.func250, by kernel_rfl, by kernel_rfl⟩
theorem fn_38 : z26 PP 38 := ⟨_, Tryz.func38, by kernel_rfl, by kernel_rfl⟩
theorem z_78 : zA PP 78 = some [(z1m)] := by kernel_rfl
theorem z_26 : zA PP 26 = some [(z1m)] := by kernel_rfl
theorem sz_78 : sizeT PP 78 = some 1 := by kernel_rfl
theorem fn_39 : z26 PP 39 := ⟨_, Tryz.func39, by kernel_rfl, by kernel_rfl⟩
theorem il_44 : z6p PP 44 = true := by kernel_rfl
theorem z_41 : zA PP 41 = some [(z1h (ByteArray.mk #[])), (z1m), (z1m), (z1m), (z1z .i64 0), (z1m), (z1m), (z1m), (z1m), (z1z .i64 0), (z1m), (z1m), (z1m), (z1m), (z1m), (z00 false), (z1z .i64 0), (z1m), (z1m), (z1m), (z1m), (z1m), (z1m), (z1z .i64 0), (z1m)] := by kernel_rfl
theorem sz_41 : sizeT PP 41 = some 25 := by kernel_rfl
theorem el_78 : elemT PP 78 = some (26, 1) := by kernel_rfl
theorem zr_26_1 : zR PP 26 1 = some [(z1m)] := by kernel_rfl
theorem ap_78 : appT PP 78 = some (26, 1, 24) := by kernel_rfl
theorem fn_77 : z26 PP 77 := ⟨_, Tryz.func77, by kernel_rfl, by kernel_rfl⟩
theorem fn_76 : z26 PP 76 := ⟨_, Tryz.func76, by kernel_rfl, by kernel_rfl⟩
theorem fn_125 : z26 PP 125 := ⟨_, Tryz.func125, by kernel_rfl, by kernel_rfl⟩
theorem il_78 : z6p PP 78 = true := by kernel_rfl
theorem z_116 : zA PP 116 = some [(AEq .nilFunc)] := by kernel_rfl
theorem sz_116 : sizeT PP 116 = some 1 := by kernel_rfl
theorem sc_116 : scalT PP 116 = true := by kernel_rfl
theorem fn_78 : z26 PP 78 := ⟨_, Tryz.func78, by kernel_rfl, by kernel_rfl⟩
theorem sc_84 : scalT PP 84 = true := by kernel_rfl
theorem fn_40 : z26 PP 40 := ⟨_, Tryz.func40, by kernel_rfl, by kernel_rfl⟩
theorem sc_78 : scalT PP 78 = true := by kernel_rfl
theorem fn_41 : z26 PP 41 := ⟨_, Tryz.func41, by kernel_rfl, by kernel_rfl⟩
theorem fn_79 : z26 PP 79 := ⟨_, Tryz.func79, by kernel_rfl, by kernel_rfl⟩
theorem fn_80 : z26 PP 80 := ⟨_, Tryz.func80, by kernel_rfl, by kernel_rfl⟩
theorem fn_50 : z26 PP 50 := ⟨_, Tryz.func50, by kernel_rfl, by kernel_rfl⟩
theorem fn_51 : z26 PP 51 := ⟨_, Tryz.func51, by kernel_rfl, by kernel_rfl⟩
theorem fn_84 : z26 PP 84 := ⟨_, Tryz.func84, by kernel_rfl, by kernel_rfl⟩
theorem po_100_2 : z2z PP 100 2 = some (2, 1) := by kernel_rfl
theorem po_100_1 : z2z PP 100 1 = some (1, 1) := by kernel_rfl
theorem po_100_0 : z2z PP 100 0 = some (0, 1) := by kernel_rfl
theorem zr_100_1 : zR PP 100 1 = some [(z1h (ByteArray.mk #[])), (z1z .i64 0), (z1z .i64 0), (z1m)] := by kernel_rfl
theorem po_97_3 : z2z PP 97 3 = some (3, 1) := by kernel_rfl
theorem po_97_2 : z2z PP 97 2 = some (2, 1) := by kernel_rfl
theorem po_97_1 : z2z PP 97 1 = some (1, 1) := by kernel_rfl
theorem po_97_0 : z2z PP 97 0 = some (0, 1) := by kernel_rfl
theorem pl_97 : (z6o PP 97).isSome = true := by kernel_rfl
theorem zr_9_2 : zR PP 9 2 = some [(z1h (ByteArray.mk #[])), (z1h (ByteArray.mk #[]))] := by kernel_rfl
theorem po_100_3 : z2z PP 100 3 = some (3, 1) := by kernel_rfl
theorem zr_97_4 : zR PP 97 4 = some [(z1h (ByteArray.mk #[])), (z1z .i64 0), (z00 false), (z1m), (z1h (ByteArray.mk #[])), (z1z .i64 0), (z00 false), (z1m), (z1h (ByteArray.mk #[])), (z1z .i64 0), (z00 false), (z1m), (z1h (ByteArray.mk #[])), (z1z .i64 0), (z00 false), (z1m)] := by kernel_rfl
theorem po_102_6 : z2z PP 102 6 = some (6, 1) := by kernel_rfl
theorem po_102_5 : z2z PP 102 5 = some (5, 1) := by kernel_rfl
theorem po_102_4 : z2z PP 102 4 = some (4, 1) := by kernel_rfl
theorem po_102_2 : z2z PP 102 2 = some (2, 1) := by kernel_rfl
theorem po_102_1 : z2z PP 102 1 = some (1, 1) := by kernel_rfl
theorem po_102_0 : z2z PP 102 0 = some (0, 1) := by kernel_rfl
theorem pl_102 : (z6o PP 102).isSome = true := by kernel_rfl
theorem zr_102_2 : zR PP 102 2 = some [(z1h (ByteArray.mk #[])), (z1z .i64 0), (z1z .i64 0), (z1z .i64 0), (z1z .i64 0), (z1z .i64 0), (z1z .i64 0), (z1h (ByteArray.mk #[])), (z1z .i64 0), (z1z .i64 0), (z1z .i64 0), (z1z .i64 0), (z1z .i64 0), (z1z .i64 0)] := by kernel_rfl
theorem po_25_1 : z2z PP 25 1 = some (1, 1) := by kernel_rfl
theorem po_25_0 : z2z PP 25 0 = some (0, 1) := by kernel_rfl
theorem pl_25 : (z6o PP 25).isSome = true := by kernel_rfl
theorem zr_3_3 : zR PP 3 3 = some [(z1z .i64 0), (z1z .i64 0), (z1z .i64 0)] := by kernel_rfl
theorem po_77_2 : z2z PP 77 2 = some (2, 1) := by kernel_rfl
theorem po_77_1 : z2z PP 77 1 = some (1, 1) := by kernel_rfl
theorem po_77_0 : z2z PP 77 0 = some (0, 1) := by kernel_rfl
theorem pl_77 : (z6o PP 77).isSome = true := by kernel_rfl
theorem po_29_1 : z2z PP 29 1 = some (1, 1) := by kernel_rfl
theorem po_29_0 : z2z PP 29 0 = some (0, 1) := by kernel_rfl
theorem zr_3_4 : zR PP 3 4 = some [(z1z .i64 0), (z1z .i64 0), (z1z .i64 0), (z1z .i64 0)] := by kernel_rfl
theorem po_35_0 : z2z PP 35 0 = some (0, 1) := by kernel_rfl
theorem pl_35 : (z6o PP 35).isSome = true := by kernel_rfl
theorem z_35 : zA PP 35 = some [(z1m), (z1m)] := by kernel_rfl
theorem sz_35 : sizeT PP 35 = some 2 := by kernel_rfl
theorem fn_58 : z26 PP 58 := ⟨_, Tryz.func58, by kernel_rfl, by kernel_rfl⟩
theorem zr_41_2 : zR PP 41 2 = some [(z1h (ByteArray.mk #[])), (z1m), (z1m), (z1m), (z1z .i64 0), (z1m), (z1m), (z1m), (z1m), (z1z .i64 0), (z1m), (z1m), (z1m), (z1m), (z1m), (z00 false), (z1z .i64 0), (z1m), (z1m), (z1m), (z1m), (z1m), (z1m), (z1z .i64 0), (z1m), (z1h (ByteArray.mk #[])), (z1m), (z1m), (z1m), (z1z .i64 0), (z1m), (z1m), (z1m), (z1m), (z1z .i64 0), (z1m), (z1m), (z1m), (z1m), (z1m), (z00 false), (z1z .i64 0), (z1m), (z1m), (z1m), (z1m), (z1m), (z1m), (z1z .i64 0), (z1m)] := by kernel_rfl
theorem po_33_0 : z2z PP 33 0 = some (0, 2) := by kernel_rfl
theorem pl_33 : (z6o PP 33).isSome = true := by kernel_rfl
theorem po_39_0 : z2z PP 39 0 = some (0, 1) := by kernel_rfl
theorem pl_39 : (z6o PP 39).isSome = true := by kernel_rfl
theorem po_41_6 : z2z PP 41 6 = some (16, 9) := by kernel_rfl
theorem po_41_5 : z2z PP 41 5 = some (15, 1) := by kernel_rfl
theorem po_41_4 : z2z PP 41 4 = some (13, 2) := by kernel_rfl
theorem po_41_3 : z2z PP 41 3 = some (11, 2) := by kernel_rfl
theorem po_41_2 : z2z PP 41 2 = some (6, 5) := by kernel_rfl
theorem po_41_1 : z2z PP 41 1 = some (1, 5) := by kernel_rfl
theorem po_41_0 : z2z PP 41 0 = some (0, 1) := by kernel_rfl
theorem pl_41 : (z6o PP 41).isSome = true := by kernel_rfl
theorem fn_24 : z26 PP 24 := ⟨_, Tryz.func24, by kernel_rfl, by kernel_rfl⟩
theorem fn_30 : z26 PP 30 := ⟨_, Tryz.func30, by kernel_rfl, by kernel_rfl⟩
theorem fn_59 : z26 PP 59 := ⟨_, Tryz.func59, by kernel_rfl, by kernel_rfl⟩
theorem fn_90 : z26 PP 90 := ⟨_, Tryz.func90, by kernel_rfl, by kernel_rfl⟩
theorem fn_91 : z26 PP 91 := ⟨_, Tryz.func91, by kernel_rfl, by kernel_rfl⟩
theorem fn_92 : z26 PP 92 := ⟨_, Tryz.func92, by kernel_rfl, by kernel_rfl⟩
theorem fn_93 : z26 PP 93 := ⟨_, Tryz.func93, by kernel_rfl, by kernel_rfl⟩
theorem fn_25 : z26 PP 25 := ⟨_, Tryz.func25, by kernel_rfl, by kernel_rfl⟩
theorem fn_144 : z26 PP 144 := ⟨_, Tryz.func144, by kernel_rfl, by kernel_rfl⟩
theorem fn_33 : z26 PP 33 := ⟨_, Tryz.func33, by kernel_rfl, by kernel_rfl⟩
theorem fn_34 : z26 PP 34 := ⟨_, Tryz.func34, by kernel_rfl, by kernel_rfl⟩
theorem fn_35 : z26 PP 35 := ⟨_, Tryz.func35, by kernel_rfl, by kernel_rfl⟩
theorem fn_36 : z26 PP 36 := ⟨_, Tryz.func36, by kernel_rfl, by kernel_rfl⟩
theorem fn_37 : z26 PP 37 := ⟨_, Tryz.func37, by kernel_rfl, by kernel_rfl⟩
theorem fn_65 : z26 PP 65 := ⟨_, Tryz.func65, by kernel_rfl, by kernel_rfl⟩
theorem fn_66 : z26 PP 66 := ⟨_, Tryz.func66, by kernel_rfl, by kernel_rfl⟩
theorem fn_67 : z26 PP 67 := ⟨_, Tryz.func67, by kernel_rfl, by kernel_rfl⟩
theorem fn_108 : z26 PP 108 := ⟨_, Tryz.func108, by kernel_rfl, by kernel_rfl⟩
theorem fn_109 : z26 PP 109 := ⟨_, Tryz.func109, by kernel_rfl, by kernel_rfl⟩
theorem fn_110 : z26 PP 110 := ⟨_, Tryz.func110, by kernel_rfl, by kernel_rfl⟩
theorem fn_112 : z26 PP 112 := ⟨_, Tryz.func112, by kernel_rfl, by kernel_rfl⟩
theorem ag_151 : aggT PP 151 = some 3 := by kernel_rfl
theorem fn_161 : z26 PP 161 := ⟨_, Tryz.func161, by kernel_rfl, by kernel_rfl⟩
theorem fn_162 : z26 PP 162 := ⟨_, Tryz.func162, by kernel_rfl, by kernel_rfl⟩
theorem sz_151 : sizeT PP 151 = some 3 := by kernel_rfl
theorem fn_201 : z26 PP 201 := ⟨_, Tryz.func201, by kernel_rfl, by kernel_rfl⟩
theorem fn_202 : z26 PP 202 := ⟨_, Tryz.func202, by kernel_rfl, by kernel_rfl⟩
theorem fn_203 : z26 PP 203 := ⟨_, Tryz.func203, by kernel_rfl, by kernel_rfl⟩
theorem fn_204 : z26 PP 204 := ⟨_, Tryz.func204, by kernel_rfl, by kernel_rfl⟩
theorem fn_205 : z26 PP 205 := ⟨_, Tryz.func205, by kernel_rfl, by kernel_rfl⟩
theorem zr_9_25 : zR PP 9 25 = some [(z1h (ByteArray.mk #[])), (z1h (ByteArray.mk #[])), (z1h (ByteArray.mk #[])), (z1h (ByteArray.mk #[])), (z1h (ByteArray.mk #[])), (z1h (ByteArray.mk #[])), (z1h (ByteArray.mk #[])), (z1h (ByteArray.mk #[])), (z1h (ByteArray.mk #[])), (z1h (ByteArray.mk #[])), (z1h (ByteArray.mk #[])), (z1h (ByteArray.mk #[])), (z1h (ByteArray.mk #[])), (z1h (ByteArray.mk #[])), (z1h (ByteArray.mk #[])), (z1h (ByteArray.mk #[])), (z1h (ByteArray.mk #[])), (z1h (ByteArray.mk #[])), (z1h (ByteArray.mk #[])), (z1h (ByteArray.mk #[])), (z1h (ByteArray.mk #[])), (z1h (ByteArray.mk #[])), (z1h (ByteArray.mk #[])), (z1h (ByteArray.mk #[])), (z1h (ByteArray.mk #[]))] := by kernel_rfl
theorem fn_160 : z26 PP 160 := ⟨_, Tryz.func160, by kernel_rfl, by kernel_rfl⟩
theorem fn_111 : z26 PP 111 := ⟨_, Tryz.func111, by kernel_rfl, by kernel_rfl⟩
theorem fn_68 : z26 PP 68 := ⟨_, Tryz.func68, by kernel_rfl, by kernel_rfl⟩
theorem fn_69 : z26 PP 69 := ⟨_, Tryz.func69, by kernel_rfl, by kernel_rfl⟩
theorem fn_70 : z26 PP 70 := ⟨_, Tryz.func70, by kernel_rfl, by kernel_rfl⟩
theorem fn_71 : z26 PP 71 := ⟨_, Tryz.func71, by kernel_rfl, by kernel_rfl⟩
theorem fn_72 : z26 PP 72 := ⟨_, Tryz.func72, by kernel_rfl, by kernel_rfl⟩
theorem fn_73 : z26 PP 73 := ⟨_, Tryz.func73, by kernel_rfl, by kernel_rfl⟩
theorem fn_74 : z26 PP 74 := ⟨_, Tryz.func74, by kernel_rfl, by kernel_rfl⟩
theorem fn_88 : z26 PP 88 := ⟨_, Tryz.func88, by kernel_rfl, by kernel_rfl⟩
theorem fn_113 : z26 PP 113 := ⟨_, Tryz.func113, by kernel_rfl, by kernel_rfl⟩
theorem fn_114 : z26 PP 114 := ⟨_, Tryz.func114, by kernel_rfl, by kernel_rfl⟩
theorem fn_115 : z26 PP 115 := ⟨_, Tryz.func115, by kernel_rfl, by kernel_rfl⟩
theorem fn_116 : z26 PP 116 := ⟨_, Tryz.func116, by kernel_rfl, by kernel_rfl⟩
theorem fn_117 : z26 PP 117 := ⟨_, Tryz.func117, by kernel_rfl, by kernel_rfl⟩
theorem fn_140 : z26 PP 140 := ⟨_, Tryz.func140, by kernel_rfl, by kernel_rfl⟩
theorem fn_141 : z26 PP 141 := ⟨_, Tryz.func141, by kernel_rfl, by kernel_rfl⟩
theorem fn_163 : z26 PP 163 := ⟨_, Tryz.func163, by kernel_rfl, by kernel_rfl⟩
theorem fn_142 : z26 PP 142 := ⟨_, Tryz.func142, by kernel_rfl, by kernel_rfl⟩
theorem fn_164 : z26 PP 164 := ⟨_, Tryz.func164, by kernel_rfl, by kernel_rfl⟩
theorem fn_206 : z26 PP 206 := ⟨_, Tryz.func206, by kernel_rfl, by kernel_rfl⟩
theorem fn_118 : z26 PP 118 := ⟨_, Tryz.func118, by kernel_rfl, by kernel_rfl⟩
theorem fn_119 : z26 PP 119 := ⟨_, Tryz.func119, by kernel_rfl, by kernel_rfl⟩
theorem fn_120 : z26 PP 120 := ⟨_, Tryz.func120, by kernel_rfl, by kernel_rfl⟩
theorem fn_121 : z26 PP 121 := ⟨_, Tryz.func121, by kernel_rfl, by kernel_rfl⟩
theorem fn_165 : z26 PP 165 := ⟨_, Tryz.func165, by kernel_rfl, by kernel_rfl⟩
theorem fn_207 : z26 PP 207 := ⟨_, Tryz.func207, by kernel_rfl, by kernel_rfl⟩
theorem fn_208 : z26 PP 208 := ⟨_, Tryz.func208, by kernel_rfl, by kernel_rfl⟩
theorem fn_166 : z26 PP 166 := ⟨_, Tryz.func166, by kernel_rfl, by kernel_rfl⟩
theorem fn_122 : z26 PP 122 := ⟨_, Tryz.func122, by kernel_rfl, by kernel_rfl⟩
theorem fn_167 : z26 PP 167 := ⟨_, Tryz.func167, by kernel_rfl, by kernel_rfl⟩
theorem fn_89 : z26 PP 89 := ⟨_, Tryz.func89, by kernel_rfl, by kernel_rfl⟩
theorem fn_143 : z26 PP 143 := ⟨_, Tryz.func143, by kernel_rfl, by kernel_rfl⟩
theorem fn_123 : z26 PP 123 := ⟨_, Tryz.func123, by kernel_rfl, by kernel_rfl⟩
theorem fn_124 : z26 PP 124 := ⟨_, Tryz.func124, by kernel_rfl, by kernel_rfl⟩
theorem fn_168 : z26 PP 168 := ⟨_, Tryz.func168, by kernel_rfl, by kernel_rfl⟩
theorem fn_169 : z26 PP 169 := ⟨_, Tryz.func169, by kernel_rfl, by kernel_rfl⟩
theorem fn_209 : z26 PP 209 := ⟨_, Tryz.func209, by kernel_rfl, by kernel_rfl⟩
theorem fn_236 : z26 PP 236 := ⟨_, Tryz.func236, by kernel_rfl, by kernel_rfl⟩
theorem fn_170 : z26 PP 170 := ⟨_, Tryz.func170, by kernel_rfl, by kernel_rfl⟩
theorem fn_171 : z26 PP 171 := ⟨_, Tryz.func171, by kernel_rfl, by kernel_rfl⟩
theorem fn_210 : z26 PP 210 := ⟨_, Tryz.func210, by kernel_rfl, by kernel_rfl⟩
theorem fn_75 : z26 PP 75 := ⟨_, Tryz.func75, by kernel_rfl, by kernel_rfl⟩
theorem fn_16 : z26 PP 16 := ⟨_, Tryz.func16, by kernel_rfl, by kernel_rfl⟩
theorem fn_42 : z26 PP 42 := ⟨_, Tryz.func42, by kernel_rfl, by kernel_rfl⟩
theorem fn_43 : z26 PP 43 := ⟨_, Tryz.func43, by kernel_rfl, by kernel_rfl⟩
theorem fn_47 : z26 PP 47 := ⟨_, Tryz.func47, by kernel_rfl, by kernel_rfl⟩
theorem fn_46 : z26 PP 46 := ⟨_, Tryz.func46, by kernel_rfl, by kernel_rfl⟩
theorem fn_81 : z26 PP 81 := ⟨_, Tryz.func81, by kernel_rfl, by kernel_rfl⟩
theorem fn_49 : z26 PP 49 := ⟨_, Tryz.func49, by kernel_rfl, by kernel_rfl⟩
theorem fn_83 : z26 PP 83 := ⟨_, Tryz.func83, by kernel_rfl, by kernel_rfl⟩
theorem fn_19 : z26 PP 19 := ⟨_, Tryz.func19, by kernel_rfl, by kernel_rfl⟩
theorem fn_52 : z26 PP 52 := ⟨_, Tryz.func52, by kernel_rfl, by kernel_rfl⟩
theorem ar_52 : arrT PP 52 = some (2, 1) := by kernel_rfl
theorem fn_21 : z26 PP 21 := ⟨_, Tryz.func21, by kernel_rfl, by kernel_rfl⟩
theorem fn_22 : z26 PP 22 := ⟨_, Tryz.func22, by kernel_rfl, by kernel_rfl⟩
theorem fn_53 : z26 PP 53 := ⟨_, Tryz.func53, by kernel_rfl, by kernel_rfl⟩
theorem Fo {Y : Type} {f : FuncId} {fn : Func} {c : Code} {n : Nat} {args : List Asn} {e : Option Y} {y : Y} (rr : Y → Asn) (hf : PP.funcs[f]? = some fn) (hb : fn.body = some c) (hn : fn.ntmps = n) [NKL args] [h2 : NK (rr y)] (hl : Nat.ble args.length n = true) (he : e = some y)
    (h : ∀ X : Cx PP fn n 0 Y, (∀ z η v H, z2h X.c η H → (rr z).p η v → X.Ψ z η v) → J X e some [.code c] (initS args)) : FnP PP f args (rr y) := FnP.of mixed_ hf hb hn rr nk_args h2.nk hl he h
theorem Ko {Y : Type} {f : FuncId} {fn : Func} {c : Code} {n N0 : Nat} {ins : List (Nat × z5b)} {args : List Asn} {e : Option Y} {y : Y} (outs : Y → List (Nat × z5b)) (rr : Y → Asn) (hf : PP.funcs[f]? = some fn) (hb : fn.body = some c) (hn : fn.ntmps = n) (ha : ∀ k, z39 args k → k < N0) (hi : ∀ k x, (k, x) ∈ ins → k < N0 ∧ ∀ j, x.keys j → j < N0) (hl : Nat.ble args.length n = true) (he : e = some y)
    (h : ∀ X : Cx PP fn n N0 Y, (∀ z η v, z2h X.c η (hp (outs z)) → (rr z).p η v → (∀ k, k < N0 → η.ρ k = X.ρ0 k) → X.Ψ z η v) → J X e some [.code c] (initK args ins N0)) : FnK PP f N0 ins args (outs y) (rr y) := FnK.of mixed_ hf hb hn outs rr ha hi hl he h
end Go.Proofs.YtngimdmkomkeoaaGreat.K
