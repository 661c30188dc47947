import Derived.KernelRfl
import Derived.Test.YtngimdmkomkeoaaGreatProg
import Derived.Test.YtngimdmkomkeoaaGreatCoreT
set_option linter.unusedVariables false
set_option linter.unusedSimpArgs false
namespace Go.Proofs.YtngimdmkomkeoaaGreat.K
open Go.RowKit Go.Proofs
noncomputable abbrev PP : Program := Tryz.prog
theorem AO : Tryz.prog.follows .mixedOrders = true := by kernel_rfl
theorem vl : aF PP 9 := fi Tryz.func9
theorem bN : dz PP 25 = some 2 := by kernel_rfl
theorem eA : dz PP 41 = some 25 := by kernel_rfl
theorem kg : dG PP 44 = some (41, 25) := by kernel_rfl
theorem Bz : zR PP 41 1 = some [(am (ByteArray.mk #[])), (af), (af), (af), (aj .i64 0), (af), (af), (af), (af), (aj .i64 0), (af), (af), (af), (af), (af), (aa false), (aj .i64 0), (af), (af), (af), (af), (af), (af), (aj .i64 0), (af)] := by kernel_rfl
theorem fn_11 : aF PP 11 := fi Tryz.func11
theorem vq : aF PP 13 := fi Tryz.func13
theorem fn_28 : aF PP 28 := fi Tryz.func28
theorem fn_29 : aF PP 29 := fi Tryz.func29
theorem jj : zA PP 25 = some [(af), (af)] := by kernel_rfl
theorem ld : dA PP 25 = some 2 := by kernel_rfl
theorem zu : aF PP 14 := fi Tryz.func14
theorem zw : aF PP 17 := fi Tryz.func17
theorem bc : dG PP 26 = some (3, 1) := by kernel_rfl
theorem B1 : zR PP 3 6 = some [(aj .i64 0), (aj .i64 0), (aj .i64 0), (aj .i64 0), (aj .i64 0), (aj .i64 0)] := by kernel_rfl
theorem B0 : zR PP 3 2 = some [(aj .i64 0), (aj .i64 0)] := by kernel_rfl
theorem ox : aF PP 31 := fi Tryz.func31
theorem zx : aF PP 32 := fi Tryz.func32
theorem dk : bV PP 25 0 = some 0 := by kernel_rfl
theorem dl : dD PP 22 = true := by kernel_rfl
theorem ef : ey PP 22 = true := by kernel_rfl
theorem dL : bV PP 25 1 = some 1 := by kernel_rfl
theorem dO : dD PP 23 = true := by kernel_rfl
theorem fe : ey PP 23 = true := by kernel_rfl
theorem ft : dG PP 22 = some (97, 4) := by kernel_rfl
theorem ou : dz PP 97 = some 4 := by kernel_rfl
theorem jl : zA PP 97 = some [(am (ByteArray.mk #[])), (aj .i64 0), (aa false), (af)] := by kernel_rfl
theorem ry : dA PP 97 = some 4 := by kernel_rfl
theorem fn_60 : aF PP 60 := fi Tryz.func60
theorem kz : bV PP 97 0 = some 0 := by kernel_rfl
theorem dp : dD PP 9 = true := by kernel_rfl
theorem fX : dG PP 23 = some (102, 7) := by kernel_rfl
theorem rB : dz PP 102 = some 7 := by kernel_rfl
theorem mf : zA PP 102 = some [(am (ByteArray.mk #[])), (aj .i64 0), (aj .i64 0), (aj .i64 0), (aj .i64 0), (aj .i64 0), (aj .i64 0)] := by kernel_rfl
theorem vW : dA PP 102 = some 7 := by kernel_rfl
theorem fn_61 : aF PP 61 := fi Tryz.func61
theorem kD : bV PP 102 0 = some 0 := by kernel_rfl
theorem oz : aF PP 94 := fi Tryz.func94
theorem fn_96 : aF PP 96 := fi Tryz.func96
theorem fn_95 : aF PP 95 := fi Tryz.func95
theorem lq : bV PP 97 1 = some 1 := by kernel_rfl
theorem ay : dD PP 3 = true := by kernel_rfl
theorem kA : bV PP 97 3 = some 3 := by kernel_rfl
theorem me : dD PP 95 = true := by kernel_rfl
theorem fv : ey PP 95 = true := by kernel_rfl
theorem vt : aF PP 97 := fi Tryz.func97
theorem fC : dG PP 95 = some (100, 4) := by kernel_rfl
theorem jx : dz PP 100 = some 4 := by kernel_rfl
theorem fn_98 : aF PP 98 := fi Tryz.func98
theorem p9 : cI PP 151 1 = some (1, 1) := by kernel_rfl
theorem p8 : cI PP 151 0 = some (0, 1) := by kernel_rfl
theorem jB : (eC PP 151).isSome = true := by kernel_rfl
theorem iq : zA PP 151 = some [(aj .i64 0), (am (ByteArray.mk #[])), (aj .i64 0)] := by kernel_rfl
theorem F0 : aF PP 145 := fi Tryz.func145
theorem wA : bV PP 151 1 = some 1 := by kernel_rfl
theorem p0 : bV PP 151 0 = some 0 := by kernel_rfl
theorem Fn : aF PP 181 := fi Tryz.func181
theorem gT : rl PP 9 = true := by kernel_rfl
theorem fO : PP.underlying 9 = some (.string) := by kernel_rfl
theorem Az : aF PP 215 := fi Tryz.func215
theorem FG : aF PP 217 := fi Tryz.func217
theorem vO : aF PP 216 := fi Tryz.func216
theorem vP : aF PP 218 := fi Tryz.func218
theorem FH : aF PP 219 := fi Tryz.func219
theorem FI : aF PP 220 := fi Tryz.func220
theorem FJ : aF PP 221 := fi Tryz.func221
theorem FS : aF PP 237 := fi Tryz.func237
theorem fD : dG PP 98 = some (9, 1) := by kernel_rfl
theorem GF : zR PP 9 5 = some [(am (ByteArray.mk #[])), (am (ByteArray.mk #[])), (am (ByteArray.mk #[])), (am (ByteArray.mk #[])), (am (ByteArray.mk #[]))] := by kernel_rfl
theorem Ap : aF PP 183 := fi Tryz.func183
theorem FK : aF PP 222 := fi Tryz.func222
theorem iM : ey PP 98 = true := by kernel_rfl
theorem FT : aF PP 238 := fi Tryz.func238
theorem G6 : ww PP 251 := ⟨_, Tryz.func251, by kernel_rfl, rfl, by kernel_rfl, by kernel_rfl⟩
theorem F1 : aF PP 146 := fi Tryz.func146
theorem r9 : eX PP 95 = some (100, 4, 56) := by kernel_rfl
theorem mH : bV PP 100 0 = some 0 := by kernel_rfl
theorem F3 : aF PP 148 := fi Tryz.func148
theorem F2 : aF PP 147 := fi Tryz.func147
theorem iV : bV PP 100 3 = some 3 := by kernel_rfl
theorem kn : dD PP 98 = true := by kernel_rfl
theorem F4 : aF PP 149 := fi Tryz.func149
theorem mI : bV PP 100 1 = some 1 := by kernel_rfl
theorem oX : bV PP 100 2 = some 2 := by kernel_rfl
theorem Fp : aF PP 182 := fi Tryz.func182
theorem fn_99 : aF PP 99 := fi Tryz.func99
theorem EH : aF PP 101 := fi Tryz.func101
theorem EG : aF PP 100 := fi Tryz.func100
theorem oY : bV PP 102 1 = some 1 := by kernel_rfl
theorem oZ : bV PP 102 2 = some 2 := by kernel_rfl
theorem BB : bV PP 102 3 = some 3 := by kernel_rfl
theorem BC : bV PP 102 4 = some 4 := by kernel_rfl
theorem Ad : aF PP 102 := fi Tryz.func102
theorem BD : bV PP 102 5 = some 5 := by kernel_rfl
theorem BE : bV PP 102 6 = some 6 := by kernel_rfl
theorem F5 : aF PP 150 := fi Tryz.func150
theorem fn_62 : aF PP 62 := fi Tryz.func62
theorem fn_63 : aF PP 63 := fi Tryz.func63
theorem dS : eX PP 26 = some (3, 1, 8) := by kernel_rfl
theorem l3 : zA PP 3 = some [(aj .i64 0)] := by kernel_rfl
theorem bI : ey PP 26 = true := by kernel_rfl
theorem iT : bV PP 41 1 = some 1 := by kernel_rfl
theorem dr : bV PP 33 0 = some 0 := by kernel_rfl
theorem ct : bV PP 29 0 = some 0 := by kernel_rfl
theorem bh : dD PP 26 = true := by kernel_rfl
theorem fn_64 : aF PP 64 := fi Tryz.func64
theorem ez : dA PP 3 = some 1 := by kernel_rfl
theorem d9 : bV PP 29 1 = some 1 := by kernel_rfl
theorem di : dD PP 27 = true := by kernel_rfl
theorem et : dG PP 27 = some (77, 3) := by kernel_rfl
theorem i7 : bV PP 77 0 = some 0 := by kernel_rfl
theorem ex : bV PP 41 2 = some 6 := by kernel_rfl
theorem Ae : aF PP 103 := fi Tryz.func103
theorem EI : aF PP 104 := fi Tryz.func104
theorem wg : bV PP 41 0 = some 0 := by kernel_rfl
theorem fq : dz PP 33 = some 5 := by kernel_rfl
theorem vL : aF PP 151 := fi Tryz.func151
theorem F6 : aF PP 152 := fi Tryz.func152
theorem F7 : aF PP 153 := fi Tryz.func153
theorem Af : aF PP 105 := fi Tryz.func105
theorem ck : dz PP 29 = some 2 := by kernel_rfl
theorem F8 : aF PP 154 := fi Tryz.func154
theorem wh : bV PP 41 6 = some 16 := by kernel_rfl
theorem eF : dz PP 39 = some 9 := by kernel_rfl
theorem F9 : aF PP 155 := fi Tryz.func155
theorem ky : bV PP 41 4 = some 13 := by kernel_rfl
theorem fZ : bV PP 36 0 = some 0 := by kernel_rfl
theorem rJ : aF PP 156 := fi Tryz.func156
theorem ix : bV PP 36 1 = some 1 := by kernel_rfl
theorem fu : ey PP 27 = true := by kernel_rfl
theorem Al : aF PP 158 := fi Tryz.func158
theorem fj : zR PP 3 1 = some [(aj .i64 0)] := by kernel_rfl
theorem FB : aF PP 199 := fi Tryz.func199
theorem oy : aF PP 86 := fi Tryz.func86
theorem Fq : aF PP 184 := fi Tryz.func184
theorem l7 : aF PP 82 := fi Tryz.func82
theorem Fr : aF PP 185 := fi Tryz.func185
theorem vK : aF PP 137 := fi Tryz.func137
theorem eJ : bV PP 33 2 = some 3 := by kernel_rfl
theorem oK : aF PP 186 := fi Tryz.func186
theorem hZ : bV PP 33 1 = some 2 := by kernel_rfl
theorem iO : dD PP 30 = true := by kernel_rfl
theorem kh : ey PP 30 = true := by kernel_rfl
theorem ln : bV PP 33 3 = some 4 := by kernel_rfl
theorem mc : dD PP 31 = true := by kernel_rfl
theorem m9 : ey PP 31 = true := by kernel_rfl
theorem rD : eX PP 213 = some (4, 1, 1) := by kernel_rfl
theorem z_4 : zA PP 4 = some [(aa false)] := by kernel_rfl
theorem kf : dG PP 30 = some (156, 4) := by kernel_rfl
theorem mq : dz PP 156 = some 4 := by kernel_rfl
theorem mh : zA PP 156 = some [(aj .i64 0), (aj .i64 0), (aj .i64 0), (aj .i64 0)] := by kernel_rfl
theorem rQ : dA PP 156 = some 4 := by kernel_rfl
theorem Fs : aF PP 187 := fi Tryz.func187
theorem ju : zA PP 100 = some [(am (ByteArray.mk #[])), (aj .i64 0), (aj .i64 0), (af)] := by kernel_rfl
theorem oM : dA PP 100 = some 4 := by kernel_rfl
theorem jH : bV PP 156 2 = some 2 := by kernel_rfl
theorem iW : bV PP 154 0 = some 0 := by kernel_rfl
theorem p7 : bV PP 154 1 = some 1 := by kernel_rfl
theorem jz : dG PP 213 = some (4, 1) := by kernel_rfl
theorem ot : dA PP 4 = some 1 := by kernel_rfl
theorem Ft : aF PP 188 := fi Tryz.func188
theorem Fu : aF PP 189 := fi Tryz.func189
theorem EO : aF PP 126 := fi Tryz.func126
theorem EW : aF PP 135 := fi Tryz.func135
theorem EX : aF PP 138 := fi Tryz.func138
theorem rH : aF PP 136 := fi Tryz.func136
theorem Fm : aF PP 180 := fi Tryz.func180
theorem gY : dz PP 77 = some 3 := by kernel_rfl
theorem EY : aF PP 139 := fi Tryz.func139
theorem gm : bV PP 77 1 = some 1 := by kernel_rfl
theorem go : bV PP 77 2 = some 2 := by kernel_rfl
theorem jG : bV PP 156 0 = some 0 := by kernel_rfl
theorem mv : (eC PP 100).isSome = true := by kernel_rfl
theorem AA : aF PP 223 := fi Tryz.func223
theorem kE : bV PP 156 1 = some 1 := by kernel_rfl
theorem vH : aF PP 106 := fi Tryz.func106
theorem FU : aF PP 239 := fi Tryz.func239
theorem zV : dA PP 98 = some 1 := by kernel_rfl
theorem Fa : aF PP 157 := fi Tryz.func157
theorem ut_98 : PP.underlying 98 = some (.slice 9) := by kernel_rfl
theorem zq : eX PP 98 = some (9, 1, 16) := by kernel_rfl
theorem zt : dG PP 31 = some (200, 5) := by kernel_rfl
theorem vD : dz PP 200 = some 5 := by kernel_rfl
theorem vy : zA PP 200 = some [(aj .i64 0), (aj .i64 0), (aj .i64 0), (aj .i64 0), (aj .i64 0)] := by kernel_rfl
theorem AY : dA PP 200 = some 5 := by kernel_rfl
theorem FL : aF PP 224 := fi Tryz.func224
theorem BK : bV PP 200 0 = some 0 := by kernel_rfl
theorem HR : bV PP 200 1 = some 1 := by kernel_rfl
theorem vC : dz PP 154 = some 2 := by kernel_rfl
theorem AF : aF PP 240 := fi Tryz.func240
theorem HS : bV PP 200 2 = some 3 := by kernel_rfl
theorem FM : aF PP 225 := fi Tryz.func225
theorem mt : ey PP 213 = true := by kernel_rfl
theorem ji : dD PP 4 = true := by kernel_rfl
theorem ut_4 : PP.underlying 4 = some (.bool) := by kernel_rfl
theorem Fv : aF PP 190 := fi Tryz.func190
theorem Fw : aF PP 191 := fi Tryz.func191
theorem FN : aF PP 226 := fi Tryz.func226
theorem FO : aF PP 227 := fi Tryz.func227
theorem mg : zA PP 154 = some [(aj .i64 0), (aj .i64 0)] := by kernel_rfl
theorem AX : dA PP 154 = some 2 := by kernel_rfl
theorem FP : aF PP 229 := fi Tryz.func229
theorem AB : aF PP 228 := fi Tryz.func228
theorem FV : aF PP 241 := fi Tryz.func241
theorem lp : bV PP 41 3 = some 11 := by kernel_rfl
theorem gX : dz PP 35 = some 2 := by kernel_rfl
theorem Fx : aF PP 192 := fi Tryz.func192
theorem dW : zA PP 29 = some [(af), (af)] := by kernel_rfl
theorem fP : zA PP 36 = some [(af), (af)] := by kernel_rfl
theorem eG : dA PP 29 = some 2 := by kernel_rfl
theorem iP : dA PP 36 = some 2 := by kernel_rfl
theorem fQ : dz PP 36 = some 2 := by kernel_rfl
theorem vM : aF PP 193 := fi Tryz.func193
theorem Aq : aF PP 194 := fi Tryz.func194
theorem FQ : aF PP 230 := fi Tryz.func230
theorem iN : (eC PP 29).isSome = true := by kernel_rfl
theorem jr : (eC PP 36).isSome = true := by kernel_rfl
theorem fw : bV PP 35 0 = some 0 := by kernel_rfl
theorem js : dA PP 26 = some 1 := by kernel_rfl
theorem gM : bV PP 35 1 = some 1 := by kernel_rfl
theorem fV : zA PP 77 = some [(aj .i64 0), (aj .i64 0), (aj .i64 0)] := by kernel_rfl
theorem jt : dA PP 77 = some 3 := by kernel_rfl
theorem vQ : aF PP 231 := fi Tryz.func231
theorem lw : zR PP 77 1 = some [(aj .i64 0), (aj .i64 0), (aj .i64 0)] := by kernel_rfl
theorem m7 : eX PP 27 = some (77, 3, 24) := by kernel_rfl
theorem oH : dA PP 27 = some 1 := by kernel_rfl
theorem ow : aF PP 20 := fi Tryz.func20
theorem mG : cI PP 36 1 = some (1, 1) := by kernel_rfl
theorem lr : cI PP 36 0 = some (0, 1) := by kernel_rfl
theorem ut_26 : PP.underlying 26 = some (.slice 3) := by kernel_rfl
theorem FW : aF PP 242 := fi Tryz.func242
theorem AH : aF PP 252 := fi Tryz.func252
theorem AI : aF PP 253 := fi Tryz.func253
theorem us_3 : (PP.underlying 3).isSome = true := by kernel_rfl
theorem GC : PP.underlying 251 = some (.int .u64) := by kernel_rfl
theorem GB : (PP.underlying 251).isSome = true := by kernel_rfl
theorem dM : PP.underlying 3 = some (.int .i64) := by kernel_rfl
theorem FX : aF PP 243 := fi Tryz.func243
theorem AG : aF PP 244 := fi Tryz.func244
theorem AJ : aF PP 254 := fi Tryz.func254
theorem AC : aF PP 232 := fi Tryz.func232
theorem FY : aF PP 245 := fi Tryz.func245
theorem FZ : aF PP 246 := fi Tryz.func246
theorem Fy : aF PP 195 := fi Tryz.func195
theorem Fz : aF PP 196 := fi Tryz.func196
theorem wi : bV PP 97 2 = some 2 := by kernel_rfl
theorem fn_87 : aF PP 87 := fi Tryz.func87
theorem vI : aF PP 107 := fi Tryz.func107
theorem Fb : aF PP 159 := fi Tryz.func159
theorem FC : aF PP 200 := fi Tryz.func200
theorem FA : aF PP 197 := fi Tryz.func197
theorem Ar : aF PP 198 := fi Tryz.func198
theorem AD : aF PP 233 := fi Tryz.func233
theorem AE : aF PP 234 := fi Tryz.func234
theorem mA : bV PP 39 1 = some 1 := by kernel_rfl
theorem md : dD PP 37 = true := by kernel_rfl
theorem oA : ey PP 37 = true := by kernel_rfl
theorem wd : bV PP 39 0 = some 0 := by kernel_rfl
theorem vR : aF PP 247 := fi Tryz.func247
theorem G1 : aF PP 249 := fi Tryz.func249
theorem G0 : aF PP 248 := fi Tryz.func248
theorem we : bV PP 39 3 = some 4 := by kernel_rfl
theorem gU : zA PP 33 = some [(af), (af), (af), (aj .i64 0), (af)] := by kernel_rfl
theorem lg : dA PP 33 = some 5 := by kernel_rfl
theorem oP : bV PP 39 2 = some 2 := by kernel_rfl
theorem G3 : aF PP 257 := fi Tryz.func257
theorem m8 : dG PP 37 = some (39, 9) := by kernel_rfl
theorem gV : zA PP 39 = some [(aj .i64 0), (af), (af), (af), (af), (af), (af), (aj .i64 0), (af)] := by kernel_rfl
theorem ko : dA PP 39 = some 9 := by kernel_rfl
theorem FR : aF PP 235 := fi Tryz.func235
theorem G2 : aF PP 250 := fi Tryz.func250
theorem rh : aF PP 38 := fi Tryz.func38
theorem z_78 : zA PP 78 = some [(af)] := by kernel_rfl
theorem r7 : zA PP 26 = some [(af)] := by kernel_rfl
theorem zT : dA PP 78 = some 1 := by kernel_rfl
theorem zy : aF PP 39 := fi Tryz.func39
theorem jp : ey PP 44 = true := by kernel_rfl
theorem jk : zA PP 41 = some [(am (ByteArray.mk #[])), (af), (af), (af), (aj .i64 0), (af), (af), (af), (af), (aj .i64 0), (af), (af), (af), (af), (af), (aa false), (aj .i64 0), (af), (af), (af), (af), (af), (af), (aj .i64 0), (af)] := by kernel_rfl
theorem lh : dA PP 41 = some 25 := by kernel_rfl
theorem rf : dG PP 78 = some (26, 1) := by kernel_rfl
theorem Ho : zR PP 26 1 = some [(af)] := by kernel_rfl
theorem ap_78 : eX PP 78 = some (26, 1, 24) := by kernel_rfl
theorem fn_77 : aF PP 77 := fi Tryz.func77
theorem zE : aF PP 76 := fi Tryz.func76
theorem EN : aF PP 125 := fi Tryz.func125
theorem zI : ey PP 78 = true := by kernel_rfl
theorem zW : zA PP 116 = some [(fm .nilFunc)] := by kernel_rfl
theorem AV : dA PP 116 = some 1 := by kernel_rfl
theorem rO : dD PP 116 = true := by kernel_rfl
theorem rj : aF PP 78 := fi Tryz.func78
theorem zQ : dD PP 84 = true := by kernel_rfl
theorem fn_40 : aF PP 40 := fi Tryz.func40
theorem zP : dD PP 78 = true := by kernel_rfl
theorem zz : aF PP 41 := fi Tryz.func41
theorem fn_79 : aF PP 79 := fi Tryz.func79
theorem fn_80 : aF PP 80 := fi Tryz.func80
theorem fn_50 : aF PP 50 := fi Tryz.func50
theorem zC : aF PP 51 := fi Tryz.func51
theorem fn_84 : aF PP 84 := fi Tryz.func84
theorem so : cI PP 100 2 = some (2, 1) := by kernel_rfl
theorem BR : cI PP 100 1 = some (1, 1) := by kernel_rfl
theorem sn : cI PP 100 0 = some (0, 1) := by kernel_rfl
theorem pd : zR PP 100 1 = some [(am (ByteArray.mk #[])), (aj .i64 0), (aj .i64 0), (af)] := by kernel_rfl
theorem Bn : cI PP 97 3 = some (3, 1) := by kernel_rfl
theorem Bm : cI PP 97 2 = some (2, 1) := by kernel_rfl
theorem oU : cI PP 97 1 = some (1, 1) := by kernel_rfl
theorem oT : cI PP 97 0 = some (0, 1) := by kernel_rfl
theorem oD : (eC PP 97).isSome = true := by kernel_rfl
theorem B2 : zR PP 9 2 = some [(am (ByteArray.mk #[])), (am (ByteArray.mk #[]))] := by kernel_rfl
theorem BS : cI PP 100 3 = some (3, 1) := by kernel_rfl
theorem Hr : zR PP 97 4 = some [(am (ByteArray.mk #[])), (aj .i64 0), (aa false), (af), (am (ByteArray.mk #[])), (aj .i64 0), (aa false), (af), (am (ByteArray.mk #[])), (aj .i64 0), (aa false), (af), (am (ByteArray.mk #[])), (aj .i64 0), (aa false), (af)] := by kernel_rfl
theorem wH : cI PP 102 6 = some (6, 1) := by kernel_rfl
theorem Im : cI PP 102 5 = some (5, 1) := by kernel_rfl
theorem wG : cI PP 102 4 = some (4, 1) := by kernel_rfl
theorem wF : cI PP 102 2 = some (2, 1) := by kernel_rfl
theorem wE : cI PP 102 1 = some (1, 1) := by kernel_rfl
theorem wD : cI PP 102 0 = some (0, 1) := by kernel_rfl
theorem vU : (eC PP 102).isSome = true := by kernel_rfl
theorem IH : zR PP 102 2 = some [(am (ByteArray.mk #[])), (aj .i64 0), (aj .i64 0), (aj .i64 0), (aj .i64 0), (aj .i64 0), (aj .i64 0), (am (ByteArray.mk #[])), (aj .i64 0), (aj .i64 0), (aj .i64 0), (aj .i64 0), (aj .i64 0), (aj .i64 0)] := by kernel_rfl
theorem Hi : cI PP 25 1 = some (1, 1) := by kernel_rfl
theorem Hh : cI PP 25 0 = some (0, 1) := by kernel_rfl
theorem zM : (eC PP 25).isSome = true := by kernel_rfl
theorem vY : zR PP 3 3 = some [(aj .i64 0), (aj .i64 0), (aj .i64 0)] := by kernel_rfl
theorem lv : cI PP 77 2 = some (2, 1) := by kernel_rfl
theorem lu : cI PP 77 1 = some (1, 1) := by kernel_rfl
theorem ls : cI PP 77 0 = some (0, 1) := by kernel_rfl
theorem lb : (eC PP 77).isSome = true := by kernel_rfl
theorem wn : cI PP 29 1 = some (1, 1) := by kernel_rfl
theorem wm : cI PP 29 0 = some (0, 1) := by kernel_rfl
theorem GE : zR PP 3 4 = some [(aj .i64 0), (aj .i64 0), (aj .i64 0), (aj .i64 0)] := by kernel_rfl
theorem wo : cI PP 35 0 = some (0, 1) := by kernel_rfl
theorem vv : (eC PP 35).isSome = true := by kernel_rfl
theorem lY : zA PP 35 = some [(af), (af)] := by kernel_rfl
theorem vx : dA PP 35 = some 2 := by kernel_rfl
theorem zD : aF PP 58 := fi Tryz.func58
theorem Hp : zR PP 41 2 = some [(am (ByteArray.mk #[])), (af), (af), (af), (aj .i64 0), (af), (af), (af), (af), (aj .i64 0), (af), (af), (af), (af), (af), (aa false), (aj .i64 0), (af), (af), (af), (af), (af), (af), (aj .i64 0), (af), (am (ByteArray.mk #[])), (af), (af), (af), (aj .i64 0), (af), (af), (af), (af), (aj .i64 0), (af), (af), (af), (af), (af), (aa false), (aj .i64 0), (af), (af), (af), (af), (af), (af), (aj .i64 0), (af)] := by kernel_rfl
theorem mF : cI PP 33 0 = some (0, 2) := by kernel_rfl
theorem la : (eC PP 33).isSome = true := by kernel_rfl
theorem kB : cI PP 39 0 = some (0, 1) := by kernel_rfl
theorem kk : (eC PP 39).isSome = true := by kernel_rfl
theorem Bl : cI PP 41 6 = some (16, 9) := by kernel_rfl
theorem wu : cI PP 41 5 = some (15, 1) := by kernel_rfl
theorem Bk : cI PP 41 4 = some (13, 2) := by kernel_rfl
theorem wt : cI PP 41 3 = some (11, 2) := by kernel_rfl
theorem Bj : cI PP 41 2 = some (6, 5) := by kernel_rfl
theorem ws : cI PP 41 1 = some (1, 5) := by kernel_rfl
theorem wq : cI PP 41 0 = some (0, 1) := by kernel_rfl
theorem vw : (eC PP 41).isSome = true := by kernel_rfl
theorem fn_30 : aF PP 30 := fi Tryz.func30
theorem fn_59 : aF PP 59 := fi Tryz.func59
theorem vr : aF PP 90 := fi Tryz.func90
theorem fn_91 : aF PP 91 := fi Tryz.func91
theorem zG : aF PP 92 := fi Tryz.func92
theorem fn_93 : aF PP 93 := fi Tryz.func93
theorem fn_25 : aF PP 25 := fi Tryz.func25
theorem Ak : aF PP 144 := fi Tryz.func144
theorem fn_33 : aF PP 33 := fi Tryz.func33
theorem fn_65 : aF PP 65 := fi Tryz.func65
theorem fn_66 : aF PP 66 := fi Tryz.func66
theorem ri : aF PP 67 := fi Tryz.func67
theorem iR : aF PP 108 := fi Tryz.func108
theorem vJ : aF PP 109 := fi Tryz.func109
theorem EJ : aF PP 110 := fi Tryz.func110
theorem EK : aF PP 112 := fi Tryz.func112
theorem kq : dz PP 151 = some 3 := by kernel_rfl
theorem Fd : aF PP 161 := fi Tryz.func161
theorem Fe : aF PP 162 := fi Tryz.func162
theorem kx : dA PP 151 = some 3 := by kernel_rfl
theorem At : aF PP 201 := fi Tryz.func201
theorem rK : aF PP 202 := fi Tryz.func202
theorem FD : aF PP 203 := fi Tryz.func203
theorem FE : aF PP 204 := fi Tryz.func204
theorem FF : aF PP 205 := fi Tryz.func205
theorem Ht : zR PP 9 25 = some [(am (ByteArray.mk #[])), (am (ByteArray.mk #[])), (am (ByteArray.mk #[])), (am (ByteArray.mk #[])), (am (ByteArray.mk #[])), (am (ByteArray.mk #[])), (am (ByteArray.mk #[])), (am (ByteArray.mk #[])), (am (ByteArray.mk #[])), (am (ByteArray.mk #[])), (am (ByteArray.mk #[])), (am (ByteArray.mk #[])), (am (ByteArray.mk #[])), (am (ByteArray.mk #[])), (am (ByteArray.mk #[])), (am (ByteArray.mk #[])), (am (ByteArray.mk #[])), (am (ByteArray.mk #[])), (am (ByteArray.mk #[])), (am (ByteArray.mk #[])), (am (ByteArray.mk #[])), (am (ByteArray.mk #[])), (am (ByteArray.mk #[])), (am (ByteArray.mk #[])), (am (ByteArray.mk #[]))] := by kernel_rfl
theorem Fc : aF PP 160 := fi Tryz.func160
theorem Ag : aF PP 111 := fi Tryz.func111
theorem zF : aF PP 88 := fi Tryz.func88
theorem Ai : aF PP 140 := fi Tryz.func140
theorem EZ : aF PP 141 := fi Tryz.func141
theorem Am : aF PP 163 := fi Tryz.func163
theorem Aj : aF PP 142 := fi Tryz.func142
theorem EL : aF PP 119 := fi Tryz.func119
theorem EM : aF PP 120 := fi Tryz.func120
theorem Ff : aF PP 165 := fi Tryz.func165
theorem Au : aF PP 207 := fi Tryz.func207
theorem Av : aF PP 208 := fi Tryz.func208
theorem An : aF PP 166 := fi Tryz.func166
theorem fn_89 : aF PP 89 := fi Tryz.func89
theorem rI : aF PP 143 := fi Tryz.func143
theorem zv : aF PP 16 := fi Tryz.func16
theorem zB : aF PP 49 := fi Tryz.func49
theorem fn_83 : aF PP 83 := fi Tryz.func83
theorem fn_19 : aF PP 19 := fi Tryz.func19
theorem ag_58 : dz PP 58 = some 3 := by kernel_rfl
theorem fn_23 : aF PP 23 := fi Tryz.func23
theorem zp : eX PP 44 = some (41, 25, 512) := by kernel_rfl
theorem ec : (PP.underlying 5).isSome = true := by kernel_rfl
theorem B7 : bV PP 58 0 = some 0 := by kernel_rfl
theorem ru : dD PP 55 = true := by kernel_rfl
theorem oB : ey PP 55 = true := by kernel_rfl
theorem B8 : bV PP 58 1 = some 1 := by kernel_rfl
theorem B9 : bV PP 58 2 = some 2 := by kernel_rfl
theorem zO : dD PP 56 = true := by kernel_rfl
theorem zH : ey PP 56 = true := by kernel_rfl
theorem fn_54 : aF PP 54 := fi Tryz.func54
theorem fn_55 : aF PP 55 := fi Tryz.func55
theorem Gr : (eC PP 120).isSome = true := by kernel_rfl
theorem zX : zA PP 120 = some [(aj .u8 0), (aj .u8 0)] := by kernel_rfl
theorem AW : dA PP 120 = some 2 := by kernel_rfl
theorem vp : dG PP 55 = some (120, 2) := by kernel_rfl
theorem Eu : dz PP 120 = some 2 := by kernel_rfl
theorem mr : ik PP 120 = some (2, 1) := by kernel_rfl
theorem dV : dD PP 5 = true := by kernel_rfl
theorem zU : dA PP 95 = some 1 := by kernel_rfl
theorem Hq : zR PP 97 1 = some [(am (ByteArray.mk #[])), (aj .i64 0), (aa false), (af)] := by kernel_rfl
theorem ap_22 : eX PP 22 = some (97, 4, 56) := by kernel_rfl
theorem sz_22 : dA PP 22 = some 1 := by kernel_rfl
theorem IG : zR PP 102 1 = some [(am (ByteArray.mk #[])), (aj .i64 0), (aj .i64 0), (aj .i64 0), (aj .i64 0), (aj .i64 0), (aj .i64 0)] := by kernel_rfl
theorem ap_23 : eX PP 23 = some (102, 7, 64) := by kernel_rfl
theorem sz_23 : dA PP 23 = some 1 := by kernel_rfl
theorem el_56 : dG PP 56 = some (132, 15) := by kernel_rfl
theorem A7 : dz PP 132 = some 15 := by kernel_rfl
theorem fn_85 : aF PP 85 := fi Tryz.func85
theorem HL : bV PP 132 0 = some 0 := by kernel_rfl
theorem Ex : dz PP 128 = some 4 := by kernel_rfl
theorem EP : aF PP 127 := fi Tryz.func127
theorem HP : bV PP 132 6 = some 9 := by kernel_rfl
theorem HM : bV PP 132 1 = some 4 := by kernel_rfl
theorem Gy : dD PP 129 = true := by kernel_rfl
theorem EQ : aF PP 128 := fi Tryz.func128
theorem ER : aF PP 129 := fi Tryz.func129
theorem BJ : bV PP 132 8 = some 14 := by kernel_rfl
theorem mw : dD PP 122 = true := by kernel_rfl
theorem Ah : aF PP 130 := fi Tryz.func130
theorem Bg : cI PP 33 2 = some (3, 1) := by kernel_rfl
theorem ES : aF PP 131 := fi Tryz.func131
theorem HN : bV PP 132 4 = some 7 := by kernel_rfl
theorem iw : dD PP 123 = true := by kernel_rfl
theorem ET : aF PP 132 := fi Tryz.func132
theorem zS : dA PP 30 = some 1 := by kernel_rfl
theorem HQ : bV PP 132 7 = some 10 := by kernel_rfl
theorem Ey : dz PP 130 = some 4 := by kernel_rfl
theorem EU : aF PP 133 := fi Tryz.func133
theorem HO : bV PP 132 5 = some 8 := by kernel_rfl
theorem EV : aF PP 134 := fi Tryz.func134
theorem HK : bV PP 128 0 = some 0 := by kernel_rfl
theorem Ew : dz PP 125 = some 2 := by kernel_rfl
theorem Fg : aF PP 172 := fi Tryz.func172
theorem Is : cI PP 208 1 = some (1, 1) := by kernel_rfl
theorem Ir : cI PP 208 0 = some (0, 1) := by kernel_rfl
theorem Gt : (eC PP 208).isSome = true := by kernel_rfl
theorem zY : zA PP 208 = some [(aj .i64 0), (aj .i64 0)] := by kernel_rfl
theorem Ab : dG PP 207 = some (208, 2) := by kernel_rfl
theorem IJ : zR PP 208 1 = some [(aj .i64 0), (aj .i64 0)] := by kernel_rfl
theorem EC : eX PP 207 = some (208, 2, 16) := by kernel_rfl
theorem BG : bV PP 128 1 = some 2 := by kernel_rfl
theorem rM : ey PP 123 = true := by kernel_rfl
theorem AN : ey PP 207 = true := by kernel_rfl
theorem iu : dG PP 123 = some (209, 3) := by kernel_rfl
theorem EA : dz PP 209 = some 3 := by kernel_rfl
theorem z_209 : zA PP 209 = some [(aj .u8 0), (aj .u8 0), (aj .u8 0)] := by kernel_rfl
theorem GA : dA PP 209 = some 3 := by kernel_rfl
theorem gG : ik PP 209 = some (3, 1) := by kernel_rfl
theorem Ez : dz PP 208 = some 2 := by kernel_rfl
theorem Gz : dA PP 208 = some 2 := by kernel_rfl
theorem A8 : ik PP 208 = some (2, 1) := by kernel_rfl
theorem wI : cI PP 154 1 = some (1, 1) := by kernel_rfl
theorem pa : cI PP 154 0 = some (0, 1) := by kernel_rfl
theorem oL : (eC PP 154).isSome = true := by kernel_rfl
theorem BV : cI PP 156 2 = some (2, 2) := by kernel_rfl
theorem BU : cI PP 156 1 = some (1, 1) := by kernel_rfl
theorem BT : cI PP 156 0 = some (0, 1) := by kernel_rfl
theorem AS : (eC PP 156).isSome = true := by kernel_rfl
theorem C5 : zR PP 156 1 = some [(aj .i64 0), (aj .i64 0), (aj .i64 0), (aj .i64 0)] := by kernel_rfl
theorem zo : eX PP 30 = some (156, 4, 32) := by kernel_rfl
theorem BH : bV PP 128 2 = some 3 := by kernel_rfl
theorem AU : dD PP 126 = true := by kernel_rfl
theorem G7 : ey PP 126 = true := by kernel_rfl
theorem EF : dG PP 126 = some (212, 4) := by kernel_rfl
theorem EB : dz PP 212 = some 4 := by kernel_rfl
theorem Fh : aF PP 173 := fi Tryz.func173
theorem II : zR PP 200 1 = some [(aj .i64 0), (aj .i64 0), (aj .i64 0), (aj .i64 0), (aj .i64 0)] := by kernel_rfl
theorem ap_31 : eX PP 31 = some (200, 5, 40) := by kernel_rfl
theorem sz_31 : dA PP 31 = some 1 := by kernel_rfl
theorem BF : bV PP 125 0 = some 0 := by kernel_rfl
theorem vT : ey PP 122 = true := by kernel_rfl
theorem vG : dG PP 122 = some (5, 1) := by kernel_rfl
theorem sf : bV PP 125 1 = some 1 := by kernel_rfl
theorem Aw : aF PP 211 := fi Tryz.func211
theorem rF : ik PP 212 = some (4, 1) := by kernel_rfl
theorem rP : dD PP 211 = true := by kernel_rfl
theorem rT : (PP.underlying 211).isSome = true := by kernel_rfl
theorem vN : aF PP 212 := fi Tryz.func212
theorem Iq : cI PP 200 2 = some (3, 2) := by kernel_rfl
theorem Ip : cI PP 200 1 = some (1, 2) := by kernel_rfl
theorem Io : cI PP 200 0 = some (0, 1) := by kernel_rfl
theorem Gs : (eC PP 200).isSome = true := by kernel_rfl
theorem Fi : aF PP 174 := fi Tryz.func174
theorem Ax : aF PP 213 := fi Tryz.func213
theorem Bh : cI PP 35 1 = some (1, 1) := by kernel_rfl
theorem oJ : aF PP 175 := fi Tryz.func175
theorem Fj : aF PP 176 := fi Tryz.func176
theorem BI : bV PP 132 2 = some 5 := by kernel_rfl
theorem sg : bV PP 132 3 = some 6 := by kernel_rfl
theorem Fk : aF PP 177 := fi Tryz.func177
theorem Ao : aF PP 178 := fi Tryz.func178
theorem oI : ik PP 130 = some (4, 1) := by kernel_rfl
theorem Fl : aF PP 179 := fi Tryz.func179
theorem By : zR PP 39 1 = some [(aj .i64 0), (af), (af), (af), (af), (af), (af), (aj .i64 0), (af)] := by kernel_rfl
theorem Bi : cI PP 39 1 = some (1, 1) := by kernel_rfl
theorem Hk : cI PP 39 3 = some (4, 5) := by kernel_rfl
theorem Hj : cI PP 39 2 = some (2, 2) := by kernel_rfl
theorem Ay : aF PP 214 := fi Tryz.func214
theorem GL : bV PP 41 5 = some 15 := by kernel_rfl
theorem Fo {Y : Type} {f : FuncId} {fn : Func} {c : Code} {n : Nat} {args : List ae} {e : Option Y} {y : Y} (rr : Y → ae) (hf : PP.funcs[f]? = some fn) (hb : fn.body = some c) (hn : fn.ntmps = n) [cT args] [h2 : NK (rr y)] (hl : Nat.ble args.length n = true) (he : e = some y)
    (h : ∀ X : Cx PP fn n 0 Y, (∀ z η v H, bZ X.c η H → (rr z).p η v → X.Ψ z η v) → J X e some [.code c] (zK args)) : aB PP f args (rr y) := aB.of AO hf hb hn rr GT h2.nk hl he h
theorem Ko {Y : Type} {f : FuncId} {fn : Func} {c : Code} {n N0 : Nat} {ins : List (Nat × bB)} {args : List ae} {e : Option Y} {y : Y} (outs : Y → List (Nat × bB)) (rr : Y → ae) (hf : PP.funcs[f]? = some fn) (hb : fn.body = some c) (hn : fn.ntmps = n) (ha : ∀ k, d7 args k → k < N0) (hi : ∀ k x, (k, x) ∈ ins → k < N0 ∧ ∀ j, x.keys j → j < N0) (hl : Nat.ble args.length n = true) (he : e = some y)
    (h : ∀ X : Cx PP fn n N0 Y, (∀ z η v, bZ X.c η (hp (outs z)) → (rr z).p η v → (∀ k, k < N0 → η.ρ k = X.ρ0 k) → X.Ψ z η v) → J X e some [.code c] (zJ args ins N0)) : dc PP f N0 ins args (outs y) (rr y) := dc.of AO hf hb hn outs rr ha hi hl he h
end Go.Proofs.YtngimdmkomkeoaaGreat.K
