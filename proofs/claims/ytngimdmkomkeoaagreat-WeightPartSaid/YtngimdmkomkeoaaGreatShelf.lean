import Derived.Shelf.Sort.Plain
import Derived.Shelf.Slices.CompactI
import Derived.Shelf.Slices.In.SortNone
import Derived.Ground.Names2Prog
import Derived.Test.YtngimdmkomkeoaaGreatProg
namespace Go.Proofs
open Go.Shelf
def Tryz.lays189_ren : Go.Shelf.Ren := ⟨fun | 189 => 245 | 125 => 256 | 257 => 255 | 128 => 266 | 129 => 267 | 294 => 258 | 295 => 259 | 296 => 260 | 297 => 261 | 298 => 262 | 299 => 263 | 216 => 243 | 300 => 264 | 301 => 265 | 328 => 268 | 329 => 269 | 330 => 270 | 331 => 271 | 332 => 272 | 215 => 254 | 343 => 273 | n => n, fun | 28 => 26 | 3 => 3 | 46 => 251 | 0 => 0 | 51 => 264 | 53 => 129 | 4 => 4 | 183 => 258 | 182 => 257 | 131 => 246 | 5 => 5 | 9 => 9 | 218 => 266 | 222 => 270 | 228 => 272 | 229 => 202 | n => n, fun | n => n⟩
theorem Tryz.lays189 : Go.Proofs.Lays.n189 Tryz.prog Tryz.lays189_ren := {
  mixed := by kernel_rfl
  f125 := Tryz.func256.trans (congrArg some (by kernel_rfl))
  f128 := Tryz.func266.trans (congrArg some (by kernel_rfl))
  f129 := Tryz.func267.trans (congrArg some (by kernel_rfl))
  f189 := Tryz.func245.trans (congrArg some (by kernel_rfl))
  f215 := Tryz.func254.trans (congrArg some (by kernel_rfl))
  f216 := Tryz.func243.trans (congrArg some (by kernel_rfl))
  f257 := Tryz.func255.trans (congrArg some (by kernel_rfl))
  f294 := Tryz.func258.trans (congrArg some (by kernel_rfl))
  f295 := Tryz.func259.trans (congrArg some (by kernel_rfl))
  f296 := Tryz.func260.trans (congrArg some (by kernel_rfl))
  f297 := Tryz.func261.trans (congrArg some (by kernel_rfl))
  f298 := Tryz.func262.trans (congrArg some (by kernel_rfl))
  f299 := Tryz.func263.trans (congrArg some (by kernel_rfl))
  f300 := Tryz.func264.trans (congrArg some (by kernel_rfl))
  f301 := Tryz.func265.trans (congrArg some (by kernel_rfl))
  f328 := Tryz.func268.trans (congrArg some (by kernel_rfl))
  f329 := Tryz.func269.trans (congrArg some (by kernel_rfl))
  f330 := Tryz.func270.trans (congrArg some (by kernel_rfl))
  f331 := Tryz.func271.trans (congrArg some (by kernel_rfl))
  f332 := Tryz.func272.trans (congrArg some (by kernel_rfl))
  f343 := Tryz.func273.trans (congrArg some (by kernel_rfl))
  t0 := Tryz.underlying0
  a0 := Tryz.isAgg0
  z0 := Tryz.sizeOf0
  v0 := Tryz.zeroValue0
  t3 := Tryz.underlying3
  a3 := Tryz.isAgg3
  z3 := Tryz.sizeOf3
  v3 := Tryz.zeroValue3
  t4 := Tryz.underlying4
  a4 := Tryz.isAgg4
  z4 := Tryz.sizeOf4
  v4 := Tryz.zeroValue4
  t5 := Tryz.underlying5
  a5 := Tryz.isAgg5
  z5 := Tryz.sizeOf5
  v5 := Tryz.zeroValue5
  t9 := Tryz.underlying9
  a9 := Tryz.isAgg9
  z9 := Tryz.sizeOf9
  v9 := Tryz.zeroValue9
  t28 := Tryz.underlying26
  a28 := Tryz.isAgg26
  z28 := Tryz.sizeOf26
  v28 := Tryz.zeroValue26
  t46 := Tryz.underlying251
  a46 := Tryz.isAgg251
  z46 := Tryz.sizeOf251
  v46 := Tryz.zeroValue251
  t51 := Tryz.underlying264
  a51 := Tryz.isAgg264
  z51 := Tryz.sizeOf264
  v51 := Tryz.zeroValue264
  t53 := Tryz.underlying129
  a53 := Tryz.isAgg129
  z53 := Tryz.sizeOf129
  v53 := Tryz.zeroValue129
  t131 := Tryz.underlying246
  a131 := Tryz.isAgg246
  z131 := Tryz.sizeOf246
  v131 := Tryz.zeroValue246
  t182 := Tryz.underlying257
  a182 := Tryz.isAgg257
  z182 := Tryz.sizeOf257
  v182 := Tryz.zeroValue257
  t183 := Tryz.underlying258
  a183 := Tryz.isAgg258
  z183 := Tryz.sizeOf258
  v183 := Tryz.zeroValue258
  t218 := Tryz.underlying266
  a218 := Tryz.isAgg266
  z218 := Tryz.sizeOf266
  v218 := Tryz.zeroValue266
  t222 := Tryz.underlying270
  a222 := Tryz.isAgg270
  z222 := Tryz.sizeOf270
  v222 := Tryz.zeroValue270
  t228 := Tryz.underlying272
  a228 := Tryz.isAgg272
  z228 := Tryz.sizeOf272
  v228 := Tryz.zeroValue272
  t229 := Tryz.underlying202
  a229 := Tryz.isAgg202
  z229 := Tryz.sizeOf202
  v229 := Tryz.zeroValue202 }
open Go.Sort Go.RowKit in
theorem Tryz.slices_Sort_int (c8 off cap : Nat) (zs : List Int) (w : World) (hH : Holds (Value.int .i64) w c8 off zs.toArray) (hblk : c8 < w.heap.size) (hsz : zs.length < 4611686018427387904) :
    Calls Tryz.prog 245 #[.slice (some ⟨c8, off, none⟩) zs.length cap] w fun e w' =>
      e = .returned (.tuple #[]) ∧ ∃ n os, w' = grow (putRow (Value.int .i64) (Sort.ahead w n) c8 off (zs.mergeSort fun x y => decide (x ≤ y)).toArray) os := Any.slices_Sort_int Tryz.lays189 c8 off cap zs w hH hblk hsz
def Tryz.laysNm220_ren : Go.Shelf.Ren := ⟨fun | 20 => 246 | n => n, fun | 22 => 26 | 3 => 3 | 4 => 4 | 0 => 0 | n => n, fun | n => n⟩
theorem Tryz.laysNm220 : Go.Proofs.Lays2.n20 Tryz.prog Tryz.laysNm220_ren := {
  mixed := by kernel_rfl
  f20 := Tryz.func246.trans (congrArg some (by kernel_rfl))
  t0 := Tryz.underlying0
  a0 := Tryz.isAgg0
  z0 := Tryz.sizeOf0
  v0 := Tryz.zeroValue0
  t3 := Tryz.underlying3
  a3 := Tryz.isAgg3
  z3 := Tryz.sizeOf3
  v3 := Tryz.zeroValue3
  t4 := Tryz.underlying4
  a4 := Tryz.isAgg4
  z4 := Tryz.sizeOf4
  v4 := Tryz.zeroValue4
  t22 := Tryz.underlying26
  a22 := Tryz.isAgg26
  z22 := Tryz.sizeOf26
  v22 := Tryz.zeroValue26
  i3 := by kernel_rfl }
open Go.RowKit Go.Lib Go.Sort in
theorem Tryz.slices_Compact_int (c8 off cap : Nat) (zs : List Int) (w : World) (hH : Holds (Value.int .i64) w c8 off zs.toArray) (hsz : zs.length ≤ 9223372036854775807) (hcap : zs.length ≤ cap) :
    Calls Tryz.prog 246 #[.slice (some ⟨c8, off, none⟩) zs.length cap] w fun e w' => e = .returned (.slice (some ⟨c8, off, none⟩) (Lib.compact zs).length cap) ∧ ∃ q, w' = putRow (Value.int .i64) (Sort.ahead w q) c8 off (Lib.compact zs ++ List.replicate (zs.length - (Lib.compact zs).length) 0).toArray := Any.slices_Compact_int Tryz.laysNm220 c8 off cap zs w hH hsz hcap
open Go.RowKit Go.Lib Go.Sort in
theorem Tryz.slices_Compact_int_empty (a : Option Addr) (cap : Nat) (w : World) :
    Calls Tryz.prog 246 #[.slice a 0 cap] w fun e w' => e = .returned (.slice a 0 cap) ∧ w' = w := Any.slices_Compact_int_empty Tryz.laysNm220 a cap w
open Go.RowKit Go.Sort in
theorem Tryz.slices_Sort_int_none (p : Option Addr) (cap : Nat) (w : World) :
    Calls Tryz.prog 245 #[.slice p 0 cap] w fun e w' => e = .returned (.tuple #[]) ∧ w' = w := Any.slices_Sort_int_none Tryz.lays189 p cap w
end Go.Proofs
