import Derived.Test.YtngimdmkomkeoaaGreatPure
import Derived.Test.YtngimdmkomkeoaaGreatFacts
import Derived.Test.YtngimdmkomkeoaaGreatShelf
set_option linter.unusedVariables false
set_option linter.unusedSimpArgs false
namespace Go.Proofs.YtngimdmkomkeoaaGreat.K
open Go.RowKit Go.Proofs
set_option maxHeartbeats 4000000
set_option maxRecDepth 100000
theorem Dw {t0 r} (hr : nv t0 = some r) : aB PP 215 [aj .u8 t0] (aa r) := by
  refine Fo aa Tryz.func215 q (n := 17) q q hr fun X hΨ => ?_
  refine Jq q <| Ra (aa false) q q <| R0 <| Jq q <| Rm (aj .u8 t0) q q <| cG q q q <| Rm (aa (decide (97 ≤ t0))) q q <| aN (fun h1 => ?_) (fun h1 => ?_)
  rotate_left
  · refine da q (df h1) <| ax (aa false) q (df h1) q q <| Rm (aa false) q q <| Rm (aj .u8 t0) q (an q q q) <| cG q q (an q q q) <| Rm (aa (decide (65 ≤ t0))) q (an q q q) <| aN (fun h4 => ?_) (fun h4 => ?_)
    · exact Rm (aj .u8 t0) q (ak q q (dt h4)) <| dK q q (ak q q (dt h4)) <| aH (aa (decide (t0 ≤ 90))) q (dt h4) q (an q q q) <| ax (aa (decide (t0 ≤ 90))) q q q q <| Ra (aa (decide (t0 ≤ 90))) q q <| Rt hΨ q q q
    exact da q (df h4) <| ax (aa false) q (df h4) q (an q q q) <| ax (aa false) q q q q <| Ra (aa false) q q <| Rt hΨ q q q
  refine Rm (aj .u8 t0) q (ak q q (dt h1)) <| dK q q (ak q q (dt h1)) <| aH (aa (decide (t0 ≤ 122))) q (dt h1) q q <| Rm (aa (decide (t0 ≤ 122))) q q <| aN (fun h2 => ?_) (fun h2 => ?_)
  · exact dU q (dt h2) <| Rk (bC q q) <| Rk (bC q q) <| Kf q (dt h2) <| aH (aa true) q (dt h2) q q <| Ra (aa true) q q <| Rt hΨ q q q
  refine Rm (aj .u8 t0) q (an q q (df h2)) <| cG q q (an q q (df h2)) <| Rm (aa (decide (65 ≤ t0))) q (an q q (df h2)) <| aN (fun h3 => ?_) (fun h3 => ?_)
  · exact Rm (aj .u8 t0) q (ak q q (dt h3)) <| dK q q (ak q q (dt h3)) <| aH (aa (decide (t0 ≤ 90))) q (dt h3) q (an q q (df h2)) <| ax (aa (decide (t0 ≤ 90))) q (df h2) q q <| Ra (aa (decide (t0 ≤ 90))) q q <| Rt hΨ q q q
  exact da q (df h3) <| ax (aa false) q (df h3) q (an q q (df h2)) <| ax (aa false) q (df h2) q q <| Ra (aa false) q q <| Rt hΨ q q q
theorem xi {t0 t1 r} (hr : mR t0 t1 = some r) : aB PP 216 [am t0, cC PP (fun x => [aj .u8 x]) (fun y => aa y) t1] (I_ r) := by
  refine Fo I_ Tryz.func216 q (n := 20) q q hr fun X hΨ => ?_
  refine Jq q <| Ra (I_ 0) q q <| R0 <| Jq q <| Ra (I_ 0) q q <| R0 <| Js <| aC ?_
  refine Jl (fun x1 => [(0, am t0), (1, cC PP (fun x => [aj .u8 x]) (fun y => aa y) t1), (5, I_ x1)]) (.all q) (fun E2 hE2 x1 => ?_)
  refine Js <| Js ?_
  apply ch (fun v17 => ⟨fr [(5, I_ x1), (8, I_ (t0.size : Int))], fun _ => none, 0⟩) (fun v17 => pL x1 v17)
  · intro K18
    refine Jr q <| Rm (I_ x1) q q <| Rm (am t0) q q <| hU gT q q <| aZ q q q <| Rm (aa (decide (x1 < (t0.size : Int)))) q q <| aN (fun h10 => ?_) (fun h10 => ?_)
    rotate_left
    · exact cy q (df h10) <| Kt q (df h10) <| ax (aa false) q (df h10) q q <| R0 <| dX q q <| Jk (K18 ()) (.all q)
    refine Rm (cC PP (fun x => [aj .u8 x]) (fun y => aa y) t1) q (ak q q (dt h10)) <| Rm (am t0) q (ak q q (dt h10)) <| Rm (I_ x1) q (ak q q (dt h10)) <| Ri fun h11 => ?_
    refine km fO q q h11.1 h11.2 (ak q q (dt h10)) <| aI fun b12 h13 => iz (ga := (fun x => [aj .u8 x])) (rt := (fun y => aa y)) (gg := t1) (u := cq t0 x1) (w := b12) q q h13 (NK.nk) (ak q q (dt h10)) <| aH (aa b12) q (dt h10) q q <| R0 <| bQ q (fun h14 => ?_) (fun h14 => ?_)
    rotate_left
    · exact Jk (K18 ()) (.all q)
    refine ao <| aC <| aG 8 (m := (t0.size : Int)) q fun q15 => aG 5 (m := x1) q fun q16 => Jr q <| Rm (I_ x1) q q <| aR (x1 + 1) q q (bu (by omega) (by omega)) q <| Ra (I_ (x1 + 1)) q q <| R0 <| bn ?_
    exact bt <| Jk (hE2 (x1 + 1)) (.all q)
  intro v17
  exact br q <| bO <| Jq q <| Rm (I_ x1) q q <| Ra (I_ x1) q q <| Rt hΨ q q q
theorem xE {t0 r} (hr : lG t0 = some r) : aB PP 218 [aj .u8 t0] (aa r) := by
  refine Fo aa Tryz.func218 q (n := 9) q q hr fun X hΨ => ?_
  refine Jq q <| Ra (aa false) q q <| R0 <| Jq q <| Rm (aj .u8 t0) q q <| cG q q q <| Rm (aa (decide (48 ≤ t0))) q q <| aN (fun h1 => ?_) (fun h1 => ?_)
  · exact Rm (aj .u8 t0) q (ak q q (dt h1)) <| dK q q (ak q q (dt h1)) <| aH (aa (decide (t0 ≤ 57))) q (dt h1) q q <| Ra (aa (decide (t0 ≤ 57))) q q <| Rt hΨ q q q
  exact da q (df h1) <| ax (aa false) q (df h1) q q <| Ra (aa false) q q <| Rt hΨ q q q
theorem L0 {t0 r} (hr : sV t0 = some r) : aB PP 217 [aj .u8 t0] (aa r) := by
  refine Fo aa Tryz.func217 q (n := 13) q q hr fun X hΨ => ?_
  refine Jq q <| Ra (aa false) q q <| R0 <| Jq q <| Rm (aj .u8 t0) q q <| Rc Az Dw q q fun b1 => Rm (aa b1) q q ?_
  refine aN (fun h3 => ?_) (fun h3 => ?_)
  · exact e9 q h3 <| aH (aa true) q h3 q q <| Rm (aa true) q q <| e9 q q <| aH (aa true) q q q q <| Ra (aa true) q q <| Rt hΨ q q q
  refine Rm (aj .u8 t0) q (an q q (bf h3)) <| Rc vP xE q (an q q (bf h3)) fun b4 => ax (aa b4) q (bf h3) q q <| Rm (aa b4) q q <| aN (fun h6 => ?_) (fun h6 => ?_)
  · exact e9 q h6 <| aH (aa true) q h6 q q <| Ra (aa true) q q <| Rt hΨ q q q
  exact Rm (aj .u8 t0) q (an q q (bf h6)) <| bY q q (an q q (bf h6)) <| ax (aa (decide (t0 = 95))) q (bf h6) q q <| Ra (aa (decide (t0 = 95))) q q <| Rt hΨ q q q
theorem Mi {t0 r} (hr : yj t0 = some r) : aB PP 237 [aj .u8 t0] (aa r) := by
  refine Fo aa Tryz.func237 q (n := 13) q q hr fun X hΨ => ?_
  refine Jq q <| Ra (aa false) q q <| R0 <| Jq q <| Rm (aj .u8 t0) q q <| cG q q q <| Rm (aa (decide (32 ≤ t0))) q q <| aN (fun h1 => ?_) (fun h1 => ?_)
  rotate_left
  · exact da q (df h1) <| ax (aa false) q (df h1) q q <| Rm (aa false) q q <| da q q <| ax (aa false) q q q q <| Ra (aa false) q q <| Rt hΨ q q q
  refine Rm (aj .u8 t0) q (ak q q (dt h1)) <| dK q q (ak q q (dt h1)) <| aH (aa (decide (t0 ≤ 126))) q (dt h1) q q <| Rm (aa (decide (t0 ≤ 126))) q q <| aN (fun h2 => ?_) (fun h2 => ?_)
  · exact Rm (aj .u8 t0) q (ak q q (dt h2)) <| bP q q (ak q q (dt h2)) <| aH (aa (decide (¬ (t0 = 34)))) q (dt h2) q q <| Ra (aa (decide (¬ (t0 = 34)))) q q <| Rt hΨ q q q
  exact da q (df h2) <| ax (aa false) q (df h2) q q <| Ra (aa false) q q <| Rt hΨ q q q
theorem LL {t0 r} (hr : tx t0 = some r) : aB PP 219 [am t0] (bk [I_ r.1, I_ r.2]) := by
  refine Fo (fun (r : Int × Int) => bk [I_ r.1, I_ r.2]) Tryz.func219 q (n := 24) q q hr fun X hΨ => ?_
  refine Jq q <| Ra (I_ 0) q q <| Ra (I_ 0) q q <| R0 <| Jq q <| Rm (am t0) q q <| Ri fun h1 => ?_
  refine kw 1 (t0.size : Int) fO q (l5 q) hi_n h1.1 h1.2.1 h1.2.2 q <| aI fun b2 h3 => gp [] [am (bT t0 1 (t0.size : Int)), bj 237 []] vO (xi h3) .nil q (.cons .same (.cons (.cloFn FS (fun x y h => Mi h)) .nil)) q <| Ra (I_ b2) q q <| R0 <| Js <| Jq q <| Rm (I_ b2) q q <| aI fun b4 h5 => ?_
  refine aR b4 q q (Option.some.inj h5) q <| Rm (am t0) q q <| hU gT q q <| bY q q q <| Rm (aa (decide (b4 = (t0.size : Int)))) q q <| aN (fun h6 => ?_) (fun h6 => ?_)
  · refine cx q (dt h6) <| Kf q (dt h6) <| aH (aa true) q (dt h6) q q <| R0 <| cJ q q <| Jq q ?_
    exact Ra (I_ 0) q q <| Ra (I_ 2) q q <| R0 <| Jt hΨ (bG (As := [I_ 0, I_ 2]) q q (.cons (.tmp (A := I_ 0) q) (.cons (.tmp (A := I_ 2) q) .nil))) q q
  refine Rm (am t0) q (an q q (df h6)) <| Rm (I_ b2) q (an q q (df h6)) <| aI fun b7 h8 => aR b7 q q (Option.some.inj h8) (an q q (df h6)) <| Ri fun h9 => ?_
  refine km fO q q h9.1 h9.2 (an q q (df h6)) <| bP q q (an q q (df h6)) <| ax (aa (decide (¬ (cq t0 b7 = 34)))) q (df h6) q q <| R0 <| aw q (fun h10 => ?_) (fun h10 => ?_)
  · exact Jq q <| Ra (I_ 0) q q <| Ra (I_ 2) q q <| R0 <| Jt hΨ (bG (As := [I_ 0, I_ 2]) q q (.cons (.tmp (A := I_ 0) q) (.cons (.tmp (A := I_ 2) q) .nil))) q q
  refine ao <| Js <| Jq q <| Rm (I_ b2) q q <| cK q q q <| R0 <| aw q (fun h11 => ?_) (fun h11 => ?_)
  · exact Jq q <| Ra (I_ 0) q q <| Ra (I_ 3) q q <| R0 <| Jt hΨ (bG (As := [I_ 0, I_ 3]) q q (.cons (.tmp (A := I_ 0) q) (.cons (.tmp (A := I_ 3) q) .nil))) q q
  exact ao <| Jq q <| Rm (I_ b2) q q <| aI fun b12 h13 => aR b12 q q (Option.some.inj h13) q <| Ra (I_ b12) q q <| Ra (I_ 0) q q <| R0 <| Jt hΨ (bG (As := [I_ b12, I_ 0]) q q (.cons (.tmp (A := I_ b12) q) (.cons (.tmp (A := I_ 0) q) .nil))) q q
theorem N2 {t0 t1 r} (hr : uV t0 t1 = some r) : aB PP 222 [AL 1 bq t0, am t1] (I_ r) := by
  refine Fo I_ Tryz.func222 q (n := 19) q q hr fun X hΨ => ?_
  refine Jq q <| Ra (I_ 0) q q <| R0 <| Js <| Jq q <| Rm (AL 1 bq t0) q q <| aD (cc := bq) iM q q <| Rm (I_ 0) q q ?_
  refine R0 <| aC <| Jl (fun x1 => [(0, AL 1 bq t0), (1, am t1), (7, I_ (t0.length : Int)), (8, I_ x1)]) (.all q) (fun E2 hE2 x1 => ?_)
  refine Jq q <| aZ q q q <| R0 <| Js <| aw q (fun h6 => ?_) (fun h6 => ?_)
  rotate_left
  · exact br q <| bO <| Jq q <| Ra (I_ (-1)) q q <| Rt hΨ q q q
  refine ao <| Js <| aC <| Jq q <| Rm (I_ x1) q q <| Ra (I_ x1) q q <| R0 <| Jq q ?_
  refine Rm (am t1) q q <| Rm (AL 1 bq t0) q q <| Rm (I_ x1) q q <| Ri fun h7 => ?_
  refine aQ (cc := bq) fD q q h7.1 h7.2 q <| ag (am (nth t0 x1)) dp q q q <| ip q q q <| R0 <| aw q (fun h8 => ?_) (fun h8 => ?_)
  · exact Jq q <| Rm (I_ x1) q q <| Ra (I_ x1) q q <| Ro hΨ q q q
  exact ao <| bn <| aG 7 (m := (t0.length : Int)) q fun q9 => aG 5 (m := x1) q fun q10 => Jr q <| aR (x1 + 1) q q (bu (by omega) (by omega)) q <| Rm (I_ (x1 + 1)) q q <| R0 <| bt <| Jk (hE2 (x1 + 1)) (.all q)
theorem Ef {t0 t1 r} (hr : qP t0 t1 = some r) : aB PP 183 [AL 1 bq t0, am t1] (aa r) := by
  refine Fo aa Tryz.func183 q (n := 9) q q hr fun X hΨ => ?_
  refine Jq q <| Ra (aa false) q q <| R0 <| Jq q <| Rm (AL 1 bq t0) q q <| Rm (am t1) q q <| Rc FK N2 q q fun b1 => ?_
  exact cG q q q <| Ra (aa (decide (0 ≤ b1))) q q <| Rt hΨ q q q
theorem KZ {t0 r} (hr : sU t0 = some r) : aB PP 220 [am t0] (aa r) := by
  refine Fo aa Tryz.func220 q (n := 12) q q hr fun X hΨ => ?_
  refine Jq q <| Ra (aa false) q q <| R0 <| Jq q <| Rm (am t0) q q <| hU gT q q <| cG q q q <| Rm (aa (decide (2 ≤ (t0.size : Int)))) q q ?_
  refine aN (fun h1 => ?_) (fun h1 => ?_)
  rotate_left
  · exact cy q (df h1) <| ax (aa false) q (df h1) q q <| Ra (aa false) q q <| Rt hΨ q q q
  refine cF (cc := bq) [(ByteArray.mk #[45, 62]), (ByteArray.mk #[60, 61]), (ByteArray.mk #[62, 61]), (ByteArray.mk #[61, 61]), (ByteArray.mk #[33, 61])] fD GF (.cons (A := am (ByteArray.mk #[45, 62])) q q q (.cons (A := am (ByteArray.mk #[60, 61])) q q q (.cons (A := am (ByteArray.mk #[62, 61])) q q q (.cons (A := am (ByteArray.mk #[61, 61])) q q q (.cons (A := am (ByteArray.mk #[33, 61])) q q q .nil))))) q q (ak q q (dt h1)) <| Rm (am t0) q (ak q q (dt h1)) <| Ri fun h2 => ?_
  exact kw 0 2 fO q jh (fU q) h2.1 h2.2.1 h2.2.2 (ak q q (dt h1)) <| Rc Ap Ef q (ak q q (dt h1)) fun b3 => aH (aa b3) q (dt h1) q q <| Ra (aa b3) q q <| Rt hΨ q q q
theorem Nb {t0 t1 r} (hr : za t0 t1 = some r) : aB PP 238 [am t0, aj .u8 t1] (I_ r) := by
  refine Fo I_ Tryz.func238 q (n := 8) q q hr fun X hΨ => ?_
  refine Jq q <| Ra (I_ 0) q q <| R0 <| Jq q <| Rm (am t0) q q <| Rm (aj .u8 t1) q q <| Iu G6 q q q <| Ra (I_ (kt t0 t1)) q q ?_
  exact Rt hΨ q q q
theorem ML {t0 t1 r} (hr : yN t0 t1 = some r) : aB PP 221 [am t0, aj .u8 t1] (I_ r) := by
  refine Fo I_ Tryz.func221 q (n := 8) q q hr fun X hΨ => ?_
  refine Jq q <| Ra (I_ 0) q q <| R0 <| Jq q <| Rm (am t0) q q <| Rm (aj .u8 t1) q q <| Rc FT Nb q q fun b1 => ?_
  exact Ra (I_ b1) q q <| Rt hΨ q q q
theorem KY {t0 r} (hr : mZ t0 = some r) : aB PP 181 [am t0] (bk [I_ r.1, I_ r.2.1, I_ r.2.2]) := by
  refine Fo (fun (r : Int × Int × Int) => bk [I_ r.1, I_ r.2.1, I_ r.2.2]) Tryz.func181 q (n := 45) q q hr fun X hΨ => ?_
  refine Jq q <| Ra (I_ 0) q q <| Ra (I_ 0) q q <| Ra (I_ 0) q q <| R0 <| Jq q <| Rm (am t0) q q <| Ri fun h1 => ?_
  refine km fO q q h1.1 h1.2 q <| Ra (aj .u8 (cq t0 0)) q q <| R0 <| Js <| aC <| Jq q <| Rm (aj .u8 (cq t0 0)) q q <| Rc Az Dw q q fun b2 => ?_
  refine Ra (aa b2) q q <| R0 <| bQ q (fun h4 => ?_) (fun h4 => ?_)
  · refine Jq q <| Rm (am t0) q q <| aI fun b5 h6 => gp [] [am t0, bj 217 []] vO (xi h6) .nil q (.cons .same (.cons (.cloFn FG (fun x y h => L0 h)) .nil)) q <| Ra (I_ b5) q q <| R0 <| Js <| Jq q ?_
    refine Rm (I_ b5) q q <| cK q q q <| R0 <| aw q (fun h7 => ?_) (fun h7 => ?_)
    · exact Jq q <| Ra (I_ 0) q q <| Ra (I_ 0) q q <| Ra (I_ 3) q q <| R0 <| Jt hΨ (bG (As := [I_ 0, I_ 0, I_ 3]) q q (.cons (.tmp (A := I_ 0) q) (.cons (.tmp (A := I_ 0) q) (.cons (.tmp (A := I_ 3) q) .nil)))) q q
    exact ao <| Jq q <| Rm (I_ b5) q q <| Ra (I_ 1) q q <| Ra (I_ b5) q q <| Ra (I_ 0) q q <| R0 <| Jt hΨ (bG (As := [I_ 1, I_ b5, I_ 0]) q q (.cons (.tmp (A := I_ 1) q) (.cons (.tmp (A := I_ b5) q) (.cons (.tmp (A := I_ 0) q) .nil)))) q q
  refine Jq q <| Rm (aj .u8 (cq t0 0)) q q <| Rc vP xE q q fun b8 => Ra (aa b8) q q <| R0 <| bQ q (fun h10 => ?_) (fun h10 => ?_)
  · refine Jq q <| Rm (am t0) q q <| aI fun b11 h12 => gp [] [am t0, bj 218 []] vO (xi h12) .nil q (.cons .same (.cons (.cloFn vP (fun x y h => xE h)) .nil)) q <| Ra (I_ b11) q q <| R0 <| Js <| Jq q ?_
    refine Rm (I_ b11) q q <| cK q q q <| R0 <| aw q (fun h13 => ?_) (fun h13 => ?_)
    · exact Jq q <| Ra (I_ 0) q q <| Ra (I_ 0) q q <| Ra (I_ 3) q q <| R0 <| Jt hΨ (bG (As := [I_ 0, I_ 0, I_ 3]) q q (.cons (.tmp (A := I_ 0) q) (.cons (.tmp (A := I_ 0) q) (.cons (.tmp (A := I_ 3) q) .nil)))) q q
    exact ao <| Jq q <| Rm (I_ b11) q q <| Ra (I_ 2) q q <| Ra (I_ b11) q q <| Ra (I_ 0) q q <| R0 <| Jt hΨ (bG (As := [I_ 2, I_ b11, I_ 0]) q q (.cons (.tmp (A := I_ 2) q) (.cons (.tmp (A := I_ b11) q) (.cons (.tmp (A := I_ 0) q) .nil)))) q q
  refine Jq q <| Rm (aj .u8 (cq t0 0)) q q <| bY q q q <| Ra (aa (decide (cq t0 0 = 34))) q q <| R0 <| aw q (fun h14 => ?_) (fun h14 => ?_)
  · refine Jq q <| Rm (am t0) q q <| Rc FH LL q q fun b15 => Rm (bk [I_ b15.1, I_ b15.2]) q q <| bx (I_ b15.1) q q q <| bx (I_ b15.2) q q q <| Ra (I_ b15.1) q q <| Ra (I_ b15.2) q q ?_
    exact R0 <| Jq q <| Rm (I_ b15.1) q q <| Rm (I_ b15.2) q q <| Ra (I_ 3) q q <| Ra (I_ b15.1) q q <| Ra (I_ b15.2) q q <| R0 <| Jt hΨ (bG (As := [I_ 3, I_ b15.1, I_ b15.2]) q q (.cons (.tmp (A := I_ 3) q) (.cons (.tmp (A := I_ b15.1) q) (.cons (.tmp (A := I_ b15.2) q) .nil)))) q q
  refine Jq q <| Rm (am t0) q q <| Rc FI KZ q q fun b17 => Ra (aa b17) q q <| R0 <| bQ q (fun h19 => ?_) (fun h19 => ?_)
  · exact Jq q <| Ra (I_ 4) q q <| Ra (I_ 2) q q <| Ra (I_ 0) q q <| R0 <| Jt hΨ (bG (As := [I_ 4, I_ 2, I_ 0]) q q (.cons (.tmp (A := I_ 4) q) (.cons (.tmp (A := I_ 2) q) (.cons (.tmp (A := I_ 0) q) .nil)))) q q
  refine Jq q <| Rm (aj .u8 (cq t0 0)) q q <| Rc FJ ML q q fun b20 => cG q q q <| Ra (aa (decide (0 ≤ b20))) q q <| R0 <| aw q (fun h22 => ?_) (fun h22 => ?_)
  · exact Jq q <| Ra (I_ 4) q q <| Ra (I_ 1) q q <| Ra (I_ 0) q q <| R0 <| Jt hΨ (bG (As := [I_ 4, I_ 1, I_ 0]) q q (.cons (.tmp (A := I_ 4) q) (.cons (.tmp (A := I_ 1) q) (.cons (.tmp (A := I_ 0) q) .nil)))) q q
  exact ao <| bn <| Jq q <| Ra (I_ 0) q q <| Ra (I_ 0) q q <| Ra (I_ 2) q q <| R0 <| Jt hΨ (bG (As := [I_ 0, I_ 0, I_ 2]) q q (.cons (.tmp (A := I_ 0) q) (.cons (.tmp (A := I_ 0) q) (.cons (.tmp (A := I_ 2) q) .nil)))) q q
theorem Ly {t0 r} (hr : xr t0 = some r) : aB PP 145 [ac (cA t0)] (bk [am r.1, aa r.2]) := by
  refine Fo (fun (r : ByteArray × Bool) => bk [am r.1, aa r.2]) Tryz.func145 q (n := 39) q q hr fun X hΨ => ?_
  refine Jq q <| aV (ac (cA t0)) q q <| Ra (am (ByteArray.mk #[])) q q <| Ra (aa false) q q <| R0 <| Jq q <| ai (bq t0.Text) wA q q q <| ag (am t0.Text) dp q q q ?_
  refine Ra (am t0.Text) q q <| R0 <| Js <| Jq q <| ai (ab t0.Kind) p0 q q q <| ag (I_ t0.Kind) ay q q q <| bY q q q <| R0 ?_
  apply ch (fun v9 => ⟨fr [(1, ap (cA t0)), (4, am v9)], fun _ => none, 0⟩) (fun v9 => u7 t0 v9)
  · intro K15
    refine aw q (fun h1 => ?_) (fun h1 => ?_)
    rotate_left
    · exact ao <| Jk (K15 t0.Text) (.all q)
    refine Jr q <| Rm (am t0.Text) q q <| Ri fun h2 => ?_
    refine rN q q h2 q <| Ri fun h3 => ?_
    exact rN q q h3 q <| Ra (am (((ByteArray.mk #[34]) ++ t0.Text) ++ (ByteArray.mk #[34]))) q q <| R0 <| Jk (K15 (((ByteArray.mk #[34]) ++ t0.Text) ++ (ByteArray.mk #[34]))) (.all q)
  intro v9
  refine Js <| Jq q <| Rm (am v9) q q <| ip q q q <| R0 <| aw q (fun h10 => ?_) (fun h10 => ?_)
  · exact Jq q <| Ra (am (ByteArray.mk #[])) q q <| Ra (aa false) q q <| R0 <| Jt hΨ (bG (As := [am (ByteArray.mk #[]), aa false]) q q (.cons (.tmp (A := am (ByteArray.mk #[])) q) (.cons (.tmp (A := aa false) q) .nil))) q q
  refine ao <| Jq q <| Rm (am v9) q q <| Rc Fn KY q q fun b11 => Rm (bk [I_ b11.1, I_ b11.2.1, I_ b11.2.2]) q q <| bx (I_ b11.1) q q q <| bx (I_ b11.2.1) q q q <| bx (I_ b11.2.2) q q q ?_
  refine Ra (I_ b11.1) q q <| Ra (I_ b11.2.1) q q <| Ra (I_ b11.2.2) q q <| R0 <| Jq q <| Rm (am v9) q q <| Rm (I_ b11.2.2) q q <| bY q q q <| Rm (aa (decide (b11.2.2 = 0))) q q ?_
  refine aN (fun h13 => ?_) (fun h13 => ?_)
  rotate_left
  · refine cy q (df h13) <| ax (aa false) q (df h13) q q <| Rm (aa false) q q <| cy q q ?_
    exact ax (aa false) q q q q <| Ra (am v9) q q <| Ra (aa false) q q <| R0 <| Jt hΨ (bG (As := [am v9, aa false]) q q (.cons (.tmp (A := am v9) q) (.cons (.tmp (A := aa false) q) .nil))) q q
  refine Rm (I_ b11.1) q (ak q q (dt h13)) <| ai (ab t0.Kind) p0 q q (ak q q (dt h13)) <| ag (I_ t0.Kind) ay q q (ak q q (dt h13)) <| bY q q (ak q q (dt h13)) <| aH (aa (decide (b11.1 = t0.Kind))) q (dt h13) q q <| Rm (aa (decide (b11.1 = t0.Kind))) q q <| aN (fun h14 => ?_) (fun h14 => ?_)
  · exact Rm (I_ b11.2.1) q (ak q q (dt h14)) <| Rm (am v9) q (ak q q (dt h14)) <| hU gT q (ak q q (dt h14)) <| bY q q (ak q q (dt h14)) <| aH (aa (decide (b11.2.1 = (v9.size : Int)))) q (dt h14) q q <| Ra (am v9) q q <| Ra (aa (decide (b11.2.1 = (v9.size : Int)))) q q <| R0 <| Jt hΨ (bG (As := [am v9, aa (decide (b11.2.1 = (v9.size : Int)))]) q q (.cons (.tmp (A := am v9) q) (.cons (.tmp (A := aa (decide (b11.2.1 = (v9.size : Int)))) q) .nil))) q q
  exact cy q (df h14) <| ax (aa false) q (df h14) q q <| Ra (am v9) q q <| Ra (aa false) q q <| R0 <| Jt hΨ (bG (As := [am v9, aa false]) q q (.cons (.tmp (A := am v9) q) (.cons (.tmp (A := aa false) q) .nil))) q q
theorem pS {t0 r} (hr : gc t0 = some r) : aB PP 94 [am t0] (aa r) := by
  refine Fo aa Tryz.func94 q (n := 12) q q hr fun X hΨ => ?_
  refine Jq q <| Ra (aa false) q q <| R0 <| Jq q <| Rm (am t0) q q <| cO (cA (cm.mk 1 t0 0)) jB iq (.cons (A := I_ 1) q p8 q (.cons (A := am t0) q p9 q .nil)) q q <| Rc F0 Ly q q fun b1 => ?_
  refine Rm (bk [am b1.1, aa b1.2]) q q <| bx (am b1.1) q q q <| bx (aa b1.2) q q q <| Ra (am b1.1) q q <| Ra (aa b1.2) q q <| R0 <| Jq q <| Rm (aa b1.2) q q <| Ra (aa b1.2) q q ?_
  exact Rt hΨ q q q
theorem Np {t0 t1 r} (hr : El t0 t1 = some r) : aB PP 146 [AL 4 aM t0, cC PP (fun x => [ac (aM x)]) (fun y => aa y) t1] (I_ r) := by
  refine Fo I_ Tryz.func146 q (n := 19) q q hr fun X hΨ => ?_
  refine Jq q <| Ra (I_ 0) q q <| R0 <| Js <| Jq q <| Rm (AL 4 aM t0) q q <| aD (cc := aM) ef q q <| Rm (I_ 0) q q ?_
  refine R0 <| aC <| Jl (fun x1 => [(0, AL 4 aM t0), (1, cC PP (fun x => [ac (aM x)]) (fun y => aa y) t1), (7, I_ (t0.length : Int)), (8, I_ x1)]) (.all q) (fun E2 hE2 x1 => ?_)
  refine Jq q <| aZ q q q <| R0 <| Js <| aw q (fun h8 => ?_) (fun h8 => ?_)
  rotate_left
  · exact br q <| bO <| Jq q <| Ra (I_ (-1)) q q <| Rt hΨ q q q
  refine ao <| Js <| aC <| Jq q <| Rm (I_ x1) q q <| Ra (I_ x1) q q <| R0 <| Jq q ?_
  refine Rm (cC PP (fun x => [ac (aM x)]) (fun y => aa y) t1) q q <| Rm (AL 4 aM t0) q q <| Rm (I_ x1) q q <| Ri fun h9 => ?_
  refine aQ (cc := aM) ft q q h9.1 h9.2 q <| aK (aM (nth t0 x1)) ou q q q q <| aI fun b10 h11 => iz (ga := (fun x => [ac (aM x)])) (rt := (fun y => aa y)) (gg := t1) (u := (nth t0 x1)) (w := b10) q q h11 (NK.nk) q <| R0 <| bQ q (fun h12 => ?_) (fun h12 => ?_)
  · exact Jq q <| Rm (I_ x1) q q <| Ra (I_ x1) q q <| Ro hΨ q q q
  exact ao <| bn <| aG 7 (m := (t0.length : Int)) q fun q13 => aG 5 (m := x1) q fun q14 => Jr q <| aR (x1 + 1) q q (bu (by omega) (by omega)) q <| Rm (I_ (x1 + 1)) q q <| R0 <| bt <| Jk (hE2 (x1 + 1)) (.all q)
theorem Nu {t0 t1 r} (hr : zk t0 t1 = some r) : aB PP 95 [AL 4 aM t0, cC PP (fun x => [ac (aM x)]) (fun y => aa y) t1] (aa r) := by
  refine Fo aa Tryz.func95 q (n := 9) q q hr fun X hΨ => ?_
  refine Jq q <| Ra (aa false) q q <| R0 <| Jq q <| Rm (AL 4 aM t0) q q <| Rm (cC PP (fun x => [ac (aM x)]) (fun y => aa y) t1) q q <| Rc F1 Np q q fun b1 => ?_
  exact cG q q q <| Ra (aa (decide (0 ≤ b1))) q q <| Rt hΨ q q q
theorem LO {t0 t1 r} (hr : tA t0 t1 = some r) : aB PP 96 [ac (aM t0), ap (aM t1)] (aa r) := by
  refine Fo aa Tryz.func96 q (n := 9) q q hr fun X hΨ => ?_
  refine Jq q <| aV (ac (aM t0)) q q <| Ra (aa false) q q <| R0 <| Jq q <| ai (bq t0.Name) kz q q q <| ag (am t0.Name) dp q q q <| ai (bq t1.Name) kz q q q ?_
  exact ag (am t1.Name) dp q q q <| ip q q q <| Ra (aa (decide (t0.Name = t1.Name))) q q <| Rt hΨ q q q
theorem M2 (q_types_attrs : aq → Int → Option (List aW)) (hq_types_attrs : ∀ (t0 : aq) (t1 : Int) (r : (List aW)), q_types_attrs t0 t1 = some r → dc PP 97 0 [] [ac (au t0), I_ t1] [(0, .row 100 4 (r.map aL))] (a8 0)) (t0 : aq) (t1 : Int) (r : (List aW)) (hr : pM q_types_attrs t0 t1 = some r) : dc PP 97 0 [] [ac (au t0), I_ t1] [(0, .row 100 4 (r.map aL))] (a8 0) := by
  refine Ko (fun (r : (List aW)) => [(0, .row 100 4 (r.map aL))]) (fun (r : (List aW)) => a8 0) Tryz.func97 q (n := 26) q (bH.cons inferInstance (bH.cons inferInstance (inferInstance : bH 0 []))).kb (eZ.spec .nil) q hr fun X hΨ => ?_
  refine Jq q <| aV (ac (au t0)) q q <| Ra (af) q q <| R0 <| Jq q <| Ra (af) q q <| R0 <| Js ?_
  refine Jq q <| ai ((cL 4 aM) t0.Nodes) dk q q q <| ag (AL 4 aM t0.Nodes) dl q q q <| Rm (I_ t1) q q <| Ri fun h1 => ?_
  refine aQ (cc := aM) ft q q h1.1 h1.2 q <| ai (ab ((nth t0.Nodes t1).Parent)) lq q q q <| ag (I_ ((nth t0.Nodes t1).Parent)) ay q q q <| Ra (I_ ((nth t0.Nodes t1).Parent)) q q <| R0 <| Jq q <| Rm (I_ ((nth t0.Nodes t1).Parent)) q q <| cG q q q <| R0 ?_
  apply ch (fun v6 => ⟨fr [(1, I_ t1), (2, ap (au t0)), (5, a8 0)], hp [(0, .row 100 4 (v6.map aL))], 1⟩) (fun v6 => u9 t0 t1 v6)
  · intro K8
    refine aw q (fun h2 => ?_) (fun h2 => ?_)
    rotate_left
    · exact ao <| Jc [] [] [0] (K8 []) (.s2 q q (.cons (A := af) q (.nilobj q q) .nil)) (.new q q .nil) q q
    exact Jr q <| aK (au t0) bN q q q q <| Rm (I_ ((nth t0.Nodes t1).Parent)) q q <| aI fun b3 h4 => gq [] [] [] [0] 1 [] [(0, .row 100 4 (b3.map aL))] (a8 0) [ac (au t0), I_ ((nth t0.Nodes t1).Parent)] vt (hq_types_attrs _ _ _ h4) .nil q (.cons .same (.cons .same .nil)) .nil (.cc q (.row (ah.flat _ _)) q .nil) (.ob q) q q q <| Ra (a8 0) q q <| R0 <| Jc [] [] [] (K8 b3) (.s2 q q (.cons (A := a8 0) q (.ob q) .nil)) (.cc q (.row (ah.flat _ _)) q .nil) q q
  intro v6
  refine Jq q <| Rm (a8 0) q q <| ai ((cL 4 aM) t0.Nodes) dk q q q <| ag (AL 4 aM t0.Nodes) dl q q q <| Rm (I_ t1) q q <| aQ (cc := aM) ft q q h1.1 h1.2 q <| ai ((cL 4 aL) ((nth t0.Nodes t1).Attrs)) kA q q q <| ag (AL 4 aL ((nth t0.Nodes t1).Attrs)) me q q q <| Ri fun h7 => ?_
  exact dx (cc := aL) (xs := v6) (ys := (nth t0.Nodes t1).Attrs) 1 r9 q q q h7 q q q <| Ra (a8 1) q q <| R0 <| eH hΨ (d8 q (.tmp (A := a8 1) q)) [] [(0, 1)] [] q (fun y hy => by cases hy; exact ⟨(.cc q (.row (ah.flat _ _)) q .nil), (.ob q)⟩)
theorem Ml : ∀ n, (∀ (t0 : aq) (t1 : Int) (r : (List aW)), (jb n) t0 t1 = some r → dc PP 97 0 [] [ac (au t0), I_ t1] [(0, .row 100 4 (r.map aL))] (a8 0)) := by
  intro n
  induction n with
  | zero => exact (fun _ _ _ h => by cases h)
  | succ n ih => exact (fun a0 a1 r h => M2 _ ih a0 a1 r h)
theorem Dc {t0 t1 r} (hr : tf t0 t1 = some r) : dc PP 97 0 [] [ac (au t0), I_ t1] [(0, .row 100 4 (r.map aL))] (a8 0) := by
  obtain ⟨n, hn⟩ := iS hr
  exact (Ml n) t0 t1 r hn
theorem Ni {t0 t1 r} (hr : Eg t0 t1 = some r) : aB PP 182 [AL 4 aL t0, cC PP (fun x => [ac (aL x)]) (fun y => aa y) t1] (I_ r) := by
  refine Fo I_ Tryz.func182 q (n := 19) q q hr fun X hΨ => ?_
  refine Jq q <| Ra (I_ 0) q q <| R0 <| Js <| Jq q <| Rm (AL 4 aL t0) q q <| aD (cc := aL) fv q q <| Rm (I_ 0) q q ?_
  refine R0 <| aC <| Jl (fun x1 => [(0, AL 4 aL t0), (1, cC PP (fun x => [ac (aL x)]) (fun y => aa y) t1), (7, I_ (t0.length : Int)), (8, I_ x1)]) (.all q) (fun E2 hE2 x1 => ?_)
  refine Jq q <| aZ q q q <| R0 <| Js <| aw q (fun h8 => ?_) (fun h8 => ?_)
  rotate_left
  · exact br q <| bO <| Jq q <| Ra (I_ (-1)) q q <| Rt hΨ q q q
  refine ao <| Js <| aC <| Jq q <| Rm (I_ x1) q q <| Ra (I_ x1) q q <| R0 <| Jq q ?_
  refine Rm (cC PP (fun x => [ac (aL x)]) (fun y => aa y) t1) q q <| Rm (AL 4 aL t0) q q <| Rm (I_ x1) q q <| Ri fun h9 => ?_
  refine aQ (cc := aL) fC q q h9.1 h9.2 q <| aK (aL (nth t0 x1)) jx q q q q <| aI fun b10 h11 => iz (ga := (fun x => [ac (aL x)])) (rt := (fun y => aa y)) (gg := t1) (u := (nth t0 x1)) (w := b10) q q h11 (NK.nk) q <| R0 <| bQ q (fun h12 => ?_) (fun h12 => ?_)
  · exact Jq q <| Rm (I_ x1) q q <| Ra (I_ x1) q q <| Ro hΨ q q q
  exact ao <| bn <| aG 7 (m := (t0.length : Int)) q fun q13 => aG 5 (m := x1) q fun q14 => Jr q <| aR (x1 + 1) q q (bu (by omega) (by omega)) q <| Rm (I_ (x1 + 1)) q q <| R0 <| bt <| Jk (hE2 (x1 + 1)) (.all q)
theorem Nn {t0 t1 r} (hr : zf t0 t1 = some r) : aB PP 147 [AL 4 aL t0, cC PP (fun x => [ac (aL x)]) (fun y => aa y) t1] (aa r) := by
  refine Fo aa Tryz.func147 q (n := 9) q q hr fun X hΨ => ?_
  refine Jq q <| Ra (aa false) q q <| R0 <| Jq q <| Rm (AL 4 aL t0) q q <| Rm (cC PP (fun x => [ac (aL x)]) (fun y => aa y) t1) q q <| Rc Fp Ni q q fun b1 => ?_
  exact cG q q q <| Ra (aa (decide (0 ≤ b1))) q q <| Rt hΨ q q q
theorem MM {t0 t1 r} (hr : qC t0 t1 = some r) : aB PP 148 [ac (aL t0), ap (aL t1)] (aa r) := by
  refine Fo aa Tryz.func148 q (n := 9) q q hr fun X hΨ => ?_
  refine Jq q <| aV (ac (aL t0)) q q <| Ra (aa false) q q <| R0 <| Jq q <| ai (bq t0.Name) mH q q q <| ag (am t0.Name) dp q q q <| ai (bq t1.Name) mH q q q ?_
  exact ag (am t1.Name) dp q q q <| ip q q q <| Ra (aa (decide (t0.Name = t1.Name))) q q <| Rt hΨ q q q
theorem LA {t0 r} (hr : j7 t0 = some r) : aB PP 149 [AL 1 bq t0] (I_ r) := by
  refine Fo I_ Tryz.func149 q (n := 26) q q hr fun X hΨ => ?_
  refine Jq q <| Ra (I_ 0) q q <| R0 <| Js <| Jq q <| Rm (AL 1 bq t0) q q <| aD (cc := bq) iM q q <| cK q q q ?_
  refine R0 <| aw q (fun h1 => ?_) (fun h1 => ?_)
  · exact Jq q <| Ra (I_ 3) q q <| Rt hΨ q q q
  refine ao <| Js <| Jq q <| Rm (AL 1 bq t0) q q <| aD (cc := bq) iM q q <| Rm (I_ 0) q q <| R0 <| aC <| Jl (fun x2 => [(0, AL 1 bq t0), (8, AL 1 bq t0), (9, I_ (t0.length : Int)), (10, I_ x2)]) (.all q) (fun E3 hE3 x2 => ?_)
  refine Jq q <| aZ q q q <| R0 <| Js <| aw q (fun h13 => ?_) (fun h13 => ?_)
  rotate_left
  · exact br q <| bO <| Jq q <| Ra (I_ 0) q q <| Rt hΨ q q q
  refine ao <| Js <| aC <| Jq q <| Rm (I_ x2) q q <| Ri fun h14 => ?_
  refine aQ (cc := bq) fD q q h14.1 h14.2 q <| ag (am (nth t0 x2)) dp q q q <| Ra (I_ x2) q q <| Ra (am (nth t0 x2)) q q <| R0 <| aC <| Jq q <| Rm (am (nth t0 x2)) q q <| aI fun b15 h16 => ?_
  refine dv _ oz (pS h16) q q <| cd q q <| Ra (aa (!b15)) q q <| R0 <| bQ q (fun h17 => ?_) (fun h17 => ?_)
  · exact Jq q <| Ra (I_ 2) q q <| Ro hΨ q q q
  refine Jq q <| Rm (AL 1 bq t0) q q <| Rm (I_ x2) q q <| Ri fun h18 => ?_
  refine kl (cc := bq) 0 x2 fD q jh (fU q) h18.1 h18.2.1 h18.2.2 q <| Rm (am (nth t0 x2)) q q <| Rc Ap Ef q q fun b19 => Ra (aa b19) q q <| R0 <| bQ q (fun h21 => ?_) (fun h21 => ?_)
  · exact Jq q <| Ra (I_ 5) q q <| Ro hΨ q q q
  exact ao <| bn <| bn <| aG 9 (m := (t0.length : Int)) q fun q22 => aG 3 (m := x2) q fun q23 => Jr q <| aR (x2 + 1) q q (bu (by omega) (by omega)) q <| Rm (I_ (x2 + 1)) q q <| R0 <| bt <| Jk (hE3 (x2 + 1)) (.all q)
theorem Mq {t0 t1 r} (hr : jR t0 t1 = some r) : aB PP 98 [ac (aL t0), AL 4 aL t1] (I_ r) := by
  refine Fo I_ Tryz.func98 q (n := 55) q q hr fun X hΨ => ?_
  refine Jq q <| aV (ac (aL t0)) q q <| Ra (I_ 0) q q <| R0 <| Js <| aC <| Jq q <| ai (bq t0.Name) mH q q q ?_
  refine ag (am t0.Name) dp q q q <| Rc oz pS q q fun b1 => cd q q <| Ra (aa (!b1)) q q <| R0 <| bQ q (fun h3 => ?_) (fun h3 => ?_)
  · exact Jq q <| Ra (I_ 2) q q <| Rt hΨ q q q
  refine Jq q <| Rm (AL 4 aL t1) q q <| fR [ap (aL t0)] (fun x => [ac (aL x)]) (fun y => aa y) (fun x => qC x t0) F3 q (fun x y h => MM h) q <| Rc F2 Nn q q fun b4 => Ra (aa b4) q q <| R0 <| bQ q (fun h6 => ?_) (fun h6 => ?_)
  · exact Jq q <| Ra (I_ 5) q q <| Rt hΨ q q q
  refine ao <| bn <| Js <| Jq q <| ai ((cL 1 bq) t0.Names) iV q q q <| ag (AL 1 bq t0.Names) kn q q q <| Rc F4 LA q q fun b7 => Ra (I_ b7) q q ?_
  refine R0 <| Jq q <| Rm (I_ b7) q q <| bP q q q <| R0 <| aw q (fun h9 => ?_) (fun h9 => ?_)
  · exact Jq q <| Rm (I_ b7) q q <| Ra (I_ b7) q q <| Rt hΨ q q q
  refine ao <| Js ?_
  apply ch (fun v21 => ⟨fr [(2, ap (aL t0)), (6, aa v21)], fun _ => none, 0⟩) (fun v21 => od t0 v21)
  · intro K31
    refine Jr q <| ai (ab t0.Low) mI q q q <| ag (I_ t0.Low) ay q q q <| dK q q q <| Rm (aa (decide ((-1000000) ≤ t0.Low))) q q <| aN (fun h10 => ?_) (fun h10 => ?_)
    rotate_left
    · refine cy q (df h10) <| Kt q (df h10) <| ax (aa false) q (df h10) q q <| Rm (aa false) q q <| c7 q q ?_
      exact ax (aa false) q q q q <| Ra (aa false) q q <| R0 <| Jk (K31 false) (.all q)
    refine ai (ab t0.Low) mI q q (ak q q (dt h10)) <| ag (I_ t0.Low) ay q q (ak q q (dt h10)) <| ai (ab t0.High) oX q q (ak q q (dt h10)) <| ag (I_ t0.High) ay q q (ak q q (dt h10)) <| dK q q (ak q q (dt h10)) <| aH (aa (decide (t0.Low ≤ t0.High))) q (dt h10) q q <| Rm (aa (decide (t0.Low ≤ t0.High))) q q <| aN (fun h11 => ?_) (fun h11 => ?_)
    · exact ai (ab t0.High) oX q q (ak q q (dt h11)) <| ag (I_ t0.High) ay q q (ak q q (dt h11)) <| dK q q (ak q q (dt h11)) <| aH (aa (decide (t0.High ≤ 1000000))) q (dt h11) q q <| Ra (aa (decide (t0.High ≤ 1000000))) q q <| R0 <| Jk (K31 (decide (t0.High ≤ 1000000))) (.all q)
    exact c7 q (df h11) <| ax (aa false) q (df h11) q q <| Ra (aa false) q q <| R0 <| Jk (K31 false) (.all q)
  intro v21
  refine Js <| Jq q <| ai ((cL 1 bq) t0.Names) iV q q q <| ag (AL 1 bq t0.Names) kn q q q <| aD (cc := bq) iM q q <| cK q q q <| R0 ?_
  apply ch (fun v28 => ⟨fr [(6, aa v28), (39, I_ (t0.Names.length : Int))], fun _ => none, 0⟩) (fun v28 => qN v28)
  · intro K30
    refine aw q (fun h22 => ?_) (fun h22 => ?_)
    rotate_left
    · exact ao <| Jk (K30 v21) (.all q)
    apply ch (fun v25 => ⟨fr [(6, aa v25), (39, I_ (t0.Names.length : Int))], fun _ => none, 0⟩) (fun v25 => qM v25)
    · intro K26
      refine aG 39 (m := (t0.Names.length : Int)) q fun q24 => Jr q <| ai (ab t0.Low) mI q q q <| ag (I_ t0.Low) ay q q q <| bY q q q <| Rm (aa (decide (t0.Low = 0))) q q <| aN (fun h23 => ?_) (fun h23 => ?_)
      · refine ai (ab t0.High) oX q q (ak q q (dt h23)) <| ag (I_ t0.High) ay q q (ak q q (dt h23)) <| ai ((cL 1 bq) t0.Names) iV q q (ak q q (dt h23)) <| ag (AL 1 bq t0.Names) kn q q (ak q q (dt h23)) <| aD (cc := bq) iM q (ak q q (dt h23)) <| dq ((t0.Names.length : Int) - 1) q q (bu (by omega) (by omega)) (ak q q (dt h23)) <| bY q q (ak q q (dt h23)) <| aH (aa (decide (t0.High = (t0.Names.length : Int) - 1))) q (dt h23) q q <| Ra (aa (decide (t0.High = (t0.Names.length : Int) - 1))) q q <| R0 ?_
        exact Jk (K26 (decide (t0.High = (t0.Names.length : Int) - 1))) (.all q)
      refine cy q (df h23) <| c7 q (df h23) <| ax (aa false) q (df h23) q q <| Ra (aa false) q q <| R0 ?_
      exact Jk (K26 false) (.all q)
    intro v25
    exact Jk (K30 v25) (.all q)
  intro v28
  refine Js <| Jq q <| Rm (aa v28) q q <| cd q q <| R0 <| bQ q (fun h29 => ?_) (fun h29 => ?_)
  · exact Jq q <| Ra (I_ 6) q q <| Rt hΨ q q q
  exact ao <| Jq q <| Ra (I_ 0) q q <| Rt hΨ q q q
theorem L4 {t0 t1 r} (hr : nf t0 t1 = some r) : aB PP 60 [ac (au t0), I_ t1] (I_ r) := by
  refine Fo I_ Tryz.func60 q (n := 70) q q hr fun X hΨ => ?_
  refine Jq q <| aV (ac (au t0)) q q <| Ra (I_ 0) q q <| R0 <| Jq q <| ai ((cL 4 aM) t0.Nodes) dk q q q <| ag (AL 4 aM t0.Nodes) dl q q q <| Rm (I_ t1) q q ?_
  refine Ri fun h1 => ?_
  refine aQ (cc := aM) ft q q h1.1 h1.2 q <| aK (aM (nth t0.Nodes t1)) ou q q q q <| bE 0 _ jl q q <| aX (a8 0) (ac (aM (nth t0.Nodes t1))) (aM (nth t0.Nodes t1)) ry q .obj q q q q q q <| R0 <| Js <| aC <| Jq q <| aT (a8 0) 0 kz q .obj q q q ?_
  refine bg (aO 0 0) (am ((nth t0.Nodes t1).Name)) dp q .at q q q <| Rc oz pS q q fun b2 => cd q q <| Ra (aa (!b2)) q q <| R0 <| bQ q (fun h4 => ?_) (fun h4 => ?_)
  · exact Jq q <| Ra (I_ 2) q q <| Rt hΨ q q q
  refine Js <| gS [0] [] [] 0 [(1, I_ t1), (2, ap (au t0)), (5, ap (aM (nth t0.Nodes t1)))] [] (.same q (.same q (.cons (A := a8 0) q (.fbox q q (.cons .same (.cons .same (.cons .same (.cons .same .nil))))) .nil))) .nil q q <| Jr q <| ai ((cL 4 aM) t0.Nodes) dk q q q <| ag (AL 4 aM t0.Nodes) dl q q q <| Rm (I_ t1) q q <| Ri fun h6 => ?_
  refine kl (cc := aM) 0 t1 ft q jh (fU q) h6.1 h6.2.1 h6.2.2 q <| fR [ap (aM (nth t0.Nodes t1))] (fun x => [ac (aM x)]) (fun y => aa y) (fun x => tA x (nth t0.Nodes t1)) fn_96 q (fun x y h => LO h) q <| Rc fn_95 Nu q q fun b7 => Ra (aa b7) q q <| R0 <| bQ q (fun h9 => ?_) (fun h9 => ?_)
  · exact Jq q <| Ra (I_ 5) q q <| Rt hΨ q q q
  refine Jq q <| ai (ab ((nth t0.Nodes t1).Parent)) lq q q q <| ag (I_ ((nth t0.Nodes t1).Parent)) ay q q q <| aZ q q q <| Rm (aa (decide ((nth t0.Nodes t1).Parent < (-1)))) q q <| aN (fun h10 => ?_) (fun h10 => ?_)
  · refine cx q (dt h10) <| aH (aa true) q (dt h10) q q <| Ra (aa true) q q <| R0 <| cJ q q <| Jq q ?_
    exact Ra (I_ 6) q q <| Rt hΨ q q q
  refine ai (ab ((nth t0.Nodes t1).Parent)) lq q q (an q q (df h10)) <| ag (I_ ((nth t0.Nodes t1).Parent)) ay q q (an q q (df h10)) <| Rm (I_ t1) q (an q q (df h10)) <| cG q q (an q q (df h10)) <| ax (aa (decide (t1 ≤ (nth t0.Nodes t1).Parent))) q (df h10) q q <| Ra (aa (decide (t1 ≤ (nth t0.Nodes t1).Parent))) q q <| R0 <| aw q (fun h11 => ?_) (fun h11 => ?_)
  · exact Jq q <| Ra (I_ 6) q q <| Rt hΨ q q q
  refine Jq q <| ai ((cL 4 aL) ((nth t0.Nodes t1).Attrs)) kA q q q <| ag (AL 4 aL ((nth t0.Nodes t1).Attrs)) me q q q <| aD (cc := aL) fv q q <| cK q q q <| Ra (aa (decide (4 < (((nth t0.Nodes t1).Attrs).length : Int)))) q q <| R0 <| aw q (fun h12 => ?_) (fun h12 => ?_)
  · exact Jq q <| Ra (I_ 3) q q <| Rt hΨ q q q
  refine ao <| bn <| Jq q <| aK (au t0) bN q q q q <| Rm (I_ t1) q q <| aI fun b13 h14 => dv _ vt (dc.toP (r' := AL 4 aL b13) (Dc h14) (.frow q q (ah.flat _ _))) q q <| Ra (AL 4 aL b13) q q <| R0 ?_
  refine Js <| Jq q <| Rm (AL 4 aL b13) q q <| aD (cc := aL) fv q q <| cK q q q <| R0 <| aw q (fun h15 => ?_) (fun h15 => ?_)
  · exact Jq q <| Ra (I_ 3) q q <| Rt hΨ q q q
  refine ao <| Js <| Jq q <| Rm (AL 4 aL b13) q q <| aD (cc := aL) fv q q <| ai ((cL 4 aL) ((nth t0.Nodes t1).Attrs)) kA q q q <| ag (AL 4 aL ((nth t0.Nodes t1).Attrs)) me q q q <| aD (cc := aL) fv q q <| aI fun b16 h17 => ?_
  refine dq b16 q q (Option.some.inj h17) q <| Ra (I_ b16) q q <| R0 <| aC <| Jn (fun x18 => ⟨fr [(6, AL 4 aL b13), (7, I_ x18), (45, I_ (b13.length : Int))], hp [], 0⟩) [] [] [] q (.all q) .nil q q (fun E19 hE19 x18 => ?_)
  refine Js <| Jq q <| Rm (I_ x18) q q <| Rm (AL 4 aL b13) q q <| aD (cc := aL) fv q q <| aZ q q q <| R0 <| aw q (fun h28 => ?_) (fun h28 => ?_)
  rotate_left
  · exact br q <| bO <| Jq q <| Ra (I_ 0) q q <| Rt hΨ q q q
  refine ao <| Js <| aC <| Js <| bW <| Rm (AL 4 aL b13) q q <| Rm (I_ x18) q q <| Ri fun h29 => ?_
  refine aQ (cc := aL) fC q q h29.1 h29.2 q <| aK (aL (nth b13 x18)) jx q q q q <| Rm (AL 4 aL b13) q q <| Rm (I_ x18) q q <| Ri fun h30 => ?_
  refine kl (cc := aL) 0 x18 fC q jh (fU q) h30.1 h30.2.1 h30.2.2 q <| Rc fn_98 Mq q q fun b31 => Ra (I_ b31) q q <| bK (by kernel_rfl) <| Jq q <| Rm (I_ b31) q q <| bP q q q <| R0 ?_
  refine aw q (fun h33 => ?_) (fun h33 => ?_)
  · exact Jq q <| Rm (I_ b31) q q <| Ra (I_ b31) q q <| Ro hΨ q q q
  exact ao <| bn <| aG 45 (m := (b13.length : Int)) q fun q34 => aG 7 (m := x18) q fun q35 => Jr q <| Rm (I_ x18) q q <| aR (x18 + 1) q q (bu (by omega) (by omega)) q <| Ra (I_ (x18 + 1)) q q <| R0 <| bt <| Jc [] [] [] (hE19 (x18 + 1)) (.all q) .nil q q
theorem LM {t0 t1 r} (hr : ia t0 t1 = some r) : aB PP 99 [I_ t0, ap (au t1)] (aa r) := by
  refine Fo aa Tryz.func99 q (n := 13) q q hr fun X hΨ => ?_
  refine Jq q <| Ra (aa false) q q <| R0 <| Jq q <| Rm (I_ t0) q q <| cG q q q <| Rm (aa (decide (0 ≤ t0))) q q <| aN (fun h1 => ?_) (fun h1 => ?_)
  · exact Rm (I_ t0) q (ak q q (dt h1)) <| ai ((cL 4 aM) t1.Nodes) dk q q (ak q q (dt h1)) <| ag (AL 4 aM t1.Nodes) dl q q (ak q q (dt h1)) <| aD (cc := aM) ef q (ak q q (dt h1)) <| aZ q q (ak q q (dt h1)) <| aH (aa (decide (t0 < (t1.Nodes.length : Int)))) q (dt h1) q q <| Ra (aa (decide (t0 < (t1.Nodes.length : Int)))) q q <| Rt hΨ q q q
  exact cy q (df h1) <| Kt q (df h1) <| ax (aa false) q (df h1) q q <| Ra (aa false) q q <| Rt hΨ q q q
theorem No {t0 t1 r} (hr : Ek t0 t1 = some r) : aB PP 150 [AL 7 aY t0, cC PP (fun x => [ac (aY x)]) (fun y => aa y) t1] (I_ r) := by
  refine Fo I_ Tryz.func150 q (n := 19) q q hr fun X hΨ => ?_
  refine Jq q <| Ra (I_ 0) q q <| R0 <| Js <| Jq q <| Rm (AL 7 aY t0) q q <| aD (cc := aY) fe q q <| Rm (I_ 0) q q ?_
  refine R0 <| aC <| Jl (fun x1 => [(0, AL 7 aY t0), (1, cC PP (fun x => [ac (aY x)]) (fun y => aa y) t1), (7, I_ (t0.length : Int)), (8, I_ x1)]) (.all q) (fun E2 hE2 x1 => ?_)
  refine Jq q <| aZ q q q <| R0 <| Js <| aw q (fun h8 => ?_) (fun h8 => ?_)
  rotate_left
  · exact br q <| bO <| Jq q <| Ra (I_ (-1)) q q <| Rt hΨ q q q
  refine ao <| Js <| aC <| Jq q <| Rm (I_ x1) q q <| Ra (I_ x1) q q <| R0 <| Jq q ?_
  refine Rm (cC PP (fun x => [ac (aY x)]) (fun y => aa y) t1) q q <| Rm (AL 7 aY t0) q q <| Rm (I_ x1) q q <| Ri fun h9 => ?_
  refine aQ (cc := aY) fX q q h9.1 h9.2 q <| aK (aY (nth t0 x1)) rB q q q q <| aI fun b10 h11 => iz (ga := (fun x => [ac (aY x)])) (rt := (fun y => aa y)) (gg := t1) (u := (nth t0 x1)) (w := b10) q q h11 (NK.nk) q <| R0 <| bQ q (fun h12 => ?_) (fun h12 => ?_)
  · exact Jq q <| Rm (I_ x1) q q <| Ra (I_ x1) q q <| Ro hΨ q q q
  exact ao <| bn <| aG 7 (m := (t0.length : Int)) q fun q13 => aG 5 (m := x1) q fun q14 => Jr q <| aR (x1 + 1) q q (bu (by omega) (by omega)) q <| Rm (I_ (x1 + 1)) q q <| R0 <| bt <| Jk (hE2 (x1 + 1)) (.all q)
theorem Nt {t0 t1 r} (hr : zj t0 t1 = some r) : aB PP 100 [AL 7 aY t0, cC PP (fun x => [ac (aY x)]) (fun y => aa y) t1] (aa r) := by
  refine Fo aa Tryz.func100 q (n := 9) q q hr fun X hΨ => ?_
  refine Jq q <| Ra (aa false) q q <| R0 <| Jq q <| Rm (AL 7 aY t0) q q <| Rm (cC PP (fun x => [ac (aY x)]) (fun y => aa y) t1) q q <| Rc F5 No q q fun b1 => ?_
  exact cG q q q <| Ra (aa (decide (0 ≤ b1))) q q <| Rt hΨ q q q
theorem LN {t0 t1 r} (hr : tz t0 t1 = some r) : aB PP 101 [ac (aY t0), ap (aY t1)] (aa r) := by
  refine Fo aa Tryz.func101 q (n := 9) q q hr fun X hΨ => ?_
  refine Jq q <| aV (ac (aY t0)) q q <| Ra (aa false) q q <| R0 <| Jq q <| ai (bq t0.Name) kD q q q <| ag (am t0.Name) dp q q q <| ai (bq t1.Name) kD q q q ?_
  exact ag (am t1.Name) dp q q q <| ip q q q <| Ra (aa (decide (t0.Name = t1.Name))) q q <| Rt hΨ q q q
theorem DF {t0 t1 r} (hr : pN t0 t1 = some r) : aB PP 102 [I_ t0, I_ t1] (aa r) := by
  refine Fo aa Tryz.func102 q (n := 24) q q hr fun X hΨ => ?_
  refine Jq q <| Ra (aa false) q q <| R0 <| Jq q <| Rm (I_ t0) q q <| cG q q q <| Rm (aa (decide (0 ≤ t0))) q q <| aN (fun h1 => ?_) (fun h1 => ?_)
  rotate_left
  · refine da q (df h1) <| ax (aa false) q (df h1) q q <| Rm (aa false) q q <| c7 q q <| Rk (bC q q) <| Rk (bC q q) <| Rk (bC q q) ?_
    exact Rk (bC q q) <| Rk (bC q q) <| Rk (bC q q) <| Rk (bC q q) <| Kt q q <| ax (aa false) q q q q <| Ra (aa false) q q <| Rt hΨ q q q
  refine Rm (I_ t0) q (ak q q (dt h1)) <| dK q q (ak q q (dt h1)) <| aH (aa (decide (t0 ≤ 40))) q (dt h1) q q <| Rm (aa (decide (t0 ≤ 40))) q q <| aN (fun h2 => ?_) (fun h2 => ?_)
  rotate_left
  · refine c7 q (df h2) <| Rk (bC q q) <| Rk (bC q q) <| Rk (bC q q) <| Rk (bC q q) <| Rk (bC q q) <| Rk (bC q q) <| Rk (bC q q) ?_
    exact Kt q (df h2) <| ax (aa false) q (df h2) q q <| Ra (aa false) q q <| Rt hΨ q q q
  refine Rm (I_ t1) q (ak q q (dt h2)) <| bY q q (ak q q (dt h2)) <| Rm (aa (decide (t1 = (-1)))) q (ak q q (dt h2)) <| aN (fun h3 => ?_) (fun h3 => ?_)
  · refine cx q (dt h3) <| Rk (bC q q) <| Rk (bC q q) <| Kf q (dt h3) <| aH (aa true) q (dt h3) q (ak q q (dt h2)) <| aH (aa true) q (dt h2) q q <| Ra (aa true) q q ?_
    exact Rt hΨ q q q
  refine Rm (I_ t1) q (an q q (df h3)) <| Rm (I_ t0) q (an q q (df h3)) <| cG q q (an q q (df h3)) <| Rm (aa (decide (t0 ≤ t1))) q (an q q (df h3)) <| aN (fun h4 => ?_) (fun h4 => ?_)
  · exact Rm (I_ t1) q (ak q q (dt h4)) <| dK q q (ak q q (dt h4)) <| aH (aa (decide (t1 ≤ 40))) q (dt h4) q (an q q (df h3)) <| ax (aa (decide (t1 ≤ 40))) q (df h3) q (ak q q (dt h2)) <| aH (aa (decide (t1 ≤ 40))) q (dt h2) q q <| Ra (aa (decide (t1 ≤ 40))) q q <| Rt hΨ q q q
  exact da q (df h4) <| ax (aa false) q (df h4) q (an q q (df h3)) <| ax (aa false) q (df h3) q (ak q q (dt h2)) <| aH (aa false) q (dt h2) q q <| Ra (aa false) q q <| Rt hΨ q q q
theorem L2 {t0 t1 r} (hr : nc t0 t1 = some r) : aB PP 61 [ac (au t0), I_ t1] (I_ r) := by
  refine Fo I_ Tryz.func61 q (n := 52) q q hr fun X hΨ => ?_
  refine Jq q <| aV (ac (au t0)) q q <| Ra (I_ 0) q q <| R0 <| Jq q <| ai ((cL 7 aY) t0.Edges) dL q q q <| ag (AL 7 aY t0.Edges) dO q q q <| Rm (I_ t1) q q ?_
  refine Ri fun h1 => ?_
  refine aQ (cc := aY) fX q q h1.1 h1.2 q <| aK (aY (nth t0.Edges t1)) rB q q q q <| bE 0 _ mf q q <| aX (a8 0) (ac (aY (nth t0.Edges t1))) (aY (nth t0.Edges t1)) vW q .obj q q q q q q <| R0 <| Jq q <| fR [ap (au t0)] (fun x => [I_ x]) (fun y => aa y) (fun x => ia x t0) fn_99 q (fun x y h => LM h) q <| Ra (cC PP (fun x => [I_ x]) (fun y => aa y) (fun x => ia x t0)) q q <| R0 ?_
  refine Js <| aC <| Jq q <| aT (a8 0) 0 kD q .obj q q q <| bg (aO 0 0) (am ((nth t0.Edges t1).Name)) dp q .at q q q <| Rc oz pS q q fun b2 => cd q q <| Ra (aa (!b2)) q q ?_
  refine R0 <| bQ q (fun h4 => ?_) (fun h4 => ?_)
  · exact Jq q <| Ra (I_ 2) q q <| Rt hΨ q q q
  refine Js <| gS [0] [] [] 0 [(1, I_ t1), (2, ap (au t0)), (5, ap (aY (nth t0.Edges t1))), (6, cC PP (fun x => [I_ x]) (fun y => aa y) (fun x => ia x t0))] [] (.same q (.same q (.cons (A := a8 0) q (.fbox q q (.cons .same (.cons .same (.cons .same (.cons .same (.cons .same (.cons .same (.cons .same .nil)))))))) (.same q .nil)))) .nil q q <| Jr q <| ai ((cL 7 aY) t0.Edges) dL q q q <| ag (AL 7 aY t0.Edges) dO q q q <| Rm (I_ t1) q q <| Ri fun h6 => ?_
  refine kl (cc := aY) 0 t1 fX q jh (fU q) h6.1 h6.2.1 h6.2.2 q <| fR [ap (aY (nth t0.Edges t1))] (fun x => [ac (aY x)]) (fun y => aa y) (fun x => tz x (nth t0.Edges t1)) EH q (fun x y h => LN h) q <| Rc EG Nt q q fun b7 => Ra (aa b7) q q <| R0 <| bQ q (fun h9 => ?_) (fun h9 => ?_)
  · exact Jq q <| Ra (I_ 5) q q <| Rt hΨ q q q
  refine Js <| Js ?_
  apply ch (fun v26 => ⟨fr [(25, aa v26)], hp [], 0⟩) (fun v26 => qf v26)
  · intro K28
    apply ch (fun v16 => ⟨fr [(25, aa v16)], hp [], 0⟩) (fun v16 => qd v16)
    · intro K17
      refine Jr q <| Rm (cC PP (fun x => [I_ x]) (fun y => aa y) (fun x => ia x t0)) q q <| ai (ab ((nth t0.Edges t1).From)) oY q q q <| ag (I_ ((nth t0.Edges t1).From)) ay q q q <| aI fun b10 h11 => iz (ga := (fun x => [I_ x])) (rt := (fun y => aa y)) (gg := (fun x => ia x t0)) (u := (nth t0.Edges t1).From) (w := b10) q q h11 (NK.nk) q <| cd q q <| Rm (aa (!b10)) q q <| aN (fun h12 => ?_) (fun h12 => ?_)
      · exact cx q h12 <| Kf q h12 <| aH (aa true) q h12 q q <| Ra (aa true) q q <| R0 <| cJ q q <| Jc [] [] [] (K17 true) (.all q) .nil q q
      refine Rm (cC PP (fun x => [I_ x]) (fun y => aa y) (fun x => ia x t0)) q (an q q (bf h12)) <| ai (ab ((nth t0.Edges t1).To)) oZ q q (an q q (bf h12)) <| ag (I_ ((nth t0.Edges t1).To)) ay q q (an q q (bf h12)) <| aI fun b13 h14 => iz (ga := (fun x => [I_ x])) (rt := (fun y => aa y)) (gg := (fun x => ia x t0)) (u := (nth t0.Edges t1).To) (w := b13) q q h14 (NK.nk) (an q q (bf h12)) <| cd q (an q q (bf h12)) <| ax (aa (!b13)) q (bf h12) q q <| Ra (aa (!b13)) q q <| R0 <| bQ q (fun h15 => ?_) (fun h15 => ?_)
      · exact Jc [] [] [] (K17 (!b13)) (.all q) .nil q q
      apply ch (fun v23 => ⟨fr [(25, aa v23)], hp [], 0⟩) (fun v23 => qe v23)
      · intro K24
        refine Jr q <| ai (ab ((nth t0.Edges t1).OutLow)) BB q q q <| ag (I_ ((nth t0.Edges t1).OutLow)) ay q q q <| ai (ab ((nth t0.Edges t1).OutHigh)) BC q q q <| ag (I_ ((nth t0.Edges t1).OutHigh)) ay q q q <| Rc Ad DF q q fun b18 => cd q q <| Rm (aa (!b18)) q q <| aN (fun h20 => ?_) (fun h20 => ?_)
        · exact cx q h20 <| e9 q h20 <| aH (aa true) q h20 q q <| Ra (aa true) q q <| R0 <| Jc [] [] [] (K24 true) (.all q) .nil q q
        refine ai (ab ((nth t0.Edges t1).InLow)) BD q q (an q q (bf h20)) <| ag (I_ ((nth t0.Edges t1).InLow)) ay q q (an q q (bf h20)) <| ai (ab ((nth t0.Edges t1).InHigh)) BE q q (an q q (bf h20)) <| ag (I_ ((nth t0.Edges t1).InHigh)) ay q q (an q q (bf h20)) <| Rc Ad DF q (an q q (bf h20)) fun b21 => cd q (an q q (bf h20)) <| ax (aa (!b21)) q (bf h20) q q <| Ra (aa (!b21)) q q <| R0 ?_
        exact Jc [] [] [] (K24 (!b21)) (.all q) .nil q q
      intro v23
      exact Jc [] [] [] (K28 v23) (.all q) .nil q q
    intro v16
    exact ao <| Jc [] [] [] (K28 v16) (.all q) .nil q q
  intro v26
  refine bQ q (fun h27 => ?_) (fun h27 => ?_)
  · exact Jq q <| Ra (I_ 6) q q <| Rt hΨ q q q
  exact ao <| bn <| Jq q <| Ra (I_ 0) q q <| Rt hΨ q q q
theorem pF {t0 r} (hr : gO t0 = some r) : aB PP 31 [ac (au t0)] (bk [am r.1, I_ r.2]) := by
  refine Fo (fun (r : ByteArray × Int) => bk [am r.1, I_ r.2]) Tryz.func31 q (n := 60) q q hr fun X hΨ => ?_
  refine Jq q <| aV (ac (au t0)) q q <| Ra (am (ByteArray.mk #[])) q q <| Ra (I_ 0) q q <| R0 <| Js <| aC <| Jq q ?_
  refine ai ((cL 4 aM) t0.Nodes) dk q q q <| ag (AL 4 aM t0.Nodes) dl q q q <| aD (cc := aM) ef q q <| bY q q q <| Ra (aa (decide ((t0.Nodes.length : Int) = 0))) q q <| R0 <| aw q (fun h1 => ?_) (fun h1 => ?_)
  · exact Jq q <| Ra (am (ByteArray.mk #[])) q q <| Ra (I_ 7) q q <| R0 <| Jt hΨ (bG (As := [am (ByteArray.mk #[]), I_ 7]) q q (.cons (.tmp (A := am (ByteArray.mk #[])) q) (.cons (.tmp (A := I_ 7) q) .nil))) q q
  refine Jq q <| ai ((cL 4 aM) t0.Nodes) dk q q q <| ag (AL 4 aM t0.Nodes) dl q q q <| aD (cc := aM) ef q q <| cK q q q <| Rm (aa (decide (12 < (t0.Nodes.length : Int)))) q q <| aN (fun h2 => ?_) (fun h2 => ?_)
  · refine cx q (dt h2) <| aH (aa true) q (dt h2) q q <| Ra (aa true) q q <| R0 <| cJ q q <| Jq q ?_
    exact Ra (am (ByteArray.mk #[])) q q <| Ra (I_ 3) q q <| R0 <| Jt hΨ (bG (As := [am (ByteArray.mk #[]), I_ 3]) q q (.cons (.tmp (A := am (ByteArray.mk #[])) q) (.cons (.tmp (A := I_ 3) q) .nil))) q q
  refine ai ((cL 7 aY) t0.Edges) dL q q (an q q (df h2)) <| ag (AL 7 aY t0.Edges) dO q q (an q q (df h2)) <| aD (cc := aY) fe q (an q q (df h2)) <| cK q q (an q q (df h2)) <| ax (aa (decide (20 < (t0.Edges.length : Int)))) q (df h2) q q <| Ra (aa (decide (20 < (t0.Edges.length : Int)))) q q <| R0 <| aw q (fun h3 => ?_) (fun h3 => ?_)
  · exact Jq q <| Ra (am (ByteArray.mk #[])) q q <| Ra (I_ 3) q q <| R0 <| Jt hΨ (bG (As := [am (ByteArray.mk #[]), I_ 3]) q q (.cons (.tmp (A := am (ByteArray.mk #[])) q) (.cons (.tmp (A := I_ 3) q) .nil))) q q
  refine ao <| bn <| Js <| Jq q <| ai ((cL 4 aM) t0.Nodes) dk q q q <| ag (AL 4 aM t0.Nodes) dl q q q <| aD (cc := aM) ef q q <| Rm (I_ 0) q q <| R0 ?_
  refine aC <| Jn (fun x4 => ⟨fr [(1, ap (au t0)), (23, I_ (t0.Edges.length : Int)), (27, AL 4 aM t0.Nodes), (28, I_ (t0.Nodes.length : Int)), (29, I_ x4)], hp [], 0⟩) [] [] [] q (.all q) .nil q q (fun E5 hE5 x4 => ?_)
  refine Jq q <| aZ q q q <| R0 <| Js <| aw q (fun h11 => ?_) (fun h11 => ?_)
  · refine ao <| Js <| aC <| Jq q <| Rm (I_ x4) q q <| Ri fun h12 => ?_
    refine aQ (cc := aM) ft q q h12.1 h12.2 q <| aK (aM (nth t0.Nodes x4)) ou q q q q <| bE 0 _ jl q q <| Ra (I_ x4) q q <| aX (a8 0) (ac (aM (nth t0.Nodes x4))) (aM (nth t0.Nodes x4)) ry q .obj q q q q q q <| R0 <| Jq q <| aK (au t0) bN q q q q <| Rm (I_ x4) q q ?_
    refine Rc fn_60 L4 q q fun b13 => Ra (I_ b13) q q <| R0 <| Jq q <| Rm (I_ b13) q q <| bP q q q <| R0 <| aw q (fun h15 => ?_) (fun h15 => ?_)
    rotate_left
    · exact ao <| bn <| aG 28 (m := (t0.Nodes.length : Int)) q fun q16 => aG 4 (m := x4) q fun q17 => Jr q <| aR (x4 + 1) q q (bu (by omega) (by omega)) q <| Rm (I_ (x4 + 1)) q q <| R0 <| bt <| Jc [] [] [] (hE5 (x4 + 1)) (.all q) .nil q q
    exact Jq q <| aT (a8 0) 0 kz q .obj q q q <| bg (aO 0 0) (am ((nth t0.Nodes x4).Name)) dp q .at q q q <| Rm (I_ b13) q q <| Ra (am ((nth t0.Nodes x4).Name)) q q <| Ra (I_ b13) q q <| R0 <| bO <| Jt hΨ (bG (As := [am ((nth t0.Nodes x4).Name), I_ b13]) q q (.cons (.tmp (A := am ((nth t0.Nodes x4).Name)) q) (.cons (.tmp (A := I_ b13) q) .nil))) q q
  refine br q <| du <| Js <| Jq q <| ai ((cL 7 aY) t0.Edges) dL q q q <| ag (AL 7 aY t0.Edges) dO q q q <| aD (cc := aY) fe q q <| Rm (I_ 0) q q <| R0 ?_
  refine aC <| Jn (fun x18 => ⟨fr [(1, ap (au t0)), (28, I_ (t0.Nodes.length : Int)), (29, I_ x4), (44, AL 7 aY t0.Edges), (45, I_ (t0.Edges.length : Int)), (46, I_ x18)], hp [], 0⟩) [] [] [] q (.all q) .nil q q (fun E19 hE19 x18 => ?_)
  refine Jq q <| aZ q q q <| R0 <| Js <| aw q (fun h25 => ?_) (fun h25 => ?_)
  rotate_left
  · exact br q <| bO <| Jq q <| Ra (am (ByteArray.mk #[])) q q <| Ra (I_ 0) q q <| R0 <| Jt hΨ (bG (As := [am (ByteArray.mk #[]), I_ 0]) q q (.cons (.tmp (A := am (ByteArray.mk #[])) q) (.cons (.tmp (A := I_ 0) q) .nil))) q q
  refine ao <| Js <| aC <| Jq q <| Rm (I_ x18) q q <| Ri fun h26 => ?_
  refine aQ (cc := aY) fX q q h26.1 h26.2 q <| aK (aY (nth t0.Edges x18)) rB q q q q <| bE 0 _ mf q q <| Ra (I_ x18) q q <| aX (a8 0) (ac (aY (nth t0.Edges x18))) (aY (nth t0.Edges x18)) vW q .obj q q q q q q <| R0 <| Jq q <| aK (au t0) bN q q q q <| Rm (I_ x18) q q ?_
  refine Rc fn_61 L2 q q fun b27 => Ra (I_ b27) q q <| R0 <| Jq q <| Rm (I_ b27) q q <| bP q q q <| R0 <| aw q (fun h29 => ?_) (fun h29 => ?_)
  rotate_left
  · exact ao <| bn <| aG 45 (m := (t0.Edges.length : Int)) q fun q30 => aG 7 (m := x18) q fun q31 => Jr q <| aR (x18 + 1) q q (bu (by omega) (by omega)) q <| Rm (I_ (x18 + 1)) q q <| R0 <| bt <| Jc [] [] [] (hE19 (x18 + 1)) (.all q) .nil q q
  exact Jq q <| aT (a8 0) 0 kD q .obj q q q <| bg (aO 0 0) (am ((nth t0.Edges x18).Name)) dp q .at q q q <| Rm (I_ b27) q q <| Ra (am ((nth t0.Edges x18).Name)) q q <| Ra (I_ b27) q q <| R0 <| bO <| Jt hΨ (bG (As := [am ((nth t0.Edges x18).Name), I_ b27]) q q (.cons (.tmp (A := am ((nth t0.Edges x18).Name)) q) (.cons (.tmp (A := I_ b27) q) .nil))) q q
theorem Mz {t0 t1 r} (hr : qx t0 t1 = some r) : aB PP 199 [AL 1 ab t0, I_ t1] (I_ r) := by
  refine Fo I_ Tryz.func199 q (n := 19) q q hr fun X hΨ => ?_
  refine Jq q <| Ra (I_ 0) q q <| R0 <| Js <| Jq q <| Rm (AL 1 ab t0) q q <| aD (cc := ab) bI q q <| Rm (I_ 0) q q ?_
  refine R0 <| aC <| Jl (fun x1 => [(0, AL 1 ab t0), (1, I_ t1), (7, I_ (t0.length : Int)), (8, I_ x1)]) (.all q) (fun E2 hE2 x1 => ?_)
  refine Jq q <| aZ q q q <| R0 <| Js <| aw q (fun h6 => ?_) (fun h6 => ?_)
  rotate_left
  · exact br q <| bO <| Jq q <| Ra (I_ (-1)) q q <| Rt hΨ q q q
  refine ao <| Js <| aC <| Jq q <| Rm (I_ x1) q q <| Ra (I_ x1) q q <| R0 <| Jq q ?_
  refine Rm (I_ t1) q q <| Rm (AL 1 ab t0) q q <| Rm (I_ x1) q q <| Ri fun h7 => ?_
  refine aQ (cc := ab) bc q q h7.1 h7.2 q <| ag (I_ (nth t0 x1)) ay q q q <| bY q q q <| R0 <| aw q (fun h8 => ?_) (fun h8 => ?_)
  · exact Jq q <| Rm (I_ x1) q q <| Ra (I_ x1) q q <| Ro hΨ q q q
  exact ao <| bn <| aG 7 (m := (t0.length : Int)) q fun q9 => aG 5 (m := x1) q fun q10 => Jr q <| aR (x1 + 1) q q (bu (by omega) (by omega)) q <| Rm (I_ (x1 + 1)) q q <| R0 <| bt <| Jk (hE2 (x1 + 1)) (.all q)
theorem Ed {t0 t1 r} (hr : oc t0 t1 = some r) : aB PP 158 [AL 1 ab t0, I_ t1] (aa r) := by
  refine Fo aa Tryz.func158 q (n := 9) q q hr fun X hΨ => ?_
  refine Jq q <| Ra (aa false) q q <| R0 <| Jq q <| Rm (AL 1 ab t0) q q <| Rm (I_ t1) q q <| Rc FB Mz q q fun b1 => ?_
  exact cG q q q <| Ra (aa (decide (0 ≤ b1))) q q <| Rt hΨ q q q
theorem tF {t0 t1 r} (hr : lF t0 t1 = some r) : aB PP 156 [AL 1 ab t0, I_ t1] (AL 1 ab r) := by
  refine Fo (fun r => AL 1 ab r) Tryz.func156 q (n := 21) q q hr fun X hΨ => ?_
  refine Jq q <| Ra (af) q q <| R0 <| Jq q <| Ra (af) q q <| R0 <| Js <| Js ?_
  refine Jr q <| Rm (I_ t1) q q <| Rm (I_ 0) q q <| R0 <| aC <| Jn (fun x1 => ⟨fr [(0, AL 1 ab t0), (5, a8 0), (7, I_ t1), (8, I_ x1.2)], hp [(0, .row 3 1 (x1.1.map ab))], 1⟩) [] [] [0] q (.same q (.cons (A := af) q (.nilobj q q) (.all q))) (.new q q .nil) q q (fun E2 hE2 x1 => ?_)
  refine Jq q <| aZ q q q <| R0 <| Js <| aw q (fun h9 => ?_) (fun h9 => ?_)
  rotate_left
  · exact br q <| bO <| Jq q <| Rm (a8 0) q q <| Ra (a8 0) q q <| R0 <| dg hΨ (d8 q (.tmp (A := a8 0) q)) (fun y hy => by cases hy; exact (.frow q q (ah.flat _ _)))
  refine ao <| Js <| aC <| Jq q <| Rm (I_ x1.2) q q <| Ra (I_ x1.2) q q <| R0 <| Jq q ?_
  refine Rm (AL 1 ab t0) q q <| Rm (I_ x1.2) q q <| Rc Al Ed q q fun b10 => cd q q <| R0 ?_
  apply ch (fun v14 => ⟨fr [(0, AL 1 ab t0), (5, a8 0), (7, I_ t1), (8, I_ x1.2)], hp [(0, .row 3 1 (v14.map ab))], 1⟩) (fun v14 => un x1 v14)
  · intro K15
    refine bQ q (fun h12 => ?_) (fun h12 => ?_)
    rotate_left
    · exact ao <| Jc [] [] [] (K15 x1.1) (.same q (.cons (A := a8 0) q (.ob q) (.all q))) (.cc q (.row (ah.flat _ _)) q .nil) q q
    refine Jr q <| Rm (a8 0) q q <| Rm (I_ x1.2) q q <| cF (cc := ab) [x1.2] bc fj (.cons (A := I_ x1.2) q q q .nil) q q q <| Ri fun h13 => ?_
    exact dx (cc := ab) (xs := x1.1) (ys := [x1.2]) 1 dS q q q h13 q q q <| Ra (a8 1) q q <| R0 <| Jc [] [(0, 1)] [] (K15 (x1.1 ++ [x1.2])) (.same q (.cons (A := a8 1) q (.ob q) (.all q))) (.cc q (.row (ah.flat _ _)) q .nil) q q
  intro v14
  exact bn <| aG 7 (m := t1) q fun q16 => aG 8 (m := x1.2) q fun q17 => Jr q <| aR (x1.2 + 1) q q (bu (by omega) (by omega)) q <| Rm (I_ (x1.2 + 1)) q q <| R0 <| bt <| Jc [] [] [] (hE2 (v14, x1.2 + 1)) (.same q (.cons (A := a8 0) q (.ob q) (.all q))) (.cc q (.row (ah.flat _ _)) q .nil) q q
theorem Du {t0 r} (hr : pz t0 = some r) : aB PP 105 [ac (aP t0)] (bk [AL 1 ab r.1, AL 1 ab r.2]) := by
  refine Fo (fun (r : (List Int) × (List Int)) => bk [AL 1 ab r.1, AL 1 ab r.2]) Tryz.func105 q (n := 22) q q hr fun X hΨ => ?_
  refine Jq q <| aV (ac (aP t0)) q q <| Ra (af) q q <| Ra (af) q q <| R0 <| Js <| bW <| ai (bM t0.Into) ky q q q <| ai ((cL 1 ab) t0.Into.Nodes) fZ q q q ?_
  refine ag (AL 1 ab t0.Into.Nodes) bh q q q <| ai (bz t0.Right) ex q q q <| ai (aA t0.Right.Graph) dr q q q <| ai ((cL 1 ab) t0.Right.Graph.Nodes) ct q q q <| ag (AL 1 ab t0.Right.Graph.Nodes) bh q q q <| aD (cc := ab) bI q q <| Rc rJ tF q q fun b1 => ai (bM t0.Into) ky q q q <| ai ((cL 1 ab) t0.Into.Edges) ix q q q ?_
  refine ag (AL 1 ab t0.Into.Edges) bh q q q <| ai (bz t0.Right) ex q q q <| ai (aA t0.Right.Graph) dr q q q <| ai ((cL 3 av) t0.Right.Graph.Edges) d9 q q q <| ag (AL 3 av t0.Right.Graph.Edges) di q q q <| aD (cc := av) fu q q <| Rc rJ tF q q fun b3 => Ra (AL 1 ab b1) q q <| Ra (AL 1 ab b3) q q ?_
  exact bK (by kernel_rfl) <| Jt hΨ (bG (As := [AL 1 ab b1, AL 1 ab b3]) q q (.cons (.tmp (A := AL 1 ab b1) q) (.cons (.tmp (A := AL 1 ab b3) q) .nil))) q q
theorem N8 {t0 t1 r} (hr : vc t0 t1 = some r) : aB PP 126 [AL 1 ab t0, cC PP (fun x => [I_ x]) (fun y => aa y) t1] (I_ r) := by
  refine Fo I_ Tryz.func126 q (n := 19) q q hr fun X hΨ => ?_
  refine Jq q <| Ra (I_ 0) q q <| R0 <| Js <| Jq q <| Rm (AL 1 ab t0) q q <| aD (cc := ab) bI q q <| Rm (I_ 0) q q ?_
  refine R0 <| aC <| Jl (fun x1 => [(0, AL 1 ab t0), (1, cC PP (fun x => [I_ x]) (fun y => aa y) t1), (7, I_ (t0.length : Int)), (8, I_ x1)]) (.all q) (fun E2 hE2 x1 => ?_)
  refine Jq q <| aZ q q q <| R0 <| Js <| aw q (fun h8 => ?_) (fun h8 => ?_)
  rotate_left
  · exact br q <| bO <| Jq q <| Ra (I_ (-1)) q q <| Rt hΨ q q q
  refine ao <| Js <| aC <| Jq q <| Rm (I_ x1) q q <| Ra (I_ x1) q q <| R0 <| Jq q ?_
  refine Rm (cC PP (fun x => [I_ x]) (fun y => aa y) t1) q q <| Rm (AL 1 ab t0) q q <| Rm (I_ x1) q q <| Ri fun h9 => ?_
  refine aQ (cc := ab) bc q q h9.1 h9.2 q <| ag (I_ (nth t0 x1)) ay q q q <| aI fun b10 h11 => iz (ga := (fun x => [I_ x])) (rt := (fun y => aa y)) (gg := t1) (u := (nth t0 x1)) (w := b10) q q h11 (NK.nk) q <| R0 <| bQ q (fun h12 => ?_) (fun h12 => ?_)
  · exact Jq q <| Rm (I_ x1) q q <| Ra (I_ x1) q q <| Ro hΨ q q q
  exact ao <| bn <| aG 7 (m := (t0.length : Int)) q fun q13 => aG 5 (m := x1) q fun q14 => Jr q <| aR (x1 + 1) q q (bu (by omega) (by omega)) q <| Rm (I_ (x1 + 1)) q q <| R0 <| bt <| Jk (hE2 (x1 + 1)) (.all q)
theorem lV {t0 t1 r} (hr : gx t0 t1 = some r) : aB PP 82 [AL 1 ab t0, cC PP (fun x => [I_ x]) (fun y => aa y) t1] (aa r) := by
  refine Fo aa Tryz.func82 q (n := 9) q q hr fun X hΨ => ?_
  refine Jq q <| Ra (aa false) q q <| R0 <| Jq q <| Rm (AL 1 ab t0) q q <| Rm (cC PP (fun x => [I_ x]) (fun y => aa y) t1) q q <| Rc EO N8 q q fun b1 => ?_
  exact cG q q q <| Ra (aa (decide (0 ≤ b1))) q q <| Rt hΨ q q q
theorem tM {t0 t1 r} (hr : lH t0 t1 = some r) : aB PP 136 [I_ t0, I_ t1] (aa r) := by
  refine Fo aa Tryz.func136 q (n := 12) q q hr fun X hΨ => ?_
  refine Jq q <| Ra (aa false) q q <| R0 <| Jq q <| Rm (I_ t0) q q <| cG q q q <| Rm (aa (decide (0 ≤ t0))) q q <| aN (fun h1 => ?_) (fun h1 => ?_)
  · exact Rm (I_ t0) q (ak q q (dt h1)) <| Rm (I_ t1) q (ak q q (dt h1)) <| dK q q (ak q q (dt h1)) <| aH (aa (decide (t0 ≤ t1))) q (dt h1) q q <| Ra (aa (decide (t0 ≤ t1))) q q <| Rt hΨ q q q
  exact c7 q (df h1) <| ax (aa false) q (df h1) q q <| Ra (aa false) q q <| Rt hΨ q q q
theorem LT {t0 r} (hr : tD t0 = some r) : aB PP 135 [I_ t0] (aa r) := by
  refine Fo aa Tryz.func135 q (n := 6) q q hr fun X hΨ => ?_
  refine Jq q <| Ra (aa false) q q <| R0 <| Jq q <| Rm (I_ t0) q q <| Rc rH tM q q fun b1 => cd q q ?_
  exact Ra (aa (!b1)) q q <| Rt hΨ q q q
theorem Nj {t0 t1 r} (hr : vg t0 t1 = some r) : aB PP 180 [AL 3 av t0, cC PP (fun x => [ac (av x)]) (fun y => aa y) t1] (I_ r) := by
  refine Fo I_ Tryz.func180 q (n := 19) q q hr fun X hΨ => ?_
  refine Jq q <| Ra (I_ 0) q q <| R0 <| Js <| Jq q <| Rm (AL 3 av t0) q q <| aD (cc := av) fu q q <| Rm (I_ 0) q q ?_
  refine R0 <| aC <| Jl (fun x1 => [(0, AL 3 av t0), (1, cC PP (fun x => [ac (av x)]) (fun y => aa y) t1), (7, I_ (t0.length : Int)), (8, I_ x1)]) (.all q) (fun E2 hE2 x1 => ?_)
  refine Jq q <| aZ q q q <| R0 <| Js <| aw q (fun h8 => ?_) (fun h8 => ?_)
  rotate_left
  · exact br q <| bO <| Jq q <| Ra (I_ (-1)) q q <| Rt hΨ q q q
  refine ao <| Js <| aC <| Jq q <| Rm (I_ x1) q q <| Ra (I_ x1) q q <| R0 <| Jq q ?_
  refine Rm (cC PP (fun x => [ac (av x)]) (fun y => aa y) t1) q q <| Rm (AL 3 av t0) q q <| Rm (I_ x1) q q <| Ri fun h9 => ?_
  refine aQ (cc := av) et q q h9.1 h9.2 q <| aK (av (nth t0 x1)) gY q q q q <| aI fun b10 h11 => iz (ga := (fun x => [ac (av x)])) (rt := (fun y => aa y)) (gg := t1) (u := (nth t0 x1)) (w := b10) q q h11 (NK.nk) q <| R0 <| bQ q (fun h12 => ?_) (fun h12 => ?_)
  · exact Jq q <| Rm (I_ x1) q q <| Ra (I_ x1) q q <| Ro hΨ q q q
  exact ao <| bn <| aG 7 (m := (t0.length : Int)) q fun q13 => aG 5 (m := x1) q fun q14 => Jr q <| aR (x1 + 1) q q (bu (by omega) (by omega)) q <| Rm (I_ (x1 + 1)) q q <| R0 <| bt <| Jk (hE2 (x1 + 1)) (.all q)
theorem zh {t0 t1 r} (hr : jd t0 t1 = some r) : aB PP 137 [AL 3 av t0, cC PP (fun x => [ac (av x)]) (fun y => aa y) t1] (aa r) := by
  refine Fo aa Tryz.func137 q (n := 9) q q hr fun X hΨ => ?_
  refine Jq q <| Ra (aa false) q q <| R0 <| Jq q <| Rm (AL 3 av t0) q q <| Rm (cC PP (fun x => [ac (av x)]) (fun y => aa y) t1) q q <| Rc Fm Nj q q fun b1 => ?_
  exact cG q q q <| Ra (aa (decide (0 ≤ b1))) q q <| Rt hΨ q q q
theorem KI {t0 t1 r} (hr : sJ t0 t1 = some r) : aB PP 139 [ac (av t0), I_ t1] (aa r) := by
  refine Fo aa Tryz.func139 q (n := 22) q q hr fun X hΨ => ?_
  refine Jq q <| aV (ac (av t0)) q q <| Ra (aa false) q q <| R0 <| Jq q <| ai (ab t0.Type_) i7 q q q <| ag (I_ t0.Type_) ay q q q <| aI fun b1 h2 => ?_
  refine dv _ rH (tM h2) q q <| Rm (aa b1) q q <| aN (fun h3 => ?_) (fun h3 => ?_)
  rotate_left
  · refine cy q (bf h3) <| Kt q (bf h3) <| ax (aa false) q (bf h3) q q <| Rm (aa false) q q <| c7 q q ?_
    exact da q q <| ax (aa false) q q q q <| Ra (aa false) q q <| Rt hΨ q q q
  refine ai (ab t0.From) gm q q (ak q q h3) <| ag (I_ t0.From) ay q q (ak q q h3) <| Rm (I_ t1) q (ak q q h3) <| aI fun b4 h5 => dq b4 q q (Option.some.inj h5) (ak q q h3) <| Rc rH tM q (ak q q h3) fun b6 => aH (aa b6) q h3 q q <| Rm (aa b6) q q <| aN (fun h8 => ?_) (fun h8 => ?_)
  rotate_left
  · exact cy q (bf h8) <| Kt q (bf h8) <| ax (aa false) q (bf h8) q q <| Ra (aa false) q q <| Rt hΨ q q q
  refine ai (ab t0.To) go q q (ak q q h8) <| ag (I_ t0.To) ay q q (ak q q h8) <| Rm (I_ t1) q (ak q q h8) <| aI fun b9 h10 => dq b9 q q (Option.some.inj h10) (ak q q h8) <| Rc rH tM q (ak q q h8) fun b11 => aH (aa b11) q h8 q q <| Ra (aa b11) q q <| R0 ?_
  exact eV hΨ q q q
theorem LU {t0 t1 r} (hr : pD t0 t1 = some r) : aB PP 138 [ac (av t0), ap (aA t1)] (aa r) := by
  refine Fo aa Tryz.func138 q (n := 10) q q hr fun X hΨ => ?_
  refine Jq q <| aV (ac (av t0)) q q <| Ra (aa false) q q <| R0 <| Jq q <| aK (av t0) gY q q q q <| ai ((cL 1 ab) t1.Nodes) ct q q q <| ag (AL 1 ab t1.Nodes) bh q q q ?_
  exact aD (cc := ab) bI q q <| Rc EY KI q q fun b1 => cd q q <| Ra (aa (!b1)) q q <| Rt hΨ q q q
theorem pE {t0 r} (hr : j5 t0 = some r) : aB PP 86 [ac (aA t0)] (I_ r) := by
  refine Fo I_ Tryz.func86 q (n := 20) q q hr fun X hΨ => ?_
  refine Jq q <| aV (ac (aA t0)) q q <| Ra (I_ 0) q q <| R0 <| Js <| Jq q <| ai ((cL 1 ab) t0.Nodes) ct q q q <| ag (AL 1 ab t0.Nodes) bh q q q ?_
  refine aD (cc := ab) bI q q <| cK q q q <| Rm (aa (decide (40 < (t0.Nodes.length : Int)))) q q <| aN (fun h1 => ?_) (fun h1 => ?_)
  · refine cx q (dt h1) <| aH (aa true) q (dt h1) q q <| R0 <| cJ q q <| Jq q <| Ra (I_ 3) q q ?_
    exact Rt hΨ q q q
  refine ai ((cL 3 av) t0.Edges) d9 q q (an q q (df h1)) <| ag (AL 3 av t0.Edges) di q q (an q q (df h1)) <| aD (cc := av) fu q (an q q (df h1)) <| cK q q (an q q (df h1)) <| ax (aa (decide (80 < (t0.Edges.length : Int)))) q (df h1) q q <| R0 <| aw q (fun h2 => ?_) (fun h2 => ?_)
  · exact Jq q <| Ra (I_ 3) q q <| Rt hΨ q q q
  refine ao <| Js <| Jq q <| ai ((cL 1 ab) t0.Nodes) ct q q q <| ag (AL 1 ab t0.Nodes) bh q q q <| aI fun b3 h4 => gp [] [AL 1 ab t0.Nodes, bj 135 []] l7 (lV h4) .nil q (.cons .same (.cons (.cloFn EW (fun x y h => LT h)) .nil)) q <| R0 <| bQ q (fun h5 => ?_) (fun h5 => ?_)
  · exact Jq q <| Ra (I_ 6) q q <| Rt hΨ q q q
  refine ao <| Js <| Jq q <| ai ((cL 3 av) t0.Edges) d9 q q q <| ag (AL 3 av t0.Edges) di q q q <| fR [ap (aA t0)] (fun x => [ac (av x)]) (fun y => aa y) (fun x => pD x t0) EX q (fun x y h => LU h) q <| Rc vK zh q q fun b6 => R0 ?_
  refine bQ q (fun h8 => ?_) (fun h8 => ?_)
  · exact Jq q <| Ra (I_ 6) q q <| Rt hΨ q q q
  exact ao <| Jq q <| Ra (I_ 0) q q <| Rt hΨ q q q
theorem MG {t0 t1 r} (hr : qy t0 t1 = some r) : aB PP 184 [I_ t0, ap (au t1)] (aa r) := by
  refine Fo aa Tryz.func184 q (n := 9) q q hr fun X hΨ => ?_
  refine Jq q <| Ra (aa false) q q <| R0 <| Jq q <| Rm (I_ t0) q q <| ai ((cL 4 aM) t1.Nodes) dk q q q <| ag (AL 4 aM t1.Nodes) dl q q q <| aD (cc := aM) ef q q ?_
  exact cG q q q <| Ra (aa (decide ((t1.Nodes.length : Int) ≤ t0))) q q <| Rt hΨ q q q
theorem MH {t0 t1 r} (hr : qz t0 t1 = some r) : aB PP 185 [ac (av t0), ap (au t1)] (aa r) := by
  refine Fo aa Tryz.func185 q (n := 10) q q hr fun X hΨ => ?_
  refine Jq q <| aV (ac (av t0)) q q <| Ra (aa false) q q <| R0 <| Jq q <| ai (ab t0.Type_) i7 q q q <| ag (I_ t0.Type_) ay q q q <| ai ((cL 7 aY) t1.Edges) dL q q q ?_
  exact ag (AL 7 aY t1.Edges) dO q q q <| aD (cc := aY) fe q q <| cG q q q <| Ra (aa (decide ((t1.Edges.length : Int) ≤ t0.Type_))) q q <| Rt hΨ q q q
theorem qF {t0 t1 t2 r} (hr : kU t0 t1 t2 = some r) : aB PP 186 [I_ t0, I_ t1, I_ t2] (aa r) := by
  refine Fo aa Tryz.func186 q (n := 15) q q hr fun X hΨ => ?_
  refine Jq q <| Ra (aa false) q q <| R0 <| Jq q <| Rm (I_ t0) q q <| Rm (I_ t1) q q <| cG q q q <| Rm (aa (decide (t1 ≤ t0))) q q ?_
  refine aN (fun h1 => ?_) (fun h1 => ?_)
  · exact Rm (I_ t0) q (ak q q (dt h1)) <| Rm (I_ t2) q (ak q q (dt h1)) <| dK q q (ak q q (dt h1)) <| aH (aa (decide (t0 ≤ t2))) q (dt h1) q q <| Ra (aa (decide (t0 ≤ t2))) q q <| Rt hΨ q q q
  exact c7 q (df h1) <| ax (aa false) q (df h1) q q <| Ra (aa false) q q <| Rt hΨ q q q
theorem M3 {t0 t1 r} (hr : pO t0 t1 = some r) : aB PP 157 [I_ t0, ap (au t1)] (aa r) := by
  refine Fo aa Tryz.func157 q (n := 13) q q hr fun X hΨ => ?_
  refine Jq q <| Ra (aa false) q q <| R0 <| Jq q <| Rm (I_ t0) q q <| aZ q q q <| Rm (aa (decide (t0 < 0))) q q <| aN (fun h1 => ?_) (fun h1 => ?_)
  · exact cx q (dt h1) <| Kf q (dt h1) <| aH (aa true) q (dt h1) q q <| Ra (aa true) q q <| Rt hΨ q q q
  exact Rm (I_ t0) q (an q q (df h1)) <| ai ((cL 4 aM) t1.Nodes) dk q q (an q q (df h1)) <| ag (AL 4 aM t1.Nodes) dl q q (an q q (df h1)) <| aD (cc := aM) ef q (an q q (df h1)) <| cG q q (an q q (df h1)) <| ax (aa (decide ((t1.Nodes.length : Int) ≤ t0))) q (df h1) q q <| Ra (aa (decide ((t1.Nodes.length : Int) ≤ t0))) q q <| Rt hΨ q q q
theorem xF {t0 t1 r} (hr : np t0 t1 = some r) : aB PP 106 [ac (au t0), AL 1 ab t1] (I_ r) := by
  refine Fo I_ Tryz.func106 q (n := 18) q q hr fun X hΨ => ?_
  refine Jq q <| aV (ac (au t0)) q q <| Ra (I_ 0) q q <| R0 <| Js <| Jq q <| aK (au t0) bN q q q q <| aI fun b1 h2 => ?_
  refine dv _ ox (pF h2) q q <| Rm (bk [am b1.1, I_ b1.2]) q q <| bx (am b1.1) q q q <| bx (I_ b1.2) q q q <| Ra (am b1.1) q q <| Ra (I_ b1.2) q q <| R0 <| Jq q <| Rm (I_ b1.2) q q ?_
  refine bP q q q <| R0 <| aw q (fun h3 => ?_) (fun h3 => ?_)
  · exact Jq q <| Rm (I_ b1.2) q q <| Ra (I_ b1.2) q q <| Rt hΨ q q q
  refine ao <| Js <| Jq q <| Rm (AL 1 ab t1) q q <| fR [ap (au t0)] (fun x => [I_ x]) (fun y => aa y) (fun x => pO x t0) Fa q (fun x y h => M3 h) q <| Rc l7 lV q q fun b4 => R0 <| bQ q (fun h6 => ?_) (fun h6 => ?_)
  · exact Jq q <| Ra (I_ 6) q q <| Rt hΨ q q q
  exact ao <| Jq q <| Ra (I_ 0) q q <| Rt hΨ q q q
theorem MZ {t0 r} (hr : uU t0 = some r) : aB PP 239 [AL 1 bq t0] (AL 1 bq r) := by
  refine Fo (fun r => AL 1 bq r) Tryz.func239 q (n := 8) q q hr fun X hΨ => ?_
  refine Jq q <| Ra (af) q q <| R0 <| Js <| Jq q <| Rm (AL 1 bq t0) q q <| Bp (cc := bq) ut_98 q q q <| R0 ?_
  refine C7 q (fun h2 => ?_) ?_
  · obtain rfl := List.eq_nil_of_length_eq_zero h2
    exact Jq q <| Ra (af) q q <| R0 <| dg hΨ (d8 q (.tmp (A := af) q)) (fun y hy => by unfold uU at hy; simp at hy; subst hy; exact .nil)
  refine ao <| Jq q <| gF 0 fD q q <| Rm (AL 1 bq t0) q q <| Ri fun h1 => ?_
  exact gH (cc := bq) (ys := t0) 1 zq q q q h1 q q q <| Ra (a8 1) q q <| R0 <| dg hΨ (d8 q (.tmp (A := a8 1) q)) (fun y hy => by cases hy; exact (.frow q q (ah.flat _ _)))
theorem Db {t0 t1 r} (hr : pt t0 t1 = some r) : aB PP 223 [ac (au t0), I_ t1] (bk [AL 4 aL r.1, I_ r.2]) := by
  refine Fo (fun (r : (List aW) × Int) => bk [AL 4 aL r.1, I_ r.2]) Tryz.func223 q (n := 36) q q hr fun X hΨ => ?_
  refine Jq q <| aV (ac (au t0)) q q <| Ra (af) q q <| Ra (I_ 0) q q <| R0 <| Js <| Jq q <| aK (au t0) bN q q q q ?_
  refine Rm (I_ t1) q q <| cF (cc := ab) [t1] bc fj (.cons (A := I_ t1) q q q .nil) q q q <| Rc vH xF q q fun b1 => Ra (I_ b1) q q <| R0 <| Jq q <| Rm (I_ b1) q q <| bP q q q ?_
  refine R0 <| aw q (fun h3 => ?_) (fun h3 => ?_)
  · exact Jq q <| Rm (I_ b1) q q <| Ra (af) q q <| Ra (I_ b1) q q <| R0 <| dg hΨ (bG (As := [af, I_ b1]) q q (.cons (.tmp (A := af) q) (.cons (.tmp (A := I_ b1) q) .nil))) (fun y hy => by cases hy; exact (.tup (.cons .nil (.cons .same .nil))))
  refine ao <| Jq q <| aK (au t0) bN q q q q <| Rm (I_ t1) q q <| aI fun b4 h5 => gq [] [] [] [0] 1 [] [(0, .row 100 4 (b4.map aL))] (a8 0) [ac (au t0), I_ t1] vt (Dc h5) .nil q (.cons .same (.cons .same .nil)) .nil (.cc q (.row (ah.flat _ _)) q .nil) (.ob q) q q q <| Ra (a8 0) q q <| R0 <| Js ?_
  refine Jq q <| Rm (a8 0) q q <| eS (cc := aL) b4 fv q q q <| Rm (I_ 0) q q <| R0 <| aC <| Jn (fun x6 => ⟨fr [(7, a8 0), (20, I_ (b4.length : Int)), (21, I_ x6.2)], hp [(0, .row 100 4 (x6.1.map aL))], 1⟩) [] [] [] q (.cons (A := a8 0) q (.ob q) (.all q)) (.cc q (.row (ah.flat _ _)) q .nil) q q (fun E7 hE7 x6 => ?_)
  refine Jq q <| aZ q q q <| R0 <| Js <| aw q (fun h12 => ?_) (fun h12 => ?_)
  rotate_left
  · exact br q <| bO <| Jq q <| Rm (a8 0) q q <| Ra (a8 0) q q <| Ra (I_ 0) q q <| R0 <| dg hΨ (bG (As := [a8 0, I_ 0]) q q (.cons (.tmp (A := a8 0) q) (.cons (.tmp (A := I_ 0) q) .nil))) (fun y hy => by cases hy; exact (.tup (.cons (.frow q q (ah.flat _ _)) (.cons .same .nil))))
  refine ao <| Js <| aC <| Jq q <| Rm (I_ x6.2) q q <| Ra (I_ x6.2) q q <| R0 <| Jr q <| Rm (a8 0) q q ?_
  refine Rm (I_ x6.2) q q <| Rm (a8 0) q q <| Rm (I_ x6.2) q q <| Ri fun h13 => ?_
  refine dh (cc := aL) fC q q q h13.1 h13.2 q <| rn iV q q <| ff (cc := aL) x6.2 3 (AL 1 bq ((nth x6.1 x6.2).Names)) kn q q h13.1 h13.2 q q <| Rc FU MZ q q fun b14 => dh (cc := aL) fC q q q h13.1 h13.2 q <| rn iV q q <| eR (cc := aL) x6.2 3 (AL 1 bq b14) (aW.mk ((nth x6.1 x6.2).Name) ((nth x6.1 x6.2).Low) ((nth x6.1 x6.2).High) b14) zV q q q h13.1 h13.2 q q q q <| R0 <| bn ?_
  exact aG 20 (m := (b4.length : Int)) q fun q16 => aG 8 (m := x6.2) q fun q17 => Jr q <| aR (x6.2 + 1) q q (bu (by omega) (by omega)) q <| Rm (I_ (x6.2 + 1)) q q <| R0 <| bt <| Jc [] [] [] (hE7 ((x6.1.set x6.2.toNat (aW.mk ((nth x6.1 x6.2).Name) ((nth x6.1 x6.2).Low) ((nth x6.1 x6.2).High) b14)), x6.2 + 1)) (.cons (A := a8 0) q (.ob q) (.all q)) (.cc q (.row (ah.flat _ _)) q .nil) q q
theorem Ma {t0 t1 t2 r} (hr : tL t0 t1 t2 = some r) : aB PP 187 [ac (au t0), ac (bz t1), ac (b0 t2)] (bk [ac (aL r.1), aa r.2]) := by
  refine Fo (fun (r : aW × Bool) => bk [ac (aL r.1), aa r.2]) Tryz.func187 q (n := 45) q q hr fun X hΨ => ?_
  refine Jq q <| aV (ac (au t0)) q q <| aV (ac (bz t1)) q q <| aV (ac (b0 t2)) q q <| bE 0 _ ju q q <| Ra (aa false) q q <| R0 <| Js <| Js ?_
  refine Jr q <| ai (ab t2.Node) jG q q q <| ag (I_ t2.Node) ay q q q <| ai (aA t1.Graph) dr q q q <| ai ((cL 1 ab) t1.Graph.Nodes) ct q q q <| ag (AL 1 ab t1.Graph.Nodes) bh q q q <| aD (cc := ab) bI q q <| aI fun b1 h2 => dq b1 q q (Option.some.inj h2) q <| aI fun b3 h4 => ?_
  refine dv _ oK (qF h4) q q <| cd q q <| R0 <| bQ q (fun h5 => ?_) (fun h5 => ?_)
  · exact Jq q <| dH (Cs := [am (ByteArray.mk #[]), I_ 0, I_ 0, af]) (aL (aW.mk (ByteArray.mk #[]) 0 0 [])) mv ju .nil q (.same (.same (.same (.nl .nil)))) q <| aX (a8 0) (ac (aL (aW.mk (ByteArray.mk #[]) 0 0 []))) (aL (aW.mk (ByteArray.mk #[]) 0 0 [])) oM q .obj q q q q q q <| Ra (aa false) q q <| R0 <| Jt hΨ (bG (As := [ac (aL (aW.mk (ByteArray.mk #[]) 0 0 [])), aa false]) q q (.cons (.boxA (cs := (aL (aW.mk (ByteArray.mk #[]) 0 0 []))) jx q q q) (.cons (.tmp (A := aa false) q) .nil))) q q
  refine ao <| Js <| bW <| aK (au t0) bN q q q q <| ai (aA t1.Graph) dr q q q <| ai ((cL 1 ab) t1.Graph.Nodes) ct q q q <| ag (AL 1 ab t1.Graph.Nodes) bh q q q <| ai (ab t2.Node) jG q q q <| ag (I_ t2.Node) ay q q q <| Ri fun h6 => ?_
  refine aQ (cc := ab) bc q q h6.1 h6.2 q <| ag (I_ (nth t1.Graph.Nodes t2.Node)) ay q q q <| Rc AA Db q q fun b7 => Rm (bk [AL 4 aL b7.1, I_ b7.2]) q q <| bx (AL 4 aL b7.1) q q q <| bx (I_ b7.2) q q q <| Ra (AL 4 aL b7.1) q q <| Ra (I_ b7.2) q q <| bK (by kernel_rfl) ?_
  refine Js <| Jq q <| ai (ab t2.Attr) kE q q q <| ag (I_ t2.Attr) ay q q q <| Rm (AL 4 aL b7.1) q q <| aD (cc := aL) fv q q <| aI fun b9 h10 => dq b9 q q (Option.some.inj h10) q <| aI fun b11 h12 => ?_
  refine dv _ oK (qF h12) q q <| cd q q <| R0 <| bQ q (fun h13 => ?_) (fun h13 => ?_)
  · exact Jq q <| dH (Cs := [am (ByteArray.mk #[]), I_ 0, I_ 0, af]) (aL (aW.mk (ByteArray.mk #[]) 0 0 [])) mv ju .nil q (.same (.same (.same (.nl .nil)))) q <| aX (a8 0) (ac (aL (aW.mk (ByteArray.mk #[]) 0 0 []))) (aL (aW.mk (ByteArray.mk #[]) 0 0 [])) oM q .obj q q q q q q <| Ra (aa false) q q <| R0 <| Jt hΨ (bG (As := [ac (aL (aW.mk (ByteArray.mk #[]) 0 0 [])), aa false]) q q (.cons (.boxA (cs := (aL (aW.mk (ByteArray.mk #[]) 0 0 []))) jx q q q) (.cons (.tmp (A := aa false) q) .nil))) q q
  refine ao <| Jq q <| Rm (AL 4 aL b7.1) q q <| ai (ab t2.Attr) kE q q q <| ag (I_ t2.Attr) ay q q q <| Ri fun h14 => ?_
  exact aQ (cc := aL) fC q q h14.1 h14.2 q <| aK (aL (nth b7.1 t2.Attr)) jx q q q q <| aX (a8 0) (ac (aL (nth b7.1 t2.Attr))) (aL (nth b7.1 t2.Attr)) oM q .obj q q q q q q <| Ra (aa true) q q <| R0 <| Jt hΨ (bG (As := [ac (aL (nth b7.1 t2.Attr)), aa true]) q q (.cons (.boxA (cs := (aL (nth b7.1 t2.Attr))) jx q q q) (.cons (.tmp (A := aa true) q) .nil))) q q
theorem DS {t0 t1 r} (hr : qj t0 t1 = some r) : aB PP 240 [I_ t0, ac (ep t1)] (aa r) := by
  refine Fo aa Tryz.func240 q (n := 24) q q hr fun X hΨ => ?_
  refine Jq q <| aV (ac (ep t1)) q q <| Ra (aa false) q q <| R0 <| Jq q <| ai (ab t1.Var) iW q q q <| ag (I_ t1.Var) ay q q q <| cG q q q ?_
  refine Rm (aa (decide ((-1) ≤ t1.Var))) q q <| aN (fun h1 => ?_) (fun h1 => ?_)
  rotate_left
  · refine cy q (df h1) <| ax (aa false) q (df h1) q q <| Rm (aa false) q q <| c7 q q <| ax (aa false) q q q q ?_
    exact Rm (aa false) q q <| c7 q q <| ax (aa false) q q q q <| Ra (aa false) q q <| Rt hΨ q q q
  refine ai (ab t1.Var) iW q q (ak q q (dt h1)) <| ag (I_ t1.Var) ay q q (ak q q (dt h1)) <| Rm (I_ t0) q (ak q q (dt h1)) <| aZ q q (ak q q (dt h1)) <| aH (aa (decide (t1.Var < t0))) q (dt h1) q q <| Rm (aa (decide (t1.Var < t0))) q q <| aN (fun h2 => ?_) (fun h2 => ?_)
  rotate_left
  · refine c7 q (df h2) <| ax (aa false) q (df h2) q q <| Rm (aa false) q q <| c7 q q <| ax (aa false) q q q q <| Ra (aa false) q q ?_
    exact Rt hΨ q q q
  refine ai (ab t1.Add) p7 q q (ak q q (dt h2)) <| ag (I_ t1.Add) ay q q (ak q q (dt h2)) <| cG q q (ak q q (dt h2)) <| aH (aa (decide ((-1000000) ≤ t1.Add))) q (dt h2) q q <| Rm (aa (decide ((-1000000) ≤ t1.Add))) q q <| aN (fun h3 => ?_) (fun h3 => ?_)
  · exact ai (ab t1.Add) p7 q q (ak q q (dt h3)) <| ag (I_ t1.Add) ay q q (ak q q (dt h3)) <| dK q q (ak q q (dt h3)) <| aH (aa (decide (t1.Add ≤ 1000000))) q (dt h3) q q <| Ra (aa (decide (t1.Add ≤ 1000000))) q q <| Rt hΨ q q q
  exact c7 q (df h3) <| ax (aa false) q (df h3) q q <| Ra (aa false) q q <| Rt hΨ q q q
theorem Mb {t0 t1 r} (hr : nB t0 t1 = some r) : aB PP 224 [I_ t0, ac (bX t1)] (I_ r) := by
  refine Fo I_ Tryz.func224 q (n := 27) q q hr fun X hΨ => ?_
  refine Jq q <| aV (ac (bX t1)) q q <| Ra (I_ 0) q q <| R0 <| Js <| aC <| Js ?_
  apply ch (fun v9 => ⟨fr [(0, I_ t0), (3, ap (bX t1))], fun _ => none, 0⟩) (fun v9 => nV t0 t1 v9)
  · intro K16
    refine Jr q <| ai (ab t1.Kind) BK q q q <| ag (I_ t1.Kind) ay q q q <| bP q q q <| Rm (aa (decide (¬ (t1.Kind = 1)))) q q <| aN (fun h1 => ?_) (fun h1 => ?_)
    rotate_left
    · exact c7 q (df h1) <| ax (aa false) q (df h1) q q <| Ra (aa false) q q <| R0 <| dX q q <| Jk (K16 ()) (.all q)
    refine ai (ab t1.Kind) BK q q (ak q q (dt h1)) <| ag (I_ t1.Kind) ay q q (ak q q (dt h1)) <| bP q q (ak q q (dt h1)) <| aH (aa (decide (¬ (t1.Kind = 2)))) q (dt h1) q q <| Ra (aa (decide (¬ (t1.Kind = 2)))) q q <| R0 <| aw q (fun h2 => ?_) (fun h2 => ?_)
    rotate_left
    · exact Jk (K16 ()) (.all q)
    exact Jq q <| Ra (I_ 1) q q <| Rt hΨ q q q
  intro v9
  refine Jq q <| Rm (I_ t0) q q <| ai (ep t1.Left) HR q q q <| aK (ep t1.Left) vC q q q q <| Rc AF DS q q fun b10 => cd q q <| Rm (aa (!b10)) q q <| aN (fun h12 => ?_) (fun h12 => ?_)
  · refine cx q h12 <| Kf q h12 <| aH (aa true) q h12 q q <| Ra (aa true) q q <| R0 <| cJ q q <| Js ?_
    exact Jr q <| Ra (I_ 6) q q <| Rt hΨ q q q
  refine Rm (I_ t0) q (an q q (bf h12)) <| ai (ep t1.Right) HS q q (an q q (bf h12)) <| aK (ep t1.Right) vC q q q (an q q (bf h12)) <| Rc AF DS q (an q q (bf h12)) fun b13 => cd q (an q q (bf h12)) <| ax (aa (!b13)) q (bf h12) q q <| Ra (aa (!b13)) q q <| R0 <| bQ q (fun h15 => ?_) (fun h15 => ?_)
  · exact Jq q <| Ra (I_ 6) q q <| Rt hΨ q q q
  exact ao <| bn <| Jq q <| Ra (I_ 0) q q <| Rt hΨ q q q
theorem Mx {t0 t1 r} (hr : nR t0 t1 = some r) : aB PP 188 [I_ t0, AL 5 bX t1] (I_ r) := by
  refine Fo I_ Tryz.func188 q (n := 30) q q hr fun X hΨ => ?_
  refine Jq q <| Ra (I_ 0) q q <| R0 <| Js <| Jq q <| Rm (I_ t0) q q <| aZ q q q <| Rm (aa (decide (t0 < 0))) q q ?_
  refine aN (fun h1 => ?_) (fun h1 => ?_)
  · exact e9 q (dt h1) <| aH (aa true) q (dt h1) q q <| R0 <| cJ q q <| Jq q <| Ra (I_ 6) q q <| Rt hΨ q q q
  refine Rm (I_ t0) q (an q q (df h1)) <| cK q q (an q q (df h1)) <| ax (aa (decide (12 < t0))) q (df h1) q q <| R0 <| aw q (fun h2 => ?_) (fun h2 => ?_)
  · exact Jq q <| Ra (I_ 6) q q <| Rt hΨ q q q
  refine ao <| Js <| Jq q <| Rm (AL 5 bX t1) q q <| aD (cc := bX) m9 q q <| cK q q q <| R0 <| aw q (fun h3 => ?_) (fun h3 => ?_)
  · exact Jq q <| Ra (I_ 3) q q <| Rt hΨ q q q
  refine ao <| Js <| Jq q <| Rm (AL 5 bX t1) q q <| aD (cc := bX) m9 q q <| Rm (I_ 0) q q <| R0 <| aC <| Jn (fun x4 => ⟨fr [(0, I_ t0), (17, AL 5 bX t1), (18, I_ (t1.length : Int)), (19, I_ x4)], hp [], 0⟩) [] [] [] q (.all q) .nil q q (fun E5 hE5 x4 => ?_)
  refine Jq q <| aZ q q q <| R0 <| Js <| aw q (fun h11 => ?_) (fun h11 => ?_)
  rotate_left
  · exact br q <| bO <| Jq q <| Ra (I_ 0) q q <| Rt hΨ q q q
  refine ao <| Js <| aC <| Jq q <| Ri fun h12 => ?_
  refine aQ (cc := bX) zt q q h12.1 h12.2 q <| aK (bX (nth t1 x4)) vD q q q q <| bE 0 _ vy q q <| aX (a8 0) (ac (bX (nth t1 x4))) (bX (nth t1 x4)) AY q .obj q q q q q q <| R0 <| Jq q <| Rm (I_ t0) q q <| cr (a8 0) (bX (nth t1 x4)) vD q .obj q q q q <| aI fun b13 h14 => ?_
  refine dv _ FL (Mb h14) q q <| Ra (I_ b13) q q <| R0 <| Jq q <| Rm (I_ b13) q q <| bP q q q <| R0 <| aw q (fun h15 => ?_) (fun h15 => ?_)
  · exact Jq q <| Rm (I_ b13) q q <| Ra (I_ b13) q q <| Ro hΨ q q q
  exact ao <| bn <| aG 18 (m := (t1.length : Int)) q fun q16 => aG 19 (m := x4) q fun q17 => Jr q <| aR (x4 + 1) q q (bu (by omega) (by omega)) q <| Rm (I_ (x4 + 1)) q q <| R0 <| bt <| Jc [] [] [] (hE5 (x4 + 1)) (.all q) .nil q q
theorem MK {t0 t1 r} (hr : uL t0 t1 = some r) : aB PP 225 [AL 1 cf t0, aa t1] (I_ r) := by
  refine Fo I_ Tryz.func225 q (n := 19) q q hr fun X hΨ => ?_
  refine Jq q <| Ra (I_ 0) q q <| R0 <| Js <| Jq q <| Rm (AL 1 cf t0) q q <| aD (cc := cf) mt q q <| Rm (I_ 0) q q ?_
  refine R0 <| aC <| Jl (fun x1 => [(0, AL 1 cf t0), (1, aa t1), (7, I_ (t0.length : Int)), (8, I_ x1)]) (.all q) (fun E2 hE2 x1 => ?_)
  refine Jq q <| aZ q q q <| R0 <| Js <| aw q (fun h6 => ?_) (fun h6 => ?_)
  rotate_left
  · exact br q <| bO <| Jq q <| Ra (I_ (-1)) q q <| Rt hΨ q q q
  refine ao <| Js <| aC <| Jq q <| Rm (I_ x1) q q <| Ra (I_ x1) q q <| R0 <| Jq q ?_
  refine Rm (aa t1) q q <| Rm (AL 1 cf t0) q q <| Rm (I_ x1) q q <| Ri fun h7 => ?_
  refine aQ (cc := cf) jz q q h7.1 h7.2 q <| ag (aa (nth t0 x1)) ji q q q <| r_eqB ut_4 q q q <| R0 <| bQ q (fun h8 => ?_) (fun h8 => ?_)
  · exact Jq q <| Rm (I_ x1) q q <| Ra (I_ x1) q q <| Ro hΨ q q q
  exact ao <| bn <| aG 7 (m := (t0.length : Int)) q fun q9 => aG 5 (m := x1) q fun q10 => Jr q <| aR (x1 + 1) q q (bu (by omega) (by omega)) q <| Rm (I_ (x1 + 1)) q q <| R0 <| bt <| Jk (hE2 (x1 + 1)) (.all q)
theorem N7 {t0 t1 r} (hr : vb t0 t1 = some r) : aB PP 189 [AL 1 cf t0, aa t1] (aa r) := by
  refine Fo aa Tryz.func189 q (n := 9) q q hr fun X hΨ => ?_
  refine Jq q <| Ra (aa false) q q <| R0 <| Jq q <| Rm (AL 1 cf t0) q q <| Rm (aa t1) q q <| Rc FM MK q q fun b1 => ?_
  exact cG q q q <| Ra (aa (decide (0 ≤ b1))) q q <| Rt hΨ q q q
theorem yG {t0 t1 r} (hr : kS t0 t1 = some r) : aB PP 151 [ac (au t0), ac (bz t1)] (I_ r) := by
  refine Fo I_ Tryz.func151 q (n := 110) q q hr fun X hΨ => ?_
  refine Jq q <| aV (ac (au t0)) q q <| aV (ac (bz t1)) q q <| Ra (I_ 0) q q <| R0 <| Js <| Jq q <| aK (au t0) bN q q q q ?_
  refine Rc ox pF q q fun b1 => Rm (bk [am b1.1, I_ b1.2]) q q <| bx (am b1.1) q q q <| bx (I_ b1.2) q q q <| Ra (am b1.1) q q <| Ra (I_ b1.2) q q <| R0 <| Jq q ?_
  refine Rm (I_ b1.2) q q <| bP q q q <| R0 <| aw q (fun h3 => ?_) (fun h3 => ?_)
  · exact Jq q <| Rm (I_ b1.2) q q <| Ra (I_ b1.2) q q <| Rt hΨ q q q
  refine ao <| Js <| Jq q <| ai (aA t1.Graph) dr q q q <| aK (aA t1.Graph) ck q q q q <| Rc oy pE q q fun b4 => Ra (I_ b4) q q <| R0 ?_
  refine Jq q <| Rm (I_ b4) q q <| bP q q q <| R0 <| aw q (fun h6 => ?_) (fun h6 => ?_)
  · exact Jq q <| Rm (I_ b4) q q <| Ra (I_ b4) q q <| Rt hΨ q q q
  refine ao <| Js <| Jq q <| ai (aA t1.Graph) dr q q q <| ai ((cL 1 ab) t1.Graph.Nodes) ct q q q <| ag (AL 1 ab t1.Graph.Nodes) bh q q q <| fR [ap (au t0)] (fun x => [I_ x]) (fun y => aa y) (fun x => qy x t0) Fq q (fun x y h => MG h) q <| Rc l7 lV q q fun b7 => ?_
  refine Rm (aa b7) q q <| aN (fun h9 => ?_) (fun h9 => ?_)
  · refine cx q h9 <| Kf q h9 <| aH (aa true) q h9 q q <| R0 <| cJ q q <| Jq q ?_
    exact Ra (I_ 13) q q <| Rt hΨ q q q
  refine ai (aA t1.Graph) dr q q (an q q (bf h9)) <| ai ((cL 3 av) t1.Graph.Edges) d9 q q (an q q (bf h9)) <| ag (AL 3 av t1.Graph.Edges) di q q (an q q (bf h9)) <| fR [ap (au t0)] (fun x => [ac (av x)]) (fun y => aa y) (fun x => qz x t0) Fr q (fun x y h => MH h) (an q q (bf h9)) <| Rc vK zh q (an q q (bf h9)) fun b10 => ax (aa b10) q (bf h9) q q <| R0 <| bQ q (fun h12 => ?_) (fun h12 => ?_)
  · exact Jq q <| Ra (I_ 13) q q <| Rt hΨ q q q
  refine ao <| Js <| Jq q <| ai (ab t1.Vars) eJ q q q <| ag (I_ t1.Vars) ay q q q <| Rc oK qF q q fun b13 => cd q q <| R0 ?_
  refine bQ q (fun h15 => ?_) (fun h15 => ?_)
  · exact Jq q <| Ra (I_ 6) q q <| Rt hΨ q q q
  refine ao <| Js <| Jq q <| ai ((cL 4 b0) t1.Slots) hZ q q q <| ag (AL 4 b0 t1.Slots) iO q q q <| aD (cc := b0) kh q q <| cK q q q <| Rm (aa (decide (10 < (t1.Slots.length : Int)))) q q <| aN (fun h16 => ?_) (fun h16 => ?_)
  · refine cx q (dt h16) <| aH (aa true) q (dt h16) q q <| R0 <| cJ q q <| Jq q <| Ra (I_ 3) q q ?_
    exact Rt hΨ q q q
  refine ai ((cL 5 bX) t1.Tests) ln q q (an q q (df h16)) <| ag (AL 5 bX t1.Tests) mc q q (an q q (df h16)) <| aD (cc := bX) m9 q (an q q (df h16)) <| cK q q (an q q (df h16)) <| ax (aa (decide (10 < (t1.Tests.length : Int)))) q (df h16) q q <| R0 <| aw q (fun h17 => ?_) (fun h17 => ?_)
  · exact Jq q <| Ra (I_ 3) q q <| Rt hΨ q q q
  refine ao <| Jq q <| ai (ab t1.Vars) eJ q q q <| ag (I_ t1.Vars) ay q q q <| Ri fun h18 => ?_
  refine lm (cc := cf) 0 false rD z_4 q q h18.1 h18.2 q q <| Ra (a8 0) q q <| R0 <| Js <| Jq q <| ai ((cL 4 b0) t1.Slots) hZ q q q <| ag (AL 4 b0 t1.Slots) iO q q q <| aD (cc := b0) kh q q <| Rm (I_ 0) q q ?_
  refine R0 <| aC <| Jn (fun x19 => ⟨fr [(2, ap (au t0)), (3, ap (bz t1)), (8, a8 0), (58, AL 4 b0 t1.Slots), (59, I_ (t1.Slots.length : Int)), (60, I_ x19.2)], hp [(0, .row 4 1 (x19.1.map cf))], 1⟩) [] [] [] q (.s2 q q (.cons (A := a8 0) q (.ob q) (.all q))) (.cc q (.row (ah.flat _ _)) q .nil) q q (fun E20 hE20 x19 => ?_)
  refine Jq q <| aZ q q q <| R0 <| Js <| aw q (fun h38 => ?_) (fun h38 => ?_)
  rotate_left
  · refine br q <| du <| Js <| Jq q <| ai (ab t1.Vars) eJ q q q <| ag (I_ t1.Vars) ay q q q <| ai ((cL 5 bX) t1.Tests) ln q q q <| ag (AL 5 bX t1.Tests) mc q q q <| aI fun b57 h58 => ?_
    refine dv _ Ft (Mx h58) q q <| Ra (I_ b57) q q <| R0 <| Jq q <| Rm (I_ b57) q q <| bP q q q <| R0 <| aw q (fun h59 => ?_) (fun h59 => ?_)
    · exact Jq q <| Rm (I_ b57) q q <| Ra (I_ b57) q q <| Rt hΨ q q q
    refine ao <| Js <| Jq q <| Rm (a8 0) q q <| aI fun b60 h61 => gp [(0, .row 4 1 (x19.1.map cf))] [a8 0, aa false] Fu (N7 h61) (.cons q .nil) q (.cons (.frow q q (ah.flat _ _)) (.cons .same .nil)) q <| R0 <| bQ q (fun h62 => ?_) (fun h62 => ?_)
    · exact Jq q <| Ra (I_ 9) q q <| Rt hΨ q q q
    exact ao <| Jq q <| Ra (I_ 0) q q <| Rt hΨ q q q
  refine ao <| Js <| aC <| Jq q <| Ri fun h39 => ?_
  refine aQ (cc := b0) kf q q h39.1 h39.2 q <| aK (b0 (nth t1.Slots x19.2)) mq q q q q <| bE 1 _ mh q q <| aX (a8 1) (ac (b0 (nth t1.Slots x19.2))) (b0 (nth t1.Slots x19.2)) rQ q .obj q q q q q q <| R0 <| Js <| Jq q <| aK (au t0) bN q q q q <| aK (bz t1) fq q q q q ?_
  refine cr (a8 1) (b0 (nth t1.Slots x19.2)) mq q .obj q q q q <| Rc Fs Ma q q fun b40 => Rm (bk [ac (aL b40.1), aa b40.2]) q q <| bx (ac (aL b40.1)) q q q <| bx (aa b40.2) q q q <| bE 2 _ ju q q <| aX (a8 2) (ac (aL b40.1)) (aL b40.1) oM q .obj q q q q q q <| Ra (aa b40.2) q q <| R0 ?_
  refine Jq q <| Rm (aa b40.2) q q <| cd q q <| Rm (aa (!b40.2)) q q <| aN (fun h42 => ?_) (fun h42 => ?_)
  · refine cx q h42 <| cx q h42 <| aH (aa true) q h42 q q <| Rm (aa true) q q ?_
    refine cx q q <| Kf q q <| aH (aa true) q q q q <| R0 <| cJ q q <| Jq q ?_
    exact Ra (I_ 6) q q <| Ro hΨ q q q
  refine aT (a8 1) 2 jH q .obj q q (an q q (bf h42)) <| aT (aO 1 2) 2 iW q .at q q (an q q (bf h42)) <| bg (aO 1 2) (I_ (((nth t1.Slots x19.2).Term).Var)) ay q .at q q (an q q (bf h42)) <| ai (ab t1.Vars) eJ q q (an q q (bf h42)) <| ag (I_ t1.Vars) ay q q (an q q (bf h42)) <| aI fun b43 h44 => dq b43 q q (Option.some.inj h44) (an q q (bf h42)) <| Rc oK qF q (an q q (bf h42)) fun b45 => cd q (an q q (bf h42)) ?_
  refine ax (aa (!b45)) q (bf h42) q q <| Rm (aa (!b45)) q q <| aN (fun h47 => ?_) (fun h47 => ?_)
  · refine cx q h47 <| Kf q h47 <| aH (aa true) q h47 q q <| R0 <| cJ q q <| Jq q ?_
    exact Ra (I_ 6) q q <| Ro hΨ q q q
  refine aT (a8 1) 2 jH q .obj q q (an q q (bf h47)) <| aT (aO 1 2) 3 p7 q .at q q (an q q (bf h47)) <| bg (aO 1 3) (I_ (((nth t1.Slots x19.2).Term).Add)) ay q .at q q (an q q (bf h47)) <| Rc oK qF q (an q q (bf h47)) fun b48 => cd q (an q q (bf h47)) <| ax (aa (!b48)) q (bf h47) q q <| R0 <| bQ q (fun h50 => ?_) (fun h50 => ?_)
  · exact Jq q <| Ra (I_ 6) q q <| Ro hΨ q q q
  refine ao <| Jq q <| aT (a8 1) 2 jH q .obj q q q <| aT (aO 1 2) 2 iW q .at q q q <| bg (aO 1 2) (I_ (((nth t1.Slots x19.2).Term).Var)) ay q .at q q q <| cG q q q <| R0 ?_
  apply ch (fun v53 => ⟨fr [(2, ap (au t0)), (3, ap (bz t1)), (8, a8 0), (58, AL 4 b0 t1.Slots), (59, I_ (t1.Slots.length : Int)), (60, I_ x19.2)], hp [(0, .row 4 1 (v53.map cf))], 1⟩) (fun v53 => qJ x19 v53)
  · intro K54
    refine aw q (fun h51 => ?_) (fun h51 => ?_)
    rotate_left
    · exact ao <| Jc [] [] [] (K54 x19.1) (.s2 q q (.cons (A := a8 0) q (.ob q) (.all q))) (.cc q (.row (ah.flat _ _)) q .nil) q q
    refine Jr q <| Rm (a8 0) q q <| aT (a8 1) 2 jH q .obj q q q <| aT (aO 1 2) 2 iW q .at q q q <| bg (aO 1 2) (I_ (((nth t1.Slots x19.2).Term).Var)) ay q .at q q q <| Ri fun h52 => ?_
    exact dh (cc := cf) jz q q q h52.1 h52.2 q <| eR (cc := cf) (((nth t1.Slots x19.2).Term).Var) 0 (aa true) true ot q q q h52.1 h52.2 q q q q <| R0 <| Jc [] [] [] (K54 (x19.1.set (((nth t1.Slots x19.2).Term).Var).toNat true)) (.s2 q q (.cons (A := a8 0) q (.ob q) (.all q))) (.cc q (.row (ah.flat _ _)) q .nil) q q
  intro v53
  exact bn <| aG 59 (m := (t1.Slots.length : Int)) q fun q55 => aG 60 (m := x19.2) q fun q56 => Jr q <| aR (x19.2 + 1) q q (bu (by omega) (by omega)) q <| Rm (I_ (x19.2 + 1)) q q <| R0 <| bt <| Jc [] [] [] (hE20 (v53, x19.2 + 1)) (.s2 q q (.cons (A := a8 0) q (.ob q) (.all q))) (.cc q (.row (ah.flat _ _)) q .nil) q q
theorem LJ {t0 t1 r} (hr : tu t0 t1 = some r) : aB PP 226 [I_ t0, ap (au t1)] (aa r) := by
  refine Fo aa Tryz.func226 q (n := 9) q q hr fun X hΨ => ?_
  refine Jq q <| Ra (aa false) q q <| R0 <| Jq q <| Rm (I_ t0) q q <| ai ((cL 4 aM) t1.Nodes) dk q q q <| ag (AL 4 aM t1.Nodes) dl q q q <| aD (cc := aM) ef q q ?_
  exact cG q q q <| Ra (aa (decide ((t1.Nodes.length : Int) ≤ t0))) q q <| Rt hΨ q q q
theorem LK {t0 t1 r} (hr : tw t0 t1 = some r) : aB PP 227 [ac (av t0), ap (au t1)] (aa r) := by
  refine Fo aa Tryz.func227 q (n := 10) q q hr fun X hΨ => ?_
  refine Jq q <| aV (ac (av t0)) q q <| Ra (aa false) q q <| R0 <| Jq q <| ai (ab t0.Type_) i7 q q q <| ag (I_ t0.Type_) ay q q q <| ai ((cL 7 aY) t1.Edges) dL q q q ?_
  exact ag (AL 7 aY t1.Edges) dO q q q <| aD (cc := aY) fe q q <| cG q q q <| Ra (aa (decide ((t1.Edges.length : Int) ≤ t0.Type_))) q q <| Rt hΨ q q q
theorem KX {t0 t1 r} (hr : sT t0 t1 = some r) : aB PP 190 [ac (au t0), ac (aA t1)] (aa r) := by
  refine Fo aa Tryz.func190 q (n := 17) q q hr fun X hΨ => ?_
  refine Jq q <| aV (ac (au t0)) q q <| aV (ac (aA t1)) q q <| Ra (aa false) q q <| R0 <| Jq q <| ai ((cL 1 ab) t1.Nodes) ct q q q <| ag (AL 1 ab t1.Nodes) bh q q q ?_
  refine fR [ap (au t0)] (fun x => [I_ x]) (fun y => aa y) (fun x => tu x t0) FN q (fun x y h => LJ h) q <| Rc l7 lV q q fun b1 => cd q q <| Rm (aa (!b1)) q q <| aN (fun h3 => ?_) (fun h3 => ?_)
  rotate_left
  · exact cy q (bf h3) <| Kt q (bf h3) <| ax (aa false) q (bf h3) q q <| Ra (aa false) q q <| Rt hΨ q q q
  exact ai ((cL 3 av) t1.Edges) d9 q q (ak q q h3) <| ag (AL 3 av t1.Edges) di q q (ak q q h3) <| fR [ap (au t0)] (fun x => [ac (av x)]) (fun y => aa y) (fun x => tw x t0) FO q (fun x y h => LK h) (ak q q h3) <| Rc vK zh q (ak q q h3) fun b4 => cd q (ak q q h3) <| aH (aa (!b4)) q h3 q q <| Ra (aa (!b4)) q q <| Rt hΨ q q q
theorem Nk {t0 t1 r} (hr : Eh t0 t1 = some r) : aB PP 241 [AL 4 b0 t0, cC PP (fun x => [ac (b0 x)]) (fun y => aa y) t1] (I_ r) := by
  refine Fo I_ Tryz.func241 q (n := 19) q q hr fun X hΨ => ?_
  refine Jq q <| Ra (I_ 0) q q <| R0 <| Js <| Jq q <| Rm (AL 4 b0 t0) q q <| aD (cc := b0) kh q q <| Rm (I_ 0) q q ?_
  refine R0 <| aC <| Jl (fun x1 => [(0, AL 4 b0 t0), (1, cC PP (fun x => [ac (b0 x)]) (fun y => aa y) t1), (7, I_ (t0.length : Int)), (8, I_ x1)]) (.all q) (fun E2 hE2 x1 => ?_)
  refine Jq q <| aZ q q q <| R0 <| Js <| aw q (fun h8 => ?_) (fun h8 => ?_)
  rotate_left
  · exact br q <| bO <| Jq q <| Ra (I_ (-1)) q q <| Rt hΨ q q q
  refine ao <| Js <| aC <| Jq q <| Rm (I_ x1) q q <| Ra (I_ x1) q q <| R0 <| Jq q ?_
  refine Rm (cC PP (fun x => [ac (b0 x)]) (fun y => aa y) t1) q q <| Rm (AL 4 b0 t0) q q <| Rm (I_ x1) q q <| Ri fun h9 => ?_
  refine aQ (cc := b0) kf q q h9.1 h9.2 q <| aK (b0 (nth t0 x1)) mq q q q q <| aI fun b10 h11 => iz (ga := (fun x => [ac (b0 x)])) (rt := (fun y => aa y)) (gg := t1) (u := (nth t0 x1)) (w := b10) q q h11 (NK.nk) q <| R0 <| bQ q (fun h12 => ?_) (fun h12 => ?_)
  · exact Jq q <| Rm (I_ x1) q q <| Ra (I_ x1) q q <| Ro hΨ q q q
  exact ao <| bn <| aG 7 (m := (t0.length : Int)) q fun q13 => aG 5 (m := x1) q fun q14 => Jr q <| aR (x1 + 1) q q (bu (by omega) (by omega)) q <| Rm (I_ (x1 + 1)) q q <| R0 <| bt <| Jk (hE2 (x1 + 1)) (.all q)
theorem Em {t0 t1 r} (hr : vh t0 t1 = some r) : aB PP 228 [AL 4 b0 t0, cC PP (fun x => [ac (b0 x)]) (fun y => aa y) t1] (aa r) := by
  refine Fo aa Tryz.func228 q (n := 9) q q hr fun X hΨ => ?_
  refine Jq q <| Ra (aa false) q q <| R0 <| Jq q <| Rm (AL 4 b0 t0) q q <| Rm (cC PP (fun x => [ac (b0 x)]) (fun y => aa y) t1) q q <| Rc FV Nk q q fun b1 => ?_
  exact cG q q q <| Ra (aa (decide (0 ≤ b1))) q q <| Rt hΨ q q q
theorem Lx {t0 t1 r} (hr : pr t0 t1 = some r) : aB PP 229 [ac (b0 t0), ap (b0 t1)] (aa r) := by
  refine Fo aa Tryz.func229 q (n := 16) q q hr fun X hΨ => ?_
  refine Jq q <| aV (ac (b0 t0)) q q <| Ra (aa false) q q <| R0 <| Jq q <| ai (ab t0.Node) jG q q q <| ag (I_ t0.Node) ay q q q <| ai (ab t1.Node) jG q q q ?_
  refine ag (I_ t1.Node) ay q q q <| bY q q q <| Rm (aa (decide (t0.Node = t1.Node))) q q <| aN (fun h1 => ?_) (fun h1 => ?_)
  · exact ai (ab t0.Attr) kE q q (ak q q (dt h1)) <| ag (I_ t0.Attr) ay q q (ak q q (dt h1)) <| ai (ab t1.Attr) kE q q (ak q q (dt h1)) <| ag (I_ t1.Attr) ay q q (ak q q (dt h1)) <| bY q q (ak q q (dt h1)) <| aH (aa (decide (t0.Attr = t1.Attr))) q (dt h1) q q <| Ra (aa (decide (t0.Attr = t1.Attr))) q q <| Rt hΨ q q q
  exact cy q (df h1) <| Kt q (df h1) <| ax (aa false) q (df h1) q q <| Ra (aa false) q q <| Rt hΨ q q q
theorem Kp {t0 t1 t2 r} (hr : mQ t0 t1 t2 = some r) : aB PP 191 [ac (au t0), ac (aP t1), I_ t2] (I_ r) := by
  refine Fo I_ Tryz.func191 q (n := 85) q q hr fun X hΨ => ?_
  refine Jq q <| aV (ac (au t0)) q q <| aV (ac (aP t1)) q q <| Ra (I_ 0) q q <| R0 <| Jq q <| ai (bz t1.Right) ex q q q <| ai ((cL 4 b0) t1.Right.Slots) hZ q q q ?_
  refine ag (AL 4 b0 t1.Right.Slots) iO q q q <| Rm (I_ t2) q q <| Ri fun h1 => ?_
  refine aQ (cc := b0) kf q q h1.1 h1.2 q <| aK (b0 (nth t1.Right.Slots t2)) mq q q q q <| bE 0 _ mh q q <| aX (a8 0) (ac (b0 (nth t1.Right.Slots t2))) (b0 (nth t1.Right.Slots t2)) rQ q .obj q q q q q q <| R0 <| Js <| Jq q <| aT (a8 0) 0 jG q .obj q q q <| bg (aO 0 0) (I_ ((nth t1.Right.Slots t2).Node)) ay q .at q q q ?_
  refine aZ q q q <| Rm (aa (decide ((nth t1.Right.Slots t2).Node < 0))) q q <| aN (fun h2 => ?_) (fun h2 => ?_)
  · refine cx q (dt h2) <| cx q (dt h2) <| aH (aa true) q (dt h2) q q <| R0 ?_
    exact cJ q q <| Jq q <| Ra (I_ 6) q q <| Rt hΨ q q q
  refine aT (a8 0) 0 jG q .obj q q (an q q (df h2)) <| bg (aO 0 0) (I_ ((nth t1.Right.Slots t2).Node)) ay q .at q q (an q q (df h2)) <| ai (bz t1.Right) ex q q (an q q (df h2)) <| ai (aA t1.Right.Graph) dr q q (an q q (df h2)) <| ai ((cL 1 ab) t1.Right.Graph.Nodes) ct q q (an q q (df h2)) <| ag (AL 1 ab t1.Right.Graph.Nodes) bh q q (an q q (df h2)) <| aD (cc := ab) bI q (an q q (df h2)) <| cG q q (an q q (df h2)) <| ax (aa (decide ((t1.Right.Graph.Nodes.length : Int) ≤ (nth t1.Right.Slots t2).Node))) q (df h2) q q <| R0 ?_
  refine aw q (fun h3 => ?_) (fun h3 => ?_)
  · exact Jq q <| Ra (I_ 6) q q <| Rt hΨ q q q
  refine ao <| Js <| bW <| aK (au t0) bN q q q q <| ai (bz t1.Right) ex q q q <| ai (aA t1.Right.Graph) dr q q q <| ai ((cL 1 ab) t1.Right.Graph.Nodes) ct q q q <| ag (AL 1 ab t1.Right.Graph.Nodes) bh q q q <| aT (a8 0) 0 jG q .obj q q q <| bg (aO 0 0) (I_ ((nth t1.Right.Slots t2).Node)) ay q .at q q q ?_
  refine Ri fun h4 => ?_
  refine aQ (cc := ab) bc q q h4.1 h4.2 q <| ag (I_ (nth t1.Right.Graph.Nodes ((nth t1.Right.Slots t2).Node))) ay q q q <| Rc AA Db q q fun b5 => Rm (bk [AL 4 aL b5.1, I_ b5.2]) q q <| bx (AL 4 aL b5.1) q q q <| bx (I_ b5.2) q q q <| Ra (AL 4 aL b5.1) q q <| Ra (I_ b5.2) q q <| bK (by kernel_rfl) ?_
  refine Jq q <| aT (a8 0) 2 jH q .obj q q q <| cr (aO 0 2) (ep ((nth t1.Right.Slots t2).Term)) vC q .at q q q q <| bE 1 _ mg q q <| aX (a8 1) (ac (ep ((nth t1.Right.Slots t2).Term))) (ep ((nth t1.Right.Slots t2).Term)) AX q .obj q q q q q q <| R0 <| Js <| Jq q ?_
  refine aT (a8 0) 1 kE q .obj q q q <| bg (aO 0 1) (I_ ((nth t1.Right.Slots t2).Attr)) ay q .at q q q <| aZ q q q <| Rm (aa (decide ((nth t1.Right.Slots t2).Attr < 0))) q q <| aN (fun h7 => ?_) (fun h7 => ?_)
  · refine cx q (dt h7) <| Kf q (dt h7) <| aH (aa true) q (dt h7) q q <| Rm (aa true) q q <| dU q q ?_
    refine aH (aa true) q q q q <| Rm (aa true) q q <| cx q q <| e9 q q <| aH (aa true) q q q q <| Rm (aa true) q q ?_
    refine dU q q <| aH (aa true) q q q q <| Rm (aa true) q q <| dU q q <| aH (aa true) q q q q <| R0 ?_
    exact cJ q q <| Jq q <| Ra (I_ 6) q q <| Rt hΨ q q q
  refine aT (a8 0) 1 kE q .obj q q (an q q (df h7)) <| bg (aO 0 1) (I_ ((nth t1.Right.Slots t2).Attr)) ay q .at q q (an q q (df h7)) <| Rm (AL 4 aL b5.1) q (an q q (df h7)) <| aD (cc := aL) fv q (an q q (df h7)) <| cG q q (an q q (df h7)) <| ax (aa (decide ((b5.1.length : Int) ≤ (nth t1.Right.Slots t2).Attr))) q (df h7) q q <| Rm (aa (decide ((b5.1.length : Int) ≤ (nth t1.Right.Slots t2).Attr))) q q <| aN (fun h8 => ?_) (fun h8 => ?_)
  · refine dU q (dt h8) <| aH (aa true) q (dt h8) q q <| Rm (aa true) q q <| cx q q <| Kf q q ?_
    refine Kf q q <| aH (aa true) q q q q <| Rm (aa true) q q <| dU q q <| aH (aa true) q q q q <| Rm (aa true) q q <| e9 q q ?_
    exact Kf q q <| aH (aa true) q q q q <| R0 <| cJ q q <| Jq q <| Ra (I_ 6) q q <| Rt hΨ q q q
  refine aT (a8 1) 0 iW q .obj q q (an q q (df h8)) <| bg (aO 1 0) (I_ (((nth t1.Right.Slots t2).Term).Var)) ay q .at q q (an q q (df h8)) <| aZ q q (an q q (df h8)) <| ax (aa (decide (((nth t1.Right.Slots t2).Term).Var < (-1)))) q (df h8) q q <| Rm (aa (decide (((nth t1.Right.Slots t2).Term).Var < (-1)))) q q <| aN (fun h9 => ?_) (fun h9 => ?_)
  · refine cx q (dt h9) <| e9 q (dt h9) <| aH (aa true) q (dt h9) q q <| Rm (aa true) q q <| e9 q q ?_
    refine Kf q q <| aH (aa true) q q q q <| Rm (aa true) q q <| dU q q <| aH (aa true) q q q q <| R0 <| cJ q q <| Js ?_
    exact Jr q <| Ra (I_ 6) q q <| Rt hΨ q q q
  refine aT (a8 1) 0 iW q .obj q q (an q q (df h9)) <| bg (aO 1 0) (I_ (((nth t1.Right.Slots t2).Term).Var)) ay q .at q q (an q q (df h9)) <| ai (bz t1.Right) ex q q (an q q (df h9)) <| ai (ab t1.Right.Vars) eJ q q (an q q (df h9)) <| ag (I_ t1.Right.Vars) ay q q (an q q (df h9)) <| cG q q (an q q (df h9)) <| ax (aa (decide (t1.Right.Vars ≤ ((nth t1.Right.Slots t2).Term).Var))) q (df h9) q q <| Rm (aa (decide (t1.Right.Vars ≤ ((nth t1.Right.Slots t2).Term).Var))) q q <| aN (fun h10 => ?_) (fun h10 => ?_)
  · refine dU q (dt h10) <| aH (aa true) q (dt h10) q q <| Rm (aa true) q q <| dU q q <| aH (aa true) q q q q <| R0 ?_
    exact cJ q q <| Jq q <| Ra (I_ 6) q q <| Rt hΨ q q q
  refine aT (a8 1) 1 p7 q .obj q q (an q q (df h10)) <| bg (aO 1 1) (I_ (((nth t1.Right.Slots t2).Term).Add)) ay q .at q q (an q q (df h10)) <| aZ q q (an q q (df h10)) <| ax (aa (decide (((nth t1.Right.Slots t2).Term).Add < (-1000000)))) q (df h10) q q <| Rm (aa (decide (((nth t1.Right.Slots t2).Term).Add < (-1000000)))) q q <| aN (fun h11 => ?_) (fun h11 => ?_)
  · refine dU q (dt h11) <| aH (aa true) q (dt h11) q q <| R0 <| cJ q q <| Jq q <| Ra (I_ 6) q q <| R0 ?_
    exact eV hΨ q q q
  refine aT (a8 1) 1 p7 q .obj q q (an q q (df h11)) <| bg (aO 1 1) (I_ (((nth t1.Right.Slots t2).Term).Add)) ay q .at q q (an q q (df h11)) <| cK q q (an q q (df h11)) <| ax (aa (decide (1000000 < ((nth t1.Right.Slots t2).Term).Add))) q (df h11) q q <| R0 <| aw q (fun h12 => ?_) (fun h12 => ?_)
  · exact Jq q <| Ra (I_ 6) q q <| Rt hΨ q q q
  refine ao <| Js <| Js <| gS [0] [] [] 0 [(2, I_ t2), (4, ap (aP t1)), (7, ap (b0 (nth t1.Right.Slots t2)))] [] (.same q (.same q (.cons (A := a8 0) q (.fbox q q (.cons .same (.cons .same (.cons .same (.cons .same .nil))))) .nil))) .nil q q <| Jr q <| ai (bz t1.Right) ex q q q <| ai ((cL 4 b0) t1.Right.Slots) hZ q q q <| ag (AL 4 b0 t1.Right.Slots) iO q q q <| Rm (I_ t2) q q <| Ri fun h14 => ?_
  refine kl (cc := b0) 0 t2 kf q jh (fU q) h14.1 h14.2.1 h14.2.2 q <| fR [ap (b0 (nth t1.Right.Slots t2))] (fun x => [ac (b0 x)]) (fun y => aa y) (fun x => pr x (nth t1.Right.Slots t2)) FP q (fun x y h => Lx h) q <| Rc AB Em q q fun b15 => R0 <| bQ q (fun h17 => ?_) (fun h17 => ?_)
  · exact Jq q <| Ra (I_ 5) q q <| Rt hΨ q q q
  exact ao <| Jq q <| Ra (I_ 0) q q <| Rt hΨ q q q
theorem KW {t0 t1 r} (hr : mY t0 t1 = some r) : aB PP 152 [ac (au t0), ac (aP t1)] (I_ r) := by
  refine Fo I_ Tryz.func152 q (n := 58) q q hr fun X hΨ => ?_
  refine Jq q <| aV (ac (au t0)) q q <| aV (ac (aP t1)) q q <| Ra (I_ 0) q q <| R0 <| Js <| Jq q <| ai (bz t1.Right) ex q q q ?_
  refine ai (aA t1.Right.Graph) dr q q q <| aK (aA t1.Right.Graph) ck q q q q <| Rc oy pE q q fun b1 => Ra (I_ b1) q q <| R0 <| Jq q <| Rm (I_ b1) q q <| bP q q q ?_
  refine R0 <| aw q (fun h3 => ?_) (fun h3 => ?_)
  · exact Jq q <| Rm (I_ b1) q q <| Ra (I_ b1) q q <| Rt hΨ q q q
  refine ao <| Js <| aC <| Jq q <| aK (au t0) bN q q q q <| ai (bz t1.Right) ex q q q <| ai (aA t1.Right.Graph) dr q q q <| aK (aA t1.Right.Graph) ck q q q q <| aI fun b4 h5 => ?_
  refine dv _ Fv (KX h5) q q <| cd q q <| Ra (aa (!b4)) q q <| R0 <| bQ q (fun h6 => ?_) (fun h6 => ?_)
  · exact Jq q <| Ra (I_ 13) q q <| Rt hΨ q q q
  refine Jq q <| ai (bz t1.Right) ex q q q <| ai (ab t1.Right.Vars) eJ q q q <| ag (I_ t1.Right.Vars) ay q q q <| ai (bz t1.Left) iT q q q <| ai (ab t1.Left.Vars) eJ q q q <| ag (I_ t1.Left.Vars) ay q q q <| bP q q q <| Rm (aa (decide (¬ (t1.Right.Vars = t1.Left.Vars)))) q q ?_
  refine aN (fun h7 => ?_) (fun h7 => ?_)
  · refine cx q (dt h7) <| Kf q (dt h7) <| aH (aa true) q (dt h7) q q <| Ra (aa true) q q <| R0 <| cJ q q <| Js ?_
    exact Jr q <| Ra (I_ 1) q q <| Rt hΨ q q q
  refine ai (bz t1.Right) ex q q (an q q (df h7)) <| ai ((cL 5 bX) t1.Right.Tests) ln q q (an q q (df h7)) <| ag (AL 5 bX t1.Right.Tests) mc q q (an q q (df h7)) <| aD (cc := bX) m9 q (an q q (df h7)) <| cK q q (an q q (df h7)) <| ax (aa (decide (0 < (t1.Right.Tests.length : Int)))) q (df h7) q q <| Ra (aa (decide (0 < (t1.Right.Tests.length : Int)))) q q <| R0 <| aw q (fun h8 => ?_) (fun h8 => ?_)
  · exact Jq q <| Ra (I_ 1) q q <| Rt hΨ q q q
  refine Jq q <| ai (bz t1.Right) ex q q q <| ai ((cL 4 b0) t1.Right.Slots) hZ q q q <| ag (AL 4 b0 t1.Right.Slots) iO q q q <| aD (cc := b0) kh q q <| cK q q q <| Ra (aa (decide (10 < (t1.Right.Slots.length : Int)))) q q <| R0 <| aw q (fun h9 => ?_) (fun h9 => ?_)
  · exact Jq q <| Ra (I_ 3) q q <| Rt hΨ q q q
  refine ao <| bn <| Js <| Jq q <| ai (bz t1.Right) ex q q q <| ai ((cL 4 b0) t1.Right.Slots) hZ q q q <| ag (AL 4 b0 t1.Right.Slots) iO q q q <| aD (cc := b0) kh q q <| Rm (I_ 0) q q ?_
  refine R0 <| aC <| Jl (fun x10 => [(2, ap (au t0)), (3, ap (aP t1)), (46, I_ (t1.Right.Slots.length : Int)), (47, I_ x10)]) (.all q) (fun E11 hE11 x10 => ?_)
  refine Jq q <| aZ q q q <| R0 <| Js <| aw q (fun h16 => ?_) (fun h16 => ?_)
  rotate_left
  · exact br q <| bO <| Jq q <| Ra (I_ 0) q q <| Rt hΨ q q q
  refine ao <| Js <| aC <| Jq q <| Rm (I_ x10) q q <| Ra (I_ x10) q q <| R0 <| Jq q ?_
  refine aK (au t0) bN q q q q <| aK (aP t1) eA q q q q <| Rm (I_ x10) q q <| Rc Fw Kp q q fun b17 => Ra (I_ b17) q q <| R0 <| Jq q <| Rm (I_ b17) q q ?_
  refine bP q q q <| R0 <| aw q (fun h19 => ?_) (fun h19 => ?_)
  · exact Jq q <| Rm (I_ b17) q q <| Ra (I_ b17) q q <| Ro hΨ q q q
  exact ao <| bn <| aG 46 (m := (t1.Right.Slots.length : Int)) q fun q20 => aG 6 (m := x10) q fun q21 => Jr q <| aR (x10 + 1) q q (bu (by omega) (by omega)) q <| Rm (I_ (x10 + 1)) q q <| R0 <| bt <| Jk (hE11 (x10 + 1)) (.all q)
theorem qG {t0 r} (hr : jS t0 = some r) : dc PP 20 0 [] [AL 1 ab t0] [(0, .row 3 1 (r.map ab))] (a8 0) := by
  refine Ko (fun (r : (List Int)) => [(0, .row 3 1 (r.map ab))]) (fun (r : (List Int)) => a8 0) Tryz.func20 q (n := 8) q (bH.cons inferInstance (inferInstance : bH 0 [])).kb (eZ.spec .nil) q hr fun X hΨ => ?_
  refine Jq q <| Ra (af) q q <| R0 <| Js <| Jq q <| Rm (AL 1 ab t0) q q <| Bp (cc := ab) ut_26 q q q <| R0 ?_
  refine C7 q (fun h2 => ?_) ?_
  · obtain rfl := List.eq_nil_of_length_eq_zero h2
    exact Jq q <| Ra (af) q q <| R0 <| eH hΨ (d8 q (.tmp (A := af) q)) [] [] [0] q (fun y hy => by unfold jS at hy; simp at hy; subst hy; exact ⟨(.new q q .nil), (.nilobj q q)⟩)
  refine ao <| Jq q <| gF 0 bc q q <| Rm (AL 1 ab t0) q q <| Ri fun h1 => ?_
  exact gH (cc := ab) (ys := t0) 1 dS q q q h1 q q q <| Ra (a8 1) q q <| R0 <| eH hΨ (d8 q (.tmp (A := a8 1) q)) [] [(0, 1)] [] q (fun y hy => by cases hy; exact ⟨(.cc q (.row (ah.flat _ _)) q .nil), (.ob q)⟩)
theorem DE {t0 t1 r} (hr : ja t0 t1 = some r) : aB PP 252 [AL 1 ab t0, I_ t1] (I_ r) := by
  refine Fo I_ Tryz.func252 q (n := 33) q q hr fun X hΨ => ?_
  refine Jq q <| Ra (I_ 0) q q <| R0 <| Js <| Jq q <| Rm (AL 1 ab t0) q q <| aD (cc := ab) bI q q <| Rm (I_ 0) q q ?_
  refine R0 <| aC <| Jl (fun x1 => [(0, AL 1 ab t0), (1, I_ t1), (7, AL 1 ab t0), (8, I_ (t0.length : Int)), (9, I_ x1)]) (.all q) (fun E2 hE2 x1 => ?_)
  refine Jq q <| aZ q q q <| R0 <| Js <| aw q (fun h12 => ?_) (fun h12 => ?_)
  rotate_left
  · exact br q <| bO <| Jq q <| Ra (I_ 0) q q <| Rt hΨ q q q
  refine ao <| Js <| aC <| Jq q <| Rm (I_ x1) q q <| Ri fun h13 => ?_
  refine aQ (cc := ab) bc q q h13.1 h13.2 q <| ag (I_ (nth t0 x1)) ay q q q <| Ra (I_ x1) q q <| Ra (I_ (nth t0 x1)) q q <| R0 <| Js <| Jq q <| Rm (I_ (nth t0 x1)) q q <| aZ q q q ?_
  refine Rm (aa (decide ((nth t0 x1) < 0))) q q <| aN (fun h14 => ?_) (fun h14 => ?_)
  · refine dU q (dt h14) <| aH (aa true) q (dt h14) q q <| R0 <| cJ q q <| Jq q <| Ra (I_ 6) q q <| R0 ?_
    exact Jo hΨ q q q
  refine Rm (I_ (nth t0 x1)) q (an q q (df h14)) <| Rm (I_ t1) q (an q q (df h14)) <| cG q q (an q q (df h14)) <| ax (aa (decide (t1 ≤ (nth t0 x1)))) q (df h14) q q <| R0 <| aw q (fun h15 => ?_) (fun h15 => ?_)
  · exact Jq q <| Ra (I_ 6) q q <| Ro hΨ q q q
  refine ao <| Js ?_
  apply ch (fun v20 => ⟨fr [(0, AL 1 ab t0), (1, I_ t1), (7, AL 1 ab t0), (8, I_ (t0.length : Int)), (9, I_ x1)], fun _ => none, 0⟩) (fun v20 => uM x1 v20)
  · intro K21
    refine aG 5 (m := x1) q fun q17 => Jr q <| Rm (I_ x1) q q <| cK q q q <| Rm (aa (decide (0 < x1))) q q <| aN (fun h16 => ?_) (fun h16 => ?_)
    rotate_left
    · refine cy q (df h16) <| c7 q (df h16) <| ax (aa false) q (df h16) q q <| R0 <| dX q q ?_
      exact Jk (K21 ()) (.all q)
    refine Rm (I_ (nth t0 x1)) q (ak q q (dt h16)) <| Rm (AL 1 ab t0) q (ak q q (dt h16)) <| Rm (I_ x1) q (ak q q (dt h16)) <| dq (x1 - 1) q q (bu (by omega) (by omega)) (ak q q (dt h16)) <| Ri fun h18 => ?_
    refine aQ (cc := ab) bc q q h18.1 h18.2 (ak q q (dt h16)) <| ag (I_ (nth t0 (x1 - 1))) ay q q (ak q q (dt h16)) <| dK q q (ak q q (dt h16)) <| aH (aa (decide ((nth t0 x1) ≤ (nth t0 (x1 - 1))))) q (dt h16) q q <| R0 <| aw q (fun h19 => ?_) (fun h19 => ?_)
    rotate_left
    · exact Jk (K21 ()) (.all q)
    exact Jq q <| Ra (I_ 12) q q <| Ro hΨ q q q
  intro v20
  exact ao <| bn <| aG 8 (m := (t0.length : Int)) q fun q22 => aG 9 (m := x1) q fun q23 => Jr q <| aR (x1 + 1) q q (bu (by omega) (by omega)) q <| Rm (I_ (x1 + 1)) q q <| R0 <| bt <| Jk (hE2 (x1 + 1)) (.all q)
theorem DC {t0 r} (hr : tC t0 = some r) : aB PP 254 [I_ t0] (aa r) := by
  refine Fo aa Tryz.func254 q (n := 6) q q hr fun X hΨ => ?_
  refine Jq q <| Ra (aa false) q q <| R0 <| Jq q <| Rm (I_ t0) q q <| Rm (I_ t0) q q <| bP q q q <| Ra (aa (decide (¬ (t0 = t0)))) q q ?_
  exact Rt hΨ q q q
theorem LB {t0 t1 r} (hr : tg t0 t1 = some r) : aB PP 243 [I_ t0, I_ t1] (aa r) := by
  refine Fo aa Tryz.func243 q (n := 17) q q hr fun X hΨ => ?_
  refine Jq q <| Ra (aa false) q q <| R0 <| Jq q <| Rm (I_ t0) q q <| Rc AJ DC q q fun b1 => Rm (aa b1) q q ?_
  refine aN (fun h3 => ?_) (fun h3 => ?_)
  rotate_left
  · refine c7 q (bf h3) <| ax (aa false) q (bf h3) q q <| Rm (aa false) q q <| Rm (I_ t0) q (an q q q) <| Rm (I_ t1) q (an q q q) <| aZ q q (an q q q) <| ax (aa (decide (t0 < t1))) q q q q <| Ra (aa (decide (t0 < t1))) q q ?_
    exact Rt hΨ q q q
  refine Rm (I_ t1) q (ak q q h3) <| Rc AJ DC q (ak q q h3) fun b4 => cd q (ak q q h3) <| aH (aa (!b4)) q h3 q q <| Rm (aa (!b4)) q q <| aN (fun h6 => ?_) (fun h6 => ?_)
  · exact dU q h6 <| aH (aa true) q h6 q q <| Ra (aa true) q q <| Rt hΨ q q q
  exact Rm (I_ t0) q (an q q (bf h6)) <| Rm (I_ t1) q (an q q (bf h6)) <| aZ q q (an q q (bf h6)) <| ax (aa (decide (t0 < t1))) q (bf h6) q q <| Ra (aa (decide (t0 < t1))) q q <| Rt hΨ q q q
theorem DX {t0 r} (hr : uF t0 = some r) : aB PP 244 [I_ t0] (aa r) := by
  refine Fo aa Tryz.func244 q (n := 6) q q hr fun X hΨ => ?_
  refine Jq q <| Ra (aa false) q q <| R0 <| Jq q <| Rm (I_ t0) q q <| Rm (I_ t0) q q <| bP q q q <| Ra (aa (decide (¬ (t0 = t0)))) q q ?_
  exact Rt hΨ q q q
theorem zd {t0 t1 r} (hr : og t0 t1 = some r) : aB PP 231 [AL 1 ab t0, I_ t1] (bk [I_ r.1, aa r.2]) := by
  refine Fo (fun (r : Int × Bool) => bk [I_ r.1, aa r.2]) Tryz.func231 q (n := 54) q q hr fun X hΨ => ?_
  refine Jq q <| Ra (I_ 0) q q <| Ra (aa false) q q <| R0 <| Jq q <| Rm (AL 1 ab t0) q q <| aD (cc := ab) bI q q <| Ra (I_ (t0.length : Int)) q q ?_
  refine R0 <| Jq q <| Rm (I_ (t0.length : Int)) q q <| Ra (I_ 0) q q <| Ra (I_ (t0.length : Int)) q q <| R0 <| Js <| aC <| Jl (fun x1 => [(0, AL 1 ab t0), (1, I_ t1), (6, I_ (t0.length : Int)), (7, I_ x1.1), (8, I_ x1.2)]) (.all q) (fun E2 hE2 x1 => ?_)
  refine Js <| Jq q <| Rm (I_ x1.1) q q <| Rm (I_ x1.2) q q <| aZ q q q <| R0 <| aw q (fun h20 => ?_) (fun h20 => ?_)
  · refine ao <| aC <| Jq q <| Rm (I_ x1.1) q q <| Rm (I_ x1.2) q q <| aI fun b21 h22 => aR b21 q q (Option.some.inj h22) q <| aI fun b23 h24 => Bo b23 us_3 GC q (Option.some.inj h24) q ?_
    refine aI fun b25 h26 => oE b25 q q (by decide) (Option.some.inj h26) q <| aI fun b27 h28 => Bo b27 GB dM q (Option.some.inj h28) q <| Ra (I_ b27) q q <| R0 <| Jq q <| Rm (AL 1 ab t0) q q <| Rm (I_ b27) q q ?_
    refine Ri fun h29 => ?_
    refine aQ (cc := ab) bc q q h29.1 h29.2 q <| ag (I_ (nth t0 b27)) ay q q q <| Rm (I_ t1) q q <| Rc FX LB q q fun b30 => R0 ?_
    apply ch (fun v35 => ⟨fr [(0, AL 1 ab t0), (1, I_ t1), (6, I_ (t0.length : Int)), (7, I_ v35.1), (8, I_ v35.2)], fun _ => none, 0⟩) (fun v35 => ze v35)
    · intro K36
      refine bQ q (fun h32 => ?_) (fun h32 => ?_)
      rotate_left
      · exact Jr q <| Rm (I_ b27) q q <| Ra (I_ b27) q q <| R0 <| Jk (K36 (x1.1, b27)) (.all q)
      exact Jr q <| Rm (I_ b27) q q <| aI fun b33 h34 => aR b33 q q (Option.some.inj h34) q <| Ra (I_ b33) q q <| R0 <| Jk (K36 (b33, x1.2)) (.all q)
    intro v35
    exact bn <| bt <| Jk (hE2 (v35.1, v35.2)) (.all q)
  refine br q <| du <| Jq q <| Rm (I_ x1.1) q q <| Rm (I_ x1.1) q q <| Rm (I_ (t0.length : Int)) q q <| aZ q q q <| Rm (aa (decide (x1.1 < (t0.length : Int)))) q q <| aN (fun h37 => ?_) (fun h37 => ?_)
  rotate_left
  · refine cy q (df h37) <| c7 q (df h37) <| Rk (bC q q) <| Rk (bC q q) <| Rk (bC q q) ?_
    refine Rk (bC q q) <| Rk (bC q q) <| Rk (bC q q) <| Rk (bC q q) <| Rk (bC q q) <| Rk (bC q q) <| Kt q (df h37) <| ax (aa false) q (df h37) q q <| Ra (I_ x1.1) q q <| Ra (aa false) q q ?_
    exact R0 <| Jt hΨ (bG (As := [I_ x1.1, aa false]) q q (.cons (.tmp (A := I_ x1.1) q) (.cons (.tmp (A := aa false) q) .nil))) q q
  refine Rm (AL 1 ab t0) q (ak q q (dt h37)) <| Rm (I_ x1.1) q (ak q q (dt h37)) <| Ri fun h38 => ?_
  refine aQ (cc := ab) bc q q h38.1 h38.2 (ak q q (dt h37)) <| ag (I_ (nth t0 x1.1)) ay q q (ak q q (dt h37)) <| Rm (I_ t1) q (ak q q (dt h37)) <| bY q q (ak q q (dt h37)) <| Rm (aa (decide ((nth t0 x1.1) = t1))) q (ak q q (dt h37)) <| aN (fun h39 => ?_) (fun h39 => ?_)
  · refine cx q (dt h39) <| e9 q (dt h39) <| Rk (bC q q) <| Rk (bC q q) <| Kf q (dt h39) <| aH (aa true) q (dt h39) q (ak q q (dt h37)) ?_
    exact aH (aa true) q (dt h37) q q <| Ra (I_ x1.1) q q <| Ra (aa true) q q <| R0 <| Jt hΨ (bG (As := [I_ x1.1, aa true]) q q (.cons (.tmp (A := I_ x1.1) q) (.cons (.tmp (A := aa true) q) .nil))) q q
  refine Rm (AL 1 ab t0) q (an q q (df h39)) <| Rm (I_ x1.1) q (an q q (df h39)) <| aQ (cc := ab) bc q q h38.1 h38.2 (an q q (df h39)) <| ag (I_ (nth t0 x1.1)) ay q q (an q q (df h39)) <| Rc AG DX q (an q q (df h39)) fun b40 => Rm (aa b40) q (an q q (df h39)) <| aN (fun h42 => ?_) (fun h42 => ?_)
  rotate_left
  · exact da q (bf h42) <| ax (aa false) q (bf h42) q (an q q (df h39)) <| ax (aa false) q (df h39) q (ak q q (dt h37)) <| aH (aa false) q (dt h37) q q <| Ra (I_ x1.1) q q <| Ra (aa false) q q <| R0 <| Jt hΨ (bG (As := [I_ x1.1, aa false]) q q (.cons (.tmp (A := I_ x1.1) q) (.cons (.tmp (A := aa false) q) .nil))) q q
  exact Rm (I_ t1) q (ak q q h42) <| Rc AG DX q (ak q q h42) fun b43 => aH (aa b43) q h42 q (an q q (df h39)) <| ax (aa b43) q (df h39) q (ak q q (dt h37)) <| aH (aa b43) q (dt h37) q q <| Ra (I_ x1.1) q q <| Ra (aa b43) q q <| R0 <| Jt hΨ (bG (As := [I_ x1.1, aa b43]) q q (.cons (.tmp (A := I_ x1.1) q) (.cons (.tmp (A := aa b43) q) .nil))) q q
theorem Dv {t0 t1 r} (hr : pC t0 t1 = some r) : aB PP 253 [AL 1 ab t0, I_ t1] (aa r) := by
  refine Fo aa Tryz.func253 q (n := 14) q q hr fun X hΨ => ?_
  refine Jq q <| Ra (aa false) q q <| R0 <| Jq q <| Rm (AL 1 ab t0) q q <| Rm (I_ t1) q q <| Rc vQ zd q q fun b1 => ?_
  refine Rm (bk [I_ b1.1, aa b1.2]) q q <| bx (I_ b1.1) q q q <| bx (aa b1.2) q q q <| Ra (I_ b1.1) q q <| Ra (aa b1.2) q q <| R0 <| Jq q <| Rm (aa b1.2) q q <| Ra (aa b1.2) q q ?_
  exact Rt hΨ q q q
theorem M1 {t0 t1 r} (hr : kQ t0 t1 = some r) : aB PP 242 [ac (aA t0), ac (cE t1)] (I_ r) := by
  refine Fo I_ Tryz.func242 q (n := 57) q q hr fun X hΨ => ?_
  refine Jq q <| aV (ac (aA t0)) q q <| aV (ac (cE t1)) q q <| Ra (I_ 0) q q <| R0 <| Js <| Jq q <| ai ((cL 1 ab) t1.Nodes) fw q q q ?_
  refine ag (AL 1 ab t1.Nodes) bh q q q <| ai ((cL 1 ab) t0.Nodes) ct q q q <| ag (AL 1 ab t0.Nodes) bh q q q <| aD (cc := ab) bI q q <| Rc AH DE q q fun b1 => Ra (I_ b1) q q <| R0 <| Jq q ?_
  refine Rm (I_ b1) q q <| bP q q q <| R0 <| aw q (fun h3 => ?_) (fun h3 => ?_)
  · exact Jq q <| Rm (I_ b1) q q <| Ra (I_ b1) q q <| Rt hΨ q q q
  refine ao <| Js <| Jq q <| ai ((cL 1 ab) t1.Edges) gM q q q <| ag (AL 1 ab t1.Edges) bh q q q <| ai ((cL 3 av) t0.Edges) d9 q q q <| ag (AL 3 av t0.Edges) di q q q <| aD (cc := av) fu q q <| aI fun b4 h5 => ?_
  refine dv _ AH (DE h5) q q <| Ra (I_ b4) q q <| R0 <| Jq q <| Rm (I_ b4) q q <| bP q q q <| R0 <| aw q (fun h6 => ?_) (fun h6 => ?_)
  · exact Jq q <| Rm (I_ b4) q q <| Ra (I_ b4) q q <| Rt hΨ q q q
  refine ao <| Js <| Jq q <| ai ((cL 1 ab) t1.Edges) gM q q q <| ag (AL 1 ab t1.Edges) bh q q q <| aD (cc := ab) bI q q <| Rm (I_ 0) q q <| R0 <| aC ?_
  refine Jl (fun x7 => [(2, ap (aA t0)), (3, ap (cE t1)), (28, AL 1 ab t1.Edges), (29, I_ (t1.Edges.length : Int)), (30, I_ x7)]) (.all q) (fun E8 hE8 x7 => ?_)
  refine Jq q <| aZ q q q <| R0 <| Js <| aw q (fun h18 => ?_) (fun h18 => ?_)
  rotate_left
  · exact br q <| bO <| Jq q <| Ra (I_ 0) q q <| Rt hΨ q q q
  refine ao <| Js <| aC <| Jq q <| Ri fun h19 => ?_
  refine aQ (cc := ab) bc q q h19.1 h19.2 q <| ag (I_ (nth t1.Edges x7)) ay q q q <| Ra (I_ (nth t1.Edges x7)) q q <| R0 <| Js <| bW <| ai ((cL 1 ab) t1.Nodes) fw q q q <| ag (AL 1 ab t1.Nodes) bh q q q <| ai ((cL 3 av) t0.Edges) d9 q q q <| ag (AL 3 av t0.Edges) di q q q ?_
  refine Rm (I_ (nth t1.Edges x7)) q q <| Ri fun h20 => ?_
  refine aQ (cc := av) et q q h20.1 h20.2 q <| ai (ab ((nth t0.Edges (nth t1.Edges x7)).From)) gm q q q <| ag (I_ ((nth t0.Edges (nth t1.Edges x7)).From)) ay q q q <| Rc AI Dv q q fun b21 => cd q q <| Rm (aa (!b21)) q q <| aN (fun h23 => ?_) (fun h23 => ?_)
  · refine cx q h23 <| cx q h23 <| e9 q h23 ?_
    exact aH (aa true) q h23 q q <| bK (by kernel_rfl) <| cJ q q <| Jq q <| Ra (I_ 14) q q <| Ro hΨ q q q
  refine ai ((cL 1 ab) t1.Nodes) fw q q (an q q (bf h23)) <| ag (AL 1 ab t1.Nodes) bh q q (an q q (bf h23)) <| ai ((cL 3 av) t0.Edges) d9 q q (an q q (bf h23)) <| ag (AL 3 av t0.Edges) di q q (an q q (bf h23)) <| Rm (I_ (nth t1.Edges x7)) q (an q q (bf h23)) <| aQ (cc := av) et q q h20.1 h20.2 (an q q (bf h23)) <| ai (ab ((nth t0.Edges (nth t1.Edges x7)).To)) go q q (an q q (bf h23)) <| ag (I_ ((nth t0.Edges (nth t1.Edges x7)).To)) ay q q (an q q (bf h23)) <| Rc AI Dv q (an q q (bf h23)) fun b24 => ?_
  refine cd q (an q q (bf h23)) <| ax (aa (!b24)) q (bf h23) q q <| bK (by kernel_rfl) <| bQ q (fun h26 => ?_) (fun h26 => ?_)
  · exact Jq q <| Ra (I_ 14) q q <| Ro hΨ q q q
  exact ao <| bn <| aG 29 (m := (t1.Edges.length : Int)) q fun q27 => aG 30 (m := x7) q fun q28 => Jr q <| aR (x7 + 1) q q (bu (by omega) (by omega)) q <| Rm (I_ (x7 + 1)) q q <| R0 <| bt <| Jk (hE8 (x7 + 1)) (.all q)
theorem Mh {t0 t1 r} (hr : nH t0 t1 = some r) : aB PP 230 [ac (aA t0), ac (cE t1)] (I_ r) := by
  refine Fo I_ Tryz.func230 q (n := 14) q q hr fun X hΨ => ?_
  refine Jq q <| aV (ac (aA t0)) q q <| aV (ac (cE t1)) q q <| Ra (I_ 0) q q <| R0 <| Js <| Jq q <| aK (aA t0) ck q q q q ?_
  refine Rc oy pE q q fun b1 => Ra (I_ b1) q q <| R0 <| Jq q <| Rm (I_ b1) q q <| bP q q q <| R0 <| aw q (fun h3 => ?_) (fun h3 => ?_)
  · exact Jq q <| Rm (I_ b1) q q <| Ra (I_ b1) q q <| Rt hΨ q q q
  exact ao <| Jq q <| aK (aA t0) ck q q q q <| aK (cE t1) gX q q q q <| Rc FW M1 q q fun b4 => Ra (I_ b4) q q <| Rt hΨ q q q
theorem MA {t0 t1 r} (hr : kV t0 t1 = some r) : aB PP 192 [ac (aA t0), ac (cE t1)] (bk [ac (aA r.1), ac (bM r.2.1), I_ r.2.2]) := by
  refine Fo (fun (r : ar × aS × Int) => bk [ac (aA r.1), ac (bM r.2.1), I_ r.2.2]) Tryz.func192 q (n := 85) q q hr fun X hΨ => ?_
  refine Jq q <| aV (ac (aA t0)) q q <| aV (ac (cE t1)) q q <| bE 0 _ dW q q <| bE 1 _ fP q q <| Ra (I_ 0) q q <| R0 <| Js <| Js ?_
  refine Jr q <| aK (aA t0) ck q q q q <| aK (cE t1) gX q q q q <| Rc FQ Mh q q fun b1 => Ra (I_ b1) q q <| R0 <| Jq q <| Rm (I_ b1) q q ?_
  refine bP q q q <| R0 <| aw q (fun h3 => ?_) (fun h3 => ?_)
  · exact Jq q <| dH (Cs := [af, af]) (aA (ar.mk [] [])) iN dW .nil q (.nl (.nl .nil)) q <| dH (Cs := [af, af]) (bM (aS.mk [] [])) jr fP .nil q (.nl (.nl .nil)) q <| Rm (I_ b1) q q <| aX (a8 0) (ac (aA (ar.mk [] []))) (aA (ar.mk [] [])) eG q .obj q q q q q q <| aX (a8 1) (ac (bM (aS.mk [] []))) (bM (aS.mk [] [])) iP q .obj q q q q q q <| Ra (I_ b1) q q <| R0 <| Jt hΨ (bG (As := [ac (aA (ar.mk [] [])), ac (bM (aS.mk [] [])), I_ b1]) q q (.cons (.boxA (cs := (aA (ar.mk [] []))) ck q q q) (.cons (.boxA (cs := (bM (aS.mk [] []))) fQ q q q) (.cons (.tmp (A := I_ b1) q) .nil)))) q q
  refine ao <| Jq q <| bE 2 _ dW q q <| R0 <| Js <| Jq q <| ai ((cL 1 ab) t1.Nodes) fw q q q <| ag (AL 1 ab t1.Nodes) bh q q q ?_
  refine aD (cc := ab) bI q q <| Rm (I_ 0) q q <| R0 <| aC <| Jn (fun x4 => ⟨fr [(2, ap (aA t0)), (3, ap (cE t1)), (4, a8 0), (5, a8 1), (8, a8 2), (23, AL 1 ab t1.Nodes), (24, I_ (t1.Nodes.length : Int)), (25, I_ x4.2)], hp [(0, .box 29 [af, af]), (1, .box 36 [af, af]), (2, .box 29 [a8 3, af]), (3, .row 3 1 (x4.1.map ab))], 4⟩) [] [] [3] q (.s2 q q (.cons (A := a8 0) q (.ob q) (.cons (A := a8 1) q (.ob q) (.cons (A := a8 2) q (.ob q) (.all q))))) (.cc q (.box (.cons .same (.cons .same .nil))) q (.cc q (.box (.cons .same (.cons .same .nil))) q (.cc q (.box (.cons (.nilobj q q) (.cons .same .nil))) q (.new q q .nil)))) q q (fun E5 hE5 x4 => ?_)
  refine Jq q <| aZ q q q <| R0 <| Js <| aw q (fun h9 => ?_) (fun h9 => ?_)
  · refine ao <| Js <| aC <| Jq q <| Ri fun h10 => ?_
    refine aQ (cc := ab) bc q q h10.1 h10.2 q <| ag (I_ (nth t1.Nodes x4.2)) ay q q q <| Ra (I_ (nth t1.Nodes x4.2)) q q <| R0 <| bW <| aT (a8 2) 0 ct q .obj q q q <| bg (aO 2 0) (a8 3) bh q .at q q q <| ai ((cL 1 ab) t0.Nodes) ct q q q <| ag (AL 1 ab t0.Nodes) bh q q q <| Rm (I_ (nth t1.Nodes x4.2)) q q ?_
    refine Ri fun h11 => ?_
    refine aQ (cc := ab) bc q q h11.1 h11.2 q <| ag (I_ (nth t0.Nodes (nth t1.Nodes x4.2))) ay q q q <| cF (cc := ab) [(nth t0.Nodes (nth t1.Nodes x4.2))] bc fj (.cons (A := I_ (nth t0.Nodes (nth t1.Nodes x4.2))) q q q .nil) q q q <| Ri fun h12 => ?_
    refine dx (cc := ab) (xs := x4.1) (ys := [(nth t0.Nodes (nth t1.Nodes x4.2))]) 4 dS q q q h12 q q q <| aT (a8 2) 0 ct q .obj q q q <| aX (aO 2 0) (a8 4) [a8 4, af] js q .at q q q q q q <| bK (by kernel_rfl) <| bn <| aG 24 (m := (t1.Nodes.length : Int)) q fun q13 => aG 25 (m := x4.2) q fun q14 => Jr q <| aR (x4.2 + 1) q q (bu (by omega) (by omega)) q <| Rm (I_ (x4.2 + 1)) q q ?_
    exact R0 <| bt <| Jc [] [(3, 4)] [] (hE5 ((x4.1 ++ [(nth t0.Nodes (nth t1.Nodes x4.2))]), x4.2 + 1)) (.s2 q q (.cons (A := a8 0) q (.ob q) (.cons (A := a8 1) q (.ob q) (.cons (A := a8 2) q (.ob q) (.all q))))) (.cc q (.box (.cons .same (.cons .same .nil))) q (.cc q (.box (.cons .same (.cons .same .nil))) q (.cc q (.box (.cons (.ob q) (.cons .same .nil))) q (.cc q (.row (ah.flat _ _)) q .nil)))) q q
  refine br q <| du <| Js <| Jq q <| ai ((cL 1 ab) t1.Edges) gM q q q <| ag (AL 1 ab t1.Edges) bh q q q <| aD (cc := ab) bI q q <| Rm (I_ 0) q q <| R0 ?_
  refine aC <| Jn (fun x15 => ⟨fr [(2, ap (aA t0)), (3, ap (cE t1)), (4, a8 0), (5, a8 1), (8, a8 2), (24, I_ (t1.Nodes.length : Int)), (25, I_ x4.2), (41, AL 1 ab t1.Edges), (42, I_ (t1.Edges.length : Int)), (43, I_ x15.2)], hp [(0, .box 29 [af, af]), (1, .box 36 [af, af]), (2, .box 29 [a8 3, a8 4]), (3, .row 3 1 (x4.1.map ab)), (4, .row 77 3 (x15.1.map av))], 5⟩) [] [] [4] q (.s2 q q (.cons (A := a8 0) q (.ob q) (.cons (A := a8 1) q (.ob q) (.cons (A := a8 2) q (.ob q) (.all q))))) (.cc q (.box (.cons .same (.cons .same .nil))) q (.cc q (.box (.cons .same (.cons .same .nil))) q (.cc q (.box (.cons (.ob q) (.cons (.nilobj q q) .nil))) q (.cc q (.row (ah.flat _ _)) q (.new q q .nil))))) q q (fun E16 hE16 x15 => ?_)
  refine Jq q <| aZ q q q <| R0 <| Js <| aw q (fun h24 => ?_) (fun h24 => ?_)
  rotate_left
  · refine br q <| du <| Js <| bW <| cr (a8 2) [a8 3, a8 4] ck q .obj q q q q <| ai ((cL 1 ab) t1.Nodes) fw q q q <| ag (AL 1 ab t1.Nodes) bh q q q <| aI fun b34 h35 => dv _ ow (dc.toP (r' := AL 1 ab b34) (qG h35) (.frow q q (ah.flat _ _))) q q <| ai ((cL 1 ab) t1.Edges) gM q q q ?_
    exact ag (AL 1 ab t1.Edges) bh q q q <| aI fun b36 h37 => dv _ ow (dc.toP (r' := AL 1 ab b36) (qG h37) (.frow q q (ah.flat _ _))) q q <| cO (bM (aS.mk b34 b36)) jr fP (.cons (A := AL 1 ab b34) q lr q (.cons (A := AL 1 ab b36) q mG q .nil)) q q <| aX (a8 0) (ac [a8 3, a8 4]) [a8 3, a8 4] eG q .obj q q q q q q <| aX (a8 1) (ac (bM (aS.mk b34 b36))) (bM (aS.mk b34 b36)) iP q .obj q q q q q q <| Ra (I_ 0) q q <| bK (by kernel_rfl) <| dg hΨ (bG (As := [ac [a8 3, a8 4], ac (bM (aS.mk b34 b36)), I_ 0]) q q (.cons (.boxA (cs := [a8 3, a8 4]) ck q q q) (.cons (.boxA (cs := (bM (aS.mk b34 b36))) fQ q q q) (.cons (.tmp (A := I_ 0) q) .nil)))) (fun y hy => by cases hy; exact (.tup (.cons (.agg (.cons (.frow q q (ah.flat _ _)) (.cons (.frow q q (ah.flat _ _)) .nil))) (.cons .same (.cons .same .nil)))))
  refine ao <| Js <| aC <| Jq q <| Ri fun h25 => ?_
  refine aQ (cc := ab) bc q q h25.1 h25.2 q <| ag (I_ (nth t1.Edges x15.2)) ay q q q <| Ra (I_ (nth t1.Edges x15.2)) q q <| R0 <| Jq q <| ai ((cL 3 av) t0.Edges) d9 q q q <| ag (AL 3 av t0.Edges) di q q q <| Rm (I_ (nth t1.Edges x15.2)) q q <| Ri fun h26 => ?_
  refine aQ (cc := av) et q q h26.1 h26.2 q <| aK (av (nth t0.Edges (nth t1.Edges x15.2))) gY q q q q <| bE 5 _ fV q q <| aX (a8 5) (ac (av (nth t0.Edges (nth t1.Edges x15.2)))) (av (nth t0.Edges (nth t1.Edges x15.2))) jt q .obj q q q q q q <| R0 <| Jq q <| ai ((cL 1 ab) t1.Nodes) fw q q q <| ag (AL 1 ab t1.Nodes) bh q q q <| aT (a8 5) 1 gm q .obj q q q ?_
  refine bg (aO 5 1) (I_ ((nth t0.Edges (nth t1.Edges x15.2)).From)) ay q .at q q q <| Rc vQ zd q q fun b27 => Rm (bk [I_ b27.1, aa b27.2]) q q <| bx (I_ b27.1) q q q <| bx (aa b27.2) q q q <| aT (a8 5) 1 gm q .obj q q q <| aX (aO 5 1) (I_ b27.1) (av (ba.mk ((nth t0.Edges (nth t1.Edges x15.2)).Type_) b27.1 ((nth t0.Edges (nth t1.Edges x15.2)).To))) ez q .at q q q q q q <| R0 <| Js ?_
  refine Jr q <| ai ((cL 1 ab) t1.Nodes) fw q q q <| ag (AL 1 ab t1.Nodes) bh q q q <| aT (a8 5) 2 go q .obj q q q <| bg (aO 5 2) (I_ ((nth t0.Edges (nth t1.Edges x15.2)).To)) ay q .at q q q <| Rc vQ zd q q fun b29 => Rm (bk [I_ b29.1, aa b29.2]) q q <| bx (I_ b29.1) q q q <| bx (aa b29.2) q q q ?_
  refine aT (a8 5) 2 go q .obj q q q <| aX (aO 5 2) (I_ b29.1) (av (ba.mk ((nth t0.Edges (nth t1.Edges x15.2)).Type_) b27.1 b29.1)) ez q .at q q q q q q <| R0 <| Jr q <| aT (a8 2) 1 d9 q .obj q q q <| bg (aO 2 1) (a8 4) di q .at q q q <| cr (a8 5) (av (ba.mk ((nth t0.Edges (nth t1.Edges x15.2)).Type_) b27.1 b29.1)) gY q .obj q q q q <| cF (cc := av) [(ba.mk ((nth t0.Edges (nth t1.Edges x15.2)).Type_) b27.1 b29.1)] et lw (.cons (A := ac (av (ba.mk ((nth t0.Edges (nth t1.Edges x15.2)).Type_) b27.1 b29.1))) q q q .nil) q q q <| Ri fun h31 => ?_
  refine dx (cc := av) (xs := x15.1) (ys := [(ba.mk ((nth t0.Edges (nth t1.Edges x15.2)).Type_) b27.1 b29.1)]) 6 m7 q q q h31 q q q <| aT (a8 2) 1 d9 q .obj q q q <| aX (aO 2 1) (a8 6) [a8 3, a8 6] oH q .at q q q q q q <| R0 <| bn <| aG 42 (m := (t1.Edges.length : Int)) q fun q32 => aG 43 (m := x15.2) q fun q33 => Jr q <| aR (x15.2 + 1) q q (bu (by omega) (by omega)) q <| Rm (I_ (x15.2 + 1)) q q ?_
  exact R0 <| bt <| Jc [] [(4, 6)] [] (hE16 ((x15.1 ++ [(ba.mk ((nth t0.Edges (nth t1.Edges x15.2)).Type_) b27.1 b29.1)]), x15.2 + 1)) (.s2 q q (.cons (A := a8 0) q (.ob q) (.cons (A := a8 1) q (.ob q) (.cons (A := a8 2) q (.ob q) (.all q))))) (.cc q (.box (.cons .same (.cons .same .nil))) q (.cc q (.box (.cons .same (.cons .same .nil))) q (.cc q (.box (.cons (.ob q) (.cons (.ob q) .nil))) q (.cc q (.row (ah.flat _ _)) q (.cc q (.row (ah.flat _ _)) q .nil))))) q q
end Go.Proofs.YtngimdmkomkeoaaGreat.K
