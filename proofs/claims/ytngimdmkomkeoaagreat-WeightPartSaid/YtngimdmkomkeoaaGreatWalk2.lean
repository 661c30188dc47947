import Derived.Test.YtngimdmkomkeoaaGreatWalk1
set_option linter.unusedVariables false
set_option linter.unusedSimpArgs false
namespace Go.Proofs.YtngimdmkomkeoaaGreat.K
open Go.RowKit Go.Proofs
set_option maxHeartbeats 4000000
set_option maxRecDepth 100000
theorem D3 {t0 t1 t2 t3 r} (hr : xj t0 t1 t2 t3 = some r) : aB PP 58 [ac (aA t0), ac (aA t1), ac (cE t2), ac (bM t3)] (ac (aP r)) := by
  refine Fo (fun r => ac (aP r)) Tryz.func58 q (n := 17) q q hr fun X hΨ => ?_
  refine Jq q <| aV (ac (aA t0)) q q <| aV (ac (aA t1)) q q <| aV (ac (cE t2)) q q <| aV (ac (bM t3)) q q <| bE 0 _ jk q q <| R0 <| Jq q ?_
  refine aK (aA t0) ck q q q q <| dH (Cs := [AL 1 ab t0.Nodes, AL 3 av t0.Edges, af, I_ 0, af]) (bz (aJ.mk t0 [] 0 [])) la gU (.cons (A := ac (aA t0)) q mF q .nil) q (.same (.same (.nl (.same (.nl .nil))))) q <| aK (aA t1) ck q q q q <| dH (Cs := [AL 1 ab t1.Nodes, AL 3 av t1.Edges, af, I_ 0, af]) (bz (aJ.mk t1 [] 0 [])) la gU (.cons (A := ac (aA t1)) q mF q .nil) q (.same (.same (.nl (.same (.nl .nil))))) q <| aK (cE t2) gX q q q q <| aK (bM t3) fQ q q q q <| dH (Cs := [I_ 1, af, af, af, af, af, af, I_ 0, af]) (aU (az.mk 1 [] (aS.mk [] []) (aJ.mk (ar.mk [] []) [] 0 []))) kk gV (.cons (A := I_ 1) q kB q .nil) q (by rw [kW]; exact (.same (.nl (.nl (.nl (.nl (.nl (.nl (.same (.nl .nil)))))))))) q <| cO (aP (be.mk (ByteArray.mk #[114]) (aJ.mk t0 [] 0 []) (aJ.mk t1 [] 0 []) t2 t3 true (az.mk 1 [] (aS.mk [] []) (aJ.mk (ar.mk [] []) [] 0 [])))) vw jk (.cons (A := am (ByteArray.mk #[114])) q wq q (.cons (A := ac (bz (aJ.mk t0 [] 0 []))) q ws q (.cons (A := ac (bz (aJ.mk t1 [] 0 []))) q Bj q (.cons (A := ac (cE t2)) q wt q (.cons (A := ac (bM t3)) q Bk q (.cons (A := aa true) q wu q (.cons (A := ac (aU (az.mk 1 [] (aS.mk [] []) (aJ.mk (ar.mk [] []) [] 0 [])))) q Bl q .nil))))))) q q <| aX (a8 0) (ac (aP (be.mk (ByteArray.mk #[114]) (aJ.mk t0 [] 0 []) (aJ.mk t1 [] 0 []) t2 t3 true (az.mk 1 [] (aS.mk [] []) (aJ.mk (ar.mk [] []) [] 0 []))))) (aP (be.mk (ByteArray.mk #[114]) (aJ.mk t0 [] 0 []) (aJ.mk t1 [] 0 []) t2 t3 true (az.mk 1 [] (aS.mk [] []) (aJ.mk (ar.mk [] []) [] 0 [])))) lh q .obj q q q q q q <| R0 ?_
  exact Jt hΨ (d8 q (.boxA (cs := (aP (be.mk (ByteArray.mk #[114]) (aJ.mk t0 [] 0 []) (aJ.mk t1 [] 0 []) t2 t3 true (az.mk 1 [] (aS.mk [] []) (aJ.mk (ar.mk [] []) [] 0 []))))) eA q q q)) q q
theorem LV {r} (hr : De  = some r) : aB PP 29 [] (AL 25 aP r) := by
  refine Fo (fun r => AL 25 aP r) Tryz.func29 q (n := 28) q q hr fun X hΨ => ?_
  refine Jq q <| Ra (af) q q <| R0 <| Jq q <| cF (cc := ab) [3, 1, 1] bc vY (.cons (A := I_ 3) q q q (.cons (A := I_ 1) q q q (.cons (A := I_ 1) q q q .nil))) q q q <| cO (av (ba.mk 1 1 2)) lb fV (.cons (A := I_ 1) q ls q (.cons (A := I_ 1) q lu q (.cons (A := I_ 2) q lv q .nil))) q q <| cF (cc := av) [(ba.mk 1 1 2)] et lw (.cons (A := ac (av (ba.mk 1 1 2))) q q q .nil) q q q <| cO (aA (ar.mk [3, 1, 1] [(ba.mk 1 1 2)])) iN dW (.cons (A := AL 1 ab [3, 1, 1]) q wm q (.cons (A := AL 3 av [(ba.mk 1 1 2)]) q wn q .nil)) q q ?_
  refine bE 0 _ dW q q <| aX (a8 0) (ac (aA (ar.mk [3, 1, 1] [(ba.mk 1 1 2)]))) (aA (ar.mk [3, 1, 1] [(ba.mk 1 1 2)])) eG q .obj q q q q q q <| R0 <| Jq q <| cF (cc := ab) [3, 1, 1, 2] bc GE (.cons (A := I_ 3) q q q (.cons (A := I_ 1) q q q (.cons (A := I_ 1) q q q (.cons (A := I_ 2) q q q .nil)))) q q q <| cO (av (ba.mk 0 0 3)) lb fV (.cons (A := I_ 0) q ls q (.cons (A := I_ 0) q lu q (.cons (A := I_ 3) q lv q .nil))) q q <| cF (cc := av) [(ba.mk 0 0 3)] et lw (.cons (A := ac (av (ba.mk 0 0 3))) q q q .nil) q q q <| cO (aA (ar.mk [3, 1, 1, 2] [(ba.mk 0 0 3)])) iN dW (.cons (A := AL 1 ab [3, 1, 1, 2]) q wm q (.cons (A := AL 3 av [(ba.mk 0 0 3)]) q wn q .nil)) q q <| bE 1 _ dW q q ?_
  refine aX (a8 1) (ac (aA (ar.mk [3, 1, 1, 2] [(ba.mk 0 0 3)]))) (aA (ar.mk [3, 1, 1, 2] [(ba.mk 0 0 3)])) eG q .obj q q q q q q <| R0 <| Jq q <| cF (cc := ab) [0, 1, 2] bc vY (.cons (A := I_ 0) q q q (.cons (A := I_ 1) q q q (.cons (A := I_ 2) q q q .nil))) q q q <| dH (Cs := [AL 1 ab [0, 1, 2], af]) (cE (cM.mk [0, 1, 2] [])) vv lY (.cons (A := AL 1 ab [0, 1, 2]) q wo q .nil) q (.same (.nl .nil)) q <| bE 2 _ lY q q <| aX (a8 2) (ac (cE (cM.mk [0, 1, 2] []))) (cE (cM.mk [0, 1, 2] [])) vx q .obj q q q q q q <| R0 <| Js ?_
  refine Jr q <| cF (cc := ab) [0, 1, 2] bc vY (.cons (A := I_ 0) q q q (.cons (A := I_ 1) q q q (.cons (A := I_ 2) q q q .nil))) q q q <| dH (Cs := [AL 1 ab [0, 1, 2], af]) (bM (aS.mk [0, 1, 2] [])) jr fP (.cons (A := AL 1 ab [0, 1, 2]) q lr q .nil) q (.same (.nl .nil)) q <| bE 3 _ fP q q <| aX (a8 3) (ac (bM (aS.mk [0, 1, 2] []))) (bM (aS.mk [0, 1, 2] [])) iP q .obj q q q q q q <| R0 <| Js <| bW <| cr (a8 0) (aA (ar.mk [3, 1, 1] [(ba.mk 1 1 2)])) ck q .obj q q q q <| cr (a8 1) (aA (ar.mk [3, 1, 1, 2] [(ba.mk 0 0 3)])) ck q .obj q q q q ?_
  refine cr (a8 2) (cE (cM.mk [0, 1, 2] [])) gX q .obj q q q q <| cr (a8 3) (bM (aS.mk [0, 1, 2] [])) fQ q .obj q q q q <| Rc zD D3 q q fun b1 => cr (a8 1) (aA (ar.mk [3, 1, 1, 2] [(ba.mk 0 0 3)])) ck q .obj q q q q <| cr (a8 0) (aA (ar.mk [3, 1, 1] [(ba.mk 1 1 2)])) ck q .obj q q q q <| cr (a8 2) (cE (cM.mk [0, 1, 2] [])) gX q .obj q q q q <| cr (a8 3) (bM (aS.mk [0, 1, 2] [])) fQ q .obj q q q q <| Rc zD D3 q q fun b3 => ?_
  exact cF (cc := aP) [b1, b3] kg Hp (.cons (A := ac (aP b1)) q q q (.cons (A := ac (aP b3)) q q q .nil)) q q q <| Ra (AL 25 aP [b1, b3]) q q <| bK (by kernel_rfl) <| eV hΨ q q q
theorem xD {r} (hr : lC  = some r) : aB PP 9 [] (aa r) := by
  refine Fo aa Tryz.func9 q (n := 57) q q hr fun X hΨ => ?_
  refine Jq q <| Ra (aa false) q q <| R0 <| Jq q <| Rc fn_28 LW q q fun b1 => Rc fn_29 LV q q fun b3 => ?_
  refine bE 0 _ jj q q <| aX (a8 0) (ac (au b1)) (au b1) ld q .obj q q q q q q <| Ra (AL 25 aP b3) q q <| R0 <| Js <| bW <| cr (a8 0) (au b1) bN q .obj q q q q <| Rm (AL 25 aP b3) q q <| Ri fun h5 => ?_
  refine aQ (cc := aP) kg q q h5.1 h5.2 q <| aK (aP (nth b3 0)) eA q q q q <| Rc fn_11 M4 q q fun b6 => Rm (bk [AL 1 ab b6.1, I_ b6.2]) q q <| bx (AL 1 ab b6.1) q q q <| bx (I_ b6.2) q q q <| Ra (AL 1 ab b6.1) q q <| Ra (I_ b6.2) q q <| bK (by kernel_rfl) ?_
  refine Js <| bW <| cr (a8 0) (au b1) bN q .obj q q q q <| Rm (AL 25 aP b3) q q <| Ri fun h8 => ?_
  refine kl (cc := aP) 0 1 kg q jh (fU q) h8.1 h8.2.1 h8.2.2 q <| Rc zu Dd q q fun b9 => Rm (bk [AL 1 ab b9.1, I_ b9.2]) q q <| bx (AL 1 ab b9.1) q q q <| bx (I_ b9.2) q q q <| Ra (AL 1 ab b9.1) q q <| Ra (I_ b9.2) q q <| bK (by kernel_rfl) <| Js ?_
  refine Jr q <| cr (a8 0) (au b1) bN q .obj q q q q <| Rm (AL 25 aP b3) q q <| Rc zw DG q q fun b11 => Rm (bk [AL 1 ab b11.1, I_ b11.2]) q q <| bx (AL 1 ab b11.1) q q q <| bx (I_ b11.2) q q q <| Ra (AL 1 ab b11.1) q q <| Ra (I_ b11.2) q q ?_
  refine R0 <| Jq q <| Rm (I_ b6.2) q q <| bY q q q <| Rm (aa (decide (b6.2 = 0))) q q <| aN (fun h13 => ?_) (fun h13 => ?_)
  rotate_left
  · refine da q (df h13) <| ax (aa false) q (df h13) q q <| Rm (aa false) q q <| da q q <| ax (aa false) q q q q <| Rm (aa false) q q <| da q q ?_
    refine Kt q q <| ax (aa false) q q q q <| Rm (aa false) q q <| c7 q q <| ax (aa false) q q q q <| Rm (aa false) q q <| da q q ?_
    exact Kt q q <| ax (aa false) q q q q <| Ra (aa false) q q <| Rt hΨ q q q
  refine Rm (I_ b9.2) q (ak q q (dt h13)) <| bY q q (ak q q (dt h13)) <| aH (aa (decide (b9.2 = 0))) q (dt h13) q q <| Rm (aa (decide (b9.2 = 0))) q q <| aN (fun h14 => ?_) (fun h14 => ?_)
  rotate_left
  · refine da q (df h14) <| ax (aa false) q (df h14) q q <| Rm (aa false) q q <| c7 q q <| ax (aa false) q q q q <| Rm (aa false) q q <| Kt q q ?_
    refine da q q <| ax (aa false) q q q q <| Rm (aa false) q q <| c7 q q <| ax (aa false) q q q q <| Ra (aa false) q q <| R0 ?_
    exact eV hΨ q q q
  refine Rm (I_ b11.2) q (ak q q (dt h14)) <| bY q q (ak q q (dt h14)) <| aH (aa (decide (b11.2 = 0))) q (dt h14) q q <| Rm (aa (decide (b11.2 = 0))) q q <| aN (fun h15 => ?_) (fun h15 => ?_)
  rotate_left
  · refine c7 q (df h15) <| ax (aa false) q (df h15) q q <| Rm (aa false) q q <| c7 q q <| ax (aa false) q q q q <| Rm (aa false) q q ?_
    exact c7 q q <| ax (aa false) q q q q <| Ra (aa false) q q <| Rt hΨ q q q
  refine Rm (AL 1 ab b6.1) q (ak q q (dt h15)) <| cF (cc := ab) [0, 0, 1, 0, 1, (-1)] bc B1 (.cons (A := I_ 0) q q q (.cons (A := I_ 0) q q q (.cons (A := I_ 1) q q q (.cons (A := I_ 0) q q q (.cons (A := I_ 1) q q q (.cons (A := I_ (-1)) q q q .nil)))))) q q (ak q q (dt h15)) <| Rc vq yR q (ak q q (dt h15)) fun b16 => aH (aa b16) q (dt h15) q q <| Rm (aa b16) q q <| aN (fun h18 => ?_) (fun h18 => ?_)
  rotate_left
  · refine c7 q (bf h18) <| ax (aa false) q (bf h18) q q <| Rm (aa false) q q <| c7 q q <| ax (aa false) q q q q <| Ra (aa false) q q ?_
    exact Rt hΨ q q q
  refine Rm (AL 1 ab b9.1) q (ak q q h18) <| cF (cc := ab) [0, 0, 0, 0, 0, 1] bc B1 (.cons (A := I_ 0) q q q (.cons (A := I_ 0) q q q (.cons (A := I_ 0) q q q (.cons (A := I_ 0) q q q (.cons (A := I_ 0) q q q (.cons (A := I_ 1) q q q .nil)))))) q q (ak q q h18) <| Rc vq yR q (ak q q h18) fun b19 => aH (aa b19) q h18 q q <| Rm (aa b19) q q <| aN (fun h21 => ?_) (fun h21 => ?_)
  rotate_left
  · exact c7 q (bf h21) <| ax (aa false) q (bf h21) q q <| Ra (aa false) q q <| Rt hΨ q q q
  exact Rm (AL 1 ab b11.1) q (ak q q h21) <| cF (cc := ab) [1, 1] bc B0 (.cons (A := I_ 1) q q q (.cons (A := I_ 1) q q q .nil)) q q (ak q q h21) <| Rc vq yR q (ak q q h21) fun b22 => aH (aa b22) q h21 q q <| Ra (aa b22) q q <| Rt hΨ q q q
theorem Kh {t0 r} (hr : sC t0 = some r) : aB PP 25 [ac (aA t0)] (aa r) := by
  refine Fo aa Tryz.func25 q (n := 13) q q hr fun X hΨ => ?_
  refine Jq q <| aV (ac (aA t0)) q q <| Ra (aa false) q q <| R0 <| Jq q <| ai ((cL 1 ab) t0.Nodes) ct q q q <| ag (AL 1 ab t0.Nodes) bh q q q <| aD (cc := ab) bI q q ?_
  refine dK q q q <| Rm (aa (decide ((t0.Nodes.length : Int) ≤ 45))) q q <| aN (fun h1 => ?_) (fun h1 => ?_)
  · exact ai ((cL 3 av) t0.Edges) d9 q q (ak q q (dt h1)) <| ag (AL 3 av t0.Edges) di q q (ak q q (dt h1)) <| aD (cc := av) fu q (ak q q (dt h1)) <| dK q q (ak q q (dt h1)) <| aH (aa (decide ((t0.Edges.length : Int) ≤ 90))) q (dt h1) q q <| Ra (aa (decide ((t0.Edges.length : Int) ≤ 90))) q q <| Rt hΨ q q q
  exact cy q (df h1) <| ax (aa false) q (df h1) q q <| Ra (aa false) q q <| Rt hΨ q q q
theorem xh {t0 r} (hr : mP t0 = some r) : aB PP 90 [ac (bz t0)] (aa r) := by
  refine Fo aa Tryz.func90 q (n := 18) q q hr fun X hΨ => ?_
  refine Jq q <| aV (ac (bz t0)) q q <| Ra (aa false) q q <| R0 <| Jq q <| ai (aA t0.Graph) dr q q q <| aK (aA t0.Graph) ck q q q q <| aI fun b1 h2 => ?_
  refine dv _ fn_25 (Kh h2) q q <| Rm (aa b1) q q <| aN (fun h3 => ?_) (fun h3 => ?_)
  rotate_left
  · refine cy q (bf h3) <| ax (aa false) q (bf h3) q q <| Rm (aa false) q q <| cy q q ?_
    exact ax (aa false) q q q q <| Ra (aa false) q q <| Rt hΨ q q q
  refine ai ((cL 4 b0) t0.Slots) hZ q q (ak q q h3) <| ag (AL 4 b0 t0.Slots) iO q q (ak q q h3) <| aD (cc := b0) kh q (ak q q h3) <| dK q q (ak q q h3) <| aH (aa (decide ((t0.Slots.length : Int) ≤ 15))) q h3 q q <| Rm (aa (decide ((t0.Slots.length : Int) ≤ 15))) q q <| aN (fun h4 => ?_) (fun h4 => ?_)
  · exact ai ((cL 5 bX) t0.Tests) ln q q (ak q q (dt h4)) <| ag (AL 5 bX t0.Tests) mc q q (ak q q (dt h4)) <| aD (cc := bX) m9 q (ak q q (dt h4)) <| dK q q (ak q q (dt h4)) <| aH (aa (decide ((t0.Tests.length : Int) ≤ 15))) q (dt h4) q q <| Ra (aa (decide ((t0.Tests.length : Int) ≤ 15))) q q <| Rt hΨ q q q
  exact cy q (df h4) <| ax (aa false) q (df h4) q q <| Ra (aa false) q q <| Rt hΨ q q q
theorem Ki {t0 t1 r} (hr : wT t0 t1 = some r) : aB PP 91 [ac (cE t0), I_ t1] (aa r) := by
  refine Fo aa Tryz.func91 q (n := 14) q q hr fun X hΨ => ?_
  refine Jq q <| aV (ac (cE t0)) q q <| Ra (aa false) q q <| R0 <| Jq q <| ai ((cL 1 ab) t0.Nodes) fw q q q <| ag (AL 1 ab t0.Nodes) bh q q q <| aD (cc := ab) bI q q ?_
  exact ai ((cL 1 ab) t0.Edges) gM q q q <| ag (AL 1 ab t0.Edges) bh q q q <| aD (cc := ab) bI q q <| aI fun b1 h2 => aR b1 q q (Option.some.inj h2) q <| Rm (I_ t1) q q <| dK q q q <| Ra (aa (decide (b1 ≤ t1))) q q <| Rt hΨ q q q
theorem CL {t0 t1 r} (hr : mO t0 t1 = some r) : aB PP 92 [ac (bM t0), I_ t1] (aa r) := by
  refine Fo aa Tryz.func92 q (n := 14) q q hr fun X hΨ => ?_
  refine Jq q <| aV (ac (bM t0)) q q <| Ra (aa false) q q <| R0 <| Jq q <| ai ((cL 1 ab) t0.Nodes) fZ q q q <| ag (AL 1 ab t0.Nodes) bh q q q <| aD (cc := ab) bI q q ?_
  exact ai ((cL 1 ab) t0.Edges) ix q q q <| ag (AL 1 ab t0.Edges) bh q q q <| aD (cc := ab) bI q q <| aI fun b1 h2 => aR b1 q q (Option.some.inj h2) q <| Rm (I_ t1) q q <| dK q q q <| Ra (aa (decide (b1 ≤ t1))) q q <| Rt hΨ q q q
theorem LD (q_ref22_left : az → Int → Option Int) (hq_ref22_left : ∀ (t0 : az) (t1 : Int) (r : Int), q_ref22_left t0 t1 = some r → aB PP 144 [ac (aU t0), I_ t1] (I_ r)) (t0 : az) (t1 : Int) (r : Int) (hr : nt q_ref22_left t0 t1 = some r) : aB PP 144 [ac (aU t0), I_ t1] (I_ r) := by
  refine Fo I_ Tryz.func144 q (n := 37) q q hr fun X hΨ => ?_
  refine Jq q <| aV (ac (aU t0)) q q <| Ra (I_ 0) q q <| R0 <| Jq q <| Rm (I_ t1) q q <| aI fun b1 h2 => dq b1 q q (Option.some.inj h2) q ?_
  refine Ra (I_ b1) q q <| R0 <| Js <| Jq q <| ai (bz t0.Pattern) we q q q <| aK (bz t0.Pattern) fq q q q q <| Rc vr xh q q fun b3 => cd q q ?_
  refine Rm (aa (!b3)) q q <| aN (fun h5 => ?_) (fun h5 => ?_)
  · refine cx q h5 <| aH (aa true) q h5 q q <| R0 <| cJ q q <| Jq q <| Ra (I_ (-1)) q q ?_
    exact Rt hΨ q q q
  refine ai (bM t0.Map) oP q q (an q q (bf h5)) <| aK (bM t0.Map) fQ q q q (an q q (bf h5)) <| Rc zG CL q (an q q (bf h5)) fun b6 => cd q (an q q (bf h5)) <| ax (aa (!b6)) q (bf h5) q q <| R0 <| bQ q (fun h8 => ?_) (fun h8 => ?_)
  · exact Jq q <| Ra (I_ (-1)) q q <| Rt hΨ q q q
  refine ao <| Js <| Jq q <| Ra (I_ 0) q q <| R0 <| aC <| Jl (fun x9 => [(1, I_ x9.1), (2, ap (aU t0)), (5, I_ x9.2)]) (.all q) (fun E10 hE10 x9 => ?_)
  refine Js <| Js ?_
  apply ch (fun v25 => ⟨fr [(1, I_ x9.1), (5, I_ x9.2), (21, I_ (t0.Kids.length : Int))], fun _ => none, 0⟩) (fun v25 => tW x9 v25)
  · intro K26
    refine Jr q <| Rm (I_ x9.2) q q <| ai (kT t0.Kids) mA q q q <| ag (AL 9 aU t0.Kids) md q (nW _) q <| aD (cc := aU) oA q q <| aZ q q q <| Rm (aa (decide (x9.2 < (t0.Kids.length : Int)))) q q <| aN (fun h18 => ?_) (fun h18 => ?_)
    rotate_left
    · exact da q (df h18) <| ax (aa false) q (df h18) q q <| R0 <| dX q q <| Jk (K26 ()) (.all q)
    refine Rm (I_ x9.1) q (ak q q (dt h18)) <| cG q q (ak q q (dt h18)) <| aH (aa (decide (0 ≤ x9.1))) q (dt h18) q q <| R0 <| aw q (fun h19 => ?_) (fun h19 => ?_)
    rotate_left
    · exact Jk (K26 ()) (.all q)
    refine ao <| Js <| aC <| Jr q <| ai (kT t0.Kids) mA q q q <| ag (AL 9 aU t0.Kids) md q (nW _) q <| Rm (I_ x9.2) q q <| Ri fun h20 => ?_
    refine aQ (cc := aU) m8 q q h20.1 h20.2 q <| aK (aU (nth t0.Kids x9.2)) eF q q q q <| Rm (I_ x9.1) q q <| aI fun b21 h22 => dv _ Ak (hq_ref22_left _ _ _ h22) q q <| Ra (I_ b21) q q <| R0 <| bn <| aG 21 (m := (t0.Kids.length : Int)) q fun q23 => aG 5 (m := x9.2) q fun q24 => ?_
    exact Jr q <| Rm (I_ x9.2) q q <| aR (x9.2 + 1) q q (bu (by omega) (by omega)) q <| Ra (I_ (x9.2 + 1)) q q <| R0 <| bt <| Jk (hE10 (b21, x9.2 + 1)) (.all q)
  intro v25
  exact br q <| bO <| Jq q <| Rm (I_ x9.1) q q <| Ra (I_ x9.1) q q <| Rt hΨ q q q
theorem M6 : ∀ n, (∀ (t0 : az) (t1 : Int) (r : Int), (j8 n) t0 t1 = some r → aB PP 144 [ac (aU t0), I_ t1] (I_ r)) := by
  intro n
  induction n with
  | zero => exact (fun _ _ _ h => by cases h)
  | succ n ih => exact (fun a0 a1 r h => LD _ ih a0 a1 r h)
theorem KT {t0 t1 r} (hr : xb t0 t1 = some r) : aB PP 144 [ac (aU t0), I_ t1] (I_ r) := by
  obtain ⟨n, hn⟩ := iS hr
  exact (M6 n) t0 t1 r hn
theorem Kj {t0 r} (hr : sD t0 = some r) : aB PP 93 [ac (aU t0)] (aa r) := by
  refine Fo aa Tryz.func93 q (n := 6) q q hr fun X hΨ => ?_
  refine Jq q <| aV (ac (aU t0)) q q <| Ra (aa false) q q <| R0 <| Jq q <| aK (aU t0) eF q q q q <| Rc Ak KT q q fun b1 => ?_
  exact cG q q q <| Ra (aa (decide (0 ≤ b1))) q q <| Rt hΨ q q q
theorem Kl {t0 r} (hr : sE t0 = some r) : aB PP 59 [ac (aP t0)] (aa r) := by
  refine Fo aa Tryz.func59 q (n := 32) q q hr fun X hΨ => ?_
  refine Jq q <| aV (ac (aP t0)) q q <| Ra (aa false) q q <| R0 <| Jq q <| ai (bq t0.Name) wg q q q <| ag (am t0.Name) dp q q q <| hU gT q q ?_
  refine dK q q q <| Rm (aa (decide ((t0.Name.size : Int) ≤ 60))) q q <| aN (fun h1 => ?_) (fun h1 => ?_)
  rotate_left
  · refine c7 q (df h1) <| ax (aa false) q (df h1) q q <| Rm (aa false) q q <| c7 q q <| ax (aa false) q q q q <| Rm (aa false) q q ?_
    refine c7 q q <| ax (aa false) q q q q <| Rm (aa false) q q <| c7 q q <| ax (aa false) q q q q <| Rm (aa false) q q ?_
    exact c7 q q <| ax (aa false) q q q q <| Ra (aa false) q q <| Rt hΨ q q q
  refine ai (bz t0.Left) iT q q (ak q q (dt h1)) <| aK (bz t0.Left) fq q q q (ak q q (dt h1)) <| Rc vr xh q (ak q q (dt h1)) fun b2 => aH (aa b2) q (dt h1) q q <| Rm (aa b2) q q <| aN (fun h4 => ?_) (fun h4 => ?_)
  rotate_left
  · refine c7 q (bf h4) <| ax (aa false) q (bf h4) q q <| Rm (aa false) q q <| c7 q q <| ax (aa false) q q q q <| Rm (aa false) q q ?_
    refine c7 q q <| ax (aa false) q q q q <| Rm (aa false) q q <| c7 q q <| ax (aa false) q q q q <| Ra (aa false) q q ?_
    exact Rt hΨ q q q
  refine ai (bz t0.Right) ex q q (ak q q h4) <| aK (bz t0.Right) fq q q q (ak q q h4) <| Rc vr xh q (ak q q h4) fun b5 => aH (aa b5) q h4 q q <| Rm (aa b5) q q <| aN (fun h7 => ?_) (fun h7 => ?_)
  rotate_left
  · refine c7 q (bf h7) <| ax (aa false) q (bf h7) q q <| Rm (aa false) q q <| c7 q q <| ax (aa false) q q q q <| Rm (aa false) q q ?_
    exact c7 q q <| ax (aa false) q q q q <| Ra (aa false) q q <| Rt hΨ q q q
  refine ai (cE t0.Keep) lp q q (ak q q h7) <| aK (cE t0.Keep) gX q q q (ak q q h7) <| Rc fn_91 Ki q (ak q q h7) fun b8 => aH (aa b8) q h7 q q <| Rm (aa b8) q q <| aN (fun h10 => ?_) (fun h10 => ?_)
  rotate_left
  · refine c7 q (bf h10) <| ax (aa false) q (bf h10) q q <| Rm (aa false) q q <| c7 q q <| ax (aa false) q q q q <| Ra (aa false) q q ?_
    exact Rt hΨ q q q
  refine ai (bM t0.Into) ky q q (ak q q h10) <| aK (bM t0.Into) fQ q q q (ak q q h10) <| Rc zG CL q (ak q q h10) fun b11 => aH (aa b11) q h10 q q <| Rm (aa b11) q q <| aN (fun h13 => ?_) (fun h13 => ?_)
  rotate_left
  · exact c7 q (bf h13) <| ax (aa false) q (bf h13) q q <| Ra (aa false) q q <| Rt hΨ q q q
  exact ai (aU t0.Condition) wh q q (ak q q h13) <| aK (aU t0.Condition) eF q q q (ak q q h13) <| Rc fn_93 Kj q (ak q q h13) fun b14 => aH (aa b14) q h13 q q <| Ra (aa b14) q q <| Rt hΨ q q q
theorem Km {t0 r} (hr : sF t0 = some r) : aB PP 30 [AL 25 aP t0] (aa r) := by
  refine Fo aa Tryz.func30 q (n := 19) q q hr fun X hΨ => ?_
  refine Jq q <| Ra (aa false) q q <| R0 <| Js <| Jq q <| Rm (AL 25 aP t0) q q <| aD (cc := aP) jp q q <| cK q q q ?_
  refine R0 <| aw q (fun h1 => ?_) (fun h1 => ?_)
  · exact Jq q <| Ra (aa false) q q <| Rt hΨ q q q
  refine ao <| Js <| Jq q <| Ra (I_ 0) q q <| R0 <| aC <| Jl (fun x2 => [(0, AL 25 aP t0), (3, I_ x2), (5, I_ (t0.length : Int))]) (.all q) (fun E3 hE3 x2 => ?_)
  refine Js <| Jq q <| Rm (I_ x2) q q <| Rm (AL 25 aP t0) q q <| aD (cc := aP) jp q q <| aZ q q q <| R0 <| aw q (fun h9 => ?_) (fun h9 => ?_)
  rotate_left
  · exact br q <| bO <| Jq q <| Ra (aa true) q q <| Rt hΨ q q q
  refine ao <| Js <| aC <| Jq q <| Rm (AL 25 aP t0) q q <| Rm (I_ x2) q q <| Ri fun h10 => ?_
  refine aQ (cc := aP) kg q q h10.1 h10.2 q <| aK (aP (nth t0 x2)) eA q q q q <| Rc fn_59 Kl q q fun b11 => cd q q <| R0 <| bQ q (fun h13 => ?_) (fun h13 => ?_)
  · exact Jq q <| Ra (aa false) q q <| Ro hΨ q q q
  exact ao <| bn <| aG 5 (m := (t0.length : Int)) q fun q14 => aG 3 (m := x2) q fun q15 => Jr q <| Rm (I_ x2) q q <| aR (x2 + 1) q q (bu (by omega) (by omega)) q <| Ra (I_ (x2 + 1)) q q <| R0 <| bt <| Jk (hE3 (x2 + 1)) (.all q)
theorem KK {t0 r} (hr : x8 t0 = some r) : aB PP 161 [ac (cA t0)] (am r) := by
  refine Fo am Tryz.func161 q (n := 12) q q hr fun X hΨ => ?_
  refine Jq q <| aV (ac (cA t0)) q q <| Ra (am (ByteArray.mk #[])) q q <| R0 <| Js <| Jq q <| ai (ab t0.Kind) p0 q q q <| ag (I_ t0.Kind) ay q q q ?_
  refine bY q q q <| R0 <| aw q (fun h1 => ?_) (fun h1 => ?_)
  rotate_left
  · exact ao <| Jq q <| ai (bq t0.Text) wA q q q <| ag (am t0.Text) dp q q q <| Ra (am t0.Text) q q <| Rt hΨ q q q
  refine Jq q <| ai (bq t0.Text) wA q q q <| ag (am t0.Text) dp q q q <| Ri fun h2 => ?_
  refine rN q q h2 q <| Ri fun h3 => ?_
  exact rN q q h3 q <| Ra (am (((ByteArray.mk #[34]) ++ t0.Text) ++ (ByteArray.mk #[34]))) q q <| Rt hΨ q q q
theorem Dr {t0 r} (hr : tj t0 = some r) : aB PP 201 [aj .u8 t0] (aa r) := by
  refine Fo aa Tryz.func201 q (n := 17) q q hr fun X hΨ => ?_
  refine Jq q <| Ra (aa false) q q <| R0 <| Jq q <| Rm (aj .u8 t0) q q <| cG q q q <| Rm (aa (decide (97 ≤ t0))) q q <| aN (fun h1 => ?_) (fun h1 => ?_)
  rotate_left
  · refine da q (df h1) <| ax (aa false) q (df h1) q q <| Rm (aa false) q q <| Rm (aj .u8 t0) q (an q q q) <| cG q q (an q q q) <| Rm (aa (decide (65 ≤ t0))) q (an q q q) <| aN (fun h4 => ?_) (fun h4 => ?_)
    · exact Rm (aj .u8 t0) q (ak q q (dt h4)) <| dK q q (ak q q (dt h4)) <| aH (aa (decide (t0 ≤ 90))) q (dt h4) q (an q q q) <| ax (aa (decide (t0 ≤ 90))) q q q q <| Ra (aa (decide (t0 ≤ 90))) q q <| Rt hΨ q q q
    exact da q (df h4) <| ax (aa false) q (df h4) q (an q q q) <| ax (aa false) q q q q <| Ra (aa false) q q <| Rt hΨ q q q
  refine Rm (aj .u8 t0) q (ak q q (dt h1)) <| dK q q (ak q q (dt h1)) <| aH (aa (decide (t0 ≤ 122))) q (dt h1) q q <| Rm (aa (decide (t0 ≤ 122))) q q <| aN (fun h2 => ?_) (fun h2 => ?_)
  · exact dU q (dt h2) <| Rk (bC q q) <| Rk (bC q q) <| Kf q (dt h2) <| aH (aa true) q (dt h2) q q <| Ra (aa true) q q <| Rt hΨ q q q
  refine Rm (aj .u8 t0) q (an q q (df h2)) <| cG q q (an q q (df h2)) <| Rm (aa (decide (65 ≤ t0))) q (an q q (df h2)) <| aN (fun h3 => ?_) (fun h3 => ?_)
  · exact Rm (aj .u8 t0) q (ak q q (dt h3)) <| dK q q (ak q q (dt h3)) <| aH (aa (decide (t0 ≤ 90))) q (dt h3) q (an q q (df h2)) <| ax (aa (decide (t0 ≤ 90))) q (df h2) q q <| Ra (aa (decide (t0 ≤ 90))) q q <| Rt hΨ q q q
  exact da q (df h3) <| ax (aa false) q (df h3) q (an q q (df h2)) <| ax (aa false) q (df h2) q q <| Ra (aa false) q q <| Rt hΨ q q q
theorem tE {t0 r} (hr : ng t0 = some r) : aB PP 202 [aj .u8 t0] (aa r) := by
  refine Fo aa Tryz.func202 q (n := 9) q q hr fun X hΨ => ?_
  refine Jq q <| Ra (aa false) q q <| R0 <| Jq q <| Rm (aj .u8 t0) q q <| cG q q q <| Rm (aa (decide (48 ≤ t0))) q q <| aN (fun h1 => ?_) (fun h1 => ?_)
  · exact Rm (aj .u8 t0) q (ak q q (dt h1)) <| dK q q (ak q q (dt h1)) <| aH (aa (decide (t0 ≤ 57))) q (dt h1) q q <| Ra (aa (decide (t0 ≤ 57))) q q <| Rt hΨ q q q
  exact da q (df h1) <| ax (aa false) q (df h1) q q <| Ra (aa false) q q <| Rt hΨ q q q
theorem Kg {t0 t1 t2 r} (hr : sB t0 t1 t2 = some r) : aB PP 203 [am t0, I_ t1, aa t2] (I_ r) := by
  refine Fo I_ Tryz.func203 q (n := 45) q q hr fun X hΨ => ?_
  refine Jq q <| Ra (I_ 0) q q <| R0 <| Jq q <| Ra (I_ 0) q q <| R0 <| Js <| aC ?_
  refine Jl (fun x1 => [(0, am t0), (1, I_ t1), (2, aa t2), (7, I_ x1)]) (.all q) (fun E2 hE2 x1 => ?_)
  refine Js <| Js ?_
  apply ch (fun v53 => ⟨fr [(7, I_ x1)], fun _ => none, 0⟩) (fun v53 => nx x1 v53)
  · intro K54
    apply ch (fun v49 => ⟨fr [(0, am t0), (1, I_ t1), (2, aa t2), (7, I_ x1)], fun _ => none, 0⟩) (fun v49 => pI x1 v49)
    · intro K52
      refine Jr q <| Rm (I_ t1) q q <| Rm (I_ x1) q q <| aI fun b27 h28 => aR b27 q q (Option.some.inj h28) q <| Rm (am t0) q q <| hU gT q q <| aZ q q q <| Rm (aa (decide (b27 < (t0.size : Int)))) q q <| aN (fun h29 => ?_) (fun h29 => ?_)
      rotate_left
      · refine cy q (df h29) <| c7 q (df h29) <| Rk (bC q q) <| Rk (bC q q) <| Rk (bC q q) ?_
        refine Rk (bC q q) <| Rk (bC q q) <| Rk (bC q q) <| Rk (bC q q) <| Rk (bC q q) <| Rk (bC q q) <| Rk (bC q q) <| Rk (bC q q) <| Rk (bC q q) <| Rk (bC q q) ?_
        exact Rk (bC q q) <| Rk (bC q q) <| Rk (bC q q) <| Rk (bC q q) <| Rk (bC q q) <| Kt q (df h29) <| ax (aa false) q (df h29) q q <| R0 <| dX q q <| Jk (K54 ()) (.all q)
      refine Rm (am t0) q (ak q q (dt h29)) <| Rm (I_ t1) q (ak q q (dt h29)) <| Rm (I_ x1) q (ak q q (dt h29)) <| aI fun b30 h31 => aR b30 q q (Option.some.inj h31) (ak q q (dt h29)) <| Ri fun h32 => ?_
      refine km fO q q h32.1 h32.2 (ak q q (dt h29)) <| Rc rK tE q (ak q q (dt h29)) fun b33 => Rm (aa b33) q (ak q q (dt h29)) <| aN (fun h35 => ?_) (fun h35 => ?_)
      · refine dU q h35 <| Rk (bC q q) <| Rk (bC q q) <| Rk (bC q q) <| Rk (bC q q) <| Rk (bC q q) <| Rk (bC q q) <| Rk (bC q q) ?_
        refine Rk (bC q q) <| Rk (bC q q) <| Rk (bC q q) <| Rk (bC q q) <| Rk (bC q q) <| Rk (bC q q) <| Rk (bC q q) <| Kf q h35 <| aH (aa true) q h35 q (ak q q (dt h29)) <| aH (aa true) q (dt h29) q q ?_
        exact R0 <| cJ q q <| Jk (K52 ()) (.all q)
      refine Rm (aa t2) q (an q q (bf h35)) <| cd q (an q q (bf h35)) <| Rm (aa (!t2)) q (an q q (bf h35)) <| aN (fun h36 => ?_) (fun h36 => ?_)
      rotate_left
      · refine cy q (bf h36) <| c7 q (bf h36) <| Rk (bC q q) <| Rk (bC q q) <| Rk (bC q q) ?_
        exact Rk (bC q q) <| Rk (bC q q) <| Rk (bC q q) <| Kt q (bf h36) <| ax (aa false) q (bf h36) q (an q q (bf h35)) <| ax (aa false) q (bf h35) q (ak q q (dt h29)) <| aH (aa false) q (dt h29) q q <| R0 <| dX q q <| Jk (K54 ()) (.all q)
      refine Rm (am t0) q (ak q q h36) <| Rm (I_ t1) q (ak q q h36) <| Rm (I_ x1) q (ak q q h36) <| aI fun b37 h38 => aR b37 q q (Option.some.inj h38) (ak q q h36) <| Ri fun h39 => ?_
      refine km fO q q h39.1 h39.2 (ak q q h36) <| Rc At Dr q (ak q q h36) fun b40 => Rm (aa b40) q (ak q q h36) <| aN (fun h42 => ?_) (fun h42 => ?_)
      · refine cx q h42 <| e9 q h42 <| aH (aa true) q h42 q (ak q q h36) <| aH (aa true) q h36 q (an q q (bf h35)) <| ax (aa true) q (bf h35) q (ak q q (dt h29)) <| aH (aa true) q (dt h29) q q ?_
        exact R0 <| cJ q q <| Jk (K52 ()) (.all q)
      refine Rm (am t0) q (an q q (bf h42)) <| Rm (I_ t1) q (an q q (bf h42)) <| Rm (I_ x1) q (an q q (bf h42)) <| aI fun b43 h44 => aR b43 q q (Option.some.inj h44) (an q q (bf h42)) <| Ri fun h45 => ?_
      refine km fO q q h45.1 h45.2 (an q q (bf h42)) <| bY q q (an q q (bf h42)) <| ax (aa (decide (cq t0 b43 = 95))) q (bf h42) q (ak q q h36) <| aH (aa (decide (cq t0 b43 = 95))) q h36 q (an q q (bf h35)) <| ax (aa (decide (cq t0 b43 = 95))) q (bf h35) q (ak q q (dt h29)) <| aH (aa (decide (cq t0 b43 = 95))) q (dt h29) q q <| R0 <| aw q (fun h46 => ?_) (fun h46 => ?_)
      · exact Jk (K52 ()) (.all q)
      exact Jk (K54 ()) (.all q)
    intro v49
    exact ao <| aC <| Jr q <| Rm (I_ x1) q q <| aI fun b50 h51 => aR b50 q q (Option.some.inj h51) q <| Ra (I_ b50) q q <| R0 <| bn <| bt <| Jk (hE2 b50) (.all q)
  intro v53
  exact br q <| bO <| Jq q <| Rm (I_ x1) q q <| Ra (I_ x1) q q <| Rt hΨ q q q
theorem LC {t0 t1 r} (hr : tk t0 t1 = some r) : aB PP 204 [am t0, I_ t1] (I_ r) := by
  refine Fo I_ Tryz.func204 q (n := 30) q q hr fun X hΨ => ?_
  refine Jq q <| Ra (I_ 0) q q <| R0 <| Js <| Jq q <| Ra (I_ 1) q q <| R0 <| aC ?_
  refine Jl (fun x1 => [(0, am t0), (1, I_ t1), (5, I_ x1)]) (.all q) (fun E2 hE2 x1 => ?_)
  refine Js <| Jq q <| Rm (I_ t1) q q <| Rm (I_ x1) q q <| aI fun b12 h13 => aR b12 q q (Option.some.inj h13) q <| Rm (am t0) q q <| hU gT q q <| aZ q q q ?_
  refine R0 <| aw q (fun h14 => ?_) (fun h14 => ?_)
  rotate_left
  · exact br q <| bO <| Jq q <| Ra (I_ 0) q q <| Rt hΨ q q q
  refine ao <| Js <| aC <| Jq q <| Rm (am t0) q q <| Rm (I_ t1) q q <| Rm (I_ x1) q q <| aI fun b15 h16 => aR b15 q q (Option.some.inj h16) q ?_
  refine Ri fun h17 => ?_
  refine km fO q q h17.1 h17.2 q <| Ra (aj .u8 (cq t0 b15)) q q <| R0 <| Js <| Jq q <| Rm (aj .u8 (cq t0 b15)) q q <| bY q q q <| R0 <| aw q (fun h18 => ?_) (fun h18 => ?_)
  · exact Jq q <| Rm (I_ x1) q q <| aI fun b19 h20 => aR b19 q q (Option.some.inj h20) q <| Ra (I_ b19) q q <| Ro hΨ q q q
  refine ao <| Jq q <| Rm (aj .u8 (cq t0 b15)) q q <| aZ q q q <| Rm (aa (decide (cq t0 b15 < 32))) q q <| aN (fun h21 => ?_) (fun h21 => ?_)
  · refine e9 q (dt h21) <| aH (aa true) q (dt h21) q q <| R0 <| cJ q q <| Jq q <| Ra (I_ 0) q q <| R0 <| bO ?_
    exact eV hΨ q q q
  refine Rm (aj .u8 (cq t0 b15)) q (an q q (df h21)) <| cK q q (an q q (df h21)) <| ax (aa (decide (126 < cq t0 b15))) q (df h21) q q <| R0 <| aw q (fun h22 => ?_) (fun h22 => ?_)
  · exact Jq q <| Ra (I_ 0) q q <| Ro hΨ q q q
  exact ao <| bn <| Jr q <| Rm (I_ x1) q q <| aI fun b23 h24 => aR b23 q q (Option.some.inj h24) q <| Ra (I_ b23) q q <| R0 <| bt <| Jk (hE2 b23) (.all q)
theorem Ln {r} (hr : xl  = some r) : aB PP 205 [] (AL 1 bq r) := by
  refine Fo (fun r => AL 1 bq r) Tryz.func205 q (n := 2) q q hr fun X hΨ => ?_
  exact Jq q <| Ra (af) q q <| R0 <| Jq q <| cF (cc := bq) [(ByteArray.mk #[45, 62]), (ByteArray.mk #[60, 61]), (ByteArray.mk #[62, 61]), (ByteArray.mk #[61, 61]), (ByteArray.mk #[33, 61]), (ByteArray.mk #[123]), (ByteArray.mk #[125]), (ByteArray.mk #[40]), (ByteArray.mk #[41]), (ByteArray.mk #[91]), (ByteArray.mk #[93]), (ByteArray.mk #[44]), (ByteArray.mk #[59]), (ByteArray.mk #[58]), (ByteArray.mk #[61]), (ByteArray.mk #[43]), (ByteArray.mk #[45]), (ByteArray.mk #[42]), (ByteArray.mk #[60]), (ByteArray.mk #[62]), (ByteArray.mk #[33]), (ByteArray.mk #[38]), (ByteArray.mk #[124]), (ByteArray.mk #[46]), (ByteArray.mk #[63])] fD Ht (.cons (A := am (ByteArray.mk #[45, 62])) q q q (.cons (A := am (ByteArray.mk #[60, 61])) q q q (.cons (A := am (ByteArray.mk #[62, 61])) q q q (.cons (A := am (ByteArray.mk #[61, 61])) q q q (.cons (A := am (ByteArray.mk #[33, 61])) q q q (.cons (A := am (ByteArray.mk #[123])) q q q (.cons (A := am (ByteArray.mk #[125])) q q q (.cons (A := am (ByteArray.mk #[40])) q q q (.cons (A := am (ByteArray.mk #[41])) q q q (.cons (A := am (ByteArray.mk #[91])) q q q (.cons (A := am (ByteArray.mk #[93])) q q q (.cons (A := am (ByteArray.mk #[44])) q q q (.cons (A := am (ByteArray.mk #[59])) q q q (.cons (A := am (ByteArray.mk #[58])) q q q (.cons (A := am (ByteArray.mk #[61])) q q q (.cons (A := am (ByteArray.mk #[43])) q q q (.cons (A := am (ByteArray.mk #[45])) q q q (.cons (A := am (ByteArray.mk #[42])) q q q (.cons (A := am (ByteArray.mk #[60])) q q q (.cons (A := am (ByteArray.mk #[62])) q q q (.cons (A := am (ByteArray.mk #[33])) q q q (.cons (A := am (ByteArray.mk #[38])) q q q (.cons (A := am (ByteArray.mk #[124])) q q q (.cons (A := am (ByteArray.mk #[46])) q q q (.cons (A := am (ByteArray.mk #[63])) q q q .nil))))))))))))))))))))))))) q q q <| Ra (AL 1 bq [(ByteArray.mk #[45, 62]), (ByteArray.mk #[60, 61]), (ByteArray.mk #[62, 61]), (ByteArray.mk #[61, 61]), (ByteArray.mk #[33, 61]), (ByteArray.mk #[123]), (ByteArray.mk #[125]), (ByteArray.mk #[40]), (ByteArray.mk #[41]), (ByteArray.mk #[91]), (ByteArray.mk #[93]), (ByteArray.mk #[44]), (ByteArray.mk #[59]), (ByteArray.mk #[58]), (ByteArray.mk #[61]), (ByteArray.mk #[43]), (ByteArray.mk #[45]), (ByteArray.mk #[42]), (ByteArray.mk #[60]), (ByteArray.mk #[62]), (ByteArray.mk #[33]), (ByteArray.mk #[38]), (ByteArray.mk #[124]), (ByteArray.mk #[46]), (ByteArray.mk #[63])]) q q <| Rt hΨ q q q
theorem Ke {t0 t1 r} (hr : mN t0 t1 = some r) : aB PP 162 [am t0, I_ t1] (bk [ac (cA r.1), I_ r.2.1, I_ r.2.2]) := by
  refine Fo (fun (r : cm × Int × Int) => bk [ac (cA r.1), I_ r.2.1, I_ r.2.2]) Tryz.func162 q (n := 110) q q hr fun X hΨ => ?_
  refine Jq q <| bE 0 _ iq q q <| Ra (I_ 0) q q <| Ra (I_ 0) q q <| R0 <| Jq q <| Rm (am t0) q q <| Rm (I_ t1) q q ?_
  refine Ri fun h1 => ?_
  refine km fO q q h1.1 h1.2 q <| Ra (aj .u8 (cq t0 t1)) q q <| R0 <| Js <| Js ?_
  apply ch (fun v25 => ⟨fr [(0, am t0), (1, I_ t1), (4, a8 0), (7, aj .u8 (cq t0 t1))], hp [(0, .box 151 (cA (cm.mk 0 (ByteArray.mk #[]) 0)))], 1⟩) (fun v25 => pH t0 t1 v25)
  · intro K43
    refine Jr q <| Rm (aj .u8 (cq t0 t1)) q q <| Rc At Dr q q fun b2 => Rm (aa b2) q q <| aN (fun h4 => ?_) (fun h4 => ?_)
    · exact e9 q h4 <| aH (aa true) q h4 q q <| R0 <| cJ q q <| Jc [] [] [] (K43 ()) (.s2 q q (.cons (A := a8 0) q (.ob q) (.all q))) (.cc q (.box (c9.sames)) q .nil) q q
    refine Rm (aj .u8 (cq t0 t1)) q (an q q (bf h4)) <| Rc rK tE q (an q q (bf h4)) fun b5 => ax (aa b5) q (bf h4) q q <| R0 <| bQ q (fun h7 => ?_) (fun h7 => ?_)
    · exact Jc [] [] [] (K43 ()) (.s2 q q (.cons (A := a8 0) q (.ob q) (.all q))) (.cc q (.box (c9.sames)) q .nil) q q
    refine ao <| Js <| Jq q <| Rm (aj .u8 (cq t0 t1)) q q <| bY q q q <| R0 <| aw q (fun h44 => ?_) (fun h44 => ?_)
    · refine Jq q <| Rm (am t0) q q <| Rm (I_ t1) q q <| Rc FE LC q q fun b45 => Ra (I_ b45) q q <| R0 <| Js <| Js ?_
      refine Jr q <| Rm (I_ b45) q q <| bY q q q <| R0 <| aw q (fun h47 => ?_) (fun h47 => ?_)
      · exact Jq q <| cO (cA (cm.mk 0 (ByteArray.mk #[]) 0)) jB iq .nil q q <| aX (a8 0) (ac (cA (cm.mk 0 (ByteArray.mk #[]) 0))) (cA (cm.mk 0 (ByteArray.mk #[]) 0)) kx q .obj q q q q q q <| Ra (I_ 0) q q <| Ra (I_ 2) q q <| R0 <| Jt hΨ (bG (As := [ac (cA (cm.mk 0 (ByteArray.mk #[]) 0)), I_ 0, I_ 2]) q q (.cons (.boxA (cs := (cA (cm.mk 0 (ByteArray.mk #[]) 0))) kq q q q) (.cons (.tmp (A := I_ 0) q) (.cons (.tmp (A := I_ 2) q) .nil)))) q q
      refine ao <| Js <| Jq q <| Rm (I_ b45) q q <| aI fun b48 h49 => dq b48 q q (Option.some.inj h49) q <| cK q q q <| R0 <| aw q (fun h50 => ?_) (fun h50 => ?_)
      · exact Jq q <| cO (cA (cm.mk 0 (ByteArray.mk #[]) 0)) jB iq .nil q q <| aX (a8 0) (ac (cA (cm.mk 0 (ByteArray.mk #[]) 0))) (cA (cm.mk 0 (ByteArray.mk #[]) 0)) kx q .obj q q q q q q <| Ra (I_ 0) q q <| Ra (I_ 3) q q <| R0 <| Jt hΨ (bG (As := [ac (cA (cm.mk 0 (ByteArray.mk #[]) 0)), I_ 0, I_ 3]) q q (.cons (.boxA (cs := (cA (cm.mk 0 (ByteArray.mk #[]) 0))) kq q q q) (.cons (.tmp (A := I_ 0) q) (.cons (.tmp (A := I_ 3) q) .nil)))) q q
      refine ao <| Jq q <| Rm (am t0) q q <| Rm (I_ t1) q q <| aI fun b51 h52 => aR b51 q q (Option.some.inj h52) q <| Rm (I_ t1) q q <| Rm (I_ b45) q q <| aI fun b53 h54 => ?_
      refine aR b53 q q (Option.some.inj h54) q <| aI fun b55 h56 => dq b55 q q (Option.some.inj h56) q <| Ri fun h57 => ?_
      exact kw b51 b55 fO q (l5 q) (fU q) h57.1 h57.2.1 h57.2.2 q <| cO (cA (cm.mk 3 (bT t0 b51 b55) 0)) jB iq (.cons (A := I_ 3) q p8 q (.cons (A := am (bT t0 b51 b55)) q p9 q .nil)) q q <| Rm (I_ b45) q q <| aX (a8 0) (ac (cA (cm.mk 3 (bT t0 b51 b55) 0))) (cA (cm.mk 3 (bT t0 b51 b55) 0)) kx q .obj q q q q q q <| Ra (I_ b45) q q <| Ra (I_ 0) q q <| R0 <| Jt hΨ (bG (As := [ac (cA (cm.mk 3 (bT t0 b51 b55) 0)), I_ b45, I_ 0]) q q (.cons (.boxA (cs := (cA (cm.mk 3 (bT t0 b51 b55) 0))) kq q q q) (.cons (.tmp (A := I_ b45) q) (.cons (.tmp (A := I_ 0) q) .nil)))) q q
    refine ao <| Jq q <| Rc FF Ln q q fun b58 => Ra (AL 1 bq b58) q q <| R0 <| Js <| Jq q ?_
    refine Ra (I_ 0) q q <| R0 <| aC <| Jn (fun x60 => ⟨fr [(0, am t0), (1, I_ t1), (4, a8 0), (12, AL 1 bq b58), (13, I_ x60)], hp [(0, .box 151 (cA (cm.mk 0 (ByteArray.mk #[]) 0)))], 1⟩) [] [] [] q (.s2 q q (.cons (A := a8 0) q (.ob q) (.all q))) (.cc q (.box (c9.sames)) q .nil) q q (fun E61 hE61 x60 => ?_)
    refine Js <| Jq q <| Rm (I_ x60) q q <| Rm (AL 1 bq b58) q q <| aD (cc := bq) iM q q <| aZ q q q <| R0 <| aw q (fun h73 => ?_) (fun h73 => ?_)
    rotate_left
    · exact br q <| bO <| Jq q <| cO (cA (cm.mk 0 (ByteArray.mk #[]) 0)) jB iq .nil q q <| aX (a8 0) (ac (cA (cm.mk 0 (ByteArray.mk #[]) 0))) (cA (cm.mk 0 (ByteArray.mk #[]) 0)) kx q .obj q q q q q q <| Ra (I_ 0) q q <| Ra (I_ 2) q q <| R0 <| Jt hΨ (bG (As := [ac (cA (cm.mk 0 (ByteArray.mk #[]) 0)), I_ 0, I_ 2]) q q (.cons (.boxA (cs := (cA (cm.mk 0 (ByteArray.mk #[]) 0))) kq q q q) (.cons (.tmp (A := I_ 0) q) (.cons (.tmp (A := I_ 2) q) .nil)))) q q
    refine ao <| Js <| aC <| Js ?_
    apply ch (fun v82 => ⟨fr [(0, am t0), (1, I_ t1), (4, a8 0), (12, AL 1 bq b58), (13, I_ x60), (68, I_ (b58.length : Int))], hp [(0, .box 151 (cA (cm.mk 0 (ByteArray.mk #[]) 0)))], 1⟩) (fun v82 => tH x60 v82)
    · intro K83
      refine bW <| Rm (I_ t1) q q <| Rm (AL 1 bq b58) q q <| Rm (I_ x60) q q <| Ri fun h74 => ?_
      refine aQ (cc := bq) fD q q h74.1 h74.2 q <| ag (am (nth b58 x60)) dp q q q <| hU gT q q <| aI fun b75 h76 => aR b75 q q (Option.some.inj h76) q <| Rm (am t0) q q <| hU gT q q <| dK q q q <| Rm (aa (decide (b75 ≤ (t0.size : Int)))) q q <| aN (fun h77 => ?_) (fun h77 => ?_)
      rotate_left
      · refine cy q (df h77) <| cy q (df h77) <| da q (df h77) ?_
        exact cy q (df h77) <| Kt q (df h77) <| ax (aa false) q (df h77) q q <| bK (by kernel_rfl) <| dX q q <| Jc [] [] [] (K83 ()) (.s2 q q (.cons (A := a8 0) q (.ob q) (.all q))) (.cc q (.box (c9.sames)) q .nil) q q
      refine Rm (am t0) q (ak q q (dt h77)) <| Rm (I_ t1) q (ak q q (dt h77)) <| Rm (I_ t1) q (ak q q (dt h77)) <| Rm (AL 1 bq b58) q (ak q q (dt h77)) <| Rm (I_ x60) q (ak q q (dt h77)) <| aQ (cc := bq) fD q q h74.1 h74.2 (ak q q (dt h77)) <| ag (am (nth b58 x60)) dp q q (ak q q (dt h77)) <| hU gT q (ak q q (dt h77)) <| aI fun b78 h79 => aR b78 q q (Option.some.inj h79) (ak q q (dt h77)) ?_
      refine Ri fun h80 => ?_
      refine kw t1 b78 fO q (l5 q) (fU q) h80.1 h80.2.1 h80.2.2 (ak q q (dt h77)) <| Rm (AL 1 bq b58) q (ak q q (dt h77)) <| Rm (I_ x60) q (ak q q (dt h77)) <| aQ (cc := bq) fD q q h74.1 h74.2 (ak q q (dt h77)) <| ag (am (nth b58 x60)) dp q q (ak q q (dt h77)) <| ip q q (ak q q (dt h77)) <| aH (aa (decide (bT t0 t1 b78 = (nth b58 x60)))) q (dt h77) q q <| bK (by kernel_rfl) <| aw q (fun h81 => ?_) (fun h81 => ?_)
      rotate_left
      · exact Jc [] [] [] (K83 ()) (.s2 q q (.cons (A := a8 0) q (.ob q) (.all q))) (.cc q (.box (c9.sames)) q .nil) q q
      refine Js <| bW <| Rm (AL 1 bq b58) q q <| Rm (I_ x60) q q <| aQ (cc := bq) fD q q h74.1 h74.2 q <| ag (am (nth b58 x60)) dp q q q <| cO (cA (cm.mk 4 (nth b58 x60) 0)) jB iq (.cons (A := I_ 4) q p8 q (.cons (A := am (nth b58 x60)) q p9 q .nil)) q q <| Rm (AL 1 bq b58) q q <| Rm (I_ x60) q q <| aQ (cc := bq) fD q q h74.1 h74.2 q ?_
      exact ag (am (nth b58 x60)) dp q q q <| hU gT q q <| aX (a8 0) (ac (cA (cm.mk 4 (nth b58 x60) 0))) (cA (cm.mk 4 (nth b58 x60) 0)) kx q .obj q q q q q q <| Ra (I_ ((nth b58 x60).size : Int)) q q <| Ra (I_ 0) q q <| bK (by kernel_rfl) <| bO <| Jt hΨ (bG (As := [ac (cA (cm.mk 4 (nth b58 x60) 0)), I_ ((nth b58 x60).size : Int), I_ 0]) q q (.cons (.boxA (cs := (cA (cm.mk 4 (nth b58 x60) 0))) kq q q q) (.cons (.tmp (A := I_ ((nth b58 x60).size : Int)) q) (.cons (.tmp (A := I_ 0) q) .nil)))) q q
    intro v82
    exact ao <| bn <| aG 68 (m := (b58.length : Int)) q fun q84 => aG 13 (m := x60) q fun q85 => Jr q <| Rm (I_ x60) q q <| aR (x60 + 1) q q (bu (by omega) (by omega)) q <| Ra (I_ (x60 + 1)) q q <| R0 <| bt <| Jc [] [] [] (hE61 (x60 + 1)) (.s2 q q (.cons (A := a8 0) q (.ob q) (.all q))) (.cc q (.box (c9.sames)) q .nil) q q
  intro v25
  refine Jq q <| Rm (am t0) q q <| Rm (I_ t1) q q <| Rm (aj .u8 (cq t0 t1)) q q <| Rc rK tE q q fun b26 => Rc FD Kg q q fun b28 => Ra (I_ b28) q q ?_
  refine R0 <| Jq q <| Ra (I_ 1) q q <| Ra (I_ 20) q q <| R0 <| Js <| Jq q <| Rm (aj .u8 (cq t0 t1)) q q ?_
  refine Rc rK tE q q fun b30 => R0 ?_
  apply ch (fun v37 => ⟨fr [(0, am t0), (1, I_ t1), (4, a8 0), (8, I_ b28), (9, I_ v37.1), (10, I_ v37.2)], hp [(0, .box 151 (cA (cm.mk 0 (ByteArray.mk #[]) 0)))], 1⟩) (fun v37 => nw b28 t0 t1 v37)
  · intro K42
    refine bQ q (fun h32 => ?_) (fun h32 => ?_)
    rotate_left
    · exact ao <| Jc [] [] [] (K42 (1, 20)) (.s2 q q (.cons (A := a8 0) q (.ob q) (.all q))) (.cc q (.box (c9.sames)) q .nil) q q
    exact Jr q <| Ra (I_ 2) q q <| Ra (I_ 9) q q <| R0 <| Jc [] [] [] (K42 (2, 9)) (.s2 q q (.cons (A := a8 0) q (.ob q) (.all q))) (.cc q (.box (c9.sames)) q .nil) q q
  intro v37
  refine Js <| Jq q <| Rm (I_ b28) q q <| Rm (I_ v37.2) q q <| cK q q q <| R0 <| aw q (fun h38 => ?_) (fun h38 => ?_)
  · exact Jq q <| cO (cA (cm.mk 0 (ByteArray.mk #[]) 0)) jB iq .nil q q <| aX (a8 0) (ac (cA (cm.mk 0 (ByteArray.mk #[]) 0))) (cA (cm.mk 0 (ByteArray.mk #[]) 0)) kx q .obj q q q q q q <| Ra (I_ 0) q q <| Ra (I_ 3) q q <| R0 <| Jt hΨ (bG (As := [ac (cA (cm.mk 0 (ByteArray.mk #[]) 0)), I_ 0, I_ 3]) q q (.cons (.boxA (cs := (cA (cm.mk 0 (ByteArray.mk #[]) 0))) kq q q q) (.cons (.tmp (A := I_ 0) q) (.cons (.tmp (A := I_ 3) q) .nil)))) q q
  refine ao <| Jq q <| Rm (I_ v37.1) q q <| Rm (am t0) q q <| Rm (I_ t1) q q <| Rm (I_ t1) q q <| Rm (I_ b28) q q <| aI fun b39 h40 => aR b39 q q (Option.some.inj h40) q ?_
  refine Ri fun h41 => ?_
  exact kw t1 b39 fO q (l5 q) (fU q) h41.1 h41.2.1 h41.2.2 q <| cO (cA (cm.mk v37.1 (bT t0 t1 b39) 0)) jB iq (.cons (A := I_ v37.1) q p8 q (.cons (A := am (bT t0 t1 b39)) q p9 q .nil)) q q <| Rm (I_ b28) q q <| aX (a8 0) (ac (cA (cm.mk v37.1 (bT t0 t1 b39) 0))) (cA (cm.mk v37.1 (bT t0 t1 b39) 0)) kx q .obj q q q q q q <| Ra (I_ b28) q q <| Ra (I_ 0) q q <| R0 <| Jt hΨ (bG (As := [ac (cA (cm.mk v37.1 (bT t0 t1 b39) 0)), I_ b28, I_ 0]) q q (.cons (.boxA (cs := (cA (cm.mk v37.1 (bT t0 t1 b39) 0))) kq q q q) (.cons (.tmp (A := I_ b28) q) (.cons (.tmp (A := I_ 0) q) .nil)))) q q
theorem Lm {t0 r} (hr : xk t0 = some r) : aB PP 112 [ac (cA t0)] (aa r) := by
  refine Fo aa Tryz.func112 q (n := 32) q q hr fun X hΨ => ?_
  refine Jq q <| aV (ac (cA t0)) q q <| Ra (aa false) q q <| R0 <| Jq q <| aK (cA t0) kq q q q q <| Rc Fd KK q q fun b1 => ?_
  refine Ra (am b1) q q <| R0 <| Js <| Jq q <| Rm (am b1) q q <| ip q q q <| R0 <| aw q (fun h3 => ?_) (fun h3 => ?_)
  · exact Jq q <| Ra (aa false) q q <| Rt hΨ q q q
  refine ao <| Jq q <| Rm (am b1) q q <| Rc Fe Ke q q fun b4 => Rm (bk [ac (cA b4.1), I_ b4.2.1, I_ b4.2.2]) q q <| bx (ac (cA b4.1)) q q q <| bx (I_ b4.2.1) q q q <| bx (I_ b4.2.2) q q q ?_
  refine bE 0 _ iq q q <| aX (a8 0) (ac (cA b4.1)) (cA b4.1) kx q .obj q q q q q q <| Ra (I_ b4.2.1) q q <| Ra (I_ b4.2.2) q q <| R0 <| Jq q <| Rm (I_ b4.2.2) q q <| bY q q q <| Rm (aa (decide (b4.2.2 = 0))) q q ?_
  refine aN (fun h6 => ?_) (fun h6 => ?_)
  rotate_left
  · refine cy q (df h6) <| ax (aa false) q (df h6) q q <| Rm (aa false) q q <| cy q q ?_
    exact Kt q q <| ax (aa false) q q q q <| Ra (aa false) q q <| Rt hΨ q q q
  refine Rm (I_ b4.2.1) q (ak q q (dt h6)) <| Rm (am b1) q (ak q q (dt h6)) <| hU gT q (ak q q (dt h6)) <| bY q q (ak q q (dt h6)) <| aH (aa (decide (b4.2.1 = (b1.size : Int)))) q (dt h6) q q <| Rm (aa (decide (b4.2.1 = (b1.size : Int)))) q q <| aN (fun h7 => ?_) (fun h7 => ?_)
  · exact aT (a8 0) 0 p0 q .obj q q (ak q q (dt h7)) <| bg (aO 0 0) (I_ b4.1.Kind) ay q .at q q (ak q q (dt h7)) <| ai (ab t0.Kind) p0 q q (ak q q (dt h7)) <| ag (I_ t0.Kind) ay q q (ak q q (dt h7)) <| bY q q (ak q q (dt h7)) <| aH (aa (decide (b4.1.Kind = t0.Kind))) q (dt h7) q q <| Ra (aa (decide (b4.1.Kind = t0.Kind))) q q <| Rt hΨ q q q
  exact cy q (df h7) <| Kt q (df h7) <| ax (aa false) q (df h7) q q <| Ra (aa false) q q <| Rt hΨ q q q
theorem tN {t0 r} (hr : gP t0 = some r) : aB PP 67 [am t0] (aa r) := by
  refine Fo aa Tryz.func67 q (n := 6) q q hr fun X hΨ => ?_
  refine Jq q <| Ra (aa false) q q <| R0 <| Jq q <| Rm (am t0) q q <| cO (cA (cm.mk 1 t0 0)) jB iq (.cons (A := I_ 1) q p8 q (.cons (A := am t0) q p9 q .nil)) q q <| Rc EK Lm q q fun b1 => ?_
  exact Ra (aa b1) q q <| Rt hΨ q q q
theorem iY {t0 t1 t2 r} (hr : fk t0 t1 t2 = some r) : aB PP 108 [I_ t0, I_ t1, I_ t2] (aa r) := by
  refine Fo aa Tryz.func108 q (n := 15) q q hr fun X hΨ => ?_
  refine Jq q <| Ra (aa false) q q <| R0 <| Jq q <| Rm (I_ t0) q q <| Rm (I_ t1) q q <| cG q q q <| Rm (aa (decide (t1 ≤ t0))) q q ?_
  refine aN (fun h1 => ?_) (fun h1 => ?_)
  · exact Rm (I_ t0) q (ak q q (dt h1)) <| Rm (I_ t2) q (ak q q (dt h1)) <| dK q q (ak q q (dt h1)) <| aH (aa (decide (t0 ≤ t2))) q (dt h1) q q <| Ra (aa (decide (t0 ≤ t2))) q q <| Rt hΨ q q q
  exact c7 q (df h1) <| ax (aa false) q (df h1) q q <| Ra (aa false) q q <| Rt hΨ q q q
theorem LX (q_ref04_attrs : aq → Int → Option (List aW)) (hq_ref04_attrs : ∀ (t0 : aq) (t1 : Int) (r : (List aW)), q_ref04_attrs t0 t1 = some r → aB PP 109 [ac (au t0), I_ t1] (AL 4 aL r)) (t0 : aq) (t1 : Int) (r : (List aW)) (hr : kP q_ref04_attrs t0 t1 = some r) : aB PP 109 [ac (au t0), I_ t1] (AL 4 aL r) := by
  refine Fo (fun r => AL 4 aL r) Tryz.func109 q (n := 24) q q hr fun X hΨ => ?_
  refine Jq q <| aV (ac (au t0)) q q <| Ra (af) q q <| R0 <| Js <| Jq q <| Rm (I_ t1) q q <| aZ q q q ?_
  refine R0 <| aw q (fun h1 => ?_) (fun h1 => ?_)
  · exact Jq q <| Ra (af) q q <| R0 <| dg hΨ (d8 q (.tmp (A := af) q)) (fun y hy => by cases hy; exact .nil)
  refine ao <| Js <| bW <| gF 0 fC q q <| aK (au t0) bN q q q q <| ai ((cL 4 aM) t0.Nodes) dk q q q <| ag (AL 4 aM t0.Nodes) dl q q q <| Rm (I_ t1) q q <| Ri fun h2 => ?_
  refine aQ (cc := aM) ft q q h2.1 h2.2 q <| ai (ab ((nth t0.Nodes t1).Parent)) lq q q q <| ag (I_ ((nth t0.Nodes t1).Parent)) ay q q q <| aI fun b3 h4 => dv _ vJ (hq_ref04_attrs _ _ _ h4) q q <| Ri fun h5 => ?_
  refine gH (cc := aL) (ys := b3) 1 r9 q q q h5 q q q <| ai ((cL 4 aM) t0.Nodes) dk q q q <| ag (AL 4 aM t0.Nodes) dl q q q <| Rm (I_ t1) q q <| aQ (cc := aM) ft q q h2.1 h2.2 q <| ai ((cL 4 aL) ((nth t0.Nodes t1).Attrs)) kA q q q <| ag (AL 4 aL ((nth t0.Nodes t1).Attrs)) me q q q <| Ri fun h6 => ?_
  exact dx (cc := aL) (xs := b3) (ys := (nth t0.Nodes t1).Attrs) 2 r9 q q q h6 q q q <| Ra (a8 2) q q <| bK (by kernel_rfl) <| dg hΨ (d8 q (.tmp (A := a8 2) q)) (fun y hy => by cases hy; exact (.frow q q (ah.flat _ _)))
theorem Mk : ∀ n, (∀ (t0 : aq) (t1 : Int) (r : (List aW)), (fL n) t0 t1 = some r → aB PP 109 [ac (au t0), I_ t1] (AL 4 aL r)) := by
  intro n
  induction n with
  | zero => exact (fun _ _ _ h => by cases h)
  | succ n ih => exact (fun a0 a1 r h => LX _ ih a0 a1 r h)
theorem D5 {t0 t1 r} (hr : nh t0 t1 = some r) : aB PP 109 [ac (au t0), I_ t1] (AL 4 aL r) := by
  obtain ⟨n, hn⟩ := iS hr
  exact (Mk n) t0 t1 r hn
theorem Lp {t0 r} (hr : pj t0 = some r) : aB PP 160 [AL 1 bq t0] (I_ r) := by
  refine Fo I_ Tryz.func160 q (n := 34) q q hr fun X hΨ => ?_
  refine Jq q <| Ra (I_ 0) q q <| R0 <| Js <| Jq q <| Rm (AL 1 bq t0) q q <| aD (cc := bq) iM q q <| cK q q q ?_
  refine R0 <| aw q (fun h1 => ?_) (fun h1 => ?_)
  · exact Jq q <| Ra (I_ 3) q q <| Rt hΨ q q q
  refine ao <| Js <| Jq q <| Ra (I_ 0) q q <| R0 <| aC <| Jl (fun x2 => [(0, AL 1 bq t0), (3, I_ x2), (6, I_ (t0.length : Int))]) (.all q) (fun E3 hE3 x2 => ?_)
  refine Js <| Jq q <| Rm (I_ x2) q q <| Rm (AL 1 bq t0) q q <| aD (cc := bq) iM q q <| aZ q q q <| R0 <| aw q (fun h17 => ?_) (fun h17 => ?_)
  rotate_left
  · exact br q <| bO <| Jq q <| Ra (I_ 0) q q <| Rt hΨ q q q
  refine ao <| Js <| aC <| Js <| Jq q <| Rm (AL 1 bq t0) q q <| Rm (I_ x2) q q <| Ri fun h18 => ?_
  refine aQ (cc := bq) fD q q h18.1 h18.2 q <| ag (am (nth t0 x2)) dp q q q <| Rc ri tN q q fun b19 => cd q q <| R0 <| bQ q (fun h21 => ?_) (fun h21 => ?_)
  · exact Jq q <| Ra (I_ 2) q q <| Ro hΨ q q q
  refine ao <| Jq q <| Ra (I_ 0) q q <| R0 <| aC <| Jl (fun x22 => [(0, AL 1 bq t0), (3, I_ x2), (4, I_ x22), (6, I_ (t0.length : Int))]) (.all q) (fun E23 hE23 x22 => ?_)
  refine Js <| Jq q <| Rm (I_ x22) q q <| Rm (I_ x2) q q <| aZ q q q <| R0 <| aw q (fun h27 => ?_) (fun h27 => ?_)
  rotate_left
  · refine br q <| bO <| bn <| aG 6 (m := (t0.length : Int)) q fun q32 => aG 3 (m := x2) q fun q33 => Jr q <| Rm (I_ x2) q q <| aR (x2 + 1) q q (bu (by omega) (by omega)) q <| Ra (I_ (x2 + 1)) q q <| R0 ?_
    exact bt <| Jk (hE3 (x2 + 1)) (.all q)
  refine ao <| Js <| aC <| Js <| bW <| Rm (AL 1 bq t0) q q <| Rm (I_ x22) q q <| Ri fun h28 => ?_
  refine aQ (cc := bq) fD q q h28.1 h28.2 q <| ag (am (nth t0 x22)) dp q q q <| Rm (AL 1 bq t0) q q <| Rm (I_ x2) q q <| aQ (cc := bq) fD q q h18.1 h18.2 q <| ag (am (nth t0 x2)) dp q q q <| ip q q q <| bK (by kernel_rfl) <| aw q (fun h29 => ?_) (fun h29 => ?_)
  · exact Jq q <| Ra (I_ 5) q q <| R0 <| bO <| Jo hΨ q q q
  exact ao <| bn <| aG 3 (m := x2) q fun q30 => aG 4 (m := x22) q fun q31 => Jr q <| Rm (I_ x22) q q <| aR (x22 + 1) q q (bu (by omega) (by omega)) q <| Ra (I_ (x22 + 1)) q q <| R0 <| bt <| Jk (hE23 (x22 + 1)) (.all q)
theorem Mo {t0 r} (hr : ic t0 = some r) : aB PP 110 [ac (aL t0)] (I_ r) := by
  refine Fo I_ Tryz.func110 q (n := 38) q q hr fun X hΨ => ?_
  refine Jq q <| aV (ac (aL t0)) q q <| Ra (I_ 0) q q <| R0 <| Js <| Jq q <| ai ((cL 1 bq) t0.Names) iV q q q <| ag (AL 1 bq t0.Names) kn q q q ?_
  refine aD (cc := bq) iM q q <| bY q q q <| R0 <| aw q (fun h1 => ?_) (fun h1 => ?_)
  · refine Js <| Jq q <| ai (ab t0.Low) mI q q q <| ag (I_ t0.Low) ay q q q <| Rc iR iY q q fun b2 => cd q q <| Rm (aa (!b2)) q q <| aN (fun h4 => ?_) (fun h4 => ?_)
    · refine cx q h4 <| e9 q h4 <| aH (aa true) q h4 q q <| R0 <| cJ q q <| Js ?_
      exact Jr q <| Ra (I_ 6) q q <| Rt hΨ q q q
    refine ai (ab t0.High) oX q q (an q q (bf h4)) <| ag (I_ t0.High) ay q q (an q q (bf h4)) <| ai (ab t0.Low) mI q q (an q q (bf h4)) <| ag (I_ t0.Low) ay q q (an q q (bf h4)) <| Rc iR iY q (an q q (bf h4)) fun b5 => cd q (an q q (bf h4)) <| ax (aa (!b5)) q (bf h4) q q <| R0 <| bQ q (fun h7 => ?_) (fun h7 => ?_)
    · exact Jq q <| Ra (I_ 6) q q <| Rt hΨ q q q
    exact ao <| Jq q <| Ra (I_ 0) q q <| Rt hΨ q q q
  refine ao <| Js <| Jq q <| ai ((cL 1 bq) t0.Names) iV q q q <| ag (AL 1 bq t0.Names) kn q q q <| Rc Fc Lp q q fun b8 => Ra (I_ b8) q q <| R0 ?_
  refine Jq q <| Rm (I_ b8) q q <| bP q q q <| R0 <| aw q (fun h10 => ?_) (fun h10 => ?_)
  · exact Jq q <| Rm (I_ b8) q q <| Ra (I_ b8) q q <| Rt hΨ q q q
  refine ao <| Js <| Js <| aG 6 (m := (t0.Names.length : Int)) q fun q12 => Jr q <| ai (ab t0.Low) mI q q q <| ag (I_ t0.Low) ay q q q <| bP q q q <| Rm (aa (decide (¬ (t0.Low = 0)))) q q <| aN (fun h11 => ?_) (fun h11 => ?_)
  · refine cx q (dt h11) <| dU q (dt h11) <| aH (aa true) q (dt h11) q q <| R0 <| cJ q q ?_
    exact Jq q <| Ra (I_ 6) q q <| Rt hΨ q q q
  refine ai (ab t0.High) oX q q (an q q (df h11)) <| ag (I_ t0.High) ay q q (an q q (df h11)) <| ai ((cL 1 bq) t0.Names) iV q q (an q q (df h11)) <| ag (AL 1 bq t0.Names) kn q q (an q q (df h11)) <| aD (cc := bq) iM q (an q q (df h11)) <| dq ((t0.Names.length : Int) - 1) q q (bu (by omega) (by omega)) (an q q (df h11)) <| bP q q (an q q (df h11)) <| ax (aa (decide (¬ (t0.High = (t0.Names.length : Int) - 1)))) q (df h11) q q <| R0 <| aw q (fun h13 => ?_) (fun h13 => ?_)
  · exact Jq q <| Ra (I_ 6) q q <| Rt hΨ q q q
  exact ao <| Jq q <| Ra (I_ 0) q q <| Rt hΨ q q q
theorem KP {t0 t1 r} (hr : mW t0 t1 = some r) : aB PP 65 [ac (au t0), I_ t1] (I_ r) := by
  refine Fo I_ Tryz.func65 q (n := 95) q q hr fun X hΨ => ?_
  refine Jq q <| aV (ac (au t0)) q q <| Ra (I_ 0) q q <| R0 <| Jq q <| ai ((cL 4 aM) t0.Nodes) dk q q q <| ag (AL 4 aM t0.Nodes) dl q q q <| Rm (I_ t1) q q ?_
  refine Ri fun h1 => ?_
  refine aQ (cc := aM) ft q q h1.1 h1.2 q <| aK (aM (nth t0.Nodes t1)) ou q q q q <| bE 0 _ jl q q <| aX (a8 0) (ac (aM (nth t0.Nodes t1))) (aM (nth t0.Nodes t1)) ry q .obj q q q q q q <| R0 <| Js <| Jq q <| aT (a8 0) 0 kz q .obj q q q <| bg (aO 0 0) (am ((nth t0.Nodes t1).Name)) dp q .at q q q ?_
  refine Rc ri tN q q fun b2 => cd q q <| R0 <| bQ q (fun h4 => ?_) (fun h4 => ?_)
  · exact Jq q <| Ra (I_ 2) q q <| Rt hΨ q q q
  refine ao <| Js <| Jq q <| Ra (I_ 0) q q <| R0 <| aC <| Jn (fun x5 => ⟨fr [(1, I_ t1), (2, ap (au t0)), (5, a8 0), (6, I_ x5)], hp [(0, .box 97 (aM (nth t0.Nodes t1)))], 1⟩) [] [] [] q (.s2 q q (.cons (A := a8 0) q (.ob q) (.all q))) (.cc q (.box (c9.sames)) q .nil) q q (fun E6 hE6 x5 => ?_)
  refine Js <| Jq q <| Rm (I_ x5) q q <| Rm (I_ t1) q q <| aZ q q q <| R0 <| aw q (fun h10 => ?_) (fun h10 => ?_)
  · refine ao <| Js <| aC <| Js <| bW <| ai ((cL 4 aM) t0.Nodes) dk q q q <| ag (AL 4 aM t0.Nodes) dl q q q <| Rm (I_ x5) q q <| Ri fun h11 => ?_
    refine aQ (cc := aM) ft q q h11.1 h11.2 q <| ai (bq ((nth t0.Nodes x5).Name)) kz q q q <| ag (am ((nth t0.Nodes x5).Name)) dp q q q <| aT (a8 0) 0 kz q .obj q q q <| bg (aO 0 0) (am ((nth t0.Nodes t1).Name)) dp q .at q q q <| ip q q q <| bK (by kernel_rfl) <| aw q (fun h12 => ?_) (fun h12 => ?_)
    · exact Jq q <| Ra (I_ 5) q q <| Ro hΨ q q q
    exact ao <| bn <| aG 1 (m := t1) q fun q13 => aG 6 (m := x5) q fun q14 => Jr q <| Rm (I_ x5) q q <| aR (x5 + 1) q q (bu (by omega) (by omega)) q <| Ra (I_ (x5 + 1)) q q <| R0 <| bt <| Jc [] [] [] (hE6 (x5 + 1)) (.s2 q q (.cons (A := a8 0) q (.ob q) (.all q))) (.cc q (.box (c9.sames)) q .nil) q q
  refine br q <| du <| Js <| Jq q <| aT (a8 0) 1 lq q .obj q q q <| bg (aO 0 1) (I_ ((nth t0.Nodes t1).Parent)) ay q .at q q q <| Rm (I_ t1) q q <| aI fun b15 h16 => dq b15 q q (Option.some.inj h16) q ?_
  refine Rc iR iY q q fun b17 => cd q q <| R0 <| bQ q (fun h19 => ?_) (fun h19 => ?_)
  · exact Jq q <| Ra (I_ 6) q q <| Rt hΨ q q q
  refine ao <| Jq q <| aK (au t0) bN q q q q <| Rm (I_ t1) q q <| Rc vJ D5 q q fun b20 => Ra (AL 4 aL b20) q q <| R0 <| Js ?_
  refine Jq q <| aT (a8 0) 3 kA q .obj q q q <| bg (aO 0 3) (AL 4 aL ((nth t0.Nodes t1).Attrs)) me q .at q q q <| aD (cc := aL) fv q q <| cK q q q <| Rm (aa (decide (4 < (((nth t0.Nodes t1).Attrs).length : Int)))) q q <| aN (fun h22 => ?_) (fun h22 => ?_)
  · refine dU q (dt h22) <| aH (aa true) q (dt h22) q q <| R0 <| cJ q q <| Jq q <| Ra (I_ 3) q q <| R0 ?_
    exact eV hΨ q q q
  refine Rm (AL 4 aL b20) q (an q q (df h22)) <| aD (cc := aL) fv q (an q q (df h22)) <| cK q q (an q q (df h22)) <| ax (aa (decide (8 < (b20.length : Int)))) q (df h22) q q <| R0 <| aw q (fun h23 => ?_) (fun h23 => ?_)
  · exact Jq q <| Ra (I_ 3) q q <| Rt hΨ q q q
  refine ao <| Js <| Jq q <| Rm (AL 4 aL b20) q q <| aD (cc := aL) fv q q <| aT (a8 0) 3 kA q .obj q q q <| bg (aO 0 3) (AL 4 aL ((nth t0.Nodes t1).Attrs)) me q .at q q q <| aD (cc := aL) fv q q <| aI fun b24 h25 => ?_
  refine dq b24 q q (Option.some.inj h25) q <| Ra (I_ b24) q q <| R0 <| aC <| Jn (fun x26 => ⟨fr [(1, I_ t1), (6, I_ x5), (7, AL 4 aL b20), (8, I_ x26), (49, I_ (b20.length : Int))], hp [], 0⟩) [] [] [] q (.all q) .nil q q (fun E27 hE27 x26 => ?_)
  refine Js <| Jq q <| Rm (I_ x26) q q <| Rm (AL 4 aL b20) q q <| aD (cc := aL) fv q q <| aZ q q q <| R0 <| aw q (fun h48 => ?_) (fun h48 => ?_)
  rotate_left
  · exact br q <| bO <| Jq q <| Ra (I_ 0) q q <| Rt hΨ q q q
  refine ao <| Js <| aC <| Js <| Jq q <| Rm (AL 4 aL b20) q q <| Rm (I_ x26) q q <| Ri fun h49 => ?_
  refine aQ (cc := aL) fC q q h49.1 h49.2 q <| ai (bq ((nth b20 x26).Name)) mH q q q <| ag (am ((nth b20 x26).Name)) dp q q q <| Rc ri tN q q fun b50 => cd q q <| R0 <| bQ q (fun h52 => ?_) (fun h52 => ?_)
  · exact Jq q <| Ra (I_ 2) q q <| Ro hΨ q q q
  refine ao <| Js <| Jq q <| Ra (I_ 0) q q <| R0 <| aC <| Jn (fun x53 => ⟨fr [(1, I_ t1), (6, I_ x5), (7, AL 4 aL b20), (8, I_ x26), (9, I_ x53), (49, I_ (b20.length : Int))], hp [], 0⟩) [] [] [] q (.all q) .nil q q (fun E54 hE54 x53 => ?_)
  refine Js <| Jq q <| Rm (I_ x53) q q <| Rm (I_ x26) q q <| aZ q q q <| R0 <| aw q (fun h58 => ?_) (fun h58 => ?_)
  rotate_left
  · refine br q <| du <| Jq q <| Rm (AL 4 aL b20) q q <| Rm (I_ x26) q q <| aQ (cc := aL) fC q q h49.1 h49.2 q <| aK (aL (nth b20 x26)) jx q q q q <| Rc EJ Mo q q fun b63 => ?_
    refine Ra (I_ b63) q q <| R0 <| Jq q <| Rm (I_ b63) q q <| bP q q q <| R0 <| aw q (fun h65 => ?_) (fun h65 => ?_)
    · exact Jq q <| Rm (I_ b63) q q <| Ra (I_ b63) q q <| Ro hΨ q q q
    exact ao <| bn <| aG 49 (m := (b20.length : Int)) q fun q66 => aG 8 (m := x26) q fun q67 => Jr q <| Rm (I_ x26) q q <| aR (x26 + 1) q q (bu (by omega) (by omega)) q <| Ra (I_ (x26 + 1)) q q <| R0 <| bt <| Jc [] [] [] (hE27 (x26 + 1)) (.all q) .nil q q
  refine ao <| Js <| aC <| Js <| bW <| Rm (AL 4 aL b20) q q <| Rm (I_ x53) q q <| Ri fun h59 => ?_
  refine aQ (cc := aL) fC q q h59.1 h59.2 q <| ai (bq ((nth b20 x53).Name)) mH q q q <| ag (am ((nth b20 x53).Name)) dp q q q <| Rm (AL 4 aL b20) q q <| Rm (I_ x26) q q <| aQ (cc := aL) fC q q h49.1 h49.2 q <| ai (bq ((nth b20 x26).Name)) mH q q q <| ag (am ((nth b20 x26).Name)) dp q q q <| ip q q q <| bK (by kernel_rfl) ?_
  refine aw q (fun h60 => ?_) (fun h60 => ?_)
  · exact Jq q <| Ra (I_ 5) q q <| R0 <| bO <| Jo hΨ q q q
  exact ao <| bn <| aG 8 (m := x26) q fun q61 => aG 9 (m := x53) q fun q62 => Jr q <| Rm (I_ x53) q q <| aR (x53 + 1) q q (bu (by omega) (by omega)) q <| Ra (I_ (x53 + 1)) q q <| R0 <| bt <| Jc [] [] [] (hE54 (x53 + 1)) (.all q) .nil q q
theorem D6 {t0 t1 r} (hr : j6 t0 t1 = some r) : aB PP 111 [I_ t0, I_ t1] (aa r) := by
  refine Fo aa Tryz.func111 q (n := 16) q q hr fun X hΨ => ?_
  refine Jq q <| Ra (aa false) q q <| R0 <| Jq q <| Rm (I_ t0) q q <| Rc iR iY q q fun b1 => Rm (aa b1) q q ?_
  refine aN (fun h3 => ?_) (fun h3 => ?_)
  rotate_left
  · refine c7 q (bf h3) <| Rk (bC q q) <| Rk (bC q q) <| Rk (bC q q) <| Kt q (bf h3) <| ax (aa false) q (bf h3) q q <| Ra (aa false) q q <| R0 ?_
    exact eV hΨ q q q
  refine Rm (I_ t1) q (ak q q h3) <| bY q q (ak q q h3) <| Rm (aa (decide (t1 = (-1)))) q (ak q q h3) <| aN (fun h4 => ?_) (fun h4 => ?_)
  · exact dU q (dt h4) <| aH (aa true) q (dt h4) q (ak q q h3) <| aH (aa true) q h3 q q <| Ra (aa true) q q <| Rt hΨ q q q
  exact Rm (I_ t1) q (an q q (df h4)) <| Rm (I_ t0) q (an q q (df h4)) <| Rc iR iY q (an q q (df h4)) fun b5 => ax (aa b5) q (df h4) q (ak q q h3) <| aH (aa b5) q h3 q q <| Ra (aa b5) q q <| Rt hΨ q q q
theorem KO {t0 t1 r} (hr : mV t0 t1 = some r) : aB PP 66 [ac (au t0), I_ t1] (I_ r) := by
  refine Fo I_ Tryz.func66 q (n := 63) q q hr fun X hΨ => ?_
  refine Jq q <| aV (ac (au t0)) q q <| Ra (I_ 0) q q <| R0 <| Jq q <| ai ((cL 7 aY) t0.Edges) dL q q q <| ag (AL 7 aY t0.Edges) dO q q q <| Rm (I_ t1) q q ?_
  refine Ri fun h1 => ?_
  refine aQ (cc := aY) fX q q h1.1 h1.2 q <| aK (aY (nth t0.Edges t1)) rB q q q q <| bE 0 _ mf q q <| aX (a8 0) (ac (aY (nth t0.Edges t1))) (aY (nth t0.Edges t1)) vW q .obj q q q q q q <| R0 <| Js <| Jq q <| aT (a8 0) 0 kD q .obj q q q <| bg (aO 0 0) (am ((nth t0.Edges t1).Name)) dp q .at q q q ?_
  refine Rc ri tN q q fun b2 => cd q q <| R0 <| bQ q (fun h4 => ?_) (fun h4 => ?_)
  · exact Jq q <| Ra (I_ 2) q q <| Rt hΨ q q q
  refine ao <| Js <| Jq q <| Ra (I_ 0) q q <| R0 <| aC <| Jn (fun x5 => ⟨fr [(1, I_ t1), (2, ap (au t0)), (5, a8 0), (6, I_ x5)], hp [(0, .box 102 (aY (nth t0.Edges t1)))], 1⟩) [] [] [] q (.s2 q q (.cons (A := a8 0) q (.ob q) (.all q))) (.cc q (.box (c9.sames)) q .nil) q q (fun E6 hE6 x5 => ?_)
  refine Js <| Jq q <| Rm (I_ x5) q q <| Rm (I_ t1) q q <| aZ q q q <| R0 <| aw q (fun h10 => ?_) (fun h10 => ?_)
  · refine ao <| Js <| aC <| Js <| bW <| ai ((cL 7 aY) t0.Edges) dL q q q <| ag (AL 7 aY t0.Edges) dO q q q <| Rm (I_ x5) q q <| Ri fun h11 => ?_
    refine aQ (cc := aY) fX q q h11.1 h11.2 q <| ai (bq ((nth t0.Edges x5).Name)) kD q q q <| ag (am ((nth t0.Edges x5).Name)) dp q q q <| aT (a8 0) 0 kD q .obj q q q <| bg (aO 0 0) (am ((nth t0.Edges t1).Name)) dp q .at q q q <| ip q q q <| bK (by kernel_rfl) <| aw q (fun h12 => ?_) (fun h12 => ?_)
    · exact Jq q <| Ra (I_ 5) q q <| Ro hΨ q q q
    exact ao <| bn <| aG 1 (m := t1) q fun q13 => aG 6 (m := x5) q fun q14 => Jr q <| Rm (I_ x5) q q <| aR (x5 + 1) q q (bu (by omega) (by omega)) q <| Ra (I_ (x5 + 1)) q q <| R0 <| bt <| Jc [] [] [] (hE6 (x5 + 1)) (.s2 q q (.cons (A := a8 0) q (.ob q) (.all q))) (.cc q (.box (c9.sames)) q .nil) q q
  refine br q <| du <| Jq q <| ai ((cL 4 aM) t0.Nodes) dk q q q <| ag (AL 4 aM t0.Nodes) dl q q q <| aD (cc := aM) ef q q <| aI fun b15 h16 => dq b15 q q (Option.some.inj h16) q <| Ra (I_ b15) q q ?_
  refine R0 <| Js <| Jq q <| aT (a8 0) 1 oY q .obj q q q <| bg (aO 0 1) (I_ ((nth t0.Edges t1).From)) ay q .at q q q <| Rm (I_ b15) q q <| Rc iR iY q q fun b17 => cd q q ?_
  refine Rm (aa (!b17)) q q <| aN (fun h19 => ?_) (fun h19 => ?_)
  · refine cx q h19 <| Kf q h19 <| aH (aa true) q h19 q q <| Rm (aa true) q q <| dU q q ?_
    refine dU q q <| aH (aa true) q q q q <| Rm (aa true) q q <| cx q q <| Kf q q ?_
    exact Kf q q <| aH (aa true) q q q q <| R0 <| cJ q q <| Jq q <| Ra (I_ 6) q q <| Rt hΨ q q q
  refine aT (a8 0) 2 oZ q .obj q q (an q q (bf h19)) <| bg (aO 0 2) (I_ ((nth t0.Edges t1).To)) ay q .at q q (an q q (bf h19)) <| Rm (I_ b15) q (an q q (bf h19)) <| Rc iR iY q (an q q (bf h19)) fun b20 => cd q (an q q (bf h19)) <| ax (aa (!b20)) q (bf h19) q q <| Rm (aa (!b20)) q q <| aN (fun h22 => ?_) (fun h22 => ?_)
  · refine cx q h22 <| e9 q h22 <| aH (aa true) q h22 q q <| Rm (aa true) q q <| e9 q q ?_
    refine cx q q <| aH (aa true) q q q q <| R0 <| cJ q q <| Jq q <| Ra (I_ 6) q q ?_
    exact Rt hΨ q q q
  refine aT (a8 0) 3 BB q .obj q q (an q q (bf h22)) <| bg (aO 0 3) (I_ ((nth t0.Edges t1).OutLow)) ay q .at q q (an q q (bf h22)) <| aT (a8 0) 4 BC q .obj q q (an q q (bf h22)) <| bg (aO 0 4) (I_ ((nth t0.Edges t1).OutHigh)) ay q .at q q (an q q (bf h22)) <| Rc Ag D6 q (an q q (bf h22)) fun b23 => cd q (an q q (bf h22)) <| ax (aa (!b23)) q (bf h22) q q <| Rm (aa (!b23)) q q <| aN (fun h25 => ?_) (fun h25 => ?_)
  · refine cx q h25 <| e9 q h25 <| aH (aa true) q h25 q q <| R0 <| cJ q q <| Js ?_
    exact Jr q <| Ra (I_ 6) q q <| Rt hΨ q q q
  refine aT (a8 0) 5 BD q .obj q q (an q q (bf h25)) <| bg (aO 0 5) (I_ ((nth t0.Edges t1).InLow)) ay q .at q q (an q q (bf h25)) <| aT (a8 0) 6 BE q .obj q q (an q q (bf h25)) <| bg (aO 0 6) (I_ ((nth t0.Edges t1).InHigh)) ay q .at q q (an q q (bf h25)) <| Rc Ag D6 q (an q q (bf h25)) fun b26 => cd q (an q q (bf h25)) <| ax (aa (!b26)) q (bf h25) q q <| R0 <| bQ q (fun h28 => ?_) (fun h28 => ?_)
  · exact Jq q <| Ra (I_ 6) q q <| Rt hΨ q q q
  exact ao <| Jq q <| Ra (I_ 0) q q <| Rt hΨ q q q
theorem Lo {t0 r} (hr : iD t0 = some r) : aB PP 33 [ac (au t0)] (bk [am r.1, I_ r.2]) := by
  refine Fo (fun (r : ByteArray × Int) => bk [am r.1, I_ r.2]) Tryz.func33 q (n := 60) q q hr fun X hΨ => ?_
  refine Jq q <| aV (ac (au t0)) q q <| Ra (am (ByteArray.mk #[])) q q <| Ra (I_ 0) q q <| R0 <| Js <| Jq q <| ai ((cL 4 aM) t0.Nodes) dk q q q ?_
  refine ag (AL 4 aM t0.Nodes) dl q q q <| aD (cc := aM) ef q q <| bY q q q <| R0 <| aw q (fun h1 => ?_) (fun h1 => ?_)
  · exact Jq q <| Ra (am (ByteArray.mk #[])) q q <| Ra (I_ 7) q q <| R0 <| Jt hΨ (bG (As := [am (ByteArray.mk #[]), I_ 7]) q q (.cons (.tmp (A := am (ByteArray.mk #[])) q) (.cons (.tmp (A := I_ 7) q) .nil))) q q
  refine ao <| Js <| Jq q <| ai ((cL 4 aM) t0.Nodes) dk q q q <| ag (AL 4 aM t0.Nodes) dl q q q <| aD (cc := aM) ef q q <| cK q q q <| Rm (aa (decide (12 < (t0.Nodes.length : Int)))) q q <| aN (fun h2 => ?_) (fun h2 => ?_)
  · refine cx q (dt h2) <| aH (aa true) q (dt h2) q q <| R0 <| cJ q q <| Jq q <| Ra (am (ByteArray.mk #[])) q q ?_
    exact Ra (I_ 3) q q <| R0 <| Jt hΨ (bG (As := [am (ByteArray.mk #[]), I_ 3]) q q (.cons (.tmp (A := am (ByteArray.mk #[])) q) (.cons (.tmp (A := I_ 3) q) .nil))) q q
  refine ai ((cL 7 aY) t0.Edges) dL q q (an q q (df h2)) <| ag (AL 7 aY t0.Edges) dO q q (an q q (df h2)) <| aD (cc := aY) fe q (an q q (df h2)) <| cK q q (an q q (df h2)) <| ax (aa (decide (20 < (t0.Edges.length : Int)))) q (df h2) q q <| R0 <| aw q (fun h3 => ?_) (fun h3 => ?_)
  · exact Jq q <| Ra (am (ByteArray.mk #[])) q q <| Ra (I_ 3) q q <| R0 <| Jt hΨ (bG (As := [am (ByteArray.mk #[]), I_ 3]) q q (.cons (.tmp (A := am (ByteArray.mk #[])) q) (.cons (.tmp (A := I_ 3) q) .nil))) q q
  refine ao <| Js <| Jq q <| Ra (I_ 0) q q <| R0 <| aC <| Jl (fun x4 => [(1, ap (au t0)), (4, I_ x4), (10, I_ (t0.Nodes.length : Int)), (19, I_ (t0.Edges.length : Int))]) (.all q) (fun E5 hE5 x4 => ?_)
  refine Js <| Jq q <| Rm (I_ x4) q q <| ai ((cL 4 aM) t0.Nodes) dk q q q <| ag (AL 4 aM t0.Nodes) dl q q q <| aD (cc := aM) ef q q <| aZ q q q <| R0 <| aw q (fun h11 => ?_) (fun h11 => ?_)
  · refine ao <| Js <| aC <| Jq q <| aK (au t0) bN q q q q <| Rm (I_ x4) q q <| Rc fn_65 KP q q fun b12 => Ra (I_ b12) q q ?_
    refine R0 <| Jq q <| Rm (I_ b12) q q <| bP q q q <| R0 <| aw q (fun h14 => ?_) (fun h14 => ?_)
    rotate_left
    · exact ao <| bn <| aG 10 (m := (t0.Nodes.length : Int)) q fun q16 => aG 4 (m := x4) q fun q17 => Jr q <| Rm (I_ x4) q q <| aR (x4 + 1) q q (bu (by omega) (by omega)) q <| Ra (I_ (x4 + 1)) q q <| R0 <| bt <| Jk (hE5 (x4 + 1)) (.all q)
    refine Jq q <| ai ((cL 4 aM) t0.Nodes) dk q q q <| ag (AL 4 aM t0.Nodes) dl q q q <| Rm (I_ x4) q q <| Ri fun h15 => ?_
    exact aQ (cc := aM) ft q q h15.1 h15.2 q <| ai (bq ((nth t0.Nodes x4).Name)) kz q q q <| ag (am ((nth t0.Nodes x4).Name)) dp q q q <| Rm (I_ b12) q q <| Ra (am ((nth t0.Nodes x4).Name)) q q <| Ra (I_ b12) q q <| R0 <| bO <| Jt hΨ (bG (As := [am ((nth t0.Nodes x4).Name), I_ b12]) q q (.cons (.tmp (A := am ((nth t0.Nodes x4).Name)) q) (.cons (.tmp (A := I_ b12) q) .nil))) q q
  refine br q <| du <| Js <| Jq q <| Ra (I_ 0) q q <| R0 <| aC <| Jl (fun x18 => [(1, ap (au t0)), (4, I_ x4), (6, I_ x18), (10, I_ (t0.Nodes.length : Int)), (19, I_ (t0.Edges.length : Int))]) (.all q) (fun E19 hE19 x18 => ?_)
  refine Js <| Jq q <| Rm (I_ x18) q q <| ai ((cL 7 aY) t0.Edges) dL q q q <| ag (AL 7 aY t0.Edges) dO q q q <| aD (cc := aY) fe q q <| aZ q q q <| R0 <| aw q (fun h25 => ?_) (fun h25 => ?_)
  rotate_left
  · exact br q <| bO <| Jq q <| Ra (am (ByteArray.mk #[])) q q <| Ra (I_ 0) q q <| R0 <| Jt hΨ (bG (As := [am (ByteArray.mk #[]), I_ 0]) q q (.cons (.tmp (A := am (ByteArray.mk #[])) q) (.cons (.tmp (A := I_ 0) q) .nil))) q q
  refine ao <| Js <| aC <| Jq q <| aK (au t0) bN q q q q <| Rm (I_ x18) q q <| Rc fn_66 KO q q fun b26 => Ra (I_ b26) q q ?_
  refine R0 <| Jq q <| Rm (I_ b26) q q <| bP q q q <| R0 <| aw q (fun h28 => ?_) (fun h28 => ?_)
  rotate_left
  · exact ao <| bn <| aG 19 (m := (t0.Edges.length : Int)) q fun q30 => aG 6 (m := x18) q fun q31 => Jr q <| Rm (I_ x18) q q <| aR (x18 + 1) q q (bu (by omega) (by omega)) q <| Ra (I_ (x18 + 1)) q q <| R0 <| bt <| Jk (hE19 (x18 + 1)) (.all q)
  refine Jq q <| ai ((cL 7 aY) t0.Edges) dL q q q <| ag (AL 7 aY t0.Edges) dO q q q <| Rm (I_ x18) q q <| Ri fun h29 => ?_
  exact aQ (cc := aY) fX q q h29.1 h29.2 q <| ai (bq ((nth t0.Edges x18).Name)) kD q q q <| ag (am ((nth t0.Edges x18).Name)) dp q q q <| Rm (I_ b26) q q <| Ra (am ((nth t0.Edges x18).Name)) q q <| Ra (I_ b26) q q <| R0 <| bO <| Jt hΨ (bG (As := [am ((nth t0.Edges x18).Name), I_ b26]) q q (.cons (.tmp (A := am ((nth t0.Edges x18).Name)) q) (.cons (.tmp (A := I_ b26) q) .nil))) q q
theorem CW {t0 r} (hr : pg t0 = some r) : aB PP 140 [I_ t0] (aa r) := by
  refine Fo aa Tryz.func140 q (n := 9) q q hr fun X hΨ => ?_
  refine Jq q <| Ra (aa false) q q <| R0 <| Jq q <| Rm (I_ t0) q q <| cG q q q <| Rm (aa (decide (0 ≤ t0))) q q <| aN (fun h1 => ?_) (fun h1 => ?_)
  · exact Rm (I_ t0) q (ak q q (dt h1)) <| dK q q (ak q q (dt h1)) <| aH (aa (decide (t0 ≤ 99))) q (dt h1) q q <| Ra (aa (decide (t0 ≤ 99))) q q <| Rt hΨ q q q
  exact da q (df h1) <| ax (aa false) q (df h1) q q <| Ra (aa false) q q <| Rt hΨ q q q
theorem Lq {t0 t1 r} (hr : sX t0 t1 = some r) : aB PP 141 [ac (av t0), I_ t1] (aa r) := by
  refine Fo aa Tryz.func141 q (n := 30) q q hr fun X hΨ => ?_
  refine Jq q <| aV (ac (av t0)) q q <| Ra (aa false) q q <| R0 <| Jq q <| ai (ab t0.Type_) i7 q q q <| ag (I_ t0.Type_) ay q q q <| aI fun b1 h2 => ?_
  refine dv _ Ai (CW h2) q q <| Rm (aa b1) q q <| aN (fun h3 => ?_) (fun h3 => ?_)
  rotate_left
  · refine c7 q (bf h3) <| ax (aa false) q (bf h3) q q <| Rm (aa false) q q <| cy q q <| ax (aa false) q q q q ?_
    refine Rm (aa false) q q <| c7 q q <| ax (aa false) q q q q <| Rm (aa false) q q <| cy q q ?_
    exact ax (aa false) q q q q <| Ra (aa false) q q <| Rt hΨ q q q
  refine ai (ab t0.From) gm q q (ak q q h3) <| ag (I_ t0.From) ay q q (ak q q h3) <| cG q q (ak q q h3) <| aH (aa (decide (0 ≤ t0.From))) q h3 q q <| Rm (aa (decide (0 ≤ t0.From))) q q <| aN (fun h4 => ?_) (fun h4 => ?_)
  rotate_left
  · refine cy q (df h4) <| ax (aa false) q (df h4) q q <| Rm (aa false) q q <| c7 q q <| ax (aa false) q q q q ?_
    exact Rm (aa false) q q <| cy q q <| ax (aa false) q q q q <| Ra (aa false) q q <| Rt hΨ q q q
  refine ai (ab t0.From) gm q q (ak q q (dt h4)) <| ag (I_ t0.From) ay q q (ak q q (dt h4)) <| Rm (I_ t1) q (ak q q (dt h4)) <| aZ q q (ak q q (dt h4)) <| aH (aa (decide (t0.From < t1))) q (dt h4) q q <| Rm (aa (decide (t0.From < t1))) q q <| aN (fun h5 => ?_) (fun h5 => ?_)
  rotate_left
  · refine c7 q (df h5) <| ax (aa false) q (df h5) q q <| Rm (aa false) q q <| cy q q <| ax (aa false) q q q q ?_
    exact Ra (aa false) q q <| Rt hΨ q q q
  refine ai (ab t0.To) go q q (ak q q (dt h5)) <| ag (I_ t0.To) ay q q (ak q q (dt h5)) <| cG q q (ak q q (dt h5)) <| aH (aa (decide (0 ≤ t0.To))) q (dt h5) q q <| Rm (aa (decide (0 ≤ t0.To))) q q <| aN (fun h6 => ?_) (fun h6 => ?_)
  · exact ai (ab t0.To) go q q (ak q q (dt h6)) <| ag (I_ t0.To) ay q q (ak q q (dt h6)) <| Rm (I_ t1) q (ak q q (dt h6)) <| aZ q q (ak q q (dt h6)) <| aH (aa (decide (t0.To < t1))) q (dt h6) q q <| Ra (aa (decide (t0.To < t1))) q q <| Rt hΨ q q q
  exact cy q (df h6) <| ax (aa false) q (df h6) q q <| Ra (aa false) q q <| Rt hΨ q q q
theorem D8 {t0 r} (hr : jM t0 = some r) : aB PP 88 [ac (aA t0)] (I_ r) := by
  refine Fo I_ Tryz.func88 q (n := 46) q q hr fun X hΨ => ?_
  refine Jq q <| aV (ac (aA t0)) q q <| Ra (I_ 0) q q <| R0 <| Js <| Jq q <| ai ((cL 1 ab) t0.Nodes) ct q q q <| ag (AL 1 ab t0.Nodes) bh q q q ?_
  refine aD (cc := ab) bI q q <| cK q q q <| Rm (aa (decide (40 < (t0.Nodes.length : Int)))) q q <| aN (fun h1 => ?_) (fun h1 => ?_)
  · refine cx q (dt h1) <| aH (aa true) q (dt h1) q q <| R0 <| cJ q q <| Jq q <| Ra (I_ 3) q q ?_
    exact Rt hΨ q q q
  refine ai ((cL 3 av) t0.Edges) d9 q q (an q q (df h1)) <| ag (AL 3 av t0.Edges) di q q (an q q (df h1)) <| aD (cc := av) fu q (an q q (df h1)) <| cK q q (an q q (df h1)) <| ax (aa (decide (80 < (t0.Edges.length : Int)))) q (df h1) q q <| R0 <| aw q (fun h2 => ?_) (fun h2 => ?_)
  · exact Jq q <| Ra (I_ 3) q q <| Rt hΨ q q q
  refine ao <| Js <| Jq q <| Ra (I_ 0) q q <| R0 <| aC <| Jl (fun x3 => [(1, ap (aA t0)), (3, I_ x3), (7, I_ (t0.Nodes.length : Int)), (12, I_ (t0.Edges.length : Int))]) (.all q) (fun E4 hE4 x3 => ?_)
  refine Js <| Jq q <| Rm (I_ x3) q q <| ai ((cL 1 ab) t0.Nodes) ct q q q <| ag (AL 1 ab t0.Nodes) bh q q q <| aD (cc := ab) bI q q <| aZ q q q <| R0 <| aw q (fun h10 => ?_) (fun h10 => ?_)
  · refine ao <| Js <| aC <| Jq q <| ai ((cL 1 ab) t0.Nodes) ct q q q <| ag (AL 1 ab t0.Nodes) bh q q q <| Rm (I_ x3) q q <| Ri fun h11 => ?_
    refine aQ (cc := ab) bc q q h11.1 h11.2 q <| ag (I_ (nth t0.Nodes x3)) ay q q q <| Rc Ai CW q q fun b12 => cd q q <| R0 <| bQ q (fun h14 => ?_) (fun h14 => ?_)
    · exact Jq q <| Ra (I_ 6) q q <| Ro hΨ q q q
    exact ao <| bn <| aG 7 (m := (t0.Nodes.length : Int)) q fun q15 => aG 3 (m := x3) q fun q16 => Jr q <| Rm (I_ x3) q q <| aR (x3 + 1) q q (bu (by omega) (by omega)) q <| Ra (I_ (x3 + 1)) q q <| R0 <| bt <| Jk (hE4 (x3 + 1)) (.all q)
  refine br q <| du <| Js <| Jq q <| Ra (I_ 0) q q <| R0 <| aC <| Jl (fun x17 => [(1, ap (aA t0)), (3, I_ x3), (4, I_ x17), (7, I_ (t0.Nodes.length : Int)), (12, I_ (t0.Edges.length : Int))]) (.all q) (fun E18 hE18 x17 => ?_)
  refine Js <| Jq q <| Rm (I_ x17) q q <| ai ((cL 3 av) t0.Edges) d9 q q q <| ag (AL 3 av t0.Edges) di q q q <| aD (cc := av) fu q q <| aZ q q q <| R0 <| aw q (fun h24 => ?_) (fun h24 => ?_)
  rotate_left
  · exact br q <| bO <| Jq q <| Ra (I_ 0) q q <| Rt hΨ q q q
  refine ao <| Js <| aC <| Js <| bW <| ai ((cL 3 av) t0.Edges) d9 q q q <| ag (AL 3 av t0.Edges) di q q q <| Rm (I_ x17) q q <| Ri fun h25 => ?_
  refine aQ (cc := av) et q q h25.1 h25.2 q <| aK (av (nth t0.Edges x17)) gY q q q q <| ai ((cL 1 ab) t0.Nodes) ct q q q <| ag (AL 1 ab t0.Nodes) bh q q q <| aD (cc := ab) bI q q <| Rc EZ Lq q q fun b26 => cd q q <| bK (by kernel_rfl) <| bQ q (fun h28 => ?_) (fun h28 => ?_)
  · exact Jq q <| Ra (I_ 6) q q <| Ro hΨ q q q
  exact ao <| bn <| aG 12 (m := (t0.Edges.length : Int)) q fun q29 => aG 4 (m := x17) q fun q30 => Jr q <| Rm (I_ x17) q q <| aR (x17 + 1) q q (bu (by omega) (by omega)) q <| Ra (I_ (x17 + 1)) q q <| R0 <| bt <| Jk (hE18 (x17 + 1)) (.all q)
theorem D7 {t0 t1 t2 r} (hr : lD t0 t1 t2 = some r) : aB PP 142 [ac (au t0), I_ t1, I_ t2] (I_ r) := by
  refine Fo I_ Tryz.func142 q (n := 33) q q hr fun X hΨ => ?_
  refine Jq q <| aV (ac (au t0)) q q <| Ra (I_ 0) q q <| R0 <| Js <| Jq q <| aK (au t0) bN q q q q <| aI fun b1 h2 => ?_
  refine dv _ fn_33 (Lo h2) q q <| Rm (bk [am b1.1, I_ b1.2]) q q <| bx (am b1.1) q q q <| bx (I_ b1.2) q q q <| Ra (am b1.1) q q <| Ra (I_ b1.2) q q <| R0 <| Jq q <| Rm (I_ b1.2) q q ?_
  refine bP q q q <| R0 <| aw q (fun h3 => ?_) (fun h3 => ?_)
  · exact Jq q <| Rm (I_ b1.2) q q <| Ra (I_ b1.2) q q <| Rt hΨ q q q
  refine ao <| Js <| Jq q <| Rm (I_ t1) q q <| ai ((cL 4 aM) t0.Nodes) dk q q q <| ag (AL 4 aM t0.Nodes) dl q q q <| aD (cc := aM) ef q q <| aI fun b4 h5 => dq b4 q q (Option.some.inj h5) q ?_
  refine Rc iR iY q q fun b6 => cd q q <| Rm (aa (!b6)) q q <| aN (fun h8 => ?_) (fun h8 => ?_)
  · refine cx q h8 <| dU q h8 <| aH (aa true) q h8 q q <| R0 <| cJ q q ?_
    exact Jq q <| Ra (I_ 6) q q <| Rt hΨ q q q
  refine Rm (I_ t2) q (an q q (bf h8)) <| ai ((cL 4 aM) t0.Nodes) dk q q (an q q (bf h8)) <| ag (AL 4 aM t0.Nodes) dl q q (an q q (bf h8)) <| aD (cc := aM) ef q (an q q (bf h8)) <| aI fun b9 h10 => dq b9 q q (Option.some.inj h10) (an q q (bf h8)) <| Rc iR iY q (an q q (bf h8)) fun b11 => cd q (an q q (bf h8)) <| ax (aa (!b11)) q (bf h8) q q ?_
  refine R0 <| bQ q (fun h13 => ?_) (fun h13 => ?_)
  · exact Jq q <| Ra (I_ 6) q q <| Rt hΨ q q q
  exact ao <| Jq q <| Ra (I_ 0) q q <| Rt hΨ q q q
theorem D4 {t0 t1 r} (hr : jL t0 t1 = some r) : aB PP 163 [ac (au t0), I_ t1] (bk [AL 4 aL r.1, I_ r.2]) := by
  refine Fo (fun (r : (List aW) × Int) => bk [AL 4 aL r.1, I_ r.2]) Tryz.func163 q (n := 41) q q hr fun X hΨ => ?_
  refine Jq q <| aV (ac (au t0)) q q <| Ra (af) q q <| Ra (I_ 0) q q <| R0 <| Js <| Jq q <| aK (au t0) bN q q q q ?_
  refine Rm (I_ t1) q q <| Rm (I_ t1) q q <| Rc Aj D7 q q fun b1 => Ra (I_ b1) q q <| R0 <| Jq q <| Rm (I_ b1) q q <| bP q q q ?_
  refine R0 <| aw q (fun h3 => ?_) (fun h3 => ?_)
  · exact Jq q <| Rm (I_ b1) q q <| Ra (af) q q <| Ra (I_ b1) q q <| R0 <| dg hΨ (bG (As := [af, I_ b1]) q q (.cons (.tmp (A := af) q) (.cons (.tmp (A := I_ b1) q) .nil))) (fun y hy => by cases hy; exact (.tup (.cons .nil (.cons .same .nil))))
  refine ao <| Jq q <| Ra (af) q q <| R0 <| Jq q <| aK (au t0) bN q q q q <| Rm (I_ t1) q q <| aI fun b4 h5 => ?_
  refine dv _ vJ (D5 h5) q q <| Ra (AL 4 aL b4) q q <| R0 <| Js <| Jq q <| Ra (I_ 0) q q <| R0 <| aC <| Jn (fun x6 => ⟨fr [(7, a8 0), (8, AL 4 aL b4), (9, I_ x6.2)], hp [(0, .row 100 4 (x6.1.map aL))], 1⟩) [] [] [0] q (.cons (A := af) q (.nilobj q q) (.all q)) (.new q q .nil) q q (fun E7 hE7 x6 => ?_)
  refine Js <| Jq q <| Rm (I_ x6.2) q q <| Rm (AL 4 aL b4) q q <| aD (cc := aL) fv q q <| aZ q q q <| R0 <| aw q (fun h11 => ?_) (fun h11 => ?_)
  rotate_left
  · exact br q <| bO <| Jq q <| Rm (a8 0) q q <| Ra (a8 0) q q <| Ra (I_ 0) q q <| R0 <| dg hΨ (bG (As := [a8 0, I_ 0]) q q (.cons (.tmp (A := a8 0) q) (.cons (.tmp (A := I_ 0) q) .nil))) (fun y hy => by cases hy; exact (.tup (.cons (.frow q q (ah.flat _ _)) (.cons .same .nil))))
  refine ao <| Js <| aC <| Jq q <| Rm (AL 4 aL b4) q q <| Rm (I_ x6.2) q q <| Ri fun h12 => ?_
  refine aQ (cc := aL) fC q q h12.1 h12.2 q <| aK (aL (nth b4 x6.2)) jx q q q q <| bE 1 _ ju q q <| aX (a8 1) (ac (aL (nth b4 x6.2))) (aL (nth b4 x6.2)) oM q .obj q q q q q q <| R0 <| Jq q <| gF 2 fD q q <| aT (a8 1) 3 iV q .obj q q q <| bg (aO 1 3) (AL 1 bq ((nth b4 x6.2).Names)) kn q .at q q q ?_
  refine Ri fun h13 => ?_
  refine gH (cc := bq) (ys := (nth b4 x6.2).Names) 3 zq q q q h13 q q q <| aT (a8 1) 3 iV q .obj q q q <| aX (aO 1 3) (a8 3) [am ((nth b4 x6.2).Name), I_ ((nth b4 x6.2).Low), I_ ((nth b4 x6.2).High), a8 3] zV q .at q q q q q q <| R0 <| gS [1, 3] [] [] 1 [(7, a8 0), (8, AL 4 aL b4), (9, I_ x6.2), (10, ap (aL (aW.mk ((nth b4 x6.2).Name) ((nth b4 x6.2).Low) ((nth b4 x6.2).High) ((nth b4 x6.2).Names)))), (23, I_ (b4.length : Int))] [(0, .row 100 4 (x6.1.map aL))] (.cons (A := a8 0) q (.ob q) (.same q (.same q (.cons (A := a8 1) q (.fbox q q (.cons .same (.cons .same (.cons .same (.cons (.frow q q (ah.flat _ _)) .nil))))) (.same q .nil))))) (.cc q (.row (ah.flat _ _)) q .nil) q q <| Jr q <| Rm (a8 0) q q <| aK (aL (aW.mk ((nth b4 x6.2).Name) ((nth b4 x6.2).Low) ((nth b4 x6.2).High) ((nth b4 x6.2).Names))) jx q q q q <| cF (cc := aL) [(aW.mk ((nth b4 x6.2).Name) ((nth b4 x6.2).Low) ((nth b4 x6.2).High) ((nth b4 x6.2).Names))] fC pd (.cons (A := ac (aL (aW.mk ((nth b4 x6.2).Name) ((nth b4 x6.2).Low) ((nth b4 x6.2).High) ((nth b4 x6.2).Names)))) q q q .nil) q q q <| Ri fun h14 => ?_
  refine dx (cc := aL) (xs := x6.1) (ys := [(aW.mk ((nth b4 x6.2).Name) ((nth b4 x6.2).Low) ((nth b4 x6.2).High) ((nth b4 x6.2).Names))]) 1 r9 q q q h14 q q q <| Ra (a8 1) q q <| R0 <| bn <| aG 23 (m := (b4.length : Int)) q fun q15 => aG 9 (m := x6.2) q fun q16 => Jr q <| Rm (I_ x6.2) q q <| aR (x6.2 + 1) q q (bu (by omega) (by omega)) q <| Ra (I_ (x6.2 + 1)) q q ?_
  exact R0 <| bt <| Jc [] [(0, 1)] [] (hE7 ((x6.1 ++ [(aW.mk ((nth b4 x6.2).Name) ((nth b4 x6.2).Low) ((nth b4 x6.2).High) ((nth b4 x6.2).Names))]), x6.2 + 1)) (.cons (A := a8 1) q (.ob q) (.all q)) (.cc q (.row (ah.flat _ _)) q .nil) q q
theorem DU {t0 t1 r} (hr : ug t0 t1 = some r) : aB PP 207 [AL 1 ab t0, I_ t1] (I_ r) := by
  refine Fo I_ Tryz.func207 q (n := 39) q q hr fun X hΨ => ?_
  refine Jq q <| Ra (I_ 0) q q <| R0 <| Js <| Jq q <| Ra (I_ 0) q q <| R0 <| aC ?_
  refine Jl (fun x1 => [(0, AL 1 ab t0), (1, I_ t1), (5, I_ x1)]) (.all q) (fun E2 hE2 x1 => ?_)
  refine Js <| Jq q <| Rm (I_ x1) q q <| Rm (AL 1 ab t0) q q <| aD (cc := ab) bI q q <| aZ q q q <| R0 <| aw q (fun h12 => ?_) (fun h12 => ?_)
  rotate_left
  · exact br q <| bO <| Jq q <| Ra (I_ 0) q q <| Rt hΨ q q q
  refine ao <| Js <| aC <| Js <| Jq q <| Rm (AL 1 ab t0) q q <| Rm (I_ x1) q q <| Ri fun h13 => ?_
  refine aQ (cc := ab) bc q q h13.1 h13.2 q <| ag (I_ (nth t0 x1)) ay q q q <| aZ q q q <| Rm (aa (decide ((nth t0 x1) < 0))) q q <| aN (fun h14 => ?_) (fun h14 => ?_)
  · refine cx q (dt h14) <| e9 q (dt h14) <| aH (aa true) q (dt h14) q q <| R0 <| cJ q q <| Js ?_
    exact Jr q <| Ra (I_ 6) q q <| Ro hΨ q q q
  refine Rm (AL 1 ab t0) q (an q q (df h14)) <| Rm (I_ x1) q (an q q (df h14)) <| aQ (cc := ab) bc q q h13.1 h13.2 (an q q (df h14)) <| ag (I_ (nth t0 x1)) ay q q (an q q (df h14)) <| Rm (I_ t1) q (an q q (df h14)) <| cG q q (an q q (df h14)) <| ax (aa (decide (t1 ≤ (nth t0 x1)))) q (df h14) q q <| R0 <| aw q (fun h15 => ?_) (fun h15 => ?_)
  · exact Jq q <| Ra (I_ 6) q q <| Ro hΨ q q q
  refine ao <| Js ?_
  apply ch (fun v20 => ⟨fr [(0, AL 1 ab t0), (1, I_ t1), (5, I_ x1), (8, I_ (t0.length : Int))], fun _ => none, 0⟩) (fun v20 => yW x1 v20)
  · intro K21
    refine aG 5 (m := x1) q fun q17 => bW <| Rm (I_ x1) q q <| cK q q q <| Rm (aa (decide (0 < x1))) q q <| aN (fun h16 => ?_) (fun h16 => ?_)
    rotate_left
    · refine cy q (df h16) <| cy q (df h16) <| da q (df h16) ?_
      exact ax (aa false) q (df h16) q q <| bK (by kernel_rfl) <| dX q q <| Jk (K21 ()) (.all q)
    refine Rm (AL 1 ab t0) q (ak q q (dt h16)) <| Rm (I_ x1) q (ak q q (dt h16)) <| aQ (cc := ab) bc q q h13.1 h13.2 (ak q q (dt h16)) <| ag (I_ (nth t0 x1)) ay q q (ak q q (dt h16)) <| Rm (AL 1 ab t0) q (ak q q (dt h16)) <| Rm (I_ x1) q (ak q q (dt h16)) <| dq (x1 - 1) q q (bu (by omega) (by omega)) (ak q q (dt h16)) <| Ri fun h18 => ?_
    refine aQ (cc := ab) bc q q h18.1 h18.2 (ak q q (dt h16)) <| ag (I_ (nth t0 (x1 - 1))) ay q q (ak q q (dt h16)) <| dK q q (ak q q (dt h16)) <| aH (aa (decide ((nth t0 x1) ≤ (nth t0 (x1 - 1))))) q (dt h16) q q <| bK (by kernel_rfl) <| aw q (fun h19 => ?_) (fun h19 => ?_)
    rotate_left
    · exact Jk (K21 ()) (.all q)
    exact Jq q <| Ra (I_ 12) q q <| Ro hΨ q q q
  intro v20
  exact ao <| bn <| aG 8 (m := (t0.length : Int)) q fun q22 => aG 5 (m := x1) q fun q23 => Jr q <| Rm (I_ x1) q q <| aR (x1 + 1) q q (bu (by omega) (by omega)) q <| Ra (I_ (x1 + 1)) q q <| R0 <| bt <| Jk (hE2 (x1 + 1)) (.all q)
theorem CM {t0 t1 r} (hr : kJ t0 t1 = some r) : aB PP 208 [AL 1 ab t0, I_ t1] (aa r) := by
  refine Fo aa Tryz.func208 q (n := 18) q q hr fun X hΨ => ?_
  refine Jq q <| Ra (aa false) q q <| R0 <| Js <| Jq q <| Ra (I_ 0) q q <| R0 <| aC ?_
  refine Jl (fun x1 => [(0, AL 1 ab t0), (1, I_ t1), (5, I_ x1)]) (.all q) (fun E2 hE2 x1 => ?_)
  refine Js <| Jq q <| Rm (I_ x1) q q <| Rm (AL 1 ab t0) q q <| aD (cc := ab) bI q q <| aZ q q q <| R0 <| aw q (fun h6 => ?_) (fun h6 => ?_)
  rotate_left
  · exact br q <| bO <| Jq q <| Ra (aa false) q q <| Rt hΨ q q q
  refine ao <| Js <| aC <| Jq q <| Rm (AL 1 ab t0) q q <| Rm (I_ x1) q q <| Ri fun h7 => ?_
  refine aQ (cc := ab) bc q q h7.1 h7.2 q <| ag (I_ (nth t0 x1)) ay q q q <| Rm (I_ t1) q q <| bY q q q <| R0 <| aw q (fun h8 => ?_) (fun h8 => ?_)
  · exact Jq q <| Ra (aa true) q q <| Ro hΨ q q q
  exact ao <| bn <| aG 8 (m := (t0.length : Int)) q fun q9 => aG 5 (m := x1) q fun q10 => Jr q <| Rm (I_ x1) q q <| aR (x1 + 1) q q (bu (by omega) (by omega)) q <| Ra (I_ (x1 + 1)) q q <| R0 <| bt <| Jk (hE2 (x1 + 1)) (.all q)
theorem Ls {t0 t1 r} (hr : ni t0 t1 = some r) : aB PP 165 [ac (aA t0), ac (cE t1)] (I_ r) := by
  refine Fo I_ Tryz.func165 q (n := 57) q q hr fun X hΨ => ?_
  refine Jq q <| aV (ac (aA t0)) q q <| aV (ac (cE t1)) q q <| Ra (I_ 0) q q <| R0 <| Js <| Jq q <| ai ((cL 1 ab) t1.Nodes) fw q q q ?_
  refine ag (AL 1 ab t1.Nodes) bh q q q <| ai ((cL 1 ab) t0.Nodes) ct q q q <| ag (AL 1 ab t0.Nodes) bh q q q <| aD (cc := ab) bI q q <| Rc Au DU q q fun b1 => Ra (I_ b1) q q <| R0 <| Jq q ?_
  refine Rm (I_ b1) q q <| bP q q q <| R0 <| aw q (fun h3 => ?_) (fun h3 => ?_)
  · exact Jq q <| Rm (I_ b1) q q <| Ra (I_ b1) q q <| Rt hΨ q q q
  refine ao <| Js <| Jq q <| ai ((cL 1 ab) t1.Edges) gM q q q <| ag (AL 1 ab t1.Edges) bh q q q <| ai ((cL 3 av) t0.Edges) d9 q q q <| ag (AL 3 av t0.Edges) di q q q <| aD (cc := av) fu q q <| aI fun b4 h5 => ?_
  refine dv _ Au (DU h5) q q <| Ra (I_ b4) q q <| R0 <| Jq q <| Rm (I_ b4) q q <| bP q q q <| R0 <| aw q (fun h6 => ?_) (fun h6 => ?_)
  · exact Jq q <| Rm (I_ b4) q q <| Ra (I_ b4) q q <| Rt hΨ q q q
  refine ao <| Js <| Jq q <| Ra (I_ 0) q q <| R0 <| aC <| Jn (fun x7 => ⟨fr [(2, ap (aA t0)), (3, ap (cE t1)), (7, I_ x7)], hp [], 0⟩) [] [] [] q (.all q) .nil q q (fun E8 hE8 x7 => ?_)
  refine Js <| Jq q <| Rm (I_ x7) q q <| ai ((cL 1 ab) t1.Edges) gM q q q <| ag (AL 1 ab t1.Edges) bh q q q <| aD (cc := ab) bI q q <| aZ q q q <| R0 <| aw q (fun h18 => ?_) (fun h18 => ?_)
  rotate_left
  · exact br q <| bO <| Jq q <| Ra (I_ 0) q q <| Rt hΨ q q q
  refine ao <| Js <| aC <| Js <| bW <| ai ((cL 3 av) t0.Edges) d9 q q q <| ag (AL 3 av t0.Edges) di q q q <| ai ((cL 1 ab) t1.Edges) gM q q q <| ag (AL 1 ab t1.Edges) bh q q q <| Rm (I_ x7) q q ?_
  refine Ri fun h19 => ?_
  refine aQ (cc := ab) bc q q h19.1 h19.2 q <| ag (I_ (nth t1.Edges x7)) ay q q q <| Ri fun h20 => ?_
  refine aQ (cc := av) et q q h20.1 h20.2 q <| aK (av (nth t0.Edges (nth t1.Edges x7))) gY q q q q <| bE 0 _ fV q q <| aX (a8 0) (ac (av (nth t0.Edges (nth t1.Edges x7)))) (av (nth t0.Edges (nth t1.Edges x7))) jt q .obj q q q q q q <| bK (by kernel_rfl) <| Jq q <| ai ((cL 1 ab) t1.Nodes) fw q q q <| ag (AL 1 ab t1.Nodes) bh q q q <| aT (a8 0) 1 gm q .obj q q q ?_
  refine bg (aO 0 1) (I_ ((nth t0.Edges (nth t1.Edges x7)).From)) ay q .at q q q <| Rc Av CM q q fun b21 => cd q q <| Rm (aa (!b21)) q q <| aN (fun h23 => ?_) (fun h23 => ?_)
  · refine cx q h23 <| e9 q h23 <| aH (aa true) q h23 q q <| R0 <| cJ q q <| Js ?_
    exact Jr q <| Ra (I_ 14) q q <| Ro hΨ q q q
  refine ai ((cL 1 ab) t1.Nodes) fw q q (an q q (bf h23)) <| ag (AL 1 ab t1.Nodes) bh q q (an q q (bf h23)) <| aT (a8 0) 2 go q .obj q q (an q q (bf h23)) <| bg (aO 0 2) (I_ ((nth t0.Edges (nth t1.Edges x7)).To)) ay q .at q q (an q q (bf h23)) <| Rc Av CM q (an q q (bf h23)) fun b24 => cd q (an q q (bf h23)) <| ax (aa (!b24)) q (bf h23) q q <| R0 <| bQ q (fun h26 => ?_) (fun h26 => ?_)
  · exact Jq q <| Ra (I_ 14) q q <| Ro hΨ q q q
  exact ao <| bn <| aG 30 (m := (t1.Edges.length : Int)) q fun q27 => aG 7 (m := x7) q fun q28 => Jr q <| Rm (I_ x7) q q <| aR (x7 + 1) q q (bu (by omega) (by omega)) q <| Ra (I_ (x7 + 1)) q q <| R0 <| bt <| Jc [] [] [] (hE8 (x7 + 1)) (.all q) .nil q q
theorem Lt {t0 t1 r} (hr : nj t0 t1 = some r) : aB PP 119 [ac (aA t0), ac (cE t1)] (I_ r) := by
  refine Fo I_ Tryz.func119 q (n := 14) q q hr fun X hΨ => ?_
  refine Jq q <| aV (ac (aA t0)) q q <| aV (ac (cE t1)) q q <| Ra (I_ 0) q q <| R0 <| Js <| Jq q <| aK (aA t0) ck q q q q ?_
  refine Rc zF D8 q q fun b1 => Ra (I_ b1) q q <| R0 <| Jq q <| Rm (I_ b1) q q <| bP q q q <| R0 <| aw q (fun h3 => ?_) (fun h3 => ?_)
  · exact Jq q <| Rm (I_ b1) q q <| Ra (I_ b1) q q <| Rt hΨ q q q
  exact ao <| Jq q <| aK (aA t0) ck q q q q <| aK (cE t1) gX q q q q <| Rc Ff Ls q q fun b4 => Ra (I_ b4) q q <| Rt hΨ q q q
theorem D9 {t0 t1 r} (hr : pm t0 t1 = some r) : aB PP 166 [AL 1 ab t0, I_ t1] (I_ r) := by
  refine Fo I_ Tryz.func166 q (n := 19) q q hr fun X hΨ => ?_
  refine Jq q <| Ra (I_ 0) q q <| R0 <| Js <| Jq q <| Ra (I_ 0) q q <| R0 <| aC ?_
  refine Jl (fun x1 => [(0, AL 1 ab t0), (1, I_ t1), (5, I_ x1)]) (.all q) (fun E2 hE2 x1 => ?_)
  refine Js <| Jq q <| Rm (I_ x1) q q <| Rm (AL 1 ab t0) q q <| aD (cc := ab) bI q q <| aZ q q q <| R0 <| aw q (fun h6 => ?_) (fun h6 => ?_)
  rotate_left
  · exact br q <| bO <| Jq q <| Ra (I_ (-1)) q q <| Rt hΨ q q q
  refine ao <| Js <| aC <| Jq q <| Rm (AL 1 ab t0) q q <| Rm (I_ x1) q q <| Ri fun h7 => ?_
  refine aQ (cc := ab) bc q q h7.1 h7.2 q <| ag (I_ (nth t0 x1)) ay q q q <| Rm (I_ t1) q q <| bY q q q <| R0 <| aw q (fun h8 => ?_) (fun h8 => ?_)
  · exact Jq q <| Rm (I_ x1) q q <| Ra (I_ x1) q q <| Ro hΨ q q q
  exact ao <| bn <| aG 8 (m := (t0.length : Int)) q fun q9 => aG 5 (m := x1) q fun q10 => Jr q <| Rm (I_ x1) q q <| aR (x1 + 1) q q (bu (by omega) (by omega)) q <| Ra (I_ (x1 + 1)) q q <| R0 <| bt <| Jk (hE2 (x1 + 1)) (.all q)
end Go.Proofs.YtngimdmkomkeoaaGreat.K
