import Derived.Test.YtngimdmkomkeoaaGreatWalk0
set_option linter.unusedVariables false
set_option linter.unusedSimpArgs false
namespace Go.Proofs.YtngimdmkomkeoaaGreat.K
open Go.RowKit Go.Proofs
set_option maxHeartbeats 4000000
set_option maxRecDepth 100000
theorem yB {t0 t1 t2 r} (hr : iE t0 t1 t2 = some r) : aB PP 193 [ac (aA t0), ac (aA t1), ac (bM t2)] (I_ r) := by
  refine Fo I_ Tryz.func193 q (n := 123) q q hr fun X hΨ => ?_
  refine Jq q <| aV (ac (aA t0)) q q <| aV (ac (aA t1)) q q <| aV (ac (bM t2)) q q <| Ra (I_ 0) q q <| R0 <| Js <| Jq q ?_
  refine aK (aA t0) ck q q q q <| Rc oy pE q q fun b1 => Ra (I_ b1) q q <| R0 <| Jq q <| Rm (I_ b1) q q <| bP q q q <| R0 ?_
  refine aw q (fun h3 => ?_) (fun h3 => ?_)
  · exact Jq q <| Rm (I_ b1) q q <| Ra (I_ b1) q q <| Rt hΨ q q q
  refine ao <| Js <| Jq q <| aK (aA t1) ck q q q q <| Rc oy pE q q fun b4 => Ra (I_ b4) q q <| R0 <| Js ?_
  refine Jr q <| Rm (I_ b4) q q <| bP q q q <| R0 <| aw q (fun h6 => ?_) (fun h6 => ?_)
  · exact Jq q <| Rm (I_ b4) q q <| Ra (I_ b4) q q <| Rt hΨ q q q
  refine ao <| Js <| Jq q <| ai ((cL 1 ab) t2.Nodes) fZ q q q <| ag (AL 1 ab t2.Nodes) bh q q q <| aD (cc := ab) bI q q <| ai ((cL 1 ab) t0.Nodes) ct q q q <| ag (AL 1 ab t0.Nodes) bh q q q <| aD (cc := ab) bI q q ?_
  refine bP q q q <| Rm (aa (decide (¬ ((t2.Nodes.length : Int) = (t0.Nodes.length : Int))))) q q <| aN (fun h7 => ?_) (fun h7 => ?_)
  · refine cx q (dt h7) <| dU q (dt h7) <| aH (aa true) q (dt h7) q q <| R0 <| cJ q q ?_
    exact Jq q <| Ra (I_ 20) q q <| Rt hΨ q q q
  refine ai ((cL 1 ab) t2.Edges) ix q q (an q q (df h7)) <| ag (AL 1 ab t2.Edges) bh q q (an q q (df h7)) <| aD (cc := ab) bI q (an q q (df h7)) <| ai ((cL 3 av) t0.Edges) d9 q q (an q q (df h7)) <| ag (AL 3 av t0.Edges) di q q (an q q (df h7)) <| aD (cc := av) fu q (an q q (df h7)) <| bP q q (an q q (df h7)) <| ax (aa (decide (¬ ((t2.Edges.length : Int) = (t0.Edges.length : Int))))) q (df h7) q q <| R0 <| aw q (fun h8 => ?_) (fun h8 => ?_)
  · exact Jq q <| Ra (I_ 20) q q <| Rt hΨ q q q
  refine ao <| Js <| Jq q <| ai ((cL 1 ab) t2.Nodes) fZ q q q <| ag (AL 1 ab t2.Nodes) bh q q q <| aD (cc := ab) bI q q <| Rm (I_ 0) q q <| R0 <| aC ?_
  refine Jn (fun x9 => ⟨fr [(3, ap (aA t0)), (4, ap (aA t1)), (5, ap (bM t2)), (35, I_ (t2.Edges.length : Int)), (42, AL 1 ab t2.Nodes), (43, I_ (t2.Nodes.length : Int)), (44, I_ x9)], hp [], 0⟩) [] [] [] q (.all q) .nil q q (fun E10 hE10 x9 => ?_)
  refine Jq q <| aZ q q q <| R0 <| Js <| aw q (fun h18 => ?_) (fun h18 => ?_)
  · refine ao <| Js <| aC <| Jq q <| Rm (I_ x9) q q <| Ri fun h19 => ?_
    refine aQ (cc := ab) bc q q h19.1 h19.2 q <| ag (I_ (nth t2.Nodes x9)) ay q q q <| Ra (I_ x9) q q <| Ra (I_ (nth t2.Nodes x9)) q q <| R0 <| Js <| Jq q <| Rm (I_ (nth t2.Nodes x9)) q q <| aZ q q q ?_
    refine Rm (aa (decide ((nth t2.Nodes x9) < 0))) q q <| aN (fun h20 => ?_) (fun h20 => ?_)
    · refine cx q (dt h20) <| Kf q (dt h20) <| aH (aa true) q (dt h20) q q <| R0 <| cJ q q <| Jq q ?_
      exact Ra (I_ 6) q q <| Ro hΨ q q q
    refine Rm (I_ (nth t2.Nodes x9)) q (an q q (df h20)) <| ai ((cL 1 ab) t1.Nodes) ct q q (an q q (df h20)) <| ag (AL 1 ab t1.Nodes) bh q q (an q q (df h20)) <| aD (cc := ab) bI q (an q q (df h20)) <| cG q q (an q q (df h20)) <| ax (aa (decide ((t1.Nodes.length : Int) ≤ (nth t2.Nodes x9)))) q (df h20) q q <| R0 <| aw q (fun h21 => ?_) (fun h21 => ?_)
    · exact Jq q <| Ra (I_ 6) q q <| Ro hΨ q q q
    refine ao <| Js <| bW <| ai ((cL 1 ab) t1.Nodes) ct q q q <| ag (AL 1 ab t1.Nodes) bh q q q <| Rm (I_ (nth t2.Nodes x9)) q q <| Ri fun h22 => ?_
    refine aQ (cc := ab) bc q q h22.1 h22.2 q <| ag (I_ (nth t1.Nodes (nth t2.Nodes x9))) ay q q q <| ai ((cL 1 ab) t0.Nodes) ct q q q <| ag (AL 1 ab t0.Nodes) bh q q q <| Rm (I_ x9) q q <| Ri fun h23 => ?_
    refine aQ (cc := ab) bc q q h23.1 h23.2 q <| ag (I_ (nth t0.Nodes x9)) ay q q q <| bP q q q <| bK (by kernel_rfl) <| aw q (fun h24 => ?_) (fun h24 => ?_)
    · exact Jq q <| Ra (I_ 13) q q <| Ro hΨ q q q
    exact ao <| bn <| aG 43 (m := (t2.Nodes.length : Int)) q fun q25 => aG 9 (m := x9) q fun q26 => Jr q <| aR (x9 + 1) q q (bu (by omega) (by omega)) q <| Rm (I_ (x9 + 1)) q q <| R0 <| bt <| Jc [] [] [] (hE10 (x9 + 1)) (.all q) .nil q q
  refine br q <| du <| Js <| Jq q <| ai ((cL 1 ab) t2.Edges) ix q q q <| ag (AL 1 ab t2.Edges) bh q q q <| aD (cc := ab) bI q q <| Rm (I_ 0) q q <| R0 ?_
  refine aC <| Jn (fun x27 => ⟨fr [(3, ap (aA t0)), (4, ap (aA t1)), (5, ap (bM t2)), (43, I_ (t2.Nodes.length : Int)), (44, I_ x9), (71, AL 1 ab t2.Edges), (72, I_ (t2.Edges.length : Int)), (73, I_ x27)], hp [], 0⟩) [] [] [] q (.all q) .nil q q (fun E28 hE28 x27 => ?_)
  refine Jq q <| aZ q q q <| R0 <| Js <| aw q (fun h40 => ?_) (fun h40 => ?_)
  rotate_left
  · exact br q <| bO <| Jq q <| Ra (I_ 0) q q <| Rt hΨ q q q
  refine ao <| Js <| aC <| Jq q <| Rm (I_ x27) q q <| Ri fun h41 => ?_
  refine aQ (cc := ab) bc q q h41.1 h41.2 q <| ag (I_ (nth t2.Edges x27)) ay q q q <| Ra (I_ x27) q q <| Ra (I_ (nth t2.Edges x27)) q q <| R0 <| Js <| Jq q <| Rm (I_ (nth t2.Edges x27)) q q <| aZ q q q ?_
  refine Rm (aa (decide ((nth t2.Edges x27) < 0))) q q <| aN (fun h42 => ?_) (fun h42 => ?_)
  · refine cx q (dt h42) <| Kf q (dt h42) <| aH (aa true) q (dt h42) q q <| R0 <| cJ q q <| Jq q ?_
    exact Ra (I_ 6) q q <| Ro hΨ q q q
  refine Rm (I_ (nth t2.Edges x27)) q (an q q (df h42)) <| ai ((cL 3 av) t1.Edges) d9 q q (an q q (df h42)) <| ag (AL 3 av t1.Edges) di q q (an q q (df h42)) <| aD (cc := av) fu q (an q q (df h42)) <| cG q q (an q q (df h42)) <| ax (aa (decide ((t1.Edges.length : Int) ≤ (nth t2.Edges x27)))) q (df h42) q q <| R0 <| aw q (fun h43 => ?_) (fun h43 => ?_)
  · exact Jq q <| Ra (I_ 6) q q <| Ro hΨ q q q
  refine ao <| Js <| bW <| ai ((cL 3 av) t0.Edges) d9 q q q <| ag (AL 3 av t0.Edges) di q q q <| Rm (I_ x27) q q <| Ri fun h44 => ?_
  refine aQ (cc := av) et q q h44.1 h44.2 q <| aK (av (nth t0.Edges x27)) gY q q q q <| ai ((cL 3 av) t1.Edges) d9 q q q <| ag (AL 3 av t1.Edges) di q q q <| Rm (I_ (nth t2.Edges x27)) q q <| Ri fun h45 => ?_
  refine aQ (cc := av) et q q h45.1 h45.2 q <| aK (av (nth t1.Edges (nth t2.Edges x27))) gY q q q q <| bE 0 _ fV q q <| bE 1 _ fV q q <| aX (a8 0) (ac (av (nth t0.Edges x27))) (av (nth t0.Edges x27)) jt q .obj q q q q q q <| aX (a8 1) (ac (av (nth t1.Edges (nth t2.Edges x27)))) (av (nth t1.Edges (nth t2.Edges x27))) jt q .obj q q q q q q <| bK (by kernel_rfl) <| Js <| Jq q ?_
  refine aT (a8 0) 0 i7 q .obj q q q <| bg (aO 0 0) (I_ ((nth t0.Edges x27).Type_)) ay q .at q q q <| aT (a8 1) 0 i7 q .obj q q q <| bg (aO 1 0) (I_ ((nth t1.Edges (nth t2.Edges x27)).Type_)) ay q .at q q q <| bP q q q <| R0 <| aw q (fun h46 => ?_) (fun h46 => ?_)
  · exact Jq q <| Ra (I_ 13) q q <| Ro hΨ q q q
  refine ao <| Js <| bW <| ai ((cL 1 ab) t2.Nodes) fZ q q q <| ag (AL 1 ab t2.Nodes) bh q q q <| aT (a8 0) 1 gm q .obj q q q <| bg (aO 0 1) (I_ ((nth t0.Edges x27).From)) ay q .at q q q <| Ri fun h47 => ?_
  refine aQ (cc := ab) bc q q h47.1 h47.2 q <| ag (I_ (nth t2.Nodes ((nth t0.Edges x27).From))) ay q q q <| aT (a8 1) 1 gm q .obj q q q <| bg (aO 1 1) (I_ ((nth t1.Edges (nth t2.Edges x27)).From)) ay q .at q q q <| bP q q q <| Rm (aa (decide (¬ ((nth t2.Nodes ((nth t0.Edges x27).From)) = (nth t1.Edges (nth t2.Edges x27)).From)))) q q <| aN (fun h48 => ?_) (fun h48 => ?_)
  · refine cx q (dt h48) <| cx q (dt h48) <| Kf q (dt h48) <| aH (aa true) q (dt h48) q q ?_
    exact bK (by kernel_rfl) <| cJ q q <| Jq q <| Ra (I_ 11) q q <| Ro hΨ q q q
  refine ai ((cL 1 ab) t2.Nodes) fZ q q (an q q (df h48)) <| ag (AL 1 ab t2.Nodes) bh q q (an q q (df h48)) <| aT (a8 0) 2 go q .obj q q (an q q (df h48)) <| bg (aO 0 2) (I_ ((nth t0.Edges x27).To)) ay q .at q q (an q q (df h48)) <| Ri fun h49 => ?_
  refine aQ (cc := ab) bc q q h49.1 h49.2 (an q q (df h48)) <| ag (I_ (nth t2.Nodes ((nth t0.Edges x27).To))) ay q q (an q q (df h48)) <| aT (a8 1) 2 go q .obj q q (an q q (df h48)) <| bg (aO 1 2) (I_ ((nth t1.Edges (nth t2.Edges x27)).To)) ay q .at q q (an q q (df h48)) <| bP q q (an q q (df h48)) <| ax (aa (decide (¬ ((nth t2.Nodes ((nth t0.Edges x27).To)) = (nth t1.Edges (nth t2.Edges x27)).To)))) q (df h48) q q <| bK (by kernel_rfl) <| aw q (fun h50 => ?_) (fun h50 => ?_)
  · exact Jq q <| Ra (I_ 11) q q <| Ro hΨ q q q
  exact ao <| bn <| aG 72 (m := (t2.Edges.length : Int)) q fun q51 => aG 11 (m := x27) q fun q52 => Jr q <| aR (x27 + 1) q q (bu (by omega) (by omega)) q <| Rm (I_ (x27 + 1)) q q <| R0 <| bt <| Jc [] [] [] (hE28 (x27 + 1)) (.all q) .nil q q
theorem Mp {t0 r} (hr : slices_Sort_int t0 = some r) : dc PP 245 1 [(0, .row 3 1 (t0.map ab))] [a8 0] [(0, .row 3 1 (r.map ab))] (bk []) := sortK Tryz.slices_Sort_int Tryz.slices_Sort_int_none t0 r hr
theorem MS {t0 r} (hr : slices_Compact_int t0 = some r) : dc PP 246 1 [(0, .row 3 1 (t0.map ab))] [a8 0] [] (AL 1 ab r) := compK Tryz.slices_Compact_int Tryz.slices_Compact_int_empty t0 r hr
theorem DT {t0 r} (hr : qk t0 = some r) : aB PP 232 [AL 1 ab t0] (I_ r) := by
  refine Fo I_ Tryz.func232 q (n := 11) q q hr fun X hΨ => ?_
  refine Jq q <| Ra (I_ 0) q q <| R0 <| Jq q <| Rm (AL 1 ab t0) q q <| aI fun b1 h2 => gq [] [] [] [0] 1 [] [(0, .row 3 1 (b1.map ab))] (a8 0) [AL 1 ab t0] ow (qG h2) .nil q (.cons .same .nil) .nil (.cc q (.row (ah.flat _ _)) q .nil) (.ob q) q q q <| Ra (a8 0) q q ?_
  refine R0 <| Jq q <| Rm (a8 0) q q <| aI fun b3 h4 => gq [] [] [] [] 1 [(0, .row 3 1 (b1.map ab))] [(0, .row 3 1 (b3.map ab))] (bk []) [a8 0] FY (Mp h4) (.cons q .nil) q (.cons (.ob q) .nil) (.cc q (.row (ah.flat _ _)) q .nil) (.cc q (.row (ah.flat _ _)) q .nil) (.tup .nil) q q q <| R0 <| Jq q <| Rm (a8 0) q q ?_
  exact aI fun b5 h6 => gq [] [] [] [] 1 [(0, .row 3 1 (b3.map ab))] [] (AL 1 ab b5) [a8 0] FZ (MS h6) (.cons q .nil) q (.cons (.ob q) .nil) (.cc q (.row (ah.flat _ _)) q .nil) .nil .same q q q <| aD (cc := ab) bI q q <| Ra (I_ (b5.length : Int)) q q <| Rt hΨ q q q
theorem Eb {t0 t1 t2 r} (hr : o6 t0 t1 t2 = some r) : aB PP 194 [ac (aA t0), ac (aA t1), ac (bM t2)] (aa r) := by
  refine Fo aa Tryz.func194 q (n := 30) q q hr fun X hΨ => ?_
  refine Jq q <| aV (ac (aA t0)) q q <| aV (ac (aA t1)) q q <| aV (ac (bM t2)) q q <| Ra (aa false) q q <| R0 <| Js <| bW <| aK (aA t0) ck q q q q ?_
  refine aK (aA t1) ck q q q q <| aK (bM t2) fQ q q q q <| Rc vM yB q q fun b1 => bY q q q <| Rm (aa (decide (b1 = 0))) q q <| aN (fun h3 => ?_) (fun h3 => ?_)
  rotate_left
  · refine cy q (df h3) <| c7 q (df h3) <| ax (aa false) q (df h3) q q <| Rm (aa false) q q <| Kt q q ?_
    exact cy q q <| da q q <| ax (aa false) q q q q <| Ra (aa false) q q <| bK (by kernel_rfl) <| eV hΨ q q q
  refine ai ((cL 1 ab) t2.Nodes) fZ q q (ak q q (dt h3)) <| ag (AL 1 ab t2.Nodes) bh q q (ak q q (dt h3)) <| Rc AC DT q (ak q q (dt h3)) fun b4 => ai ((cL 1 ab) t2.Nodes) fZ q q (ak q q (dt h3)) <| ag (AL 1 ab t2.Nodes) bh q q (ak q q (dt h3)) <| aD (cc := ab) bI q (ak q q (dt h3)) <| bY q q (ak q q (dt h3)) <| aH (aa (decide (b4 = (t2.Nodes.length : Int)))) q (dt h3) q q <| Rm (aa (decide (b4 = (t2.Nodes.length : Int)))) q q ?_
  refine aN (fun h6 => ?_) (fun h6 => ?_)
  rotate_left
  · refine cy q (df h6) <| c7 q (df h6) <| ax (aa false) q (df h6) q q <| Ra (aa false) q q <| bK (by kernel_rfl) ?_
    exact eV hΨ q q q
  refine ai ((cL 1 ab) t2.Edges) ix q q (ak q q (dt h6)) <| ag (AL 1 ab t2.Edges) bh q q (ak q q (dt h6)) <| Rc AC DT q (ak q q (dt h6)) fun b7 => ai ((cL 1 ab) t2.Edges) ix q q (ak q q (dt h6)) <| ag (AL 1 ab t2.Edges) bh q q (ak q q (dt h6)) <| aD (cc := ab) bI q (ak q q (dt h6)) <| bY q q (ak q q (dt h6)) <| aH (aa (decide (b7 = (t2.Edges.length : Int)))) q (dt h6) q q <| Ra (aa (decide (b7 = (t2.Edges.length : Int)))) q q ?_
  exact bK (by kernel_rfl) <| eV hΨ q q q
theorem Kn {t0 r} (hr : pe t0 = some r) : aB PP 153 [ac (aP t0)] (I_ r) := by
  refine Fo I_ Tryz.func153 q (n := 38) q q hr fun X hΨ => ?_
  refine Jq q <| aV (ac (aP t0)) q q <| Ra (I_ 0) q q <| R0 <| Jq q <| ai (bz t0.Left) iT q q q <| ai (aA t0.Left.Graph) dr q q q <| aK (aA t0.Left.Graph) ck q q q q ?_
  refine ai (cE t0.Keep) lp q q q <| aK (cE t0.Keep) gX q q q q <| Rc Fx MA q q fun b1 => Rm (bk [ac (aA b1.1), ac (bM b1.2.1), I_ b1.2.2]) q q <| bx (ac (aA b1.1)) q q q <| bx (ac (bM b1.2.1)) q q q <| bx (I_ b1.2.2) q q q <| bE 0 _ dW q q <| bE 1 _ fP q q ?_
  refine aX (a8 0) (ac (aA b1.1)) (aA b1.1) eG q .obj q q q q q q <| aX (a8 1) (ac (bM b1.2.1)) (bM b1.2.1) iP q .obj q q q q q q <| Ra (I_ b1.2.2) q q <| R0 <| Js <| Jq q <| Rm (I_ b1.2.2) q q <| bP q q q <| R0 ?_
  refine aw q (fun h3 => ?_) (fun h3 => ?_)
  · exact Jq q <| Rm (I_ b1.2.2) q q <| Ra (I_ b1.2.2) q q <| Rt hΨ q q q
  refine ao <| Js <| Jq q <| cr (a8 0) (aA b1.1) ck q .obj q q q q <| ai (bz t0.Right) ex q q q <| ai (aA t0.Right.Graph) dr q q q <| aK (aA t0.Right.Graph) ck q q q q <| ai (bM t0.Into) ky q q q <| aK (bM t0.Into) fQ q q q q ?_
  refine Rc vM yB q q fun b4 => Ra (I_ b4) q q <| R0 <| Jq q <| Rm (I_ b4) q q <| bP q q q <| R0 <| aw q (fun h6 => ?_) (fun h6 => ?_)
  · exact Jq q <| Rm (I_ b4) q q <| Ra (I_ b4) q q <| Rt hΨ q q q
  refine ao <| Js <| Jq q <| cr (a8 0) (aA b1.1) ck q .obj q q q q <| ai (bz t0.Right) ex q q q <| ai (aA t0.Right.Graph) dr q q q <| aK (aA t0.Right.Graph) ck q q q q <| ai (bM t0.Into) ky q q q <| aK (bM t0.Into) fQ q q q q ?_
  refine Rc Aq Eb q q fun b7 => cd q q <| R0 <| bQ q (fun h9 => ?_) (fun h9 => ?_)
  · exact Jq q <| Ra (I_ 11) q q <| Rt hΨ q q q
  exact ao <| Jq q <| Ra (I_ 0) q q <| Rt hΨ q q q
theorem Me {t0 t1 t2 r} (hr : pZ t0 t1 t2 = some r) : aB PP 195 [I_ t0, ap (au t1), ap (aA t2)] (aa r) := by
  refine Fo aa Tryz.func195 q (n := 15) q q hr fun X hΨ => ?_
  refine Jq q <| Ra (aa false) q q <| R0 <| Js <| bW <| ai ((cL 4 aM) t1.Nodes) dk q q q <| ag (AL 4 aM t1.Nodes) dl q q q <| ai ((cL 1 ab) t2.Nodes) ct q q q <| ag (AL 1 ab t2.Nodes) bh q q q ?_
  refine Rm (I_ t0) q q <| Ri fun h1 => ?_
  refine aQ (cc := ab) bc q q h1.1 h1.2 q <| ag (I_ (nth t2.Nodes t0)) ay q q q <| Ri fun h2 => ?_
  exact aQ (cc := aM) ft q q h2.1 h2.2 q <| ai (cf ((nth t1.Nodes (nth t2.Nodes t0)).Abstract)) wi q q q <| ag (aa ((nth t1.Nodes (nth t2.Nodes t0)).Abstract)) ji q q q <| Ra (aa ((nth t1.Nodes (nth t2.Nodes t0)).Abstract)) q q <| bK (by kernel_rfl) <| eV hΨ q q q
theorem MT {t0 r} (hr : uP t0 = some r) : dc PP 200 1 [(0, .row 3 1 (t0.map ab))] [a8 0] [(0, .row 3 1 (r.map ab))] (bk []) := by
  refine Ko (fun (r : (List Int)) => [(0, .row 3 1 (r.map ab))]) (fun (r : (List Int)) => bk []) Tryz.func200 q (n := 28) q (bH.cons (KB.obj q) (inferInstance : bH 1 [])).kb (eZ.spec (.row q (ah.flat _ _) .nil)) q hr fun X hΨ => ?_
  refine Jq q <| Rm (a8 0) q q <| eS (cc := ab) t0 bI q q q <| aI fun b1 h2 => dq b1 q q (Option.some.inj h2) q <| Ra (I_ 0) q q <| Ra (I_ b1) q q <| R0 <| aC ?_
  refine Jn (fun x3 => ⟨fr [(0, a8 0), (2, I_ x3.2.1), (3, I_ x3.2.2)], hp [(0, .row 3 1 (x3.1.map ab))], 1⟩) [] [] [] q (.cons (A := a8 0) q (.ob q) (.all q)) (.cc q (.row (ah.flat _ _)) q .nil) q q (fun E4 hE4 x3 => ?_)
  refine Js <| Jq q <| Rm (I_ x3.2.1) q q <| Rm (I_ x3.2.2) q q <| aZ q q q <| R0 <| aw q (fun h10 => ?_) (fun h10 => ?_)
  rotate_left
  · exact br q <| bO <| Eo hΨ (Hy q) [] [] [] q (fun y hy => by cases hy; exact ⟨(.cc q (.row (ah.flat _ _)) q .nil), (.tup .nil)⟩)
  refine ao <| Js <| aC <| bW <| Rm (a8 0) q q <| Rm (I_ x3.2.1) q q <| Rm (a8 0) q q <| Rm (I_ x3.2.2) q q <| Rm (a8 0) q q <| Rm (I_ x3.2.2) q q ?_
  refine Ri fun h11 => ?_
  refine dh (cc := ab) bc q q q h11.1 h11.2 q <| ff (cc := ab) x3.2.2 0 (I_ (nth x3.1 x3.2.2)) ay q q h11.1 h11.2 q q <| Rm (a8 0) q q <| Rm (I_ x3.2.1) q q <| Ri fun h12 => ?_
  refine dh (cc := ab) bc q q q h12.1 h12.2 q <| ff (cc := ab) x3.2.1 0 (I_ (nth x3.1 x3.2.1)) ay q q h12.1 h12.2 q q <| dh (cc := ab) bc q q q h12.1 h12.2 q <| eR (cc := ab) x3.2.1 0 (I_ (nth x3.1 x3.2.2)) (nth x3.1 x3.2.2) ez q q q h12.1 h12.2 q q q q <| Ri fun h13 => ?_
  refine dh (cc := ab) bc q q q h13.1 h13.2 q <| eR (cc := ab) x3.2.2 0 (I_ (nth x3.1 x3.2.1)) (nth x3.1 x3.2.1) ez q q q h13.1 h13.2 q q q q <| bK (by kernel_rfl) <| bn <| aG 3 (m := x3.2.2) q fun q14 => aG 2 (m := x3.2.1) q fun q15 => Jr q <| Rm (I_ x3.2.1) q q <| aR (x3.2.1 + 1) q q (bu (by omega) (by omega)) q <| Rm (I_ x3.2.2) q q ?_
  exact dq (x3.2.2 - 1) q q (bu (by omega) (by omega)) q <| Ra (I_ (x3.2.1 + 1)) q q <| Ra (I_ (x3.2.2 - 1)) q q <| R0 <| bt <| Jc [] [] [] (hE4 (((x3.1.set x3.2.1.toNat (nth x3.1 x3.2.2)).set x3.2.2.toNat (nth x3.1 x3.2.1)), x3.2.1 + 1, x3.2.2 - 1)) (.cons (A := a8 0) q (.ob q) (.all q)) (.cc q (.row (ah.flat _ _)) q .nil) q q
theorem L3 {t0 t1 r} (hr : xg t0 t1 = some r) : aB PP 159 [ac (au t0), I_ t1] (AL 1 ab r) := by
  refine Fo (fun r => AL 1 ab r) Tryz.func159 q (n := 21) q q hr fun X hΨ => ?_
  refine Jq q <| aV (ac (au t0)) q q <| Ra (af) q q <| R0 <| Jq q <| Ra (af) q q <| R0 <| Js ?_
  refine aC <| Jn (fun x1 => ⟨fr [(1, I_ x1.1), (2, ap (au t0)), (5, a8 0)], hp [(0, .row 3 1 (x1.2.map ab))], 1⟩) [] [] [0] q (.s2 q q (.cons (A := af) q (.nilobj q q) .nil)) (.new q q .nil) q q (fun E2 hE2 x1 => ?_)
  refine Js <| Jq q <| Rm (I_ x1.1) q q <| cG q q q <| R0 <| aw q (fun h5 => ?_) (fun h5 => ?_)
  rotate_left
  · refine br q <| du <| Jq q <| Rm (a8 0) q q <| aI fun b8 h9 => gq [] [] [] [] 1 [(0, .row 3 1 (x1.2.map ab))] [(0, .row 3 1 (b8.map ab))] (bk []) [a8 0] FC (MT h9) (.cons q .nil) q (.cons (.ob q) .nil) (.cc q (.row (ah.flat _ _)) q .nil) (.cc q (.row (ah.flat _ _)) q .nil) (.tup .nil) q q q <| R0 <| Jq q ?_
    exact Rm (a8 0) q q <| Ra (a8 0) q q <| R0 <| dg hΨ (d8 q (.tmp (A := a8 0) q)) (fun y hy => by cases hy; exact (.frow q q (ah.flat _ _)))
  refine ao <| Js <| aC <| Jr q <| Rm (a8 0) q q <| Rm (I_ x1.1) q q <| cF (cc := ab) [x1.1] bc fj (.cons (A := I_ x1.1) q q q .nil) q q q <| Ri fun h6 => ?_
  refine dx (cc := ab) (xs := x1.2) (ys := [x1.1]) 1 dS q q q h6 q q q <| Ra (a8 1) q q <| R0 <| bn <| Jr q <| ai ((cL 4 aM) t0.Nodes) dk q q q <| ag (AL 4 aM t0.Nodes) dl q q q <| Rm (I_ x1.1) q q <| Ri fun h7 => ?_
  exact aQ (cc := aM) ft q q h7.1 h7.2 q <| ai (ab ((nth t0.Nodes x1.1).Parent)) lq q q q <| ag (I_ ((nth t0.Nodes x1.1).Parent)) ay q q q <| Ra (I_ ((nth t0.Nodes x1.1).Parent)) q q <| R0 <| bt <| Jc [] [(0, 1)] [] (hE2 ((nth t0.Nodes x1.1).Parent, (x1.2 ++ [x1.1]))) (.s2 q q (.cons (A := a8 1) q (.ob q) .nil)) (.cc q (.row (ah.flat _ _)) q .nil) q q
theorem wY {t0 t1 t2 r} (hr : lB t0 t1 t2 = some r) : aB PP 107 [ac (au t0), I_ t1, I_ t2] (aa r) := by
  refine Fo aa Tryz.func107 q (n := 12) q q hr fun X hΨ => ?_
  refine Jq q <| aV (ac (au t0)) q q <| Ra (aa false) q q <| R0 <| Jq q <| aK (au t0) bN q q q q <| Rm (I_ t1) q q <| aI fun b1 h2 => ?_
  exact dv _ Fb (L3 h2) q q <| Rm (I_ t2) q q <| Rc Al Ed q q fun b3 => Ra (aa b3) q q <| Rt hΨ q q q
theorem L1 {t0 t1 t2 t3 r} (hr : kN t0 t1 t2 t3 = some r) : aB PP 87 [ac (au t0), I_ t1, I_ t2, I_ t3] (aa r) := by
  refine Fo aa Tryz.func87 q (n := 46) q q hr fun X hΨ => ?_
  refine Jq q <| aV (ac (au t0)) q q <| Ra (aa false) q q <| R0 <| Js <| Jq q <| aK (au t0) bN q q q q <| Rm (I_ t2) q q ?_
  refine Rm (I_ t3) q q <| cF (cc := ab) [t2, t3] bc B0 (.cons (A := I_ t2) q q q (.cons (A := I_ t3) q q q .nil)) q q q <| Rc vH xF q q fun b1 => bP q q q <| Rm (aa (decide (¬ (b1 = 0)))) q q <| aN (fun h3 => ?_) (fun h3 => ?_)
  · refine e9 q (dt h3) <| aH (aa true) q (dt h3) q q <| Rm (aa true) q q <| cx q q <| Kf q q <| aH (aa true) q q q q ?_
    exact R0 <| cJ q q <| Jq q <| Ra (aa false) q q <| Rt hΨ q q q
  refine Rm (I_ t1) q (an q q (df h3)) <| aZ q q (an q q (df h3)) <| ax (aa (decide (t1 < 0))) q (df h3) q q <| Rm (aa (decide (t1 < 0))) q q <| aN (fun h4 => ?_) (fun h4 => ?_)
  · refine cx q (dt h4) <| Kf q (dt h4) <| aH (aa true) q (dt h4) q q <| R0 <| cJ q q <| Jq q ?_
    exact Ra (aa false) q q <| Rt hΨ q q q
  refine Rm (I_ t1) q (an q q (df h4)) <| ai ((cL 7 aY) t0.Edges) dL q q (an q q (df h4)) <| ag (AL 7 aY t0.Edges) dO q q (an q q (df h4)) <| aD (cc := aY) fe q (an q q (df h4)) <| cG q q (an q q (df h4)) <| ax (aa (decide ((t0.Edges.length : Int) ≤ t1))) q (df h4) q q <| R0 <| aw q (fun h5 => ?_) (fun h5 => ?_)
  · exact Jq q <| Ra (aa false) q q <| Rt hΨ q q q
  refine ao <| Js <| bW <| aK (au t0) bN q q q q <| Rm (I_ t2) q q <| ai ((cL 7 aY) t0.Edges) dL q q q <| ag (AL 7 aY t0.Edges) dO q q q <| Rm (I_ t1) q q <| Ri fun h6 => ?_
  refine aQ (cc := aY) fX q q h6.1 h6.2 q <| ai (ab ((nth t0.Edges t1).From)) oY q q q <| ag (I_ ((nth t0.Edges t1).From)) ay q q q <| Rc vI wY q q fun b7 => Rm (aa b7) q q <| aN (fun h9 => ?_) (fun h9 => ?_)
  rotate_left
  · refine cy q (bf h9) <| cy q (bf h9) <| Kt q (bf h9) <| ax (aa false) q (bf h9) q q ?_
    exact Ra (aa false) q q <| bK (by kernel_rfl) <| eV hΨ q q q
  refine aK (au t0) bN q q q (ak q q h9) <| Rm (I_ t3) q (ak q q h9) <| ai ((cL 7 aY) t0.Edges) dL q q (ak q q h9) <| ag (AL 7 aY t0.Edges) dO q q (ak q q h9) <| Rm (I_ t1) q (ak q q h9) <| aQ (cc := aY) fX q q h6.1 h6.2 (ak q q h9) <| ai (ab ((nth t0.Edges t1).To)) oZ q q (ak q q h9) <| ag (I_ ((nth t0.Edges t1).To)) ay q q (ak q q h9) <| Rc vI wY q (ak q q h9) fun b10 => ?_
  exact aH (aa b10) q h9 q q <| Ra (aa b10) q q <| bK (by kernel_rfl) <| eV hΨ q q q
theorem Mf {t0 t1 t2 r} (hr : qa t0 t1 t2 = some r) : aB PP 196 [I_ t0, ap (aA t1), ap (au t2)] (aa r) := by
  refine Fo aa Tryz.func196 q (n := 28) q q hr fun X hΨ => ?_
  refine Jq q <| Ra (aa false) q q <| R0 <| Jq q <| ai ((cL 3 av) t1.Edges) d9 q q q <| ag (AL 3 av t1.Edges) di q q q <| Rm (I_ t0) q q <| Ri fun h1 => ?_
  refine aQ (cc := av) et q q h1.1 h1.2 q <| aK (av (nth t1.Edges t0)) gY q q q q <| bE 0 _ fV q q <| aX (a8 0) (ac (av (nth t1.Edges t0))) (av (nth t1.Edges t0)) jt q .obj q q q q q q <| R0 <| Js <| bW <| aK (au t2) bN q q q q <| aT (a8 0) 0 i7 q .obj q q q <| bg (aO 0 0) (I_ ((nth t1.Edges t0).Type_)) ay q .at q q q ?_
  refine ai ((cL 1 ab) t1.Nodes) ct q q q <| ag (AL 1 ab t1.Nodes) bh q q q <| aT (a8 0) 1 gm q .obj q q q <| bg (aO 0 1) (I_ ((nth t1.Edges t0).From)) ay q .at q q q <| Ri fun h2 => ?_
  refine aQ (cc := ab) bc q q h2.1 h2.2 q <| ag (I_ (nth t1.Nodes ((nth t1.Edges t0).From))) ay q q q <| ai ((cL 1 ab) t1.Nodes) ct q q q <| ag (AL 1 ab t1.Nodes) bh q q q <| aT (a8 0) 2 go q .obj q q q <| bg (aO 0 2) (I_ ((nth t1.Edges t0).To)) ay q .at q q q <| Ri fun h3 => ?_
  exact aQ (cc := ab) bc q q h3.1 h3.2 q <| ag (I_ (nth t1.Nodes ((nth t1.Edges t0).To))) ay q q q <| Rc fn_87 L1 q q fun b4 => cd q q <| Ra (aa (!b4)) q q <| bK (by kernel_rfl) <| eV hΨ q q q
theorem LI {t0 t1 t2 t3 r} (hr : tt t0 t1 t2 t3 = some r) : aB PP 154 [ac (au t0), ac (aA t1), AL 1 ab t2, AL 1 ab t3] (aa r) := by
  refine Fo aa Tryz.func154 q (n := 19) q q hr fun X hΨ => ?_
  refine Jq q <| aV (ac (au t0)) q q <| aV (ac (aA t1)) q q <| Ra (aa false) q q <| R0 <| Jq q <| Rm (AL 1 ab t2) q q <| fR [ap (au t0), ap (aA t1)] (fun x => [I_ x]) (fun y => aa y) (fun x => pZ x t0 t1) Fy q (fun x y h => Me h) q ?_
  refine Rc l7 lV q q fun b1 => cd q q <| Rm (aa (!b1)) q q <| aN (fun h3 => ?_) (fun h3 => ?_)
  rotate_left
  · exact cy q (bf h3) <| ax (aa false) q (bf h3) q q <| Ra (aa false) q q <| Rt hΨ q q q
  exact Rm (AL 1 ab t3) q (ak q q h3) <| fR [ap (aA t1), ap (au t0)] (fun x => [I_ x]) (fun y => aa y) (fun x => qa x t1 t0) Fz q (fun x y h => Mf h) (ak q q h3) <| Rc l7 lV q (ak q q h3) fun b4 => cd q (ak q q h3) <| aH (aa (!b4)) q h3 q q <| Ra (aa (!b4)) q q <| Rt hΨ q q q
theorem yA {t0 r} (hr : nA t0 = some r) : aB PP 247 [ac (aU t0)] (aa r) := by
  refine Fo aa Tryz.func247 q (n := 39) q q hr fun X hΨ => ?_
  refine Jq q <| aV (ac (aU t0)) q q <| Ra (aa false) q q <| R0 <| Jq q <| ai (bz t0.Pattern) we q q q <| aK (bz t0.Pattern) fq q q q q <| bE 0 _ gU q q ?_
  refine aX (a8 0) (ac (bz t0.Pattern)) (bz t0.Pattern) lg q .obj q q q q q q <| R0 <| Jq q <| ai (bM t0.Map) oP q q q <| ai ((cL 1 ab) t0.Map.Nodes) fZ q q q <| ag (AL 1 ab t0.Map.Nodes) bh q q q <| aD (cc := ab) bI q q <| ai (bM t0.Map) oP q q q <| ai ((cL 1 ab) t0.Map.Edges) ix q q q ?_
  refine ag (AL 1 ab t0.Map.Edges) bh q q q <| aD (cc := ab) bI q q <| aI fun b1 h2 => aR b1 q q (Option.some.inj h2) q <| aT (a8 0) 0 dr q .obj q q q <| aT (aO 0 0) 0 ct q .at q q q <| bg (aO 0 0) (AL 1 ab t0.Pattern.Graph.Nodes) bh q .at q q q <| aD (cc := ab) bI q q <| aI fun b3 h4 => aR b3 q q (Option.some.inj h4) q ?_
  refine aT (a8 0) 0 dr q .obj q q q <| aT (aO 0 0) 1 d9 q .at q q q <| bg (aO 0 1) (AL 3 av t0.Pattern.Graph.Edges) di q .at q q q <| aD (cc := av) fu q q <| aI fun b5 h6 => aR b5 q q (Option.some.inj h6) q <| aT (a8 0) 2 hZ q .obj q q q <| bg (aO 0 2) (AL 4 b0 t0.Pattern.Slots) iO q .at q q q <| aD (cc := b0) kh q q <| aI fun b7 h8 => ?_
  refine aR b7 q q (Option.some.inj h8) q <| aT (a8 0) 4 ln q .obj q q q <| bg (aO 0 4) (AL 5 bX t0.Pattern.Tests) mc q .at q q q <| aD (cc := bX) m9 q q <| aI fun b9 h10 => aR b9 q q (Option.some.inj h10) q <| bY q q q <| Rm (aa (decide (b9 = 0))) q q <| aN (fun h11 => ?_) (fun h11 => ?_)
  · exact aT (a8 0) 3 eJ q .obj q q (ak q q (dt h11)) <| bg (aO 0 3) (I_ t0.Pattern.Vars) ay q .at q q (ak q q (dt h11)) <| bY q q (ak q q (dt h11)) <| aH (aa (decide (t0.Pattern.Vars = 0))) q (dt h11) q q <| Ra (aa (decide (t0.Pattern.Vars = 0))) q q <| Rt hΨ q q q
  exact c7 q (df h11) <| ax (aa false) q (df h11) q q <| Ra (aa false) q q <| Rt hΨ q q q
theorem Nq {t0 t1 r} (hr : zi t0 t1 = some r) : aB PP 257 [AL 9 aU t0, cC PP (fun x => [ac (aU x)]) (fun y => aa y) t1] (I_ r) := by
  refine Fo I_ Tryz.func257 q (n := 19) q q hr fun X hΨ => ?_
  refine Jq q <| Ra (I_ 0) q q <| R0 <| Js <| Jq q <| Rm (AL 9 aU t0) q q <| aD (cc := aU) oA q q <| Rm (I_ 0) q q ?_
  refine R0 <| aC <| Jl (fun x1 => [(0, AL 9 aU t0), (1, cC PP (fun x => [ac (aU x)]) (fun y => aa y) t1), (7, I_ (t0.length : Int)), (8, I_ x1)]) (.all q) (fun E2 hE2 x1 => ?_)
  refine Jq q <| aZ q q q <| R0 <| Js <| aw q (fun h8 => ?_) (fun h8 => ?_)
  rotate_left
  · exact br q <| bO <| Jq q <| Ra (I_ (-1)) q q <| Rt hΨ q q q
  refine ao <| Js <| aC <| Jq q <| Rm (I_ x1) q q <| Ra (I_ x1) q q <| R0 <| Jq q ?_
  refine Rm (cC PP (fun x => [ac (aU x)]) (fun y => aa y) t1) q q <| Rm (AL 9 aU t0) q q <| Rm (I_ x1) q q <| Ri fun h9 => ?_
  refine aQ (cc := aU) m8 q q h9.1 h9.2 q <| aK (aU (nth t0 x1)) eF q q q q <| aI fun b10 h11 => iz (ga := (fun x => [ac (aU x)])) (rt := (fun y => aa y)) (gg := t1) (u := (nth t0 x1)) (w := b10) q q h11 (NK.nk) q <| R0 <| bQ q (fun h12 => ?_) (fun h12 => ?_)
  · exact Jq q <| Rm (I_ x1) q q <| Ra (I_ x1) q q <| Ro hΨ q q q
  exact ao <| bn <| aG 7 (m := (t0.length : Int)) q fun q13 => aG 5 (m := x1) q fun q14 => Jr q <| aR (x1 + 1) q q (bu (by omega) (by omega)) q <| Rm (I_ (x1 + 1)) q q <| R0 <| bt <| Jk (hE2 (x1 + 1)) (.all q)
theorem Nv {t0 t1 r} (hr : vi t0 t1 = some r) : aB PP 248 [AL 9 aU t0, cC PP (fun x => [ac (aU x)]) (fun y => aa y) t1] (aa r) := by
  refine Fo aa Tryz.func248 q (n := 9) q q hr fun X hΨ => ?_
  refine Jq q <| Ra (aa false) q q <| R0 <| Jq q <| Rm (AL 9 aU t0) q q <| Rm (cC PP (fun x => [ac (aU x)]) (fun y => aa y) t1) q q <| Rc G3 Nq q q fun b1 => ?_
  exact cG q q q <| Ra (aa (decide (0 ≤ b1))) q q <| Rt hΨ q q q
theorem Nc (q_condition_wellFormed : az → Option Bool) (hq_condition_wellFormed : ∀ (t0 : az) (r : Bool), q_condition_wellFormed t0 = some r → aB PP 233 [ac (aU t0)] (aa r)) (q_condition_wellFormed_1 : az → Option Bool) (hq_condition_wellFormed_1 : ∀ (t0 : az) (r : Bool), q_condition_wellFormed_1 t0 = some r → aB PP 249 [ac (aU t0)] (aa r)) (t0 : az) (r : Bool) (hr : lT q_condition_wellFormed q_condition_wellFormed_1 t0 = some r) : aB PP 233 [ac (aU t0)] (aa r) := by
  refine Fo aa Tryz.func233 q (n := 46) q q hr fun X hΨ => ?_
  refine Jq q <| aV (ac (aU t0)) q q <| Ra (aa false) q q <| R0 <| Jq q <| ai (kT t0.Kids) mA q q q <| ag (AL 9 aU t0.Kids) md q (nW _) q <| aD (cc := aU) oA q q ?_
  refine Ra (I_ (t0.Kids.length : Int)) q q <| R0 <| Jq q <| Ra (aa false) q q <| R0 <| Js <| Jq q <| ai (ab t0.Kind) wd q q q ?_
  refine ag (I_ t0.Kind) ay q q q <| R0 <| aC <| Jq q <| bY q q q <| Ra (aa (decide (t0.Kind = 1))) q q <| R0 ?_
  apply ch (fun v34 => ⟨fr [(1, ap (aU t0)), (4, aa v34)], fun _ => none, 0⟩) (fun v34 => oi q_condition_wellFormed_1 t0 v34)
  · intro K35
    refine aw q (fun h1 => ?_) (fun h1 => ?_)
    · apply ch (fun v5 => ⟨fr [(1, ap (aU t0)), (4, aa v5)], fun _ => none, 0⟩) (fun v5 => qQ q_condition_wellFormed_1 t0 v5)
      · intro K6
        refine Jr q <| Rm (I_ (t0.Kids.length : Int)) q q <| bY q q q <| Rm (aa (decide ((t0.Kids.length : Int) = 0))) q q <| aN (fun h2 => ?_) (fun h2 => ?_)
        rotate_left
        · exact da q (df h2) <| ax (aa false) q (df h2) q q <| Ra (aa false) q q <| R0 <| Jk (K6 false) (.all q)
        exact aK (aU t0) eF q q q (ak q q (dt h2)) <| Rc vR yA q (ak q q (dt h2)) fun b3 => aH (aa b3) q (dt h2) q q <| Ra (aa b3) q q <| R0 <| Jk (K6 b3) (.all q)
      intro v5
      exact Jk (K35 v5) (.all q)
    refine Jq q <| bY q q q <| Ra (aa (decide (t0.Kind = 2))) q q <| R0 ?_
    apply ch (fun v32 => ⟨fr [(1, ap (aU t0)), (4, aa v32)], fun _ => none, 0⟩) (fun v32 => oh q_condition_wellFormed_1 t0 v32)
    · intro K33
      refine aw q (fun h7 => ?_) (fun h7 => ?_)
      · apply ch (fun v11 => ⟨fr [(1, ap (aU t0)), (4, aa v11)], fun _ => none, 0⟩) (fun v11 => qR q_condition_wellFormed_1 t0 v11)
        · intro K12
          refine Jr q <| Rm (I_ (t0.Kids.length : Int)) q q <| bY q q q <| Rm (aa (decide ((t0.Kids.length : Int) = 1))) q q <| aN (fun h8 => ?_) (fun h8 => ?_)
          rotate_left
          · exact da q (df h8) <| ax (aa false) q (df h8) q q <| Ra (aa false) q q <| R0 <| Jk (K12 false) (.all q)
          exact aK (aU t0) eF q q q (ak q q (dt h8)) <| Rc vR yA q (ak q q (dt h8)) fun b9 => aH (aa b9) q (dt h8) q q <| Ra (aa b9) q q <| R0 <| Jk (K12 b9) (.all q)
        intro v11
        exact Jk (K33 v11) (.all q)
      refine Js <| Jq q <| bY q q q <| Ra (aa (decide (t0.Kind = 3))) q q <| R0 ?_
      apply ch (fun v19 => ⟨fr [(1, ap (aU t0)), (3, I_ (t0.Kids.length : Int)), (4, aa false), (9, I_ t0.Kind), (26, aa v19)], fun _ => none, 0⟩) (fun v19 => qS q_condition_wellFormed_1 t0 v19)
      · intro K31
        refine aw q (fun h13 => ?_) (fun h13 => ?_)
        · exact ao <| Jk (K31 (decide (t0.Kind = 3))) (.all q)
        exact Jr q <| bY q q q <| Ra (aa (decide (t0.Kind = 4))) q q <| R0 <| Jk (K31 (decide (t0.Kind = 4))) (.all q)
      intro v19
      apply ch (fun v29 => ⟨fr [(1, ap (aU t0)), (4, aa v29)], fun _ => none, 0⟩) (fun v29 => qV q_condition_wellFormed_1 t0 v29)
      · intro K30
        refine bQ q (fun h20 => ?_) (fun h20 => ?_)
        rotate_left
        · refine Jq q <| bY q q q <| Ra (aa (decide (t0.Kind = 5))) q q <| R0 ?_
          apply ch (fun v27 => ⟨fr [(1, ap (aU t0)), (4, aa v27)], fun _ => none, 0⟩) (fun v27 => qU q_condition_wellFormed_1 t0 v27)
          · intro K28
            refine aw q (fun h26 => ?_) (fun h26 => ?_)
            rotate_left
            · exact ao <| Jk (K28 false) (.all q)
            exact Jr q <| Rm (I_ (t0.Kids.length : Int)) q q <| bY q q q <| Ra (aa (decide ((t0.Kids.length : Int) = 1))) q q <| R0 <| Jk (K28 (decide ((t0.Kids.length : Int) = 1))) (.all q)
          intro v27
          exact Jk (K30 v27) (.all q)
        apply ch (fun v24 => ⟨fr [(1, ap (aU t0)), (4, aa v24)], fun _ => none, 0⟩) (fun v24 => qT q_condition_wellFormed_1 t0 v24)
        · intro K25
          refine Jr q <| Rm (I_ (t0.Kids.length : Int)) q q <| cG q q q <| Rm (aa (decide (1 ≤ (t0.Kids.length : Int)))) q q <| aN (fun h21 => ?_) (fun h21 => ?_)
          rotate_left
          · exact da q (df h21) <| ax (aa false) q (df h21) q q <| Ra (aa false) q q <| R0 <| Jk (K25 false) (.all q)
          exact aK (aU t0) eF q q q (ak q q (dt h21)) <| Rc vR yA q (ak q q (dt h21)) fun b22 => aH (aa b22) q (dt h21) q q <| Ra (aa b22) q q <| R0 <| Jk (K25 b22) (.all q)
        intro v24
        exact Jk (K30 v24) (.all q)
      intro v29
      exact Jk (K33 v29) (.all q)
    intro v32
    exact Jk (K35 v32) (.all q)
  intro v34
  refine bn <| Jq q <| Rm (aa v34) q q <| Rm (aa v34) q q <| aN (fun h36 => ?_) (fun h36 => ?_)
  rotate_left
  · exact cy q (bf h36) <| ax (aa false) q (bf h36) q q <| Ra (aa false) q q <| Rt hΨ q q q
  exact ai (kT t0.Kids) mA q q (ak q q h36) <| ag (AL 9 aU t0.Kids) md q (nW _) (ak q q h36) <| aI fun b37 h38 => gp [] [AL 9 aU t0.Kids, bj 249 []] G0 (Nv h38) .nil q (.cons .same (.cons (.cloFn G1 (fun x y h => hq_condition_wellFormed_1 x y h)) .nil)) (ak q q h36) <| cd q (ak q q h36) <| aH (aa (!b37)) q h36 q q <| Ra (aa (!b37)) q q <| Rt hΨ q q q
theorem Nh (q_condition_wellFormed : az → Option Bool) (hq_condition_wellFormed : ∀ (t0 : az) (r : Bool), q_condition_wellFormed t0 = some r → aB PP 233 [ac (aU t0)] (aa r)) (q_condition_wellFormed_1 : az → Option Bool) (hq_condition_wellFormed_1 : ∀ (t0 : az) (r : Bool), q_condition_wellFormed_1 t0 = some r → aB PP 249 [ac (aU t0)] (aa r)) (t0 : az) (r : Bool) (hr : lU q_condition_wellFormed q_condition_wellFormed_1 t0 = some r) : aB PP 249 [ac (aU t0)] (aa r) := by
  refine Fo aa Tryz.func249 q (n := 6) q q hr fun X hΨ => ?_
  refine Jq q <| aV (ac (aU t0)) q q <| Ra (aa false) q q <| R0 <| Jq q <| aK (aU t0) eF q q q q <| aI fun b1 h2 => dv _ AD (hq_condition_wellFormed _ _ h2) q q ?_
  exact cd q q <| Ra (aa (!b1)) q q <| Rt hΨ q q q
theorem Nf : ∀ n, (∀ (t0 : az) (r : Bool), (dZ n).1 t0 = some r → aB PP 233 [ac (aU t0)] (aa r)) ∧ (∀ (t0 : az) (r : Bool), (dZ n).2 t0 = some r → aB PP 249 [ac (aU t0)] (aa r)) := by
  intro n
  induction n with
  | zero => exact ⟨(fun _ _ h => by cases h), (fun _ _ h => by cases h)⟩
  | succ n ih => exact ⟨(fun a0 r h => Nc _ ih.1 _ ih.2 a0 r h), (fun a0 r h => Nh _ ih.1 _ ih.2 a0 r h)⟩
theorem N6 {t0 r} (hr : yZ t0 = some r) : aB PP 233 [ac (aU t0)] (aa r) := by
  obtain ⟨n, hn⟩ := iS hr
  exact (Nf n).1 t0 r hn
theorem MX (q_condition_measure : az → Option (Int × Int)) (hq_condition_measure : ∀ (t0 : az) (r : Int × Int), q_condition_measure t0 = some r → aB PP 234 [ac (aU t0)] (bk [I_ r.1, I_ r.2])) (t0 : az) (r : Int × Int) (hr : yV q_condition_measure t0 = some r) : aB PP 234 [ac (aU t0)] (bk [I_ r.1, I_ r.2]) := by
  refine Fo (fun (r : Int × Int) => bk [I_ r.1, I_ r.2]) Tryz.func234 q (n := 36) q q hr fun X hΨ => ?_
  refine Jq q <| aV (ac (aU t0)) q q <| Ra (I_ 0) q q <| Ra (I_ 0) q q <| R0 <| Jq q <| Ra (I_ 1) q q <| Ra (I_ 0) q q ?_
  refine R0 <| Js <| Jq q <| ai (kT t0.Kids) mA q q q <| ag (AL 9 aU t0.Kids) md q (nW _) q <| aD (cc := aU) oA q q <| Rm (I_ 0) q q <| R0 <| aC ?_
  refine Jn (fun x1 => ⟨fr [(1, ap (aU t0)), (4, I_ x1.1), (5, I_ x1.2.1), (11, AL 9 aU t0.Kids), (12, I_ (t0.Kids.length : Int)), (13, I_ x1.2.2)], hp [], 0⟩) [] [] [] q (.all q) .nil q q (fun E2 hE2 x1 => ?_)
  refine Jq q <| aZ q q q <| R0 <| Js <| aw q (fun h9 => ?_) (fun h9 => ?_)
  rotate_left
  · refine br q <| du <| Js <| Jq q <| ai (ab t0.Kind) wd q q q <| ag (I_ t0.Kind) ay q q q <| bY q q q <| R0 ?_
    apply ch (fun v20 => ⟨fr [(4, I_ x1.1), (5, I_ v20), (12, I_ (t0.Kids.length : Int)), (13, I_ x1.2.2)], hp [], 0⟩) (fun v20 => z6 x1 v20)
    · intro K21
      refine aw q (fun h17 => ?_) (fun h17 => ?_)
      rotate_left
      · exact ao <| Jc [] [] [] (K21 x1.2.1) (.all q) .nil q q
      exact Jr q <| Rm (I_ x1.2.1) q q <| aI fun b18 h19 => aR b18 q q (Option.some.inj h19) q <| Ra (I_ b18) q q <| R0 <| Jc [] [] [] (K21 b18) (.all q) .nil q q
    intro v20
    exact Jq q <| Rm (I_ x1.1) q q <| Rm (I_ v20) q q <| Ra (I_ x1.1) q q <| Ra (I_ v20) q q <| R0 <| Jt hΨ (bG (As := [I_ x1.1, I_ v20]) q q (.cons (.tmp (A := I_ x1.1) q) (.cons (.tmp (A := I_ v20) q) .nil))) q q
  refine ao <| Js <| aC <| Jq q <| Ri fun h10 => ?_
  refine aQ (cc := aU) m8 q q h10.1 h10.2 q <| aK (aU (nth t0.Kids x1.2.2)) eF q q q q <| bE 0 _ gV q q <| aX (a8 0) (ac (aU (nth t0.Kids x1.2.2))) (aU (nth t0.Kids x1.2.2)) ko q .obj q q q q q q <| R0 <| Jq q <| cr (a8 0) (aU (nth t0.Kids x1.2.2)) eF q .obj q q q q <| aI fun b11 h12 => dv _ AE (hq_condition_measure _ _ h12) q q ?_
  refine Rm (bk [I_ b11.1, I_ b11.2]) q q <| bx (I_ b11.1) q q q <| bx (I_ b11.2) q q q <| Ra (I_ b11.1) q q <| Ra (I_ b11.2) q q <| R0 <| Jr q <| Rm (I_ x1.1) q q <| Rm (I_ b11.1) q q <| aI fun b13 h14 => ?_
  refine aR b13 q q (Option.some.inj h14) q <| Rm (I_ x1.2.1) q q <| Rm (I_ b11.2) q q <| ro q q q <| Ra (I_ b13) q q <| Ra (I_ (if x1.2.1 < b11.2 then b11.2 else x1.2.1)) q q <| R0 <| bn <| aG 12 (m := (t0.Kids.length : Int)) q fun q15 => aG 13 (m := x1.2.2) q fun q16 => ?_
  exact Jr q <| aR (x1.2.2 + 1) q q (bu (by omega) (by omega)) q <| Rm (I_ (x1.2.2 + 1)) q q <| R0 <| bt <| Jc [] [] [] (hE2 (b13, (if x1.2.1 < b11.2 then b11.2 else x1.2.1), x1.2.2 + 1)) (.all q) .nil q q
theorem N5 : ∀ n, (∀ (t0 : az) (r : Int × Int), (oa n) t0 = some r → aB PP 234 [ac (aU t0)] (bk [I_ r.1, I_ r.2])) := by
  intro n
  induction n with
  | zero => exact (fun _ _ h => by cases h)
  | succ n ih => exact (fun a0 r h => MX _ ih a0 r h)
theorem MI {t0 r} (hr : uH t0 = some r) : aB PP 234 [ac (aU t0)] (bk [I_ r.1, I_ r.2]) := by
  obtain ⟨n, hn⟩ := iS hr
  exact (N5 n) t0 r hn
theorem Mn {t0 r} (hr : nK t0 = some r) : aB PP 197 [ac (aU t0)] (I_ r) := by
  refine Fo I_ Tryz.func197 q (n := 19) q q hr fun X hΨ => ?_
  refine Jq q <| aV (ac (aU t0)) q q <| Ra (I_ 0) q q <| R0 <| Js <| Jq q <| aK (aU t0) eF q q q q <| aI fun b1 h2 => ?_
  refine dv _ AD (N6 h2) q q <| cd q q <| R0 <| bQ q (fun h3 => ?_) (fun h3 => ?_)
  · exact Jq q <| Ra (I_ 1) q q <| Rt hΨ q q q
  refine ao <| Js <| Jq q <| aK (aU t0) eF q q q q <| Rc AE MI q q fun b4 => Rm (bk [I_ b4.1, I_ b4.2]) q q <| bx (I_ b4.1) q q q <| bx (I_ b4.2) q q q ?_
  refine Ra (I_ b4.1) q q <| Ra (I_ b4.2) q q <| R0 <| Jq q <| Rm (I_ b4.1) q q <| cK q q q <| Rm (aa (decide (12 < b4.1))) q q <| aN (fun h6 => ?_) (fun h6 => ?_)
  · exact e9 q (dt h6) <| aH (aa true) q (dt h6) q q <| R0 <| cJ q q <| Jq q <| Ra (I_ 3) q q <| Rt hΨ q q q
  refine Rm (I_ b4.2) q (an q q (df h6)) <| cK q q (an q q (df h6)) <| ax (aa (decide (3 < b4.2))) q (df h6) q q <| R0 <| aw q (fun h7 => ?_) (fun h7 => ?_)
  · exact Jq q <| Ra (I_ 3) q q <| Rt hΨ q q q
  exact ao <| Jq q <| Ra (I_ 0) q q <| Rt hΨ q q q
theorem MY {t0 t1 r} (hr : uS t0 t1 = some r) : aB PP 250 [ac (b0 t0), ap (ab t1)] (aa r) := by
  refine Fo aa Tryz.func250 q (n := 9) q q hr fun X hΨ => ?_
  refine Jq q <| aV (ac (b0 t0)) q q <| Ra (aa false) q q <| R0 <| Jq q <| ai (ep t0.Term) jH q q q <| ai (ab t0.Term.Var) iW q q q <| ag (I_ t0.Term.Var) ay q q q ?_
  exact ag (I_ t1) ay q q q <| bY q q q <| Ra (aa (decide (t0.Term.Var = t1))) q q <| Rt hΨ q q q
theorem MJ {t0 t1 t2 r} (hr : nU t0 t1 t2 = some r) : aB PP 235 [ac (au t0), ac (bz t1), I_ t2] (I_ r) := by
  refine Fo I_ Tryz.func235 q (n := 29) q q hr fun X hΨ => ?_
  refine Jq q <| aV (ac (au t0)) q q <| aV (ac (bz t1)) q q <| Ra (I_ 0) q q <| R0 <| Jq q <| aK (au t0) bN q q q q <| aK (bz t1) fq q q q q ?_
  refine Rc vL yG q q fun b1 => Ra (I_ b1) q q <| R0 <| Js <| Jq q <| Rm (I_ b1) q q <| bP q q q <| R0 ?_
  refine aw q (fun h3 => ?_) (fun h3 => ?_)
  · exact Jq q <| Rm (I_ b1) q q <| Ra (I_ b1) q q <| Rt hΨ q q q
  refine ao <| Js <| Jq q <| Rm (I_ t2) q q <| bE 0 _ l3 q q <| aX (a8 0) (I_ t2) (ab t2) ez q .obj q q q q q q <| R0 <| aC <| Jn (fun x4 => ⟨fr [(4, ap (bz t1)), (7, I_ b1), (8, a8 0)], hp [(0, .box 3 (ab x4))], 1⟩) [] [] [] q (.s2 q q (.cons (A := a8 0) q (.ob q) .nil)) (.cc q (.box (.cons .same .nil)) q .nil) q q (fun E5 hE5 x4 => ?_)
  refine Js <| Jq q <| bg (a8 0) (I_ x4) ay q .obj q q q <| ai (ab t1.Vars) eJ q q q <| ag (I_ t1.Vars) ay q q q <| aZ q q q <| R0 <| aw q (fun h12 => ?_) (fun h12 => ?_)
  rotate_left
  · exact br q <| bO <| Jq q <| Ra (I_ 0) q q <| Rt hΨ q q q
  refine ao <| Js <| aC <| Js <| gS [0] [] [] 0 [(4, ap (bz t1)), (7, I_ b1), (8, ap (ab x4)), (16, I_ x4), (18, I_ t1.Vars)] [] (.same q (.same q (.cons (A := a8 0) q (.fbox q q (.cons .same .nil)) (.same q (.same q .nil))))) .nil q q <| Jr q <| ai ((cL 4 b0) t1.Slots) hZ q q q <| ag (AL 4 b0 t1.Slots) iO q q q <| fR [ap (ab x4)] (fun x => [ac (b0 x)]) (fun y => aa y) (fun x => uS x x4) G2 q (fun x y h => MY h) q <| aI fun b13 h14 => ?_
  refine dv _ AB (Em h14) q q <| cd q q <| R0 <| bQ q (fun h15 => ?_) (fun h15 => ?_)
  · exact Jq q <| Rm (I_ b1) q q <| Ra (I_ b1) q q <| Ro hΨ q q q
  refine ao <| bn <| Js <| Jq q <| ag (I_ x4) ay q q q <| R0 <| Jr q <| bE 0 _ l3 q q <| aX (a8 0) (I_ x4) (ab x4) ez q .obj q q q q q q ?_
  exact R0 <| aG 18 (m := t1.Vars) q fun q16 => aG 16 (m := x4) q fun q17 => Jr q <| bg (a8 0) (I_ x4) ay q .obj q q q <| aR (x4 + 1) q q (bu (by omega) (by omega)) q <| aX (a8 0) (I_ (x4 + 1)) (ab (x4 + 1)) ez q .obj q q q q q q <| R0 <| bt <| Jc [] [] [] (hE5 (x4 + 1)) (.s2 q q (.cons (A := a8 0) q (.ob q) .nil)) (.cc q (.box (.cons .same .nil)) q .nil) q q
theorem MR (q_condition_inside : aq → aJ → az → Option Int) (hq_condition_inside : ∀ (t0 : aq) (t1 : aJ) (t2 : az) (r : Int), q_condition_inside t0 t1 t2 = some r → aB PP 198 [ac (au t0), ac (bz t1), ac (aU t2)] (I_ r)) (t0 : aq) (t1 : aJ) (t2 : az) (r : Int) (hr : jT q_condition_inside t0 t1 t2 = some r) : aB PP 198 [ac (au t0), ac (bz t1), ac (aU t2)] (I_ r) := by
  refine Fo I_ Tryz.func198 q (n := 65) q q hr fun X hΨ => ?_
  refine Jq q <| aV (ac (au t0)) q q <| Gu 0 (ac (bz t1)) q q q <| aV (ac (aU t2)) q q <| Ra (I_ 0) q q <| R0 <| Js <| Jq q ?_
  refine ai (ab t2.Kind) wd q q q <| ag (I_ t2.Kind) ay q q q <| bY q q q <| R0 ?_
  apply ch (fun v26 => ⟨fr [(3, ap (au t0)), (4, a8 0), (5, ap (aU t2))], hp [(0, .box 33 (bz v26))], 1⟩) (fun v26 => lS q_condition_inside t0 t2 v26)
  · intro K41
    refine aw q (fun h1 => ?_) (fun h1 => ?_)
    rotate_left
    · exact ao <| Jc [] [] [] (K41 t1) (.same q (.cons (A := a8 0) q (.ob q) (.all q))) (.cc q (.box (c9.sames)) q .nil) q q
    refine Jq q <| ai (bz t2.Pattern) we q q q <| aK (bz t2.Pattern) fq q q q q <| bE 1 _ gU q q <| aX (a8 1) (ac (bz t2.Pattern)) (bz t2.Pattern) lg q .obj q q q q q q <| R0 <| Js <| Jq q ?_
    refine aT (a8 1) 3 eJ q .obj q q q <| bg (aO 1 3) (I_ t2.Pattern.Vars) ay q .at q q q <| aT (a8 0) 3 eJ q .obj q q q <| bg (aO 0 3) (I_ t1.Vars) ay q .at q q q <| aZ q q q <| R0 <| aw q (fun h2 => ?_) (fun h2 => ?_)
    · exact Jq q <| Ra (I_ 20) q q <| Rt hΨ q q q
    refine ao <| Js <| Jq q <| aK (au t0) bN q q q q <| cr (a8 1) (bz t2.Pattern) fq q .obj q q q q <| aT (a8 0) 3 eJ q .obj q q q <| bg (aO 0 3) (I_ t1.Vars) ay q .at q q q <| Rc FR MJ q q fun b3 => ?_
    refine Ra (I_ b3) q q <| R0 <| Jq q <| Rm (I_ b3) q q <| bP q q q <| R0 <| aw q (fun h5 => ?_) (fun h5 => ?_)
    · exact Jq q <| Rm (I_ b3) q q <| Ra (I_ b3) q q <| Rt hΨ q q q
    refine ao <| Js <| Jq q <| aT (a8 0) 0 dr q .obj q q q <| cr (aO 0 0) (aA t1.Graph) ck q .at q q q q <| aT (a8 1) 0 dr q .obj q q q <| cr (aO 1 0) (aA t2.Pattern.Graph) ck q .at q q q q <| ai (bM t2.Map) oP q q q <| aK (bM t2.Map) fQ q q q q ?_
    refine Rc vM yB q q fun b6 => Ra (I_ b6) q q <| R0 <| Jq q <| Rm (I_ b6) q q <| bP q q q <| R0 <| aw q (fun h8 => ?_) (fun h8 => ?_)
    · exact Jq q <| Rm (I_ b6) q q <| Ra (I_ b6) q q <| Rt hΨ q q q
    refine ao <| Js <| Jq q <| aT (a8 0) 0 dr q .obj q q q <| cr (aO 0 0) (aA t1.Graph) ck q .at q q q q <| aT (a8 1) 0 dr q .obj q q q <| cr (aO 1 0) (aA t2.Pattern.Graph) ck q .at q q q q <| ai (bM t2.Map) oP q q q <| aK (bM t2.Map) fQ q q q q ?_
    refine Rc Aq Eb q q fun b9 => cd q q <| R0 <| bQ q (fun h11 => ?_) (fun h11 => ?_)
    · exact Jq q <| Ra (I_ 1) q q <| Rt hΨ q q q
    exact ao <| Jr q <| cr (a8 1) (bz t2.Pattern) fq q .obj q q q q <| aX (a8 0) (ac (bz t2.Pattern)) (bz t2.Pattern) lg q .obj q q q q q q <| R0 <| Jc [] [] [] (K41 t2.Pattern) (.same q (.cons (A := a8 0) q (.ob q) (.all q))) (.cc q (.box (c9.sames)) q .nil) q q
  intro v26
  refine Js <| Jq q <| ai (kT t2.Kids) mA q q q <| ag (AL 9 aU t2.Kids) md q (nW _) q <| aD (cc := aU) oA q q <| Rm (I_ 0) q q <| R0 <| aC <| Jn (fun x27 => ⟨fr [(3, ap (au t0)), (4, a8 0), (51, AL 9 aU t2.Kids), (52, I_ (t2.Kids.length : Int)), (53, I_ x27)], hp [(0, .box 33 (bz v26))], 1⟩) [] [] [] q (.same q (.cons (A := a8 0) q (.ob q) (.all q))) (.cc q (.box (c9.sames)) q .nil) q q (fun E28 hE28 x27 => ?_)
  refine Jq q <| aZ q q q <| R0 <| Js <| aw q (fun h34 => ?_) (fun h34 => ?_)
  rotate_left
  · exact br q <| bO <| Jq q <| Ra (I_ 0) q q <| Rt hΨ q q q
  refine ao <| Js <| aC <| Jq q <| Ri fun h35 => ?_
  refine aQ (cc := aU) m8 q q h35.1 h35.2 q <| aK (aU (nth t2.Kids x27)) eF q q q q <| bE 1 _ gV q q <| aX (a8 1) (ac (aU (nth t2.Kids x27))) (aU (nth t2.Kids x27)) ko q .obj q q q q q q <| R0 <| Jq q <| aK (au t0) bN q q q q <| cr (a8 0) (bz v26) fq q .obj q q q q <| cr (a8 1) (aU (nth t2.Kids x27)) eF q .obj q q q q ?_
  refine aI fun b36 h37 => dv _ Ar (hq_condition_inside _ _ _ _ h37) q q <| Ra (I_ b36) q q <| R0 <| Jq q <| Rm (I_ b36) q q <| bP q q q <| R0 <| aw q (fun h38 => ?_) (fun h38 => ?_)
  · exact Jq q <| Rm (I_ b36) q q <| Ra (I_ b36) q q <| Ro hΨ q q q
  exact ao <| bn <| aG 52 (m := (t2.Kids.length : Int)) q fun q39 => aG 53 (m := x27) q fun q40 => Jr q <| aR (x27 + 1) q q (bu (by omega) (by omega)) q <| Rm (I_ (x27 + 1)) q q <| R0 <| bt <| Jc [] [] [] (hE28 (x27 + 1)) (.same q (.cons (A := a8 0) q (.ob q) (.all q))) (.cc q (.box (c9.sames)) q .nil) q q
theorem MW : ∀ n, (∀ (t0 : aq) (t1 : aJ) (t2 : az) (r : Int), (gQ n) t0 t1 t2 = some r → aB PP 198 [ac (au t0), ac (bz t1), ac (aU t2)] (I_ r)) := by
  intro n
  induction n with
  | zero => exact (fun _ _ _ _ h => by cases h)
  | succ n ih => exact (fun a0 a1 a2 r h => MR _ ih a0 a1 a2 r h)
theorem Mw {t0 t1 t2 r} (hr : qu t0 t1 t2 = some r) : aB PP 198 [ac (au t0), ac (bz t1), ac (aU t2)] (I_ r) := by
  obtain ⟨n, hn⟩ := iS hr
  exact (MW n) t0 t1 t2 r hn
theorem Mm {t0 t1 t2 r} (hr : nJ t0 t1 t2 = some r) : aB PP 155 [ac (au t0), ac (bz t1), ac (aU t2)] (I_ r) := by
  refine Fo I_ Tryz.func155 q (n := 24) q q hr fun X hΨ => ?_
  refine Jq q <| aV (ac (au t0)) q q <| aV (ac (bz t1)) q q <| aV (ac (aU t2)) q q <| Ra (I_ 0) q q <| R0 <| Js <| Jq q ?_
  refine aK (au t0) bN q q q q <| aK (bz t1) fq q q q q <| Rc vL yG q q fun b1 => Ra (I_ b1) q q <| R0 <| Jq q <| Rm (I_ b1) q q <| bP q q q ?_
  refine R0 <| aw q (fun h3 => ?_) (fun h3 => ?_)
  · exact Jq q <| Rm (I_ b1) q q <| Ra (I_ b1) q q <| Rt hΨ q q q
  refine ao <| Js <| Jq q <| aK (aU t2) eF q q q q <| Rc FA Mn q q fun b4 => Ra (I_ b4) q q <| R0 <| Js ?_
  refine Jr q <| Rm (I_ b4) q q <| bP q q q <| R0 <| aw q (fun h6 => ?_) (fun h6 => ?_)
  · exact Jq q <| Rm (I_ b4) q q <| Ra (I_ b4) q q <| Rt hΨ q q q
  refine ao <| Jq q <| aK (au t0) bN q q q q <| aK (bz t1) fq q q q q <| aK (aU t2) eF q q q q <| Rc Ar Mw q q fun b7 => Ra (I_ b7) q q <| R0 ?_
  exact eV hΨ q q q
theorem CX {t0 t1 r} (hr : kL t0 t1 = some r) : aB PP 103 [ac (au t0), ac (aP t1)] (I_ r) := by
  refine Fo I_ Tryz.func103 q (n := 61) q q hr fun X hΨ => ?_
  refine Jq q <| aV (ac (au t0)) q q <| aV (ac (aP t1)) q q <| Ra (I_ 0) q q <| R0 <| Js <| Jq q <| aK (au t0) bN q q q q ?_
  refine Rc ox pF q q fun b1 => Rm (bk [am b1.1, I_ b1.2]) q q <| bx (am b1.1) q q q <| bx (I_ b1.2) q q q <| Ra (am b1.1) q q <| Ra (I_ b1.2) q q <| R0 <| Jq q ?_
  refine Rm (I_ b1.2) q q <| bP q q q <| R0 <| aw q (fun h3 => ?_) (fun h3 => ?_)
  · exact Jq q <| Rm (I_ b1.2) q q <| Ra (I_ b1.2) q q <| Rt hΨ q q q
  refine ao <| Js <| Jq q <| ai (bq t1.Name) wg q q q <| ag (am t1.Name) dp q q q <| Rc oz pS q q fun b4 => cd q q <| R0 ?_
  refine bQ q (fun h6 => ?_) (fun h6 => ?_)
  · exact Jq q <| Ra (I_ 2) q q <| Rt hΨ q q q
  refine ao <| Js <| Jq q <| aK (au t0) bN q q q q <| ai (bz t1.Left) iT q q q <| aK (bz t1.Left) fq q q q q <| Rc vL yG q q fun b7 => Ra (I_ b7) q q ?_
  refine R0 <| Jq q <| Rm (I_ b7) q q <| bP q q q <| R0 <| aw q (fun h9 => ?_) (fun h9 => ?_)
  · exact Jq q <| Rm (I_ b7) q q <| Ra (I_ b7) q q <| Rt hΨ q q q
  refine ao <| Js <| Jq q <| aK (au t0) bN q q q q <| aK (aP t1) eA q q q q <| Rc F6 KW q q fun b10 => Ra (I_ b10) q q <| R0 ?_
  refine Jq q <| Rm (I_ b10) q q <| bP q q q <| R0 <| aw q (fun h12 => ?_) (fun h12 => ?_)
  · exact Jq q <| Rm (I_ b10) q q <| Ra (I_ b10) q q <| Rt hΨ q q q
  refine ao <| Js <| Jq q <| aK (aP t1) eA q q q q <| Rc F7 Kn q q fun b13 => Ra (I_ b13) q q <| R0 <| Js ?_
  refine Jr q <| Rm (I_ b13) q q <| bP q q q <| R0 <| aw q (fun h15 => ?_) (fun h15 => ?_)
  · exact Jq q <| Rm (I_ b13) q q <| Ra (I_ b13) q q <| Rt hΨ q q q
  refine ao <| Jq q <| aK (aP t1) eA q q q q <| Rc Af Du q q fun b16 => Rm (bk [AL 1 ab b16.1, AL 1 ab b16.2]) q q <| bx (AL 1 ab b16.1) q q q <| bx (AL 1 ab b16.2) q q q <| Ra (AL 1 ab b16.1) q q ?_
  refine Ra (AL 1 ab b16.2) q q <| R0 <| Js <| Jq q <| aK (au t0) bN q q q q <| ai (bz t1.Right) ex q q q <| ai (aA t1.Right.Graph) dr q q q <| aK (aA t1.Right.Graph) ck q q q q <| Rm (AL 1 ab b16.1) q q ?_
  refine Rm (AL 1 ab b16.2) q q <| Rc F8 LI q q fun b18 => cd q q <| R0 <| bQ q (fun h20 => ?_) (fun h20 => ?_)
  · exact Jq q <| Ra (I_ 13) q q <| Rt hΨ q q q
  refine ao <| Jq q <| aK (au t0) bN q q q q <| ai (bz t1.Left) iT q q q <| aK (bz t1.Left) fq q q q q <| ai (aU t1.Condition) wh q q q <| aK (aU t1.Condition) eF q q q q <| Rc F9 Mm q q fun b21 => ?_
  exact Ra (I_ b21) q q <| Rt hΨ q q q
theorem LH {t0 r} (hr : tq t0 = some r) : aB PP 104 [ac (aP t0)] (bk [AL 1 ab r.1, AL 1 ab r.2]) := by
  refine Fo (fun (r : (List Int) × (List Int)) => bk [AL 1 ab r.1, AL 1 ab r.2]) Tryz.func104 q (n := 22) q q hr fun X hΨ => ?_
  refine Jq q <| aV (ac (aP t0)) q q <| Ra (af) q q <| Ra (af) q q <| R0 <| Js <| bW <| ai (cE t0.Keep) lp q q q <| ai ((cL 1 ab) t0.Keep.Nodes) fw q q q ?_
  refine ag (AL 1 ab t0.Keep.Nodes) bh q q q <| ai (bz t0.Left) iT q q q <| ai (aA t0.Left.Graph) dr q q q <| ai ((cL 1 ab) t0.Left.Graph.Nodes) ct q q q <| ag (AL 1 ab t0.Left.Graph.Nodes) bh q q q <| aD (cc := ab) bI q q <| Rc rJ tF q q fun b1 => ai (cE t0.Keep) lp q q q <| ai ((cL 1 ab) t0.Keep.Edges) gM q q q ?_
  refine ag (AL 1 ab t0.Keep.Edges) bh q q q <| ai (bz t0.Left) iT q q q <| ai (aA t0.Left.Graph) dr q q q <| ai ((cL 3 av) t0.Left.Graph.Edges) d9 q q q <| ag (AL 3 av t0.Left.Graph.Edges) di q q q <| aD (cc := av) fu q q <| Rc rJ tF q q fun b3 => Ra (AL 1 ab b1) q q <| Ra (AL 1 ab b3) q q ?_
  exact bK (by kernel_rfl) <| Jt hΨ (bG (As := [AL 1 ab b1, AL 1 ab b3]) q q (.cons (.tmp (A := AL 1 ab b1) q) (.cons (.tmp (A := AL 1 ab b3) q) .nil))) q q
theorem LG {t0 t1 r} (hr : py t0 t1 = some r) : aB PP 62 [ac (au t0), ac (aP t1)] (bk [AL 1 ab r.1, AL 1 ab r.2.1, I_ r.2.2]) := by
  refine Fo (fun (r : (List Int) × (List Int) × Int) => bk [AL 1 ab r.1, AL 1 ab r.2.1, I_ r.2.2]) Tryz.func62 q (n := 23) q q hr fun X hΨ => ?_
  refine Jq q <| aV (ac (au t0)) q q <| aV (ac (aP t1)) q q <| Ra (af) q q <| Ra (af) q q <| Ra (I_ 0) q q <| R0 <| Js <| Js ?_
  refine Jr q <| aK (au t0) bN q q q q <| aK (aP t1) eA q q q q <| Rc Ae CX q q fun b1 => Ra (I_ b1) q q <| R0 <| Jq q <| Rm (I_ b1) q q ?_
  refine bP q q q <| R0 <| aw q (fun h3 => ?_) (fun h3 => ?_)
  · exact Jq q <| Rm (I_ b1) q q <| Ra (af) q q <| Ra (af) q q <| Ra (I_ b1) q q <| R0 <| dg hΨ (bG (As := [af, af, I_ b1]) q q (.cons (.tmp (A := af) q) (.cons (.tmp (A := af) q) (.cons (.tmp (A := I_ b1) q) .nil)))) (fun y hy => by cases hy; exact (.tup (.cons .nil (.cons .nil (.cons .same .nil)))))
  refine ao <| Jq q <| aK (aP t1) eA q q q q <| Rc EI LH q q fun b4 => Rm (bk [AL 1 ab b4.1, AL 1 ab b4.2]) q q <| bx (AL 1 ab b4.1) q q q <| bx (AL 1 ab b4.2) q q q <| Ra (AL 1 ab b4.1) q q ?_
  refine Ra (AL 1 ab b4.2) q q <| R0 <| Jq q <| Rm (AL 1 ab b4.1) q q <| Rm (AL 1 ab b4.2) q q <| Ra (AL 1 ab b4.1) q q <| Ra (AL 1 ab b4.2) q q <| Ra (I_ 0) q q <| R0 ?_
  exact Jt hΨ (bG (As := [AL 1 ab b4.1, AL 1 ab b4.2, I_ 0]) q q (.cons (.tmp (A := AL 1 ab b4.1) q) (.cons (.tmp (A := AL 1 ab b4.2) q) (.cons (.tmp (A := I_ 0) q) .nil)))) q q
theorem LF {t0 t1 r} (hr : px t0 t1 = some r) : aB PP 63 [ac (au t0), ac (aP t1)] (bk [AL 1 ab r.1, AL 1 ab r.2.1, I_ r.2.2]) := by
  refine Fo (fun (r : (List Int) × (List Int) × Int) => bk [AL 1 ab r.1, AL 1 ab r.2.1, I_ r.2.2]) Tryz.func63 q (n := 23) q q hr fun X hΨ => ?_
  refine Jq q <| aV (ac (au t0)) q q <| aV (ac (aP t1)) q q <| Ra (af) q q <| Ra (af) q q <| Ra (I_ 0) q q <| R0 <| Js <| Js ?_
  refine Jr q <| aK (au t0) bN q q q q <| aK (aP t1) eA q q q q <| Rc Ae CX q q fun b1 => Ra (I_ b1) q q <| R0 <| Jq q <| Rm (I_ b1) q q ?_
  refine bP q q q <| R0 <| aw q (fun h3 => ?_) (fun h3 => ?_)
  · exact Jq q <| Rm (I_ b1) q q <| Ra (af) q q <| Ra (af) q q <| Ra (I_ b1) q q <| R0 <| dg hΨ (bG (As := [af, af, I_ b1]) q q (.cons (.tmp (A := af) q) (.cons (.tmp (A := af) q) (.cons (.tmp (A := I_ b1) q) .nil)))) (fun y hy => by cases hy; exact (.tup (.cons .nil (.cons .nil (.cons .same .nil)))))
  refine ao <| Jq q <| aK (aP t1) eA q q q q <| Rc Af Du q q fun b4 => Rm (bk [AL 1 ab b4.1, AL 1 ab b4.2]) q q <| bx (AL 1 ab b4.1) q q q <| bx (AL 1 ab b4.2) q q q <| Ra (AL 1 ab b4.1) q q ?_
  refine Ra (AL 1 ab b4.2) q q <| R0 <| Jq q <| Rm (AL 1 ab b4.1) q q <| Rm (AL 1 ab b4.2) q q <| Ra (AL 1 ab b4.1) q q <| Ra (AL 1 ab b4.2) q q <| Ra (I_ 0) q q <| R0 ?_
  exact Jt hΨ (bG (As := [AL 1 ab b4.1, AL 1 ab b4.2, I_ 0]) q q (.cons (.tmp (A := AL 1 ab b4.1) q) (.cons (.tmp (A := AL 1 ab b4.2) q) (.cons (.tmp (A := I_ 0) q) .nil)))) q q
theorem Lz {t0 t1 r} (hr : te t0 t1 = some r) : aB PP 64 [ac (au t0), I_ t1] (bk [AL 1 ab r.1, I_ r.2]) := by
  refine Fo (fun (r : (List Int) × Int) => bk [AL 1 ab r.1, I_ r.2]) Tryz.func64 q (n := 32) q q hr fun X hΨ => ?_
  refine Jq q <| aV (ac (au t0)) q q <| Ra (af) q q <| Ra (I_ 0) q q <| R0 <| Js <| Jq q <| aK (au t0) bN q q q q ?_
  refine Rm (I_ t1) q q <| cF (cc := ab) [t1] bc fj (.cons (A := I_ t1) q q q .nil) q q q <| Rc vH xF q q fun b1 => Ra (I_ b1) q q <| R0 <| Jq q <| Rm (I_ b1) q q <| bP q q q ?_
  refine R0 <| aw q (fun h3 => ?_) (fun h3 => ?_)
  · exact Jq q <| Rm (I_ b1) q q <| Ra (af) q q <| Ra (I_ b1) q q <| R0 <| dg hΨ (bG (As := [af, I_ b1]) q q (.cons (.tmp (A := af) q) (.cons (.tmp (A := I_ b1) q) .nil))) (fun y hy => by cases hy; exact (.tup (.cons .nil (.cons .same .nil))))
  refine ao <| Jq q <| Ra (af) q q <| R0 <| Js <| Jq q <| ai ((cL 4 aM) t0.Nodes) dk q q q <| ag (AL 4 aM t0.Nodes) dl q q q ?_
  refine aD (cc := aM) ef q q <| Rm (I_ 0) q q <| R0 <| aC <| Jn (fun x4 => ⟨fr [(1, I_ t1), (2, ap (au t0)), (7, a8 0), (18, I_ (t0.Nodes.length : Int)), (19, I_ x4.2)], hp [(0, .row 3 1 (x4.1.map ab))], 1⟩) [] [] [0] q (.s2 q q (.cons (A := af) q (.nilobj q q) (.all q))) (.new q q .nil) q q (fun E5 hE5 x4 => ?_)
  refine Jq q <| aZ q q q <| R0 <| Js <| aw q (fun h12 => ?_) (fun h12 => ?_)
  rotate_left
  · exact br q <| bO <| Jq q <| Rm (a8 0) q q <| Ra (a8 0) q q <| Ra (I_ 0) q q <| R0 <| dg hΨ (bG (As := [a8 0, I_ 0]) q q (.cons (.tmp (A := a8 0) q) (.cons (.tmp (A := I_ 0) q) .nil))) (fun y hy => by cases hy; exact (.tup (.cons (.frow q q (ah.flat _ _)) (.cons .same .nil))))
  refine ao <| Js <| aC <| Jq q <| Rm (I_ x4.2) q q <| Ra (I_ x4.2) q q <| R0 <| Jq q ?_
  refine aK (au t0) bN q q q q <| Rm (I_ x4.2) q q <| Rm (I_ t1) q q <| Rc vI wY q q fun b13 => R0 ?_
  apply ch (fun v17 => ⟨fr [(1, I_ t1), (2, ap (au t0)), (7, a8 0), (18, I_ (t0.Nodes.length : Int)), (19, I_ x4.2)], hp [(0, .row 3 1 (v17.map ab))], 1⟩) (fun v17 => uq x4 v17)
  · intro K18
    refine bQ q (fun h15 => ?_) (fun h15 => ?_)
    rotate_left
    · exact ao <| Jc [] [] [] (K18 x4.1) (.s2 q q (.cons (A := a8 0) q (.ob q) (.all q))) (.cc q (.row (ah.flat _ _)) q .nil) q q
    refine Jr q <| Rm (a8 0) q q <| Rm (I_ x4.2) q q <| cF (cc := ab) [x4.2] bc fj (.cons (A := I_ x4.2) q q q .nil) q q q <| Ri fun h16 => ?_
    exact dx (cc := ab) (xs := x4.1) (ys := [x4.2]) 1 dS q q q h16 q q q <| Ra (a8 1) q q <| R0 <| Jc [] [(0, 1)] [] (K18 (x4.1 ++ [x4.2])) (.s2 q q (.cons (A := a8 1) q (.ob q) (.all q))) (.cc q (.row (ah.flat _ _)) q .nil) q q
  intro v17
  exact bn <| aG 18 (m := (t0.Nodes.length : Int)) q fun q19 => aG 19 (m := x4.2) q fun q20 => Jr q <| aR (x4.2 + 1) q q (bu (by omega) (by omega)) q <| Rm (I_ (x4.2 + 1)) q q <| R0 <| bt <| Jc [] [] [] (hE5 (v17, x4.2 + 1)) (.s2 q q (.cons (A := a8 0) q (.ob q) (.all q))) (.cc q (.row (ah.flat _ _)) q .nil) q q
theorem DH {t0 t1 r} (hr : jQ t0 t1 = some r) : aB PP 32 [ac (au t0), ac (aP t1)] (bk [AL 1 ab r.1, I_ r.2]) := by
  refine Fo (fun (r : (List Int) × Int) => bk [AL 1 ab r.1, I_ r.2]) Tryz.func32 q (n := 148) q q hr fun X hΨ => ?_
  refine Jq q <| aV (ac (au t0)) q q <| aV (ac (aP t1)) q q <| Ra (af) q q <| Ra (I_ 0) q q <| R0 <| Jq q <| aK (au t0) bN q q q q ?_
  refine aK (aP t1) eA q q q q <| Rc fn_62 LG q q fun b1 => Rm (bk [AL 1 ab b1.1, AL 1 ab b1.2.1, I_ b1.2.2]) q q <| bx (AL 1 ab b1.1) q q q <| bx (AL 1 ab b1.2.1) q q q <| bx (I_ b1.2.2) q q q <| Ra (AL 1 ab b1.1) q q <| Ra (AL 1 ab b1.2.1) q q <| Ra (I_ b1.2.2) q q ?_
  refine R0 <| Js <| Jq q <| Rm (I_ b1.2.2) q q <| bP q q q <| R0 <| aw q (fun h3 => ?_) (fun h3 => ?_)
  · exact Jq q <| Rm (I_ b1.2.2) q q <| Ra (af) q q <| Ra (I_ b1.2.2) q q <| R0 <| dg hΨ (bG (As := [af, I_ b1.2.2]) q q (.cons (.tmp (A := af) q) (.cons (.tmp (A := I_ b1.2.2) q) .nil))) (fun y hy => by cases hy; exact (.tup (.cons .nil (.cons .same .nil))))
  refine ao <| Jq q <| aK (au t0) bN q q q q <| aK (aP t1) eA q q q q <| Rc fn_63 LF q q fun b4 => Rm (bk [AL 1 ab b4.1, AL 1 ab b4.2.1, I_ b4.2.2]) q q <| bx (AL 1 ab b4.1) q q q <| bx (AL 1 ab b4.2.1) q q q ?_
  refine bx (I_ b4.2.2) q q q <| Ra (AL 1 ab b4.1) q q <| Ra (AL 1 ab b4.2.1) q q <| Ra (I_ b4.2.2) q q <| R0 <| Js <| Jq q <| Rm (I_ b4.2.2) q q <| bP q q q ?_
  refine R0 <| aw q (fun h6 => ?_) (fun h6 => ?_)
  · exact Jq q <| Rm (I_ b4.2.2) q q <| Ra (af) q q <| Ra (I_ b4.2.2) q q <| R0 <| dg hΨ (bG (As := [af, I_ b4.2.2]) q q (.cons (.tmp (A := af) q) (.cons (.tmp (A := I_ b4.2.2) q) .nil))) (fun y hy => by cases hy; exact (.tup (.cons .nil (.cons .same .nil))))
  refine ao <| Jq q <| ai ((cL 4 aM) t0.Nodes) dk q q q <| ag (AL 4 aM t0.Nodes) dl q q q <| aD (cc := aM) ef q q <| ai ((cL 7 aY) t0.Edges) dL q q q <| ag (AL 7 aY t0.Edges) dO q q q <| aD (cc := aY) fe q q <| aI fun b7 h8 => ?_
  refine aR b7 q q (Option.some.inj h8) q <| Ri fun h9 => ?_
  refine lm (cc := ab) 0 0 dS l3 q q h9.1 h9.2 q q <| Ra (a8 0) q q <| R0 <| Js <| Jq q <| Rm (AL 1 ab b1.1) q q <| aD (cc := ab) bI q q <| Rm (I_ 0) q q <| R0 ?_
  refine aC <| Jn (fun x10 => ⟨fr [(2, ap (au t0)), (3, ap (aP t1)), (7, AL 1 ab b1.2.1), (9, AL 1 ab b4.1), (10, AL 1 ab b4.2.1), (11, a8 0), (51, AL 1 ab b1.1), (52, I_ (b1.1.length : Int)), (53, I_ x10.2)], hp [(0, .row 3 1 (x10.1.map ab))], 1⟩) [] [] [] q (.s2 q q (.s3 q q q (.cons (A := a8 0) q (.ob q) (.all q)))) (.cc q (.row (ah.flat _ _)) q .nil) q q (fun E11 hE11 x10 => ?_)
  refine Jq q <| aZ q q q <| R0 <| Js <| aw q (fun h21 => ?_) (fun h21 => ?_)
  · refine ao <| Js <| aC <| Jq q <| Ri fun h22 => ?_
    refine aQ (cc := ab) bc q q h22.1 h22.2 q <| ag (I_ (nth b1.1 x10.2)) ay q q q <| Ra (I_ (nth b1.1 x10.2)) q q <| R0 <| Jq q <| ai (bz t1.Left) iT q q q <| ai (aA t1.Left.Graph) dr q q q <| ai ((cL 1 ab) t1.Left.Graph.Nodes) ct q q q <| ag (AL 1 ab t1.Left.Graph.Nodes) bh q q q ?_
    refine Rm (I_ (nth b1.1 x10.2)) q q <| Ri fun h23 => ?_
    refine aQ (cc := ab) bc q q h23.1 h23.2 q <| ag (I_ (nth t1.Left.Graph.Nodes (nth b1.1 x10.2))) ay q q q <| Ra (I_ (nth t1.Left.Graph.Nodes (nth b1.1 x10.2))) q q <| R0 <| Js <| Jq q <| aK (au t0) bN q q q q <| Rm (I_ (nth t1.Left.Graph.Nodes (nth b1.1 x10.2))) q q <| aI fun b24 h25 => ?_
    refine dv _ fn_64 (Lz h25) q q <| Rm (bk [AL 1 ab b24.1, I_ b24.2]) q q <| bx (AL 1 ab b24.1) q q q <| bx (I_ b24.2) q q q <| Ra (AL 1 ab b24.1) q q <| Ra (I_ b24.2) q q <| R0 <| Jq q <| Rm (AL 1 ab b24.1) q q ?_
    refine aD (cc := ab) bI q q <| cK q q q <| R0 <| aw q (fun h26 => ?_) (fun h26 => ?_)
    · exact Jq q <| Ra (af) q q <| Ra (I_ 13) q q <| R0 <| bO <| dg hΨ (bG (As := [af, I_ 13]) q q (.cons (.tmp (A := af) q) (.cons (.tmp (A := I_ 13) q) .nil))) (fun y hy => by cases hy; exact (.tup (.cons .nil (.cons .same .nil))))
    refine ao <| Jr q <| Rm (a8 0) q q <| Rm (I_ (nth t1.Left.Graph.Nodes (nth b1.1 x10.2))) q q <| Ri fun h27 => ?_
    refine dh (cc := ab) bc q q q h27.1 h27.2 q <| ff (cc := ab) (nth t1.Left.Graph.Nodes (nth b1.1 x10.2)) 0 (I_ (nth x10.1 (nth t1.Left.Graph.Nodes (nth b1.1 x10.2)))) ay q q h27.1 h27.2 q q <| aI fun b28 h29 => dq b28 q q (Option.some.inj h29) q <| dh (cc := ab) bc q q q h27.1 h27.2 q <| eR (cc := ab) (nth t1.Left.Graph.Nodes (nth b1.1 x10.2)) 0 (I_ b28) b28 ez q q q h27.1 h27.2 q q q q <| R0 <| bn <| aG 52 (m := (b1.1.length : Int)) q fun q30 => aG 53 (m := x10.2) q fun q31 => ?_
    exact Jr q <| aR (x10.2 + 1) q q (bu (by omega) (by omega)) q <| Rm (I_ (x10.2 + 1)) q q <| R0 <| bt <| Jc [] [] [] (hE11 ((x10.1.set (nth t1.Left.Graph.Nodes (nth b1.1 x10.2)).toNat b28), x10.2 + 1)) (.s2 q q (.s3 q q q (.cons (A := a8 0) q (.ob q) (.all q)))) (.cc q (.row (ah.flat _ _)) q .nil) q q
  refine br q <| du <| Js <| Jq q <| Rm (AL 1 ab b1.2.1) q q <| aD (cc := ab) bI q q <| Rm (I_ 0) q q <| R0 <| aC ?_
  refine Jn (fun x32 => ⟨fr [(2, ap (au t0)), (3, ap (aP t1)), (9, AL 1 ab b4.1), (10, AL 1 ab b4.2.1), (11, a8 0), (52, I_ (b1.1.length : Int)), (53, I_ x10.2), (80, AL 1 ab b1.2.1), (81, I_ (b1.2.1.length : Int)), (82, I_ x32.2)], hp [(0, .row 3 1 (x32.1.map ab))], 1⟩) [] [] [] q (.same q (.s3 q q q (.cons (A := a8 0) q (.ob q) (.all q)))) (.cc q (.row (ah.flat _ _)) q .nil) q q (fun E33 hE33 x32 => ?_)
  refine Jq q <| aZ q q q <| R0 <| Js <| aw q (fun h42 => ?_) (fun h42 => ?_)
  · refine ao <| Js <| aC <| Jq q <| Ri fun h43 => ?_
    refine aQ (cc := ab) bc q q h43.1 h43.2 q <| ag (I_ (nth b1.2.1 x32.2)) ay q q q <| Ra (I_ (nth b1.2.1 x32.2)) q q <| R0 <| bW <| Rm (a8 0) q q <| ai ((cL 4 aM) t0.Nodes) dk q q q <| ag (AL 4 aM t0.Nodes) dl q q q <| aD (cc := aM) ef q q <| ai (bz t1.Left) iT q q q ?_
    refine ai (aA t1.Left.Graph) dr q q q <| ai ((cL 3 av) t1.Left.Graph.Edges) d9 q q q <| ag (AL 3 av t1.Left.Graph.Edges) di q q q <| Rm (I_ (nth b1.2.1 x32.2)) q q <| Ri fun h44 => ?_
    refine aQ (cc := av) et q q h44.1 h44.2 q <| ai (ab ((nth t1.Left.Graph.Edges (nth b1.2.1 x32.2)).Type_)) i7 q q q <| ag (I_ ((nth t1.Left.Graph.Edges (nth b1.2.1 x32.2)).Type_)) ay q q q <| aI fun b45 h46 => aR b45 q q (Option.some.inj h46) q <| Ri fun h47 => ?_
    refine dh (cc := ab) bc q q q h47.1 h47.2 q <| ff (cc := ab) b45 0 (I_ (nth x32.1 b45)) ay q q h47.1 h47.2 q q <| aI fun b48 h49 => dq b48 q q (Option.some.inj h49) q <| dh (cc := ab) bc q q q h47.1 h47.2 q <| eR (cc := ab) b45 0 (I_ b48) b48 ez q q q h47.1 h47.2 q q q q <| bK (by kernel_rfl) <| bn <| aG 81 (m := (b1.2.1.length : Int)) q fun q50 => aG 82 (m := x32.2) q fun q51 => ?_
    exact Jr q <| aR (x32.2 + 1) q q (bu (by omega) (by omega)) q <| Rm (I_ (x32.2 + 1)) q q <| R0 <| bt <| Jc [] [] [] (hE33 ((x32.1.set b45.toNat b48), x32.2 + 1)) (.same q (.s3 q q q (.cons (A := a8 0) q (.ob q) (.all q)))) (.cc q (.row (ah.flat _ _)) q .nil) q q
  refine br q <| du <| Js <| Jq q <| Rm (AL 1 ab b4.1) q q <| aD (cc := ab) bI q q <| Rm (I_ 0) q q <| R0 <| aC ?_
  refine Jn (fun x52 => ⟨fr [(2, ap (au t0)), (3, ap (aP t1)), (10, AL 1 ab b4.2.1), (11, a8 0), (52, I_ (b1.1.length : Int)), (53, I_ x10.2), (81, I_ (b1.2.1.length : Int)), (82, I_ x32.2), (104, AL 1 ab b4.1), (105, I_ (b4.1.length : Int)), (106, I_ x52.2)], hp [(0, .row 3 1 (x52.1.map ab))], 1⟩) [] [] [] q (.s3 q q q (.cons (A := a8 0) q (.ob q) (.all q))) (.cc q (.row (ah.flat _ _)) q .nil) q q (fun E53 hE53 x52 => ?_)
  refine Jq q <| aZ q q q <| R0 <| Js <| aw q (fun h60 => ?_) (fun h60 => ?_)
  · refine ao <| Js <| aC <| Jq q <| Ri fun h61 => ?_
    refine aQ (cc := ab) bc q q h61.1 h61.2 q <| ag (I_ (nth b4.1 x52.2)) ay q q q <| Ra (I_ (nth b4.1 x52.2)) q q <| R0 <| Jr q <| Rm (a8 0) q q <| ai (bz t1.Right) ex q q q <| ai (aA t1.Right.Graph) dr q q q <| ai ((cL 1 ab) t1.Right.Graph.Nodes) ct q q q <| ag (AL 1 ab t1.Right.Graph.Nodes) bh q q q ?_
    refine Rm (I_ (nth b4.1 x52.2)) q q <| Ri fun h62 => ?_
    refine aQ (cc := ab) bc q q h62.1 h62.2 q <| ag (I_ (nth t1.Right.Graph.Nodes (nth b4.1 x52.2))) ay q q q <| Ri fun h63 => ?_
    refine dh (cc := ab) bc q q q h63.1 h63.2 q <| ff (cc := ab) (nth t1.Right.Graph.Nodes (nth b4.1 x52.2)) 0 (I_ (nth x52.1 (nth t1.Right.Graph.Nodes (nth b4.1 x52.2)))) ay q q h63.1 h63.2 q q <| aI fun b64 h65 => aR b64 q q (Option.some.inj h65) q <| dh (cc := ab) bc q q q h63.1 h63.2 q <| eR (cc := ab) (nth t1.Right.Graph.Nodes (nth b4.1 x52.2)) 0 (I_ b64) b64 ez q q q h63.1 h63.2 q q q q <| R0 <| bn <| aG 105 (m := (b4.1.length : Int)) q fun q66 => aG 106 (m := x52.2) q fun q67 => ?_
    exact Jr q <| aR (x52.2 + 1) q q (bu (by omega) (by omega)) q <| Rm (I_ (x52.2 + 1)) q q <| R0 <| bt <| Jc [] [] [] (hE53 ((x52.1.set (nth t1.Right.Graph.Nodes (nth b4.1 x52.2)).toNat b64), x52.2 + 1)) (.s3 q q q (.cons (A := a8 0) q (.ob q) (.all q))) (.cc q (.row (ah.flat _ _)) q .nil) q q
  refine br q <| du <| Js <| Jq q <| Rm (AL 1 ab b4.2.1) q q <| aD (cc := ab) bI q q <| Rm (I_ 0) q q <| R0 <| aC ?_
  refine Jn (fun x68 => ⟨fr [(2, ap (au t0)), (3, ap (aP t1)), (11, a8 0), (52, I_ (b1.1.length : Int)), (53, I_ x10.2), (81, I_ (b1.2.1.length : Int)), (82, I_ x32.2), (105, I_ (b4.1.length : Int)), (106, I_ x52.2), (123, AL 1 ab b4.2.1), (124, I_ (b4.2.1.length : Int)), (125, I_ x68.2)], hp [(0, .row 3 1 (x68.1.map ab))], 1⟩) [] [] [] q (.s2 q q (.cons (A := a8 0) q (.ob q) (.all q))) (.cc q (.row (ah.flat _ _)) q .nil) q q (fun E69 hE69 x68 => ?_)
  refine Jq q <| aZ q q q <| R0 <| Js <| aw q (fun h78 => ?_) (fun h78 => ?_)
  rotate_left
  · exact br q <| bO <| Jq q <| Rm (a8 0) q q <| Ra (a8 0) q q <| Ra (I_ 0) q q <| R0 <| dg hΨ (bG (As := [a8 0, I_ 0]) q q (.cons (.tmp (A := a8 0) q) (.cons (.tmp (A := I_ 0) q) .nil))) (fun y hy => by cases hy; exact (.tup (.cons (.frow q q (ah.flat _ _)) (.cons .same .nil))))
  refine ao <| Js <| aC <| Jq q <| Ri fun h79 => ?_
  refine aQ (cc := ab) bc q q h79.1 h79.2 q <| ag (I_ (nth b4.2.1 x68.2)) ay q q q <| Ra (I_ (nth b4.2.1 x68.2)) q q <| R0 <| bW <| Rm (a8 0) q q <| ai ((cL 4 aM) t0.Nodes) dk q q q <| ag (AL 4 aM t0.Nodes) dl q q q <| aD (cc := aM) ef q q <| ai (bz t1.Right) ex q q q ?_
  refine ai (aA t1.Right.Graph) dr q q q <| ai ((cL 3 av) t1.Right.Graph.Edges) d9 q q q <| ag (AL 3 av t1.Right.Graph.Edges) di q q q <| Rm (I_ (nth b4.2.1 x68.2)) q q <| Ri fun h80 => ?_
  refine aQ (cc := av) et q q h80.1 h80.2 q <| ai (ab ((nth t1.Right.Graph.Edges (nth b4.2.1 x68.2)).Type_)) i7 q q q <| ag (I_ ((nth t1.Right.Graph.Edges (nth b4.2.1 x68.2)).Type_)) ay q q q <| aI fun b81 h82 => aR b81 q q (Option.some.inj h82) q <| Ri fun h83 => ?_
  refine dh (cc := ab) bc q q q h83.1 h83.2 q <| ff (cc := ab) b81 0 (I_ (nth x68.1 b81)) ay q q h83.1 h83.2 q q <| aI fun b84 h85 => aR b84 q q (Option.some.inj h85) q <| dh (cc := ab) bc q q q h83.1 h83.2 q <| eR (cc := ab) b81 0 (I_ b84) b84 ez q q q h83.1 h83.2 q q q q <| bK (by kernel_rfl) <| bn <| aG 124 (m := (b4.2.1.length : Int)) q fun q86 => aG 125 (m := x68.2) q fun q87 => ?_
  exact Jr q <| aR (x68.2 + 1) q q (bu (by omega) (by omega)) q <| Rm (I_ (x68.2 + 1)) q q <| R0 <| bt <| Jc [] [] [] (hE69 ((x68.1.set b81.toNat b84), x68.2 + 1)) (.s2 q q (.cons (A := a8 0) q (.ob q) (.all q))) (.cc q (.row (ah.flat _ _)) q .nil) q q
theorem M4 {t0 t1 r} (hr : Dp t0 t1 = some r) : aB PP 11 [ac (au t0), ac (aP t1)] (bk [AL 1 ab r.1, I_ r.2]) := by
  refine Fo (fun (r : (List Int) × Int) => bk [AL 1 ab r.1, I_ r.2]) Tryz.func11 q (n := 21) q q hr fun X hΨ => ?_
  refine Jq q <| aV (ac (au t0)) q q <| aV (ac (aP t1)) q q <| Ra (af) q q <| Ra (I_ 0) q q <| R0 <| Js <| Jq q ?_
  refine aK (au t0) bN q q q q <| Rc ox pF q q fun b1 => Rm (bk [am b1.1, I_ b1.2]) q q <| bx (am b1.1) q q q <| bx (I_ b1.2) q q q <| Ra (am b1.1) q q <| Ra (I_ b1.2) q q <| R0 <| Js ?_
  refine Jr q <| Rm (I_ b1.2) q q <| bP q q q <| R0 <| aw q (fun h3 => ?_) (fun h3 => ?_)
  · exact Jq q <| Rm (I_ b1.2) q q <| Ra (af) q q <| Ra (I_ b1.2) q q <| R0 <| dg hΨ (bG (As := [af, I_ b1.2]) q q (.cons (.tmp (A := af) q) (.cons (.tmp (A := I_ b1.2) q) .nil))) (fun y hy => by cases hy; exact (.tup (.cons .nil (.cons .same .nil))))
  refine ao <| Jq q <| aK (au t0) bN q q q q <| aK (aP t1) eA q q q q <| Rc zx DH q q fun b4 => bx (AL 1 ab b4.1) q q q <| bx (I_ b4.2) q q q <| Ra (AL 1 ab b4.1) q q ?_
  exact Ra (I_ b4.2) q q <| R0 <| Jt hΨ (bG (As := [AL 1 ab b4.1, I_ b4.2]) q q (.cons (.tmp (A := AL 1 ab b4.1) q) (.cons (.tmp (A := I_ b4.2) q) .nil))) q q
theorem yR {t0 t1 r} (hr : uE t0 t1 = some r) : aB PP 13 [AL 1 ab t0, AL 1 ab t1] (aa r) := by
  refine Fo aa Tryz.func13 q (n := 26) q q hr fun X hΨ => ?_
  refine Jq q <| Ra (aa false) q q <| R0 <| Js <| Jq q <| Rm (AL 1 ab t0) q q <| aD (cc := ab) bI q q <| Rm (AL 1 ab t1) q q ?_
  refine aD (cc := ab) bI q q <| bP q q q <| R0 <| aw q (fun h1 => ?_) (fun h1 => ?_)
  · exact Jq q <| Ra (aa false) q q <| Rt hΨ q q q
  refine ao <| Js <| Jq q <| Rm (AL 1 ab t0) q q <| aD (cc := ab) bI q q <| Rm (I_ 0) q q <| R0 <| aC <| Jl (fun x2 => [(0, AL 1 ab t0), (1, AL 1 ab t1), (12, I_ (t0.length : Int)), (13, I_ x2)]) (.all q) (fun E3 hE3 x2 => ?_)
  refine Jq q <| aZ q q q <| R0 <| Js <| aw q (fun h8 => ?_) (fun h8 => ?_)
  rotate_left
  · exact br q <| bO <| Jq q <| Ra (aa true) q q <| Rt hΨ q q q
  refine ao <| Js <| aC <| Jq q <| Rm (I_ x2) q q <| Ra (I_ x2) q q <| R0 <| Js <| bW ?_
  refine Rm (AL 1 ab t0) q q <| Rm (I_ x2) q q <| Ri fun h9 => ?_
  refine aQ (cc := ab) bc q q h9.1 h9.2 q <| ag (I_ (nth t0 x2)) ay q q q <| Rm (AL 1 ab t1) q q <| Rm (I_ x2) q q <| Ri fun h10 => ?_
  refine aQ (cc := ab) bc q q h10.1 h10.2 q <| ag (I_ (nth t1 x2)) ay q q q <| bP q q q <| bK (by kernel_rfl) <| aw q (fun h11 => ?_) (fun h11 => ?_)
  · exact Jq q <| Ra (aa false) q q <| Ro hΨ q q q
  exact ao <| bn <| aG 12 (m := (t0.length : Int)) q fun q12 => aG 5 (m := x2) q fun q13 => Jr q <| aR (x2 + 1) q q (bu (by omega) (by omega)) q <| Rm (I_ (x2 + 1)) q q <| R0 <| bt <| Jk (hE3 (x2 + 1)) (.all q)
theorem Nd {t0 t1 r} (hr : Ee t0 t1 = some r) : aB PP 125 [AL 1 (cL 1 ab) t0, cC PP (fun x => [AL 1 ab x]) (fun y => aa y) t1] (I_ r) := by
  refine Fo I_ Tryz.func125 q (n := 19) q q hr fun X hΨ => ?_
  refine Jq q <| Ra (I_ 0) q q <| R0 <| Js <| Jq q <| Rm (AL 1 (cL 1 ab) t0) q q <| aD (cc := (cL 1 ab)) zI q q <| Rm (I_ 0) q q ?_
  refine R0 <| aC <| Jl (fun x1 => [(0, AL 1 (cL 1 ab) t0), (1, cC PP (fun x => [AL 1 ab x]) (fun y => aa y) t1), (7, I_ (t0.length : Int)), (8, I_ x1)]) (.all q) (fun E2 hE2 x1 => ?_)
  refine Jq q <| aZ q q q <| R0 <| Js <| aw q (fun h8 => ?_) (fun h8 => ?_)
  rotate_left
  · exact br q <| bO <| Jq q <| Ra (I_ (-1)) q q <| Rt hΨ q q q
  refine ao <| Js <| aC <| Jq q <| Rm (I_ x1) q q <| Ra (I_ x1) q q <| R0 <| Jq q ?_
  refine Rm (cC PP (fun x => [AL 1 ab x]) (fun y => aa y) t1) q q <| Rm (AL 1 (cL 1 ab) t0) q q <| Rm (I_ x1) q q <| Ri fun h9 => ?_
  refine aQ (cc := (cL 1 ab)) rf q q h9.1 h9.2 q <| ag (AL 1 ab (nth t0 x1)) bh q q q <| aI fun b10 h11 => iz (ga := (fun x => [AL 1 ab x])) (rt := (fun y => aa y)) (gg := t1) (u := (nth t0 x1)) (w := b10) q q h11 (NK.nk) q <| R0 <| bQ q (fun h12 => ?_) (fun h12 => ?_)
  · exact Jq q <| Rm (I_ x1) q q <| Ra (I_ x1) q q <| Ro hΨ q q q
  exact ao <| bn <| aG 7 (m := (t0.length : Int)) q fun q13 => aG 5 (m := x1) q fun q14 => Jr q <| aR (x1 + 1) q q (bu (by omega) (by omega)) q <| Rm (I_ (x1 + 1)) q q <| R0 <| bt <| Jk (hE2 (x1 + 1)) (.all q)
theorem Ej {t0 t1 r} (hr : qW t0 t1 = some r) : aB PP 76 [AL 1 (cL 1 ab) t0, cC PP (fun x => [AL 1 ab x]) (fun y => aa y) t1] (aa r) := by
  refine Fo aa Tryz.func76 q (n := 9) q q hr fun X hΨ => ?_
  refine Jq q <| Ra (aa false) q q <| R0 <| Jq q <| Rm (AL 1 (cL 1 ab) t0) q q <| Rm (cC PP (fun x => [AL 1 ab x]) (fun y => aa y) t1) q q <| Rc EN Nd q q fun b1 => ?_
  exact cG q q q <| Ra (aa (decide (0 ≤ b1))) q q <| Rt hΨ q q q
theorem MC {t0 t1 r} (hr : nT t0 t1 = some r) : aB PP 77 [AL 1 ab t0, ap (ab t1)] (aa r) := by
  refine Fo aa Tryz.func77 q (n := 9) q q hr fun X hΨ => ?_
  refine Jq q <| Ra (aa false) q q <| R0 <| Jq q <| Rm (AL 1 ab t0) q q <| ag (I_ t1) ay q q q <| Ri fun h1 => ?_
  exact aQ (cc := ab) bc q q h1.1 h1.2 q <| ag (I_ (nth t0 t1)) ay q q q <| bP q q q <| Ra (aa (decide (¬ ((nth t0 t1) = 0)))) q q <| Rt hΨ q q q
theorem uv {t0 t1 r} (hr : fS t0 t1 = some r) : aB PP 38 [ac (au t0), AL 25 aP t1] (bk [AL 1 (cL 1 ab) r.1, AL 1 ab r.2.1, I_ r.2.2]) := by
  refine Fo (fun (r : (List (List Int)) × (List Int) × Int) => bk [AL 1 (cL 1 ab) r.1, AL 1 ab r.2.1, I_ r.2.2]) Tryz.func38 q (n := 70) q q hr fun X hΨ => ?_
  refine Jq q <| aV (ac (au t0)) q q <| Ra (af) q q <| Ra (af) q q <| Ra (I_ 0) q q <| R0 <| Js <| Jq q ?_
  refine aK (au t0) bN q q q q <| Rc ox pF q q fun b1 => Rm (bk [am b1.1, I_ b1.2]) q q <| bx (am b1.1) q q q <| bx (I_ b1.2) q q q <| Ra (am b1.1) q q <| Ra (I_ b1.2) q q <| R0 <| Js ?_
  refine Jr q <| Rm (I_ b1.2) q q <| bP q q q <| R0 <| aw q (fun h3 => ?_) (fun h3 => ?_)
  · exact Jq q <| Rm (I_ b1.2) q q <| Ra (af) q q <| Ra (af) q q <| Ra (I_ b1.2) q q <| R0 <| dg hΨ (bG (As := [af, af, I_ b1.2]) q q (.cons (.tmp (A := af) q) (.cons (.tmp (A := af) q) (.cons (.tmp (A := I_ b1.2) q) .nil)))) (fun y hy => by cases hy; exact (.tup (.cons .nil (.cons .nil (.cons .same .nil)))))
  refine ao <| Js <| Jq q <| Rm (AL 25 aP t1) q q <| aD (cc := aP) jp q q <| cK q q q <| R0 <| aw q (fun h4 => ?_) (fun h4 => ?_)
  · exact Jq q <| Ra (af) q q <| Ra (af) q q <| Ra (I_ 3) q q <| R0 <| dg hΨ (bG (As := [af, af, I_ 3]) q q (.cons (.tmp (A := af) q) (.cons (.tmp (A := af) q) (.cons (.tmp (A := I_ 3) q) .nil)))) (fun y hy => by cases hy; exact (.tup (.cons .nil (.cons .nil (.cons .same .nil)))))
  refine ao <| Jq q <| Ra (af) q q <| R0 <| Js <| Jq q <| Rm (AL 25 aP t1) q q <| aD (cc := aP) jp q q ?_
  refine Rm (I_ 0) q q <| R0 <| aC <| Jn (fun x5 => ⟨fr [(2, ap (au t0)), (9, a8 0), (27, AL 25 aP t1), (28, I_ (t1.length : Int)), (29, I_ x5.2)], hp [(0, .row 26 1 (x5.1.map (cL 1 ab)))], 1⟩) [] [] [0] q (.same q (.cons (A := af) q (.nilobj q q) (.all q))) (.new q q .nil) q q (fun E6 hE6 x5 => ?_)
  refine Jq q <| aZ q q q <| R0 <| Js <| aw q (fun h12 => ?_) (fun h12 => ?_)
  · refine ao <| Js <| aC <| Jq q <| Ri fun h13 => ?_
    refine aQ (cc := aP) kg q q h13.1 h13.2 q <| aK (aP (nth t1 x5.2)) eA q q q q <| bE 1 _ jk q q <| aX (a8 1) (ac (aP (nth t1 x5.2))) (aP (nth t1 x5.2)) lh q .obj q q q q q q <| R0 <| Jq q <| aK (au t0) bN q q q q <| cr (a8 1) (aP (nth t1 x5.2)) eA q .obj q q q q <| aI fun b14 h15 => ?_
    refine dv _ zx (DH h15) q q <| Rm (bk [AL 1 ab b14.1, I_ b14.2]) q q <| bx (AL 1 ab b14.1) q q q <| bx (I_ b14.2) q q q <| Ra (AL 1 ab b14.1) q q <| Ra (I_ b14.2) q q <| R0 <| Js <| Jq q ?_
    refine Rm (I_ b14.2) q q <| bP q q q <| R0 <| aw q (fun h16 => ?_) (fun h16 => ?_)
    · exact Jq q <| Rm (I_ b14.2) q q <| Ra (af) q q <| Ra (af) q q <| Ra (I_ b14.2) q q <| R0 <| bO <| dg hΨ (bG (As := [af, af, I_ b14.2]) q q (.cons (.tmp (A := af) q) (.cons (.tmp (A := af) q) (.cons (.tmp (A := I_ b14.2) q) .nil)))) (fun y hy => by cases hy; exact (.tup (.cons .nil (.cons .nil (.cons .same .nil)))))
    refine ao <| Jr q <| Rm (a8 0) q q <| Rm (AL 1 ab b14.1) q q <| cF (cc := (cL 1 ab)) [b14.1] rf Ho (.cons (A := AL 1 ab b14.1) q q q .nil) q q q <| Ri fun h17 => ?_
    refine dx (cc := (cL 1 ab)) (xs := x5.1) (ys := [b14.1]) 2 ap_78 q q q h17 q q q <| Ra (a8 2) q q <| R0 <| bn <| aG 28 (m := (t1.length : Int)) q fun q18 => aG 29 (m := x5.2) q fun q19 => Jr q <| aR (x5.2 + 1) q q (bu (by omega) (by omega)) q <| Rm (I_ (x5.2 + 1)) q q <| R0 ?_
    exact bt <| Jc [] [(0, 2)] [] (hE6 ((x5.1 ++ [b14.1]), x5.2 + 1)) (.same q (.cons (A := a8 2) q (.ob q) (.all q))) (.cc q (.row (ah.flat _ _)) q .nil) q q
  refine br q <| du <| Jq q <| Ra (af) q q <| R0 <| Js <| Jq q <| ai ((cL 4 aM) t0.Nodes) dk q q q ?_
  refine ag (AL 4 aM t0.Nodes) dl q q q <| aD (cc := aM) ef q q <| ai ((cL 7 aY) t0.Edges) dL q q q <| ag (AL 7 aY t0.Edges) dO q q q <| aD (cc := aY) fe q q <| aI fun b20 h21 => aR b20 q q (Option.some.inj h21) q <| Rm (I_ 0) q q <| R0 <| aC ?_
  refine Jn (fun x22 => ⟨fr [(9, a8 0), (14, a8 1), (28, I_ (t1.length : Int)), (29, I_ x5.2), (53, I_ b20), (54, I_ x22.2)], hp [(0, .row 26 1 (x5.1.map (cL 1 ab))), (1, .row 3 1 (x22.1.map ab))], 2⟩) [] [] [1] q (.cons (A := a8 0) q (.ob q) (.cons (A := af) q (.nilobj q q) (.all q))) (.cc q (.row (ah.flat _ _)) q (.new q q .nil)) q q (fun E23 hE23 x22 => ?_)
  refine Jq q <| aZ q q q <| R0 <| Js <| aw q (fun h30 => ?_) (fun h30 => ?_)
  rotate_left
  · refine br q <| du <| Js <| Jq q <| Rm (a8 1) q q <| eS (cc := ab) x22.1 bI q q q <| cK q q q <| R0 <| aw q (fun h39 => ?_) (fun h39 => ?_)
    · exact Jq q <| Ra (af) q q <| Ra (af) q q <| Ra (I_ 3) q q <| R0 <| dg hΨ (bG (As := [af, af, I_ 3]) q q (.cons (.tmp (A := af) q) (.cons (.tmp (A := af) q) (.cons (.tmp (A := I_ 3) q) .nil)))) (fun y hy => by cases hy; exact (.tup (.cons .nil (.cons .nil (.cons .same .nil)))))
    exact ao <| Jq q <| Rm (a8 0) q q <| Rm (a8 1) q q <| Ra (a8 0) q q <| Ra (a8 1) q q <| Ra (I_ 0) q q <| R0 <| dg hΨ (bG (As := [a8 0, a8 1, I_ 0]) q q (.cons (.tmp (A := a8 0) q) (.cons (.tmp (A := a8 1) q) (.cons (.tmp (A := I_ 0) q) .nil)))) (fun y hy => by cases hy; exact (.tup (.cons (.frow q q (ah.flat _ _)) (.cons (.frow q q (ah.flat _ _)) (.cons .same .nil)))))
  refine ao <| Js <| aC <| Jq q <| Rm (I_ x22.2) q q <| bE 2 _ l3 q q <| aX (a8 2) (I_ x22.2) (ab x22.2) ez q .obj q q q q q q <| R0 <| Js ?_
  refine gS [2] [] [] 2 [(9, a8 0), (14, a8 1), (15, ap (ab x22.2)), (28, I_ (t1.length : Int)), (29, I_ x5.2), (53, I_ b20), (54, I_ x22.2)] [(0, .row 26 1 (x5.1.map (cL 1 ab))), (1, .row 3 1 (x22.1.map ab))] (.cons (A := a8 0) q (.ob q) (.cons (A := a8 1) q (.ob q) (.cons (A := a8 2) q (.fbox q q (.cons .same .nil)) (.same q (.same q (.same q (.same q .nil))))))) (.cc q (.row (ah.flat _ _)) q (.cc q (.row (ah.flat _ _)) q .nil)) q q <| Jr q <| Rm (a8 0) q q <| fR [ap (ab x22.2)] (fun x => [AL 1 ab x]) (fun y => aa y) (fun x => nT x x22.2) fn_77 q (fun x y h => MC h) q <| aI fun b31 h32 => gp [(0, .row 26 1 (x5.1.map (cL 1 ab)))] [a8 0, cC PP (fun x => [AL 1 ab x]) (fun y => aa y) (fun x => nT x x22.2)] zE (Ej h32) (.cons q .nil) q (.cons (.frow q q (ah.flat _ _)) (.cons .same .nil)) q <| R0 ?_
  apply ch (fun v35 => ⟨fr [(9, a8 0), (14, a8 1), (28, I_ (t1.length : Int)), (29, I_ x5.2), (53, I_ b20), (54, I_ x22.2)], hp [(0, .row 26 1 (x5.1.map (cL 1 ab))), (1, .row 3 1 (v35.map ab))], 2⟩) (fun v35 => qI x22 v35)
  · intro K36
    refine bQ q (fun h33 => ?_) (fun h33 => ?_)
    rotate_left
    · exact ao <| Jc [] [] [] (K36 x22.1) (.cons (A := a8 0) q (.ob q) (.cons (A := a8 1) q (.ob q) (.all q))) (.cc q (.row (ah.flat _ _)) q (.cc q (.row (ah.flat _ _)) q .nil)) q q
    refine Jr q <| Rm (a8 1) q q <| ag (I_ x22.2) ay q q q <| cF (cc := ab) [x22.2] bc fj (.cons (A := I_ x22.2) q q q .nil) q q q <| Ri fun h34 => ?_
    exact dx (cc := ab) (xs := x22.1) (ys := [x22.2]) 2 dS q q q h34 q q q <| Ra (a8 2) q q <| R0 <| Jc [] [(1, 2)] [] (K36 (x22.1 ++ [x22.2])) (.cons (A := a8 0) q (.ob q) (.cons (A := a8 2) q (.ob q) (.all q))) (.cc q (.row (ah.flat _ _)) q (.cc q (.row (ah.flat _ _)) q .nil)) q q
  intro v35
  exact bn <| aG 53 (m := b20) q fun q37 => aG 54 (m := x22.2) q fun q38 => Jr q <| aR (x22.2 + 1) q q (bu (by omega) (by omega)) q <| Rm (I_ (x22.2 + 1)) q q <| R0 <| bt <| Jc [] [] [] (hE23 (v35, x22.2 + 1)) (.cons (A := a8 0) q (.ob q) (.cons (A := a8 1) q (.ob q) (.all q))) (.cc q (.row (ah.flat _ _)) q (.cc q (.row (ah.flat _ _)) q .nil)) q q
theorem Mj {t0 t1 r} (hr : ua t0 t1 = some r) : aB PP 80 [AL 1 ab t0, AL 1 ab t1] (I_ r) := by
  refine Fo I_ Tryz.func80 q (n := 25) q q hr fun X hΨ => ?_
  refine Jq q <| Ra (I_ 0) q q <| R0 <| Jq q <| Ra (I_ 0) q q <| R0 <| Js <| Js ?_
  refine Jr q <| Rm (AL 1 ab t0) q q <| aD (cc := ab) bI q q <| Rm (I_ 0) q q <| R0 <| aC <| Jl (fun x1 => [(0, AL 1 ab t0), (1, AL 1 ab t1), (5, I_ x1.1), (8, I_ (t0.length : Int)), (9, I_ x1.2)]) (.all q) (fun E2 hE2 x1 => ?_)
  refine Jq q <| aZ q q q <| R0 <| Js <| aw q (fun h10 => ?_) (fun h10 => ?_)
  rotate_left
  · exact br q <| bO <| Jq q <| Rm (I_ x1.1) q q <| Ra (I_ x1.1) q q <| Rt hΨ q q q
  refine ao <| Js <| aC <| Jq q <| Rm (I_ x1.2) q q <| Ra (I_ x1.2) q q <| R0 <| bW <| Rm (I_ x1.1) q q ?_
  refine Rm (AL 1 ab t0) q q <| Rm (I_ x1.2) q q <| Ri fun h11 => ?_
  refine aQ (cc := ab) bc q q h11.1 h11.2 q <| ag (I_ (nth t0 x1.2)) ay q q q <| Rm (AL 1 ab t1) q q <| Rm (I_ x1.2) q q <| Ri fun h12 => ?_
  refine aQ (cc := ab) bc q q h12.1 h12.2 q <| ag (I_ (nth t1 x1.2)) ay q q q <| aI fun b13 h14 => lc b13 q q (Option.some.inj h14) q <| aI fun b15 h16 => aR b15 q q (Option.some.inj h16) q <| Ra (I_ b15) q q <| bK (by kernel_rfl) <| bn <| aG 8 (m := (t0.length : Int)) q fun q17 => ?_
  exact aG 6 (m := x1.2) q fun q18 => Jr q <| aR (x1.2 + 1) q q (bu (by omega) (by omega)) q <| Rm (I_ (x1.2 + 1)) q q <| R0 <| bt <| Jk (hE2 (b15, x1.2 + 1)) (.all q)
theorem Mt {t0 t1 r} (hr : uu t0 t1 = some r) : aB PP 79 [AL 1 ab t0, ap ((cL 1 ab) t1)] (aa r) := by
  refine Fo aa Tryz.func79 q (n := 8) q q hr fun X hΨ => ?_
  refine Jq q <| Ra (aa false) q q <| R0 <| Jq q <| Rm (AL 1 ab t0) q q <| ag (AL 1 ab t1) bh q q q <| Rc fn_80 Mj q q fun b1 => ?_
  exact cK q q q <| Ra (aa (decide ((-1) < b1))) q q <| Rt hΨ q q q
theorem DI {t0 t1 r} (hr : pQ t0 t1 = some r) : aB PP 41 [AL 1 (cL 1 ab) t0, AL 1 ab t1] (aa r) := by
  refine Fo aa Tryz.func41 q (n := 9) q q hr fun X hΨ => ?_
  refine Jq q <| aV (AL 1 ab t1) q q <| Ra (aa false) q q <| R0 <| Jq q <| Rm (AL 1 (cL 1 ab) t0) q q <| fR [ap ((cL 1 ab) t1)] (fun x => [AL 1 ab x]) (fun y => aa y) (fun x => uu x t1) fn_79 q (fun x y h => Mt h) q <| aI fun b1 h2 => ?_
  exact dv _ zE (Ej h2) q q <| cd q q <| Ra (aa (!b1)) q q <| Rt hΨ q q q
theorem MB {t0 t1 t2 t3 r} (hr : uG t0 t1 t2 t3 = some r) : dc PP 40 5 [(0, .row 3 1 (t0.map ab)), (1, .box 26 ((cL 1 ab) t1)), (2, .box 26 [a8 3]), (3, .row 3 1 (t2.map ab)), (4, .box 78 ((cL 1 (cL 1 ab)) t3))] [a8 0, a8 1, a8 2, a8 4] [(0, .row 3 1 (r.2.1.map ab)), (1, .box 26 ((cL 1 ab) t1)), (2, .box 26 [a8 3]), (3, .row 3 1 (r.2.2.map ab)), (4, .box 78 ((cL 1 (cL 1 ab)) t3))] (aa r.1) := by
  refine Ko (fun (r : Bool × (List Int) × (List Int)) => [(0, .row 3 1 (r.2.1.map ab)), (1, .box 26 ((cL 1 ab) t1)), (2, .box 26 [a8 3]), (3, .row 3 1 (r.2.2.map ab)), (4, .box 78 ((cL 1 (cL 1 ab)) t3))]) (fun (r : Bool × (List Int) × (List Int)) => aa r.1) Tryz.func40 q (n := 26) q (bH.cons (KB.obj q) (bH.cons (KB.obj q) (bH.cons (KB.obj q) (bH.cons (KB.obj q) (inferInstance : bH 5 []))))).kb (eZ.spec (.row q (ah.flat _ _) (.box q jA (.box q (bH.cons (KB.obj q) inferInstance) (.row q (ah.flat _ _) (.box q jA .nil)))))) q hr fun X hΨ => ?_
  refine Jq q <| Ra (aa false) q q <| R0 <| Js <| Jq q <| bg (a8 1) (AL 1 ab t1) bh q .obj q q q <| aD (cc := ab) bI q q <| Rm (I_ 0) q q ?_
  refine R0 <| aC <| Jn (fun x1 => ⟨fr [(0, a8 0), (2, a8 2), (3, a8 4), (8, AL 1 ab t1), (9, I_ (t1.length : Int)), (10, I_ x1.2)], hp [(0, .row 3 1 (t0.map ab)), (1, .box 26 ((cL 1 ab) t1)), (2, .box 26 [a8 3]), (3, .row 3 1 (x1.1.map ab)), (4, .box 78 ((cL 1 (cL 1 ab)) t3))], 5⟩) [] [] [] q (.cons (A := a8 0) q (.ob q) (.cons (A := a8 2) q (.ob q) (.cons (A := a8 4) q (.ob q) (.all q)))) (.cc q (.row (ah.flat _ _)) q (.cc q (.box (.cons .same .nil)) q (.cc q (.box (.cons (.ob q) .nil)) q (.cc q (.row (ah.flat _ _)) q (.cc q (.box (.cons .same .nil)) q .nil))))) q q (fun E2 hE2 x1 => ?_)
  refine Jq q <| aZ q q q <| R0 <| Js <| aw q (fun h7 => ?_) (fun h7 => ?_)
  rotate_left
  · refine br q <| du <| Jq q <| bg (a8 4) (AL 1 (cL 1 ab) t3) zP q .obj q q q <| bg (a8 2) (a8 3) bh q .obj q q q <| aI fun b13 h14 => gp [(3, .row 3 1 (x1.1.map ab))] [AL 1 (cL 1 ab) t3, a8 3] zz (DI h14) (.cons q .nil) q (.cons .same (.cons (.frow q q (ah.flat _ _)) .nil)) q <| Ra (aa b13) q q <| R0 ?_
    exact eH hΨ (d8 q (.tmp (A := aa b13) q)) [] [] [] q (fun y hy => by cases hy; exact ⟨(.cc q (.row (ah.flat _ _)) q (.cc q (.box (.cons .same .nil)) q (.cc q (.box (.cons (.ob q) .nil)) q (.cc q (.row (ah.flat _ _)) q (.cc q (.box (.cons .same .nil)) q .nil))))), .same⟩)
  refine ao <| Js <| aC <| Jq q <| Rm (I_ x1.2) q q <| Ri fun h8 => ?_
  refine aQ (cc := ab) bc q q h8.1 h8.2 q <| ag (I_ (nth t1 x1.2)) ay q q q <| Ra (I_ x1.2) q q <| Ra (I_ (nth t1 x1.2)) q q <| R0 <| bW <| bg (a8 2) (a8 3) bh q .obj q q q <| Rm (I_ (nth t1 x1.2)) q q <| Rm (a8 0) q q <| Rm (I_ x1.2) q q ?_
  refine Ri fun h9 => ?_
  refine dh (cc := ab) bc q q q h9.1 h9.2 q <| ff (cc := ab) x1.2 0 (I_ (nth t0 x1.2)) ay q q h9.1 h9.2 q q <| Ri fun h10 => ?_
  refine dh (cc := ab) bc q q q h10.1 h10.2 q <| eR (cc := ab) (nth t1 x1.2) 0 (I_ (nth t0 x1.2)) (nth t0 x1.2) ez q q q h10.1 h10.2 q q q q <| bK (by kernel_rfl) <| bn <| aG 9 (m := (t1.length : Int)) q fun q11 => aG 6 (m := x1.2) q fun q12 => Jr q <| aR (x1.2 + 1) q q (bu (by omega) (by omega)) q <| Rm (I_ (x1.2 + 1)) q q <| R0 ?_
  exact bt <| Jc [] [] [] (hE2 ((x1.1.set (nth t1 x1.2).toNat (nth t0 x1.2)), x1.2 + 1)) (.cons (A := a8 0) q (.ob q) (.cons (A := a8 2) q (.ob q) (.cons (A := a8 4) q (.ob q) (.all q)))) (.cc q (.row (ah.flat _ _)) q (.cc q (.box (.cons .same .nil)) q (.cc q (.box (.cons (.ob q) .nil)) q (.cc q (.row (ah.flat _ _)) q (.cc q (.box (.cons .same .nil)) q .nil))))) q q
theorem N3 (q_weight_least_1_s1 : Int → Int → Int → (List Int) → (List Int) → (List (List Int)) → (List Int) → Int → Option (Bool × (List Int) × (List Int))) (hq_weight_least_1_s1 : ∀ (t0 : Int) (t1 : Int) (t2 : Int) (t3 : (List Int)) (t4 : (List Int)) (t5 : (List (List Int))) (t6 : (List Int)) (t7 : Int) (r : Bool × (List Int) × (List Int)), q_weight_least_1_s1 t0 t1 t2 t3 t4 t5 t6 t7 = some r → dc PP 78 7 [(0, .box 26 ((cL 1 ab) t3)), (1, .box 26 [a8 2]), (2, .row 3 1 (t4.map ab)), (3, .box 78 ((cL 1 (cL 1 ab)) t5)), (4, .box 26 [a8 5]), (5, .row 3 1 (t6.map ab)), (6, .box 116 [bj 78 [ap (ab t7), ap [bj 40 [a8 0, a8 1, a8 3]], a8 4, a8 6]])] [I_ t0, I_ t1, ap (ab t2), ap [bj 40 [a8 0, a8 1, a8 3]], a8 4, a8 6] [(0, .box 26 ((cL 1 ab) t3)), (1, .box 26 [a8 2]), (2, .row 3 1 (r.2.1.map ab)), (3, .box 78 ((cL 1 (cL 1 ab)) t5)), (4, .box 26 [a8 5]), (5, .row 3 1 (r.2.2.map ab)), (6, .box 116 [bj 78 [ap (ab t7), ap [bj 40 [a8 0, a8 1, a8 3]], a8 4, a8 6]])] (aa r.1)) (t0 : Int) (t1 : Int) (t2 : Int) (t3 : (List Int)) (t4 : (List Int)) (t5 : (List (List Int))) (t6 : (List Int)) (t7 : Int) (r : Bool × (List Int) × (List Int)) (hr : jV q_weight_least_1_s1 t0 t1 t2 t3 t4 t5 t6 t7 = some r) : dc PP 78 7 [(0, .box 26 ((cL 1 ab) t3)), (1, .box 26 [a8 2]), (2, .row 3 1 (t4.map ab)), (3, .box 78 ((cL 1 (cL 1 ab)) t5)), (4, .box 26 [a8 5]), (5, .row 3 1 (t6.map ab)), (6, .box 116 [bj 78 [ap (ab t7), ap [bj 40 [a8 0, a8 1, a8 3]], a8 4, a8 6]])] [I_ t0, I_ t1, ap (ab t2), ap [bj 40 [a8 0, a8 1, a8 3]], a8 4, a8 6] [(0, .box 26 ((cL 1 ab) t3)), (1, .box 26 [a8 2]), (2, .row 3 1 (r.2.1.map ab)), (3, .box 78 ((cL 1 (cL 1 ab)) t5)), (4, .box 26 [a8 5]), (5, .row 3 1 (r.2.2.map ab)), (6, .box 116 [bj 78 [ap (ab t7), ap [bj 40 [a8 0, a8 1, a8 3]], a8 4, a8 6]])] (aa r.1) := by
  refine Ko (fun (r : Bool × (List Int) × (List Int)) => [(0, .box 26 ((cL 1 ab) t3)), (1, .box 26 [a8 2]), (2, .row 3 1 (r.2.1.map ab)), (3, .box 78 ((cL 1 (cL 1 ab)) t5)), (4, .box 26 [a8 5]), (5, .row 3 1 (r.2.2.map ab)), (6, .box 116 [bj 78 [ap (ab t7), ap [bj 40 [a8 0, a8 1, a8 3]], a8 4, a8 6]])]) (fun (r : Bool × (List Int) × (List Int)) => aa r.1) Tryz.func78 q (n := 45) q (bH.cons inferInstance (bH.cons inferInstance (bH.cons inferInstance (bH.cons (KB.ptr (bH.cons (KB.clo (bH.cons (KB.obj q) (bH.cons (KB.obj q) (bH.cons (KB.obj q) inferInstance)))) inferInstance)) (bH.cons (KB.obj q) (bH.cons (KB.obj q) (inferInstance : bH 7 []))))))).kb (eZ.spec (.box q jA (.box q (bH.cons (KB.obj q) inferInstance) (.row q (ah.flat _ _) (.box q jA (.box q (bH.cons (KB.obj q) inferInstance) (.row q (ah.flat _ _) (.box q (bH.cons (KB.clo (bH.cons inferInstance (bH.cons (KB.ptr (bH.cons (KB.clo (bH.cons (KB.obj q) (bH.cons (KB.obj q) (bH.cons (KB.obj q) inferInstance)))) inferInstance)) (bH.cons (KB.obj q) (bH.cons (KB.obj q) inferInstance))))) inferInstance) .nil)))))))) q hr fun X hΨ => ?_
  refine Jq q <| Ra (aa false) q q <| R0 <| Js <| Jq q <| Rm (I_ t0) q q <| ag (I_ t2) ay q q q <| bY q q q ?_
  refine R0 <| aw q (fun h1 => ?_) (fun h1 => ?_)
  · refine Jq q <| Rm (I_ t1) q q <| bY q q q <| Rm (aa (decide (t1 = 0))) q q <| aN (fun h2 => ?_) (fun h2 => ?_)
    rotate_left
    · exact c7 q (df h2) <| ax (aa false) q (df h2) q q <| Ra (aa false) q q <| R0 <| eH hΨ (d8 q (.tmp (A := aa false) q)) [] [] [] q (fun y hy => by cases hy; exact ⟨(.cc q (.box (.cons .same .nil)) q (.cc q (.box (.cons (.ob q) .nil)) q (.cc q (.row (ah.flat _ _)) q (.cc q (.box (.cons .same .nil)) q (.cc q (.box (.cons (.ob q) .nil)) q (.cc q (.row (ah.flat _ _)) q (.cc q (.box (.cons (.clo (.cons .same (.cons (.ptr (.cons (.clo (.cons (.ob q) (.cons (.ob q) (.cons (.ob q) .nil)))) .nil)) (.cons (.ob q) (.cons (.ob q) .nil))))) .nil)) q .nil))))))), .same⟩)
    exact ag (bj 40 [a8 0, a8 1, a8 3]) zQ q q (ak q q (dt h2)) <| bg (a8 4) (a8 5) bh q .obj q q (ak q q (dt h2)) <| aI fun b3 h4 => mL [a8 0, a8 1, a8 3] [] [(0, 5), (1, 0), (2, 1), (3, 2), (4, 3)] [(5, 0), (0, 1), (1, 2), (2, 3), (3, 4)] [] 7 [(5, .row 3 1 (t6.map ab)), (0, .box 26 ((cL 1 ab) t3)), (1, .box 26 [a8 2]), (2, .row 3 1 (t4.map ab)), (3, .box 78 ((cL 1 (cL 1 ab)) t5))] [(5, .row 3 1 (b3.2.1.map ab)), (0, .box 26 ((cL 1 ab) t3)), (1, .box 26 [a8 2]), (2, .row 3 1 (b3.2.2.map ab)), (3, .box 78 ((cL 1 (cL 1 ab)) t5))] (aa b3.1) [a8 5] q fn_40 (MB h4) (.cons q (.cons q (.cons q (.cons q (.cons q .nil))))) q (.cons (.ob q) (.cons (.ob q) (.cons (.ob q) (.cons (.ob q) .nil)))) (.cc q (.row (ah.flat _ _)) q (.cc q (.box (.cons .same .nil)) q (.cc q (.box (.cons (.ob q) .nil)) q (.cc q (.row (ah.flat _ _)) q (.cc q (.box (.cons .same .nil)) q .nil))))) (.cc q (.row (ah.flat _ _)) q (.cc q (.box (.cons .same .nil)) q (.cc q (.box (.cons (.ob q) .nil)) q (.cc q (.row (ah.flat _ _)) q (.cc q (.box (.cons .same .nil)) q .nil))))) .same q q (ak q q (dt h2)) <| aH (aa b3.1) q (dt h2) q q <| Ra (aa b3.1) q q <| R0 <| eH hΨ (d8 q (.tmp (A := aa b3.1) q)) [] [] [] q (fun y hy => by cases hy; exact ⟨(.cc q (.box (.cons .same .nil)) q (.cc q (.box (.cons (.ob q) .nil)) q (.cc q (.row (ah.flat _ _)) q (.cc q (.box (.cons .same .nil)) q (.cc q (.box (.cons (.ob q) .nil)) q (.cc q (.row (ah.flat _ _)) q (.cc q (.box (.cons (.clo (.cons .same (.cons (.ptr (.cons (.clo (.cons (.ob q) (.cons (.ob q) (.cons (.ob q) .nil)))) .nil)) (.cons (.ob q) (.cons (.ob q) .nil))))) .nil)) q .nil))))))), .same⟩)
  refine ao <| Js <| Jq q <| Rm (I_ t1) q q <| ag (I_ t2) ay q q q <| Rm (I_ t0) q q <| aI fun b5 h6 => dq b5 q q (Option.some.inj h6) q <| aI fun b7 h8 => ?_
  refine dq b7 q q (Option.some.inj h8) q <| aI fun b9 h10 => lc b9 q q (Option.some.inj h10) q <| aI fun b11 h12 => dq b11 q q (Option.some.inj h12) q <| ro q q q <| Ra (I_ (if 0 < b11 then b11 else 0)) q q <| R0 <| aC <| Jn (fun x13 => ⟨fr [(0, I_ t0), (1, I_ t1), (4, a8 4), (5, a8 6), (9, I_ x13.2.2)], hp [(0, .box 26 ((cL 1 ab) t3)), (1, .box 26 [a8 2]), (2, .row 3 1 (x13.1.map ab)), (3, .box 78 ((cL 1 (cL 1 ab)) t5)), (4, .box 26 [a8 5]), (5, .row 3 1 (x13.2.1.map ab)), (6, .box 116 [bj 78 [ap (ab t7), ap [bj 40 [a8 0, a8 1, a8 3]], a8 4, a8 6]])], 7⟩) [] [] [] q (.s2 q q (.cons (A := a8 4) q (.ob q) (.cons (A := a8 6) q (.ob q) (.all q)))) (.cc q (.box (.cons .same .nil)) q (.cc q (.box (.cons (.ob q) .nil)) q (.cc q (.row (ah.flat _ _)) q (.cc q (.box (.cons .same .nil)) q (.cc q (.box (.cons (.ob q) .nil)) q (.cc q (.row (ah.flat _ _)) q (.cc q (.box (.cons (.clo (.cons .same (.cons (.ptr (.cons (.clo (.cons (.ob q) (.cons (.ob q) (.cons (.ob q) .nil)))) .nil)) (.cons (.ob q) (.cons (.ob q) .nil))))) .nil)) q .nil))))))) q q (fun E14 hE14 x13 => ?_)
  refine Js <| Jq q <| Rm (I_ x13.2.2) q q <| Rm (I_ t1) q q <| zN q q q <| dK q q q <| R0 <| aw q (fun h26 => ?_) (fun h26 => ?_)
  rotate_left
  · exact br q <| bO <| Jq q <| Ra (aa false) q q <| R0 <| eH hΨ (d8 q (.tmp (A := aa false) q)) [] [] [] q (fun y hy => by cases hy; exact ⟨(.cc q (.box (.cons .same .nil)) q (.cc q (.box (.cons (.ob q) .nil)) q (.cc q (.row (ah.flat _ _)) q (.cc q (.box (.cons .same .nil)) q (.cc q (.box (.cons (.ob q) .nil)) q (.cc q (.row (ah.flat _ _)) q (.cc q (.box (.cons (.clo (.cons .same (.cons (.ptr (.cons (.clo (.cons (.ob q) (.cons (.ob q) (.cons (.ob q) .nil)))) .nil)) (.cons (.ob q) (.cons (.ob q) .nil))))) .nil)) q .nil))))))), .same⟩)
  refine ao <| Js <| aC <| Jq q <| bg (a8 4) (a8 5) bh q .obj q q q <| Rm (I_ t0) q q <| Rm (I_ x13.2.2) q q <| Ri fun h27 => ?_
  refine dh (cc := ab) bc q q q h27.1 h27.2 q <| eR (cc := ab) t0 0 (I_ x13.2.2) x13.2.2 ez q q q h27.1 h27.2 q q q q <| R0 <| Jq q <| bg (a8 6) (bj 78 [ap (ab t7), ap [bj 40 [a8 0, a8 1, a8 3]], a8 4, a8 6]) rO q .obj q q q <| Rm (I_ t0) q q <| aI fun b28 h29 => aR b28 q q (Option.some.inj h29) q <| Rm (I_ t1) q q ?_
  refine Rm (I_ x13.2.2) q q <| aI fun b30 h31 => dq b30 q q (Option.some.inj h31) q <| aI fun b32 h33 => mL [ap (ab t7), ap [bj 40 [a8 0, a8 1, a8 3]], a8 4, a8 6] [] [] [] [] 7 [(0, .box 26 ((cL 1 ab) t3)), (1, .box 26 [a8 2]), (2, .row 3 1 (x13.1.map ab)), (3, .box 78 ((cL 1 (cL 1 ab)) t5)), (4, .box 26 [a8 5]), (5, .row 3 1 ((x13.2.1.set t0.toNat x13.2.2).map ab)), (6, .box 116 [bj 78 [ap (ab t7), ap [bj 40 [a8 0, a8 1, a8 3]], a8 4, a8 6]])] [(0, .box 26 ((cL 1 ab) t3)), (1, .box 26 [a8 2]), (2, .row 3 1 (b32.2.1.map ab)), (3, .box 78 ((cL 1 (cL 1 ab)) t5)), (4, .box 26 [a8 5]), (5, .row 3 1 (b32.2.2.map ab)), (6, .box 116 [bj 78 [ap (ab t7), ap [bj 40 [a8 0, a8 1, a8 3]], a8 4, a8 6]])] (aa b32.1) [I_ b28, I_ b30] q rj (hq_weight_least_1_s1 _ _ _ _ _ _ _ _ _ h33) (.cons q (.cons q (.cons q (.cons q (.cons q (.cons q (.cons q .nil))))))) q (.cons .same (.cons .same (.cons .same (.cons (.ptr (.cons (.clo (.cons (.ob q) (.cons (.ob q) (.cons (.ob q) .nil)))) .nil)) (.cons (.ob q) (.cons (.ob q) .nil)))))) (.cc q (.box (.cons .same .nil)) q (.cc q (.box (.cons (.ob q) .nil)) q (.cc q (.row (ah.flat _ _)) q (.cc q (.box (.cons .same .nil)) q (.cc q (.box (.cons (.ob q) .nil)) q (.cc q (.row (ah.flat _ _)) q (.cc q (.box (.cons (.clo (.cons .same (.cons (.ptr (.cons (.clo (.cons (.ob q) (.cons (.ob q) (.cons (.ob q) .nil)))) .nil)) (.cons (.ob q) (.cons (.ob q) .nil))))) .nil)) q .nil))))))) (.cc q (.box (.cons .same .nil)) q (.cc q (.box (.cons (.ob q) .nil)) q (.cc q (.row (ah.flat _ _)) q (.cc q (.box (.cons .same .nil)) q (.cc q (.box (.cons (.ob q) .nil)) q (.cc q (.row (ah.flat _ _)) q (.cc q (.box (.cons (.clo (.cons .same (.cons (.ptr (.cons (.clo (.cons (.ob q) (.cons (.ob q) (.cons (.ob q) .nil)))) .nil)) (.cons (.ob q) (.cons (.ob q) .nil))))) .nil)) q .nil))))))) .same q q q <| R0 <| bQ q (fun h34 => ?_) (fun h34 => ?_)
  · exact Jq q <| Ra (aa true) q q <| R0 <| bO <| eH hΨ (d8 q (.tmp (A := aa true) q)) [] [] [] q (fun y hy => by cases hy; exact ⟨(.cc q (.box (.cons .same .nil)) q (.cc q (.box (.cons (.ob q) .nil)) q (.cc q (.row (ah.flat _ _)) q (.cc q (.box (.cons .same .nil)) q (.cc q (.box (.cons (.ob q) .nil)) q (.cc q (.row (ah.flat _ _)) q (.cc q (.box (.cons (.clo (.cons .same (.cons (.ptr (.cons (.clo (.cons (.ob q) (.cons (.ob q) (.cons (.ob q) .nil)))) .nil)) (.cons (.ob q) (.cons (.ob q) .nil))))) .nil)) q .nil))))))), .same⟩)
  exact ao <| bn <| Jr q <| Rm (I_ x13.2.2) q q <| aI fun b35 h36 => aR b35 q q (Option.some.inj h36) q <| Ra (I_ b35) q q <| R0 <| bt <| Jc [] [] [] (hE14 (b32.2.1, b32.2.2, b35)) (.s2 q q (.cons (A := a8 4) q (.ob q) (.cons (A := a8 6) q (.ob q) (.all q)))) (.cc q (.box (.cons .same .nil)) q (.cc q (.box (.cons (.ob q) .nil)) q (.cc q (.row (ah.flat _ _)) q (.cc q (.box (.cons .same .nil)) q (.cc q (.box (.cons (.ob q) .nil)) q (.cc q (.row (ah.flat _ _)) q (.cc q (.box (.cons (.clo (.cons .same (.cons (.ptr (.cons (.clo (.cons (.ob q) (.cons (.ob q) (.cons (.ob q) .nil)))) .nil)) (.cons (.ob q) (.cons (.ob q) .nil))))) .nil)) q .nil))))))) q q
theorem N9 : ∀ n, (∀ (t0 : Int) (t1 : Int) (t2 : Int) (t3 : (List Int)) (t4 : (List Int)) (t5 : (List (List Int))) (t6 : (List Int)) (t7 : Int) (r : Bool × (List Int) × (List Int)), (iF n) t0 t1 t2 t3 t4 t5 t6 t7 = some r → dc PP 78 7 [(0, .box 26 ((cL 1 ab) t3)), (1, .box 26 [a8 2]), (2, .row 3 1 (t4.map ab)), (3, .box 78 ((cL 1 (cL 1 ab)) t5)), (4, .box 26 [a8 5]), (5, .row 3 1 (t6.map ab)), (6, .box 116 [bj 78 [ap (ab t7), ap [bj 40 [a8 0, a8 1, a8 3]], a8 4, a8 6]])] [I_ t0, I_ t1, ap (ab t2), ap [bj 40 [a8 0, a8 1, a8 3]], a8 4, a8 6] [(0, .box 26 ((cL 1 ab) t3)), (1, .box 26 [a8 2]), (2, .row 3 1 (r.2.1.map ab)), (3, .box 78 ((cL 1 (cL 1 ab)) t5)), (4, .box 26 [a8 5]), (5, .row 3 1 (r.2.2.map ab)), (6, .box 116 [bj 78 [ap (ab t7), ap [bj 40 [a8 0, a8 1, a8 3]], a8 4, a8 6]])] (aa r.1)) := by
  intro n
  induction n with
  | zero => exact (fun _ _ _ _ _ _ _ _ _ h => by cases h)
  | succ n ih => exact (fun a0 a1 a2 a3 a4 a5 a6 a7 r h => N3 _ ih a0 a1 a2 a3 a4 a5 a6 a7 r h)
theorem MN {t0 t1 t2 t3 t4 t5 t6 t7 r} (hr : yO t0 t1 t2 t3 t4 t5 t6 t7 = some r) : dc PP 78 7 [(0, .box 26 ((cL 1 ab) t3)), (1, .box 26 [a8 2]), (2, .row 3 1 (t4.map ab)), (3, .box 78 ((cL 1 (cL 1 ab)) t5)), (4, .box 26 [a8 5]), (5, .row 3 1 (t6.map ab)), (6, .box 116 [bj 78 [ap (ab t7), ap [bj 40 [a8 0, a8 1, a8 3]], a8 4, a8 6]])] [I_ t0, I_ t1, ap (ab t2), ap [bj 40 [a8 0, a8 1, a8 3]], a8 4, a8 6] [(0, .box 26 ((cL 1 ab) t3)), (1, .box 26 [a8 2]), (2, .row 3 1 (r.2.1.map ab)), (3, .box 78 ((cL 1 (cL 1 ab)) t5)), (4, .box 26 [a8 5]), (5, .row 3 1 (r.2.2.map ab)), (6, .box 116 [bj 78 [ap (ab t7), ap [bj 40 [a8 0, a8 1, a8 3]], a8 4, a8 6]])] (aa r.1) := by
  obtain ⟨n, hn⟩ := iS hr
  exact (N9 n) t0 t1 t2 t3 t4 t5 t6 t7 r hn
theorem Mr {t0 t1 t2 t3 r} (hr : ur t0 t1 t2 t3 = some r) : dc PP 39 4 [(0, .box 26 ((cL 1 ab) t1)), (1, .box 26 [a8 2]), (2, .row 3 1 (t2.map ab)), (3, .box 78 ((cL 1 (cL 1 ab)) t3))] [I_ t0, bj 40 [a8 0, a8 1, a8 3]] [(0, .box 26 ((cL 1 ab) t1)), (1, .box 26 [a8 2]), (2, .row 3 1 (r.2.2.map ab)), (3, .box 78 ((cL 1 (cL 1 ab)) t3))] (bk [AL 1 ab r.1, aa r.2.1]) := by
  refine Ko (fun (r : (List Int) × Bool × (List Int)) => [(0, .box 26 ((cL 1 ab) t1)), (1, .box 26 [a8 2]), (2, .row 3 1 (r.2.2.map ab)), (3, .box 78 ((cL 1 (cL 1 ab)) t3))]) (fun (r : (List Int) × Bool × (List Int)) => bk [AL 1 ab r.1, aa r.2.1]) Tryz.func39 q (n := 23) q (bH.cons inferInstance (bH.cons (KB.clo (bH.cons (KB.obj q) (bH.cons (KB.obj q) (bH.cons (KB.obj q) inferInstance)))) (inferInstance : bH 4 []))).kb (eZ.spec (.box q jA (.box q (bH.cons (KB.obj q) inferInstance) (.row q (ah.flat _ _) (.box q jA .nil))))) q hr fun X hΨ => ?_
  refine Jq q <| aV (I_ t0) q q <| aV (bj 40 [a8 0, a8 1, a8 3]) q q <| Ra (af) q q <| Ra (aa false) q q <| R0 <| Jq q <| ag (I_ t0) ay q q q ?_
  refine Ri fun h1 => ?_
  refine lm (cc := ab) 4 0 dS l3 q q h1.1 h1.2 q q <| bE 5 _ r7 q q <| aX (a8 5) (a8 4) [a8 4] js q .obj q q q q q q <| R0 <| Jq q <| bE 6 _ zW q q <| R0 <| Jq q ?_
  refine rZ [ap (ab t0), ap [bj 40 [a8 0, a8 1, a8 3]], a8 5, a8 6] q q <| aX (a8 6) (bj 78 [ap (ab t0), ap [bj 40 [a8 0, a8 1, a8 3]], a8 5, a8 6]) [bj 78 [ap (ab t0), ap [bj 40 [a8 0, a8 1, a8 3]], a8 5, a8 6]] AV q .obj q q q q q q <| R0 <| Js <| Jq q <| ag (I_ t0) ay q q q <| aI fun b2 h3 => lc b2 q q (Option.some.inj h3) q <| aI fun b4 h5 => ?_
  refine aR b4 q q (Option.some.inj h5) q <| Rm (I_ 0) q q <| R0 <| aC <| Jn (fun x6 => ⟨fr [(6, a8 4), (7, a8 6), (14, I_ b4), (15, I_ x6.2.2)], hp [(0, .box 26 ((cL 1 ab) t1)), (1, .box 26 [a8 2]), (2, .row 3 1 (x6.1.map ab)), (3, .box 78 ((cL 1 (cL 1 ab)) t3)), (4, .box 26 [a8 5]), (5, .row 3 1 (x6.2.1.map ab)), (6, .box 116 [bj 78 [ap (ab t0), ap [bj 40 [a8 0, a8 1, a8 3]], a8 4, a8 6]])], 7⟩) [] [(4, 5), (5, 4)] [] q (.cons (A := a8 5) q (.ob q) (.cons (A := a8 6) q (.ob q) (.all q))) (.cc q (.box (.cons .same .nil)) q (.cc q (.box (.cons (.ob q) .nil)) q (.cc q (.row (ah.flat _ _)) q (.cc q (.box (.cons .same .nil)) q (.cc q (.box (.cons (.ob q) .nil)) q (.cc q (.row (ah.flat _ _)) q (.cc q (.box (.cons (.clo (.cons .same (.cons (.ptr (.cons (.clo (.cons (.ob q) (.cons (.ob q) (.cons (.ob q) .nil)))) .nil)) (.cons (.ob q) (.cons (.ob q) .nil))))) .nil)) q .nil))))))) q q (fun E7 hE7 x6 => ?_)
  refine Jq q <| aZ q q q <| R0 <| Js <| aw q (fun h12 => ?_) (fun h12 => ?_)
  rotate_left
  · exact br q <| bO <| Jq q <| Ra (af) q q <| Ra (aa false) q q <| R0 <| eH hΨ (bG (As := [af, aa false]) q q (.cons (.tmp (A := af) q) (.cons (.tmp (A := aa false) q) .nil))) [] [] [] q (fun y hy => by cases hy; exact ⟨(.cc q (.box (.cons .same .nil)) q (.cc q (.box (.cons (.ob q) .nil)) q (.cc q (.row (ah.flat _ _)) q (.cc q (.box (.cons .same .nil)) q .nil)))), (.tup (.cons .nil (.cons .same .nil)))⟩)
  refine ao <| Js <| aC <| Jq q <| Rm (I_ x6.2.2) q q <| Ra (I_ x6.2.2) q q <| R0 <| Jq q ?_
  refine bg (a8 6) (bj 78 [ap (ab t0), ap [bj 40 [a8 0, a8 1, a8 3]], a8 4, a8 6]) rO q .obj q q q <| Rm (I_ x6.2.2) q q <| aI fun b13 h14 => mL [ap (ab t0), ap [bj 40 [a8 0, a8 1, a8 3]], a8 4, a8 6] [] [] [] [] 7 [(0, .box 26 ((cL 1 ab) t1)), (1, .box 26 [a8 2]), (2, .row 3 1 (x6.1.map ab)), (3, .box 78 ((cL 1 (cL 1 ab)) t3)), (4, .box 26 [a8 5]), (5, .row 3 1 (x6.2.1.map ab)), (6, .box 116 [bj 78 [ap (ab t0), ap [bj 40 [a8 0, a8 1, a8 3]], a8 4, a8 6]])] [(0, .box 26 ((cL 1 ab) t1)), (1, .box 26 [a8 2]), (2, .row 3 1 (b13.2.1.map ab)), (3, .box 78 ((cL 1 (cL 1 ab)) t3)), (4, .box 26 [a8 5]), (5, .row 3 1 (b13.2.2.map ab)), (6, .box 116 [bj 78 [ap (ab t0), ap [bj 40 [a8 0, a8 1, a8 3]], a8 4, a8 6]])] (aa b13.1) [I_ 0, I_ x6.2.2] q rj (MN h14) (.cons q (.cons q (.cons q (.cons q (.cons q (.cons q (.cons q .nil))))))) q (.cons .same (.cons .same (.cons .same (.cons (.ptr (.cons (.clo (.cons (.ob q) (.cons (.ob q) (.cons (.ob q) .nil)))) .nil)) (.cons (.ob q) (.cons (.ob q) .nil)))))) (.cc q (.box (.cons .same .nil)) q (.cc q (.box (.cons (.ob q) .nil)) q (.cc q (.row (ah.flat _ _)) q (.cc q (.box (.cons .same .nil)) q (.cc q (.box (.cons (.ob q) .nil)) q (.cc q (.row (ah.flat _ _)) q (.cc q (.box (.cons (.clo (.cons .same (.cons (.ptr (.cons (.clo (.cons (.ob q) (.cons (.ob q) (.cons (.ob q) .nil)))) .nil)) (.cons (.ob q) (.cons (.ob q) .nil))))) .nil)) q .nil))))))) (.cc q (.box (.cons .same .nil)) q (.cc q (.box (.cons (.ob q) .nil)) q (.cc q (.row (ah.flat _ _)) q (.cc q (.box (.cons .same .nil)) q (.cc q (.box (.cons (.ob q) .nil)) q (.cc q (.row (ah.flat _ _)) q (.cc q (.box (.cons (.clo (.cons .same (.cons (.ptr (.cons (.clo (.cons (.ob q) (.cons (.ob q) (.cons (.ob q) .nil)))) .nil)) (.cons (.ob q) (.cons (.ob q) .nil))))) .nil)) q .nil))))))) .same q q q <| R0 <| bQ q (fun h15 => ?_) (fun h15 => ?_)
  · exact Jq q <| bg (a8 4) (a8 5) bh q .obj q q q <| Ra (a8 5) q q <| Ra (aa true) q q <| R0 <| bO <| eH hΨ (bG (As := [a8 5, aa true]) q q (.cons (.tmp (A := a8 5) q) (.cons (.tmp (A := aa true) q) .nil))) [5] [] [] q (fun y hy => by cases hy; exact ⟨(.cc q (.box (.cons .same .nil)) q (.cc q (.box (.cons (.ob q) .nil)) q (.cc q (.row (ah.flat _ _)) q (.cc q (.box (.cons .same .nil)) q .nil)))), (.tup (.cons (.frow q q (ah.flat _ _)) (.cons .same .nil)))⟩)
  exact ao <| bn <| aG 14 (m := b4) q fun q16 => aG 8 (m := x6.2.2) q fun q17 => Jr q <| aR (x6.2.2 + 1) q q (bu (by omega) (by omega)) q <| Rm (I_ (x6.2.2 + 1)) q q <| R0 <| bt <| Jc [] [] [] (hE7 (b13.2.1, b13.2.2, x6.2.2 + 1)) (.cons (A := a8 4) q (.ob q) (.cons (A := a8 6) q (.ob q) (.all q))) (.cc q (.box (.cons .same .nil)) q (.cc q (.box (.cons (.ob q) .nil)) q (.cc q (.row (ah.flat _ _)) q (.cc q (.box (.cons .same .nil)) q (.cc q (.box (.cons (.ob q) .nil)) q (.cc q (.row (ah.flat _ _)) q (.cc q (.box (.cons (.clo (.cons .same (.cons (.ptr (.cons (.clo (.cons (.ob q) (.cons (.ob q) (.cons (.ob q) .nil)))) .nil)) (.cons (.ob q) (.cons (.ob q) .nil))))) .nil)) q .nil))))))) q q
theorem Dd {t0 t1 r} (hr : jO t0 t1 = some r) : aB PP 14 [ac (au t0), AL 25 aP t1] (bk [AL 1 ab r.1, I_ r.2]) := by
  refine Fo (fun (r : (List Int) × Int) => bk [AL 1 ab r.1, I_ r.2]) Tryz.func14 q (n := 40) q q hr fun X hΨ => ?_
  refine Jq q <| aV (ac (au t0)) q q <| Ra (af) q q <| Ra (I_ 0) q q <| R0 <| Jq q <| aK (au t0) bN q q q q <| Rm (AL 25 aP t1) q q ?_
  refine Rc rh uv q q fun b1 => Rm (bk [AL 1 (cL 1 ab) b1.1, AL 1 ab b1.2.1, I_ b1.2.2]) q q <| bx (AL 1 (cL 1 ab) b1.1) q q q <| bx (AL 1 ab b1.2.1) q q q <| bx (I_ b1.2.2) q q q <| bE 0 _ z_78 q q <| bE 1 _ r7 q q <| aX (a8 0) (AL 1 (cL 1 ab) b1.1) ((cL 1 (cL 1 ab)) b1.1) zT q .obj q q q q q q <| aX (a8 1) (AL 1 ab b1.2.1) ((cL 1 ab) b1.2.1) js q .obj q q q q q q ?_
  refine Ra (I_ b1.2.2) q q <| R0 <| Js <| Jq q <| Rm (I_ b1.2.2) q q <| bP q q q <| R0 <| aw q (fun h3 => ?_) (fun h3 => ?_)
  · exact Jq q <| Rm (I_ b1.2.2) q q <| Ra (af) q q <| Ra (I_ b1.2.2) q q <| R0 <| dg hΨ (bG (As := [af, I_ b1.2.2]) q q (.cons (.tmp (A := af) q) (.cons (.tmp (A := I_ b1.2.2) q) .nil))) (fun y hy => by cases hy; exact (.tup (.cons .nil (.cons .same .nil))))
  refine ao <| Jq q <| ai ((cL 4 aM) t0.Nodes) dk q q q <| ag (AL 4 aM t0.Nodes) dl q q q <| aD (cc := aM) ef q q <| ai ((cL 7 aY) t0.Edges) dL q q q <| ag (AL 7 aY t0.Edges) dO q q q <| aD (cc := aY) fe q q <| aI fun b4 h5 => ?_
  refine aR b4 q q (Option.some.inj h5) q <| Ri fun h6 => ?_
  refine lm (cc := ab) 2 0 dS l3 q q h6.1 h6.2 q q <| bE 3 _ r7 q q <| aX (a8 3) (a8 2) [a8 2] js q .obj q q q q q q <| R0 <| Jq q <| bg (a8 1) (AL 1 ab b1.2.1) bh q .obj q q q <| aD (cc := ab) bI q q <| rZ [a8 1, a8 3, a8 0] q q <| aI fun b7 h8 => ?_
  refine gq [] [(0, 1), (1, 3), (3, 0)] [(1, 0), (3, 1), (0, 3)] [] 4 [(1, .box 26 ((cL 1 ab) b1.2.1)), (3, .box 26 [a8 2]), (2, .row 3 1 ((List.replicate b4.toNat 0).map ab)), (0, .box 78 ((cL 1 (cL 1 ab)) b1.1))] [(1, .box 26 ((cL 1 ab) b1.2.1)), (3, .box 26 [a8 2]), (2, .row 3 1 (b7.2.2.map ab)), (0, .box 78 ((cL 1 (cL 1 ab)) b1.1))] (bk [AL 1 ab b7.1, aa b7.2.1]) [I_ (b1.2.1.length : Int), bj 40 [a8 1, a8 3, a8 0]] zy (Mr h8) (.cons q (.cons q (.cons q (.cons q .nil)))) q (.cons .same (.cons (.clo (.cons (.ob q) (.cons (.ob q) (.cons (.ob q) .nil)))) .nil)) (.cc q (.box (.cons .same .nil)) q (.cc q (.box (.cons (.ob q) .nil)) q (.cc q (.row (ah.flat _ _)) q (.cc q (.box (.cons .same .nil)) q .nil)))) (.cc q (.box (.cons .same .nil)) q (.cc q (.box (.cons (.ob q) .nil)) q (.cc q (.row (ah.flat _ _)) q (.cc q (.box (.cons .same .nil)) q .nil)))) (.tup (.cons .same (.cons .same .nil))) q q q <| Rm (bk [AL 1 ab b7.1, aa b7.2.1]) q q <| bx (AL 1 ab b7.1) q q q <| bx (aa b7.2.1) q q q <| Ra (AL 1 ab b7.1) q q <| Ra (aa b7.2.1) q q <| R0 <| Js <| Jq q ?_
  refine Rm (aa b7.2.1) q q <| cd q q <| R0 <| bQ q (fun h9 => ?_) (fun h9 => ?_)
  · exact Jq q <| Ra (af) q q <| Ra (I_ 10) q q <| R0 <| dg hΨ (bG (As := [af, I_ 10]) q q (.cons (.tmp (A := af) q) (.cons (.tmp (A := I_ 10) q) .nil))) (fun y hy => by cases hy; exact (.tup (.cons .nil (.cons .same .nil))))
  exact ao <| Jq q <| bg (a8 3) (a8 2) bh q .obj q q q <| Ra (a8 2) q q <| Ra (I_ 0) q q <| R0 <| dg hΨ (bG (As := [a8 2, I_ 0]) q q (.cons (.tmp (A := a8 2) q) (.cons (.tmp (A := I_ 0) q) .nil))) (fun y hy => by cases hy; exact (.tup (.cons (.frow q q (ah.flat _ _)) (.cons .same .nil))))
theorem Mg {t0 r} (hr : u5 t0 = some r) : aB PP 84 [AL 1 ab t0] (I_ r) := by
  refine Fo I_ Tryz.func84 q (n := 25) q q hr fun X hΨ => ?_
  refine Jq q <| Ra (I_ 0) q q <| R0 <| Js <| Jq q <| Rm (AL 1 ab t0) q q <| aD (cc := ab) bI q q <| aZ q q q ?_
  refine R0 <| aw q (fun h1 => ?_) (fun h1 => ?_)
  · exact Jr q <| A0
  refine ao <| Jq q <| Rm (AL 1 ab t0) q q <| Ri fun h2 => ?_
  refine aQ (cc := ab) bc q q h2.1 h2.2 q <| ag (I_ (nth t0 0)) ay q q q <| Ra (I_ (nth t0 0)) q q <| R0 <| Js <| Jq q <| Ra (I_ 1) q q <| R0 <| aC ?_
  refine Jl (fun x3 => [(0, AL 1 ab t0), (3, I_ x3.1), (4, I_ x3.2), (6, I_ (t0.length : Int))]) (.all q) (fun E4 hE4 x3 => ?_)
  refine Js <| Jq q <| Rm (I_ x3.2) q q <| Rm (AL 1 ab t0) q q <| aD (cc := ab) bI q q <| aZ q q q <| R0 <| aw q (fun h7 => ?_) (fun h7 => ?_)
  rotate_left
  · exact br q <| bO <| Jq q <| Rm (I_ x3.1) q q <| Ra (I_ x3.1) q q <| Rt hΨ q q q
  refine ao <| Js <| aC <| Jr q <| Rm (I_ x3.1) q q <| Rm (AL 1 ab t0) q q <| Rm (I_ x3.2) q q <| Ri fun h8 => ?_
  refine aQ (cc := ab) bc q q h8.1 h8.2 q <| ag (I_ (nth t0 x3.2)) ay q q q <| ro q q q <| Ra (I_ (if x3.1 < (nth t0 x3.2) then (nth t0 x3.2) else x3.1)) q q <| R0 <| bn <| aG 6 (m := (t0.length : Int)) q fun q9 => aG 4 (m := x3.2) q fun q10 => Jr q <| Rm (I_ x3.2) q q ?_
  exact aR (x3.2 + 1) q q (bu (by omega) (by omega)) q <| Ra (I_ (x3.2 + 1)) q q <| R0 <| bt <| Jk (hE4 ((if x3.1 < (nth t0 x3.2) then (nth t0 x3.2) else x3.1), x3.2 + 1)) (.all q)
theorem DO {t0 t1 r} (hr : qi t0 t1 = some r) : aB PP 51 [AL 1 (cL 1 ab) t0, AL 1 ab t1] (aa r) := by
  refine Fo aa Tryz.func51 q (n := 43) q q hr fun X hΨ => ?_
  refine Jq q <| Ra (aa false) q q <| R0 <| Js <| Jq q <| r_bsO (cc := ab) 0 [0] bc fj (.cons (A := I_ 0) q q q .nil) q q q q <| Rm (AL 1 ab t1) q q <| Ri fun h1 => ?_
  refine dx (cc := ab) (xs := [0]) (ys := t1) 1 dS q q q h1 q q q <| aI fun b2 h3 => gp [(1, .row 3 1 (([0] ++ t1).map ab))] [a8 1] fn_84 (Mg h3) (.cons q .nil) q (.cons (.frow q q (ah.flat _ _)) .nil) q <| bY q q q <| R0 <| aw q (fun h4 => ?_) (fun h4 => ?_)
  · exact Jq q <| Ra (aa false) q q <| Rt hΨ q q q
  refine ao <| Js <| Jq q <| Rm (AL 1 (cL 1 ab) t0) q q <| Ri fun h5 => ?_
  refine aQ (cc := (cL 1 ab)) rf q q h5.1 h5.2 q <| ag (AL 1 ab (nth t0 0)) bh q q q <| aD (cc := ab) bI q q <| Rm (I_ 0) q q <| R0 <| aC <| Jn (fun x6 => ⟨fr [(0, AL 1 (cL 1 ab) t0), (1, AL 1 ab t1), (16, I_ ((nth t0 0).length : Int)), (17, I_ x6)], hp [], 0⟩) [] [] [] q (.all q) .nil q q (fun E7 hE7 x6 => ?_)
  refine Jq q <| aZ q q q <| R0 <| Js <| aw q (fun h29 => ?_) (fun h29 => ?_)
  rotate_left
  · exact br q <| bO <| Jq q <| Ra (aa true) q q <| Rt hΨ q q q
  refine ao <| Js <| aC <| Jq q <| Rm (I_ x6) q q <| Ra (I_ x6) q q <| R0 <| Jq q ?_
  refine Ra (I_ 0) q q <| R0 <| Js <| Jq q <| Rm (AL 1 (cL 1 ab) t0) q q <| aD (cc := (cL 1 ab)) zI q q <| Rm (I_ 0) q q <| R0 <| aC ?_
  refine Jn (fun x30 => ⟨fr [(0, AL 1 (cL 1 ab) t0), (1, AL 1 ab t1), (5, I_ x6), (6, I_ x30.1), (16, I_ ((nth t0 0).length : Int)), (17, I_ x6), (21, I_ (t0.length : Int)), (22, I_ x30.2)], hp [], 0⟩) [] [] [] q (.all q) .nil q q (fun E31 hE31 x30 => ?_)
  refine Jq q <| aZ q q q <| R0 <| Js <| aw q (fun h39 => ?_) (fun h39 => ?_)
  rotate_left
  · refine br q <| du <| Jq q <| Rm (I_ x30.1) q q <| aZ q q q <| R0 <| aw q (fun h49 => ?_) (fun h49 => ?_)
    · exact Jq q <| Ra (aa false) q q <| Ro hΨ q q q
    exact ao <| bn <| aG 16 (m := ((nth t0 0).length : Int)) q fun q50 => aG 5 (m := x6) q fun q51 => Jr q <| aR (x6 + 1) q q (bu (by omega) (by omega)) q <| Rm (I_ (x6 + 1)) q q <| R0 <| bt <| Jc [] [] [] (hE7 (x6 + 1)) (.all q) .nil q q
  refine ao <| Js <| aC <| Jq q <| Rm (I_ x30.2) q q <| Ra (I_ x30.2) q q <| R0 <| bW <| Rm (I_ x30.1) q q ?_
  refine Rm (AL 1 ab t1) q q <| Rm (I_ x30.2) q q <| Ri fun h40 => ?_
  refine aQ (cc := ab) bc q q h40.1 h40.2 q <| ag (I_ (nth t1 x30.2)) ay q q q <| Rm (AL 1 (cL 1 ab) t0) q q <| Rm (I_ x30.2) q q <| Ri fun h41 => ?_
  refine aQ (cc := (cL 1 ab)) rf q q h41.1 h41.2 q <| ag (AL 1 ab (nth t0 x30.2)) bh q q q <| Rm (I_ x6) q q <| Ri fun h42 => ?_
  refine aQ (cc := ab) bc q q h42.1 h42.2 q <| ag (I_ (nth (nth t0 x30.2) x6)) ay q q q <| aI fun b43 h44 => lc b43 q q (Option.some.inj h44) q <| aI fun b45 h46 => aR b45 q q (Option.some.inj h46) q <| Ra (I_ b45) q q <| bK (by kernel_rfl) <| bn <| aG 21 (m := (t0.length : Int)) q fun q47 => ?_
  exact aG 7 (m := x30.2) q fun q48 => Jr q <| aR (x30.2 + 1) q q (bu (by omega) (by omega)) q <| Rm (I_ (x30.2 + 1)) q q <| R0 <| bt <| Jc [] [] [] (hE31 (b45, x30.2 + 1)) (.all q) .nil q q
theorem MV {t0 t1 r} (hr : uQ t0 t1 = some r) : dc PP 50 2 [(0, .row 3 1 (t0.map ab)), (1, .box 78 ((cL 1 (cL 1 ab)) t1))] [a8 0, a8 1] [(0, .row 3 1 (r.2.map ab)), (1, .box 78 ((cL 1 (cL 1 ab)) t1))] (aa r.1) := by
  refine Ko (fun (r : Bool × (List Int)) => [(0, .row 3 1 (r.2.map ab)), (1, .box 78 ((cL 1 (cL 1 ab)) t1))]) (fun (r : Bool × (List Int)) => aa r.1) Tryz.func50 q (n := 12) q (bH.cons (KB.obj q) (bH.cons (KB.obj q) (inferInstance : bH 2 []))).kb (eZ.spec (.row q (ah.flat _ _) (.box q jA .nil))) q hr fun X hΨ => ?_
  refine Jq q <| Ra (aa false) q q <| R0 <| Jq q <| Rm (a8 0) q q <| eS (cc := ab) t0 bI q q q <| cK q q q <| Rm (aa (decide (0 < (t0.length : Int)))) q q ?_
  refine aN (fun h1 => ?_) (fun h1 => ?_)
  rotate_left
  · exact c7 q (df h1) <| ax (aa false) q (df h1) q q <| Ra (aa false) q q <| R0 <| eH hΨ (d8 q (.tmp (A := aa false) q)) [] [] [] q (fun y hy => by cases hy; exact ⟨(.cc q (.row (ah.flat _ _)) q (.cc q (.box (.cons .same .nil)) q .nil)), .same⟩)
  exact bg (a8 1) (AL 1 (cL 1 ab) t1) zP q .obj q q (ak q q (dt h1)) <| Rm (a8 0) q (ak q q (dt h1)) <| aI fun b2 h3 => gp [(0, .row 3 1 (t0.map ab))] [AL 1 (cL 1 ab) t1, a8 0] zC (DO h3) (.cons q .nil) q (.cons .same (.cons (.frow q q (ah.flat _ _)) .nil)) (ak q q (dt h1)) <| aH (aa b2) q (dt h1) q q <| Ra (aa b2) q q <| R0 <| eH hΨ (d8 q (.tmp (A := aa b2) q)) [] [] [] q (fun y hy => by cases hy; exact ⟨(.cc q (.row (ah.flat _ _)) q (.cc q (.box (.cons .same .nil)) q .nil)), .same⟩)
theorem N4 (q_weight_least_1_s4 : Int → Int → Int → (List (List Int)) → (List Int) → Int → Option (Bool × (List Int))) (hq_weight_least_1_s4 : ∀ (t0 : Int) (t1 : Int) (t2 : Int) (t3 : (List (List Int))) (t4 : (List Int)) (t5 : Int) (r : Bool × (List Int)), q_weight_least_1_s4 t0 t1 t2 t3 t4 t5 = some r → dc PP 78 4 [(0, .box 78 ((cL 1 (cL 1 ab)) t3)), (1, .box 26 [a8 2]), (2, .row 3 1 (t4.map ab)), (3, .box 116 [bj 78 [ap (ab t5), ap [bj 50 [a8 0]], a8 1, a8 3]])] [I_ t0, I_ t1, ap (ab t2), ap [bj 50 [a8 0]], a8 1, a8 3] [(0, .box 78 ((cL 1 (cL 1 ab)) t3)), (1, .box 26 [a8 2]), (2, .row 3 1 (r.2.map ab)), (3, .box 116 [bj 78 [ap (ab t5), ap [bj 50 [a8 0]], a8 1, a8 3]])] (aa r.1)) (t0 : Int) (t1 : Int) (t2 : Int) (t3 : (List (List Int))) (t4 : (List Int)) (t5 : Int) (r : Bool × (List Int)) (hr : jW q_weight_least_1_s4 t0 t1 t2 t3 t4 t5 = some r) : dc PP 78 4 [(0, .box 78 ((cL 1 (cL 1 ab)) t3)), (1, .box 26 [a8 2]), (2, .row 3 1 (t4.map ab)), (3, .box 116 [bj 78 [ap (ab t5), ap [bj 50 [a8 0]], a8 1, a8 3]])] [I_ t0, I_ t1, ap (ab t2), ap [bj 50 [a8 0]], a8 1, a8 3] [(0, .box 78 ((cL 1 (cL 1 ab)) t3)), (1, .box 26 [a8 2]), (2, .row 3 1 (r.2.map ab)), (3, .box 116 [bj 78 [ap (ab t5), ap [bj 50 [a8 0]], a8 1, a8 3]])] (aa r.1) := by
  refine Ko (fun (r : Bool × (List Int)) => [(0, .box 78 ((cL 1 (cL 1 ab)) t3)), (1, .box 26 [a8 2]), (2, .row 3 1 (r.2.map ab)), (3, .box 116 [bj 78 [ap (ab t5), ap [bj 50 [a8 0]], a8 1, a8 3]])]) (fun (r : Bool × (List Int)) => aa r.1) Tryz.func78 q (n := 45) q (bH.cons inferInstance (bH.cons inferInstance (bH.cons inferInstance (bH.cons (KB.ptr (bH.cons (KB.clo (bH.cons (KB.obj q) inferInstance)) inferInstance)) (bH.cons (KB.obj q) (bH.cons (KB.obj q) (inferInstance : bH 4 []))))))).kb (eZ.spec (.box q jA (.box q (bH.cons (KB.obj q) inferInstance) (.row q (ah.flat _ _) (.box q (bH.cons (KB.clo (bH.cons inferInstance (bH.cons (KB.ptr (bH.cons (KB.clo (bH.cons (KB.obj q) inferInstance)) inferInstance)) (bH.cons (KB.obj q) (bH.cons (KB.obj q) inferInstance))))) inferInstance) .nil))))) q hr fun X hΨ => ?_
  refine Jq q <| Ra (aa false) q q <| R0 <| Js <| Jq q <| Rm (I_ t0) q q <| ag (I_ t2) ay q q q <| bY q q q ?_
  refine R0 <| aw q (fun h1 => ?_) (fun h1 => ?_)
  · refine Jq q <| Rm (I_ t1) q q <| bY q q q <| Rm (aa (decide (t1 = 0))) q q <| aN (fun h2 => ?_) (fun h2 => ?_)
    rotate_left
    · exact c7 q (df h2) <| ax (aa false) q (df h2) q q <| Ra (aa false) q q <| R0 <| eH hΨ (d8 q (.tmp (A := aa false) q)) [] [] [] q (fun y hy => by cases hy; exact ⟨(.cc q (.box (.cons .same .nil)) q (.cc q (.box (.cons (.ob q) .nil)) q (.cc q (.row (ah.flat _ _)) q (.cc q (.box (.cons (.clo (.cons .same (.cons (.ptr (.cons (.clo (.cons (.ob q) .nil)) .nil)) (.cons (.ob q) (.cons (.ob q) .nil))))) .nil)) q .nil)))), .same⟩)
    exact ag (bj 50 [a8 0]) zQ q q (ak q q (dt h2)) <| bg (a8 1) (a8 2) bh q .obj q q (ak q q (dt h2)) <| aI fun b3 h4 => mL [a8 0] [] [(0, 2), (1, 0)] [(2, 0), (0, 1)] [] 4 [(2, .row 3 1 (t4.map ab)), (0, .box 78 ((cL 1 (cL 1 ab)) t3))] [(2, .row 3 1 (b3.2.map ab)), (0, .box 78 ((cL 1 (cL 1 ab)) t3))] (aa b3.1) [a8 2] q fn_50 (MV h4) (.cons q (.cons q .nil)) q (.cons (.ob q) (.cons (.ob q) .nil)) (.cc q (.row (ah.flat _ _)) q (.cc q (.box (.cons .same .nil)) q .nil)) (.cc q (.row (ah.flat _ _)) q (.cc q (.box (.cons .same .nil)) q .nil)) .same q q (ak q q (dt h2)) <| aH (aa b3.1) q (dt h2) q q <| Ra (aa b3.1) q q <| R0 <| eH hΨ (d8 q (.tmp (A := aa b3.1) q)) [] [] [] q (fun y hy => by cases hy; exact ⟨(.cc q (.box (.cons .same .nil)) q (.cc q (.box (.cons (.ob q) .nil)) q (.cc q (.row (ah.flat _ _)) q (.cc q (.box (.cons (.clo (.cons .same (.cons (.ptr (.cons (.clo (.cons (.ob q) .nil)) .nil)) (.cons (.ob q) (.cons (.ob q) .nil))))) .nil)) q .nil)))), .same⟩)
  refine ao <| Js <| Jq q <| Rm (I_ t1) q q <| ag (I_ t2) ay q q q <| Rm (I_ t0) q q <| aI fun b5 h6 => dq b5 q q (Option.some.inj h6) q <| aI fun b7 h8 => ?_
  refine dq b7 q q (Option.some.inj h8) q <| aI fun b9 h10 => lc b9 q q (Option.some.inj h10) q <| aI fun b11 h12 => dq b11 q q (Option.some.inj h12) q <| ro q q q <| Ra (I_ (if 0 < b11 then b11 else 0)) q q <| R0 <| aC <| Jn (fun x13 => ⟨fr [(0, I_ t0), (1, I_ t1), (4, a8 1), (5, a8 3), (9, I_ x13.2)], hp [(0, .box 78 ((cL 1 (cL 1 ab)) t3)), (1, .box 26 [a8 2]), (2, .row 3 1 (x13.1.map ab)), (3, .box 116 [bj 78 [ap (ab t5), ap [bj 50 [a8 0]], a8 1, a8 3]])], 4⟩) [] [] [] q (.s2 q q (.cons (A := a8 1) q (.ob q) (.cons (A := a8 3) q (.ob q) (.all q)))) (.cc q (.box (.cons .same .nil)) q (.cc q (.box (.cons (.ob q) .nil)) q (.cc q (.row (ah.flat _ _)) q (.cc q (.box (.cons (.clo (.cons .same (.cons (.ptr (.cons (.clo (.cons (.ob q) .nil)) .nil)) (.cons (.ob q) (.cons (.ob q) .nil))))) .nil)) q .nil)))) q q (fun E14 hE14 x13 => ?_)
  refine Js <| Jq q <| Rm (I_ x13.2) q q <| Rm (I_ t1) q q <| zN q q q <| dK q q q <| R0 <| aw q (fun h26 => ?_) (fun h26 => ?_)
  rotate_left
  · exact br q <| bO <| Jq q <| Ra (aa false) q q <| R0 <| eH hΨ (d8 q (.tmp (A := aa false) q)) [] [] [] q (fun y hy => by cases hy; exact ⟨(.cc q (.box (.cons .same .nil)) q (.cc q (.box (.cons (.ob q) .nil)) q (.cc q (.row (ah.flat _ _)) q (.cc q (.box (.cons (.clo (.cons .same (.cons (.ptr (.cons (.clo (.cons (.ob q) .nil)) .nil)) (.cons (.ob q) (.cons (.ob q) .nil))))) .nil)) q .nil)))), .same⟩)
  refine ao <| Js <| aC <| Jq q <| bg (a8 1) (a8 2) bh q .obj q q q <| Rm (I_ t0) q q <| Rm (I_ x13.2) q q <| Ri fun h27 => ?_
  refine dh (cc := ab) bc q q q h27.1 h27.2 q <| eR (cc := ab) t0 0 (I_ x13.2) x13.2 ez q q q h27.1 h27.2 q q q q <| R0 <| Jq q <| bg (a8 3) (bj 78 [ap (ab t5), ap [bj 50 [a8 0]], a8 1, a8 3]) rO q .obj q q q <| Rm (I_ t0) q q <| aI fun b28 h29 => aR b28 q q (Option.some.inj h29) q <| Rm (I_ t1) q q ?_
  refine Rm (I_ x13.2) q q <| aI fun b30 h31 => dq b30 q q (Option.some.inj h31) q <| aI fun b32 h33 => mL [ap (ab t5), ap [bj 50 [a8 0]], a8 1, a8 3] [] [] [] [] 4 [(0, .box 78 ((cL 1 (cL 1 ab)) t3)), (1, .box 26 [a8 2]), (2, .row 3 1 ((x13.1.set t0.toNat x13.2).map ab)), (3, .box 116 [bj 78 [ap (ab t5), ap [bj 50 [a8 0]], a8 1, a8 3]])] [(0, .box 78 ((cL 1 (cL 1 ab)) t3)), (1, .box 26 [a8 2]), (2, .row 3 1 (b32.2.map ab)), (3, .box 116 [bj 78 [ap (ab t5), ap [bj 50 [a8 0]], a8 1, a8 3]])] (aa b32.1) [I_ b28, I_ b30] q rj (hq_weight_least_1_s4 _ _ _ _ _ _ _ h33) (.cons q (.cons q (.cons q (.cons q .nil)))) q (.cons .same (.cons .same (.cons .same (.cons (.ptr (.cons (.clo (.cons (.ob q) .nil)) .nil)) (.cons (.ob q) (.cons (.ob q) .nil)))))) (.cc q (.box (.cons .same .nil)) q (.cc q (.box (.cons (.ob q) .nil)) q (.cc q (.row (ah.flat _ _)) q (.cc q (.box (.cons (.clo (.cons .same (.cons (.ptr (.cons (.clo (.cons (.ob q) .nil)) .nil)) (.cons (.ob q) (.cons (.ob q) .nil))))) .nil)) q .nil)))) (.cc q (.box (.cons .same .nil)) q (.cc q (.box (.cons (.ob q) .nil)) q (.cc q (.row (ah.flat _ _)) q (.cc q (.box (.cons (.clo (.cons .same (.cons (.ptr (.cons (.clo (.cons (.ob q) .nil)) .nil)) (.cons (.ob q) (.cons (.ob q) .nil))))) .nil)) q .nil)))) .same q q q <| R0 <| bQ q (fun h34 => ?_) (fun h34 => ?_)
  · exact Jq q <| Ra (aa true) q q <| R0 <| bO <| eH hΨ (d8 q (.tmp (A := aa true) q)) [] [] [] q (fun y hy => by cases hy; exact ⟨(.cc q (.box (.cons .same .nil)) q (.cc q (.box (.cons (.ob q) .nil)) q (.cc q (.row (ah.flat _ _)) q (.cc q (.box (.cons (.clo (.cons .same (.cons (.ptr (.cons (.clo (.cons (.ob q) .nil)) .nil)) (.cons (.ob q) (.cons (.ob q) .nil))))) .nil)) q .nil)))), .same⟩)
  exact ao <| bn <| Jr q <| Rm (I_ x13.2) q q <| aI fun b35 h36 => aR b35 q q (Option.some.inj h36) q <| Ra (I_ b35) q q <| R0 <| bt <| Jc [] [] [] (hE14 (b32.2, b35)) (.s2 q q (.cons (A := a8 1) q (.ob q) (.cons (A := a8 3) q (.ob q) (.all q)))) (.cc q (.box (.cons .same .nil)) q (.cc q (.box (.cons (.ob q) .nil)) q (.cc q (.row (ah.flat _ _)) q (.cc q (.box (.cons (.clo (.cons .same (.cons (.ptr (.cons (.clo (.cons (.ob q) .nil)) .nil)) (.cons (.ob q) (.cons (.ob q) .nil))))) .nil)) q .nil)))) q q
theorem Na : ∀ n, (∀ (t0 : Int) (t1 : Int) (t2 : Int) (t3 : (List (List Int))) (t4 : (List Int)) (t5 : Int) (r : Bool × (List Int)), (iG n) t0 t1 t2 t3 t4 t5 = some r → dc PP 78 4 [(0, .box 78 ((cL 1 (cL 1 ab)) t3)), (1, .box 26 [a8 2]), (2, .row 3 1 (t4.map ab)), (3, .box 116 [bj 78 [ap (ab t5), ap [bj 50 [a8 0]], a8 1, a8 3]])] [I_ t0, I_ t1, ap (ab t2), ap [bj 50 [a8 0]], a8 1, a8 3] [(0, .box 78 ((cL 1 (cL 1 ab)) t3)), (1, .box 26 [a8 2]), (2, .row 3 1 (r.2.map ab)), (3, .box 116 [bj 78 [ap (ab t5), ap [bj 50 [a8 0]], a8 1, a8 3]])] (aa r.1)) := by
  intro n
  induction n with
  | zero => exact (fun _ _ _ _ _ _ _ h => by cases h)
  | succ n ih => exact (fun a0 a1 a2 a3 a4 a5 r h => N4 _ ih a0 a1 a2 a3 a4 a5 r h)
theorem MO {t0 t1 t2 t3 t4 t5 r} (hr : yP t0 t1 t2 t3 t4 t5 = some r) : dc PP 78 4 [(0, .box 78 ((cL 1 (cL 1 ab)) t3)), (1, .box 26 [a8 2]), (2, .row 3 1 (t4.map ab)), (3, .box 116 [bj 78 [ap (ab t5), ap [bj 50 [a8 0]], a8 1, a8 3]])] [I_ t0, I_ t1, ap (ab t2), ap [bj 50 [a8 0]], a8 1, a8 3] [(0, .box 78 ((cL 1 (cL 1 ab)) t3)), (1, .box 26 [a8 2]), (2, .row 3 1 (r.2.map ab)), (3, .box 116 [bj 78 [ap (ab t5), ap [bj 50 [a8 0]], a8 1, a8 3]])] (aa r.1) := by
  obtain ⟨n, hn⟩ := iS hr
  exact (Na n) t0 t1 t2 t3 t4 t5 r hn
theorem Ms {t0 t1 r} (hr : ut t0 t1 = some r) : dc PP 39 1 [(0, .box 78 ((cL 1 (cL 1 ab)) t1))] [I_ t0, bj 50 [a8 0]] [(0, .box 78 ((cL 1 (cL 1 ab)) t1))] (bk [AL 1 ab r.1, aa r.2]) := by
  refine Ko (fun (r : (List Int) × Bool) => [(0, .box 78 ((cL 1 (cL 1 ab)) t1))]) (fun (r : (List Int) × Bool) => bk [AL 1 ab r.1, aa r.2]) Tryz.func39 q (n := 23) q (bH.cons inferInstance (bH.cons (KB.clo (bH.cons (KB.obj q) inferInstance)) (inferInstance : bH 1 []))).kb (eZ.spec (.box q jA .nil)) q hr fun X hΨ => ?_
  refine Jq q <| aV (I_ t0) q q <| aV (bj 50 [a8 0]) q q <| Ra (af) q q <| Ra (aa false) q q <| R0 <| Jq q <| ag (I_ t0) ay q q q ?_
  refine Ri fun h1 => ?_
  refine lm (cc := ab) 1 0 dS l3 q q h1.1 h1.2 q q <| bE 2 _ r7 q q <| aX (a8 2) (a8 1) [a8 1] js q .obj q q q q q q <| R0 <| Jq q <| bE 3 _ zW q q <| R0 <| Jq q ?_
  refine rZ [ap (ab t0), ap [bj 50 [a8 0]], a8 2, a8 3] q q <| aX (a8 3) (bj 78 [ap (ab t0), ap [bj 50 [a8 0]], a8 2, a8 3]) [bj 78 [ap (ab t0), ap [bj 50 [a8 0]], a8 2, a8 3]] AV q .obj q q q q q q <| R0 <| Js <| Jq q <| ag (I_ t0) ay q q q <| aI fun b2 h3 => lc b2 q q (Option.some.inj h3) q <| aI fun b4 h5 => ?_
  refine aR b4 q q (Option.some.inj h5) q <| Rm (I_ 0) q q <| R0 <| aC <| Jn (fun x6 => ⟨fr [(6, a8 1), (7, a8 3), (14, I_ b4), (15, I_ x6.2)], hp [(0, .box 78 ((cL 1 (cL 1 ab)) t1)), (1, .box 26 [a8 2]), (2, .row 3 1 (x6.1.map ab)), (3, .box 116 [bj 78 [ap (ab t0), ap [bj 50 [a8 0]], a8 1, a8 3]])], 4⟩) [] [(1, 2), (2, 1)] [] q (.cons (A := a8 2) q (.ob q) (.cons (A := a8 3) q (.ob q) (.all q))) (.cc q (.box (.cons .same .nil)) q (.cc q (.box (.cons (.ob q) .nil)) q (.cc q (.row (ah.flat _ _)) q (.cc q (.box (.cons (.clo (.cons .same (.cons (.ptr (.cons (.clo (.cons (.ob q) .nil)) .nil)) (.cons (.ob q) (.cons (.ob q) .nil))))) .nil)) q .nil)))) q q (fun E7 hE7 x6 => ?_)
  refine Jq q <| aZ q q q <| R0 <| Js <| aw q (fun h12 => ?_) (fun h12 => ?_)
  rotate_left
  · exact br q <| bO <| Jq q <| Ra (af) q q <| Ra (aa false) q q <| R0 <| eH hΨ (bG (As := [af, aa false]) q q (.cons (.tmp (A := af) q) (.cons (.tmp (A := aa false) q) .nil))) [] [] [] q (fun y hy => by cases hy; exact ⟨(.cc q (.box (.cons .same .nil)) q .nil), (.tup (.cons .nil (.cons .same .nil)))⟩)
  refine ao <| Js <| aC <| Jq q <| Rm (I_ x6.2) q q <| Ra (I_ x6.2) q q <| R0 <| Jq q ?_
  refine bg (a8 3) (bj 78 [ap (ab t0), ap [bj 50 [a8 0]], a8 1, a8 3]) rO q .obj q q q <| Rm (I_ x6.2) q q <| aI fun b13 h14 => mL [ap (ab t0), ap [bj 50 [a8 0]], a8 1, a8 3] [] [] [] [] 4 [(0, .box 78 ((cL 1 (cL 1 ab)) t1)), (1, .box 26 [a8 2]), (2, .row 3 1 (x6.1.map ab)), (3, .box 116 [bj 78 [ap (ab t0), ap [bj 50 [a8 0]], a8 1, a8 3]])] [(0, .box 78 ((cL 1 (cL 1 ab)) t1)), (1, .box 26 [a8 2]), (2, .row 3 1 (b13.2.map ab)), (3, .box 116 [bj 78 [ap (ab t0), ap [bj 50 [a8 0]], a8 1, a8 3]])] (aa b13.1) [I_ 0, I_ x6.2] q rj (MO h14) (.cons q (.cons q (.cons q (.cons q .nil)))) q (.cons .same (.cons .same (.cons .same (.cons (.ptr (.cons (.clo (.cons (.ob q) .nil)) .nil)) (.cons (.ob q) (.cons (.ob q) .nil)))))) (.cc q (.box (.cons .same .nil)) q (.cc q (.box (.cons (.ob q) .nil)) q (.cc q (.row (ah.flat _ _)) q (.cc q (.box (.cons (.clo (.cons .same (.cons (.ptr (.cons (.clo (.cons (.ob q) .nil)) .nil)) (.cons (.ob q) (.cons (.ob q) .nil))))) .nil)) q .nil)))) (.cc q (.box (.cons .same .nil)) q (.cc q (.box (.cons (.ob q) .nil)) q (.cc q (.row (ah.flat _ _)) q (.cc q (.box (.cons (.clo (.cons .same (.cons (.ptr (.cons (.clo (.cons (.ob q) .nil)) .nil)) (.cons (.ob q) (.cons (.ob q) .nil))))) .nil)) q .nil)))) .same q q q <| R0 <| bQ q (fun h15 => ?_) (fun h15 => ?_)
  · exact Jq q <| bg (a8 1) (a8 2) bh q .obj q q q <| Ra (a8 2) q q <| Ra (aa true) q q <| R0 <| bO <| eH hΨ (bG (As := [a8 2, aa true]) q q (.cons (.tmp (A := a8 2) q) (.cons (.tmp (A := aa true) q) .nil))) [2] [] [] q (fun y hy => by cases hy; exact ⟨(.cc q (.box (.cons .same .nil)) q .nil), (.tup (.cons (.frow q q (ah.flat _ _)) (.cons .same .nil)))⟩)
  exact ao <| bn <| aG 14 (m := b4) q fun q16 => aG 8 (m := x6.2) q fun q17 => Jr q <| aR (x6.2 + 1) q q (bu (by omega) (by omega)) q <| Rm (I_ (x6.2 + 1)) q q <| R0 <| bt <| Jc [] [] [] (hE7 (b13.2, x6.2 + 1)) (.cons (A := a8 1) q (.ob q) (.cons (A := a8 3) q (.ob q) (.all q))) (.cc q (.box (.cons .same .nil)) q (.cc q (.box (.cons (.ob q) .nil)) q (.cc q (.row (ah.flat _ _)) q (.cc q (.box (.cons (.clo (.cons .same (.cons (.ptr (.cons (.clo (.cons (.ob q) .nil)) .nil)) (.cons (.ob q) (.cons (.ob q) .nil))))) .nil)) q .nil)))) q q
theorem DG {t0 t1 r} (hr : pP t0 t1 = some r) : aB PP 17 [ac (au t0), AL 25 aP t1] (bk [AL 1 ab r.1, I_ r.2]) := by
  refine Fo (fun (r : (List Int) × Int) => bk [AL 1 ab r.1, I_ r.2]) Tryz.func17 q (n := 32) q q hr fun X hΨ => ?_
  refine Jq q <| aV (ac (au t0)) q q <| Ra (af) q q <| Ra (I_ 0) q q <| R0 <| Jq q <| aK (au t0) bN q q q q <| Rm (AL 25 aP t1) q q ?_
  refine Rc rh uv q q fun b1 => Rm (bk [AL 1 (cL 1 ab) b1.1, AL 1 ab b1.2.1, I_ b1.2.2]) q q <| bx (AL 1 (cL 1 ab) b1.1) q q q <| bx (AL 1 ab b1.2.1) q q q <| bx (I_ b1.2.2) q q q <| bE 0 _ z_78 q q <| aX (a8 0) (AL 1 (cL 1 ab) b1.1) ((cL 1 (cL 1 ab)) b1.1) zT q .obj q q q q q q <| Ra (AL 1 ab b1.2.1) q q <| Ra (I_ b1.2.2) q q ?_
  refine R0 <| Js <| Jq q <| Rm (I_ b1.2.2) q q <| bP q q q <| R0 <| aw q (fun h3 => ?_) (fun h3 => ?_)
  · exact Jq q <| Rm (I_ b1.2.2) q q <| Ra (af) q q <| Ra (I_ b1.2.2) q q <| R0 <| dg hΨ (bG (As := [af, I_ b1.2.2]) q q (.cons (.tmp (A := af) q) (.cons (.tmp (A := I_ b1.2.2) q) .nil))) (fun y hy => by cases hy; exact (.tup (.cons .nil (.cons .same .nil))))
  refine ao <| Jq q <| Rm (AL 25 aP t1) q q <| aD (cc := aP) jp q q <| rZ [a8 0] q q <| aI fun b4 h5 => gq [] [] [] [] 1 [(0, .box 78 ((cL 1 (cL 1 ab)) b1.1))] [(0, .box 78 ((cL 1 (cL 1 ab)) b1.1))] (bk [AL 1 ab b4.1, aa b4.2]) [I_ (t1.length : Int), bj 50 [a8 0]] zy (Ms h5) (.cons q .nil) q (.cons .same (.cons (.clo (.cons (.ob q) .nil)) .nil)) (.cc q (.box (.cons .same .nil)) q .nil) (.cc q (.box (.cons .same .nil)) q .nil) (.tup (.cons .same (.cons .same .nil))) q q q <| Rm (bk [AL 1 ab b4.1, aa b4.2]) q q <| bx (AL 1 ab b4.1) q q q ?_
  refine bx (aa b4.2) q q q <| Ra (AL 1 ab b4.1) q q <| Ra (aa b4.2) q q <| R0 <| Js <| Jq q <| Rm (aa b4.2) q q <| cd q q <| R0 ?_
  refine bQ q (fun h6 => ?_) (fun h6 => ?_)
  · exact Jq q <| Ra (af) q q <| Ra (I_ 10) q q <| R0 <| dg hΨ (bG (As := [af, I_ 10]) q q (.cons (.tmp (A := af) q) (.cons (.tmp (A := I_ 10) q) .nil))) (fun y hy => by cases hy; exact (.tup (.cons .nil (.cons .same .nil))))
  exact ao <| Jq q <| Rm (AL 1 ab b4.1) q q <| aI fun b7 h8 => dv _ ow (dc.toP (r' := AL 1 ab b7) (qG h8) (.frow q q (ah.flat _ _))) q q <| Ra (AL 1 ab b7) q q <| Ra (I_ 0) q q <| R0 <| Jt hΨ (bG (As := [AL 1 ab b7, I_ 0]) q q (.cons (.tmp (A := AL 1 ab b7) q) (.cons (.tmp (A := I_ 0) q) .nil))) q q
theorem LW {r} (hr : Dk  = some r) : aB PP 28 [] (ac (au r)) := by
  refine Fo (fun r => ac (au r)) Tryz.func28 q (n := 15) q q hr fun X hΨ => ?_
  refine Jq q <| bE 0 _ jj q q <| R0 <| Jq q <| dH (Cs := [am (ByteArray.mk #[98, 97, 108, 97, 110, 99, 101]), I_ (-1000), I_ 1000, af]) (aL (aW.mk (ByteArray.mk #[98, 97, 108, 97, 110, 99, 101]) (-1000) 1000 [])) mv ju (.cons (A := am (ByteArray.mk #[98, 97, 108, 97, 110, 99, 101])) q sn q (.cons (A := I_ (-1000)) q BR q (.cons (A := I_ 1000) q so q .nil))) q (.same (.same (.same (.nl .nil)))) q <| cF (cc := aL) [(aW.mk (ByteArray.mk #[98, 97, 108, 97, 110, 99, 101]) (-1000) 1000 [])] fC pd (.cons (A := ac (aL (aW.mk (ByteArray.mk #[98, 97, 108, 97, 110, 99, 101]) (-1000) 1000 []))) q q q .nil) q q q <| cO (aM (bR.mk (ByteArray.mk #[65, 99, 99, 111, 117, 110, 116]) (-1) true [(aW.mk (ByteArray.mk #[98, 97, 108, 97, 110, 99, 101]) (-1000) 1000 [])])) oD jl (.cons (A := am (ByteArray.mk #[65, 99, 99, 111, 117, 110, 116])) q oT q (.cons (A := I_ (-1)) q oU q (.cons (A := aa true) q Bm q (.cons (A := AL 4 aL [(aW.mk (ByteArray.mk #[98, 97, 108, 97, 110, 99, 101]) (-1000) 1000 [])]) q Bn q .nil)))) q q <| dH (Cs := [am (ByteArray.mk #[67, 97, 115, 104]), I_ 0, aa false, af]) (aM (bR.mk (ByteArray.mk #[67, 97, 115, 104]) 0 false [])) oD jl (.cons (A := am (ByteArray.mk #[67, 97, 115, 104])) q oT q (.cons (A := I_ 0) q oU q .nil)) q (.same (.same (.same (.nl .nil)))) q ?_
  refine cF (cc := bq) [(ByteArray.mk #[111, 112, 101, 110]), (ByteArray.mk #[99, 108, 111, 115, 101, 100])] fD B2 (.cons (A := am (ByteArray.mk #[111, 112, 101, 110])) q q q (.cons (A := am (ByteArray.mk #[99, 108, 111, 115, 101, 100])) q q q .nil)) q q q <| cO (aL (aW.mk (ByteArray.mk #[115, 116, 97, 116, 101]) 0 1 [(ByteArray.mk #[111, 112, 101, 110]), (ByteArray.mk #[99, 108, 111, 115, 101, 100])])) mv ju (.cons (A := am (ByteArray.mk #[115, 116, 97, 116, 101])) q sn q (.cons (A := I_ 1) q so q (.cons (A := AL 1 bq [(ByteArray.mk #[111, 112, 101, 110]), (ByteArray.mk #[99, 108, 111, 115, 101, 100])]) q BS q .nil))) q q <| cF (cc := aL) [(aW.mk (ByteArray.mk #[115, 116, 97, 116, 101]) 0 1 [(ByteArray.mk #[111, 112, 101, 110]), (ByteArray.mk #[99, 108, 111, 115, 101, 100])])] fC pd (.cons (A := ac (aL (aW.mk (ByteArray.mk #[115, 116, 97, 116, 101]) 0 1 [(ByteArray.mk #[111, 112, 101, 110]), (ByteArray.mk #[99, 108, 111, 115, 101, 100])]))) q q q .nil) q q q <| cO (aM (bR.mk (ByteArray.mk #[76, 111, 97, 110]) 0 false [(aW.mk (ByteArray.mk #[115, 116, 97, 116, 101]) 0 1 [(ByteArray.mk #[111, 112, 101, 110]), (ByteArray.mk #[99, 108, 111, 115, 101, 100])])])) oD jl (.cons (A := am (ByteArray.mk #[76, 111, 97, 110])) q oT q (.cons (A := I_ 0) q oU q (.cons (A := AL 4 aL [(aW.mk (ByteArray.mk #[115, 116, 97, 116, 101]) 0 1 [(ByteArray.mk #[111, 112, 101, 110]), (ByteArray.mk #[99, 108, 111, 115, 101, 100])])]) q Bn q .nil))) q q <| dH (Cs := [am (ByteArray.mk #[80, 101, 114, 115, 111, 110]), I_ (-1), aa false, af]) (aM (bR.mk (ByteArray.mk #[80, 101, 114, 115, 111, 110]) (-1) false [])) oD jl (.cons (A := am (ByteArray.mk #[80, 101, 114, 115, 111, 110])) q oT q (.cons (A := I_ (-1)) q oU q .nil)) q (.same (.same (.same (.nl .nil)))) q <| cF (cc := aM) [(bR.mk (ByteArray.mk #[65, 99, 99, 111, 117, 110, 116]) (-1) true [(aW.mk (ByteArray.mk #[98, 97, 108, 97, 110, 99, 101]) (-1000) 1000 [])]), (bR.mk (ByteArray.mk #[67, 97, 115, 104]) 0 false []), (bR.mk (ByteArray.mk #[76, 111, 97, 110]) 0 false [(aW.mk (ByteArray.mk #[115, 116, 97, 116, 101]) 0 1 [(ByteArray.mk #[111, 112, 101, 110]), (ByteArray.mk #[99, 108, 111, 115, 101, 100])])]), (bR.mk (ByteArray.mk #[80, 101, 114, 115, 111, 110]) (-1) false [])] ft Hr (.cons (A := ac (aM (bR.mk (ByteArray.mk #[65, 99, 99, 111, 117, 110, 116]) (-1) true [(aW.mk (ByteArray.mk #[98, 97, 108, 97, 110, 99, 101]) (-1000) 1000 [])]))) q q q (.cons (A := ac (aM (bR.mk (ByteArray.mk #[67, 97, 115, 104]) 0 false []))) q q q (.cons (A := ac (aM (bR.mk (ByteArray.mk #[76, 111, 97, 110]) 0 false [(aW.mk (ByteArray.mk #[115, 116, 97, 116, 101]) 0 1 [(ByteArray.mk #[111, 112, 101, 110]), (ByteArray.mk #[99, 108, 111, 115, 101, 100])])]))) q q q (.cons (A := ac (aM (bR.mk (ByteArray.mk #[80, 101, 114, 115, 111, 110]) (-1) false []))) q q q .nil)))) q q q <| cO (aY (db.mk (ByteArray.mk #[111, 119, 110, 115]) 3 0 0 (-1) 1 1)) vU mf (.cons (A := am (ByteArray.mk #[111, 119, 110, 115])) q wD q (.cons (A := I_ 3) q wE q (.cons (A := I_ 0) q wF q (.cons (A := I_ (-1)) q wG q (.cons (A := I_ 1) q Im q (.cons (A := I_ 1) q wH q .nil)))))) q q <| cO (aY (db.mk (ByteArray.mk #[112, 97, 121, 115]) 1 1 0 (-1) 0 (-1))) vU mf (.cons (A := am (ByteArray.mk #[112, 97, 121, 115])) q wD q (.cons (A := I_ 1) q wE q (.cons (A := I_ 1) q wF q (.cons (A := I_ (-1)) q wG q (.cons (A := I_ (-1)) q wH q .nil))))) q q <| cF (cc := aY) [(db.mk (ByteArray.mk #[111, 119, 110, 115]) 3 0 0 (-1) 1 1), (db.mk (ByteArray.mk #[112, 97, 121, 115]) 1 1 0 (-1) 0 (-1))] fX IH (.cons (A := ac (aY (db.mk (ByteArray.mk #[111, 119, 110, 115]) 3 0 0 (-1) 1 1))) q q q (.cons (A := ac (aY (db.mk (ByteArray.mk #[112, 97, 121, 115]) 1 1 0 (-1) 0 (-1)))) q q q .nil)) q q q <| cO (au (aq.mk [(bR.mk (ByteArray.mk #[65, 99, 99, 111, 117, 110, 116]) (-1) true [(aW.mk (ByteArray.mk #[98, 97, 108, 97, 110, 99, 101]) (-1000) 1000 [])]), (bR.mk (ByteArray.mk #[67, 97, 115, 104]) 0 false []), (bR.mk (ByteArray.mk #[76, 111, 97, 110]) 0 false [(aW.mk (ByteArray.mk #[115, 116, 97, 116, 101]) 0 1 [(ByteArray.mk #[111, 112, 101, 110]), (ByteArray.mk #[99, 108, 111, 115, 101, 100])])]), (bR.mk (ByteArray.mk #[80, 101, 114, 115, 111, 110]) (-1) false [])] [(db.mk (ByteArray.mk #[111, 119, 110, 115]) 3 0 0 (-1) 1 1), (db.mk (ByteArray.mk #[112, 97, 121, 115]) 1 1 0 (-1) 0 (-1))])) zM jj (.cons (A := AL 4 aM [(bR.mk (ByteArray.mk #[65, 99, 99, 111, 117, 110, 116]) (-1) true [(aW.mk (ByteArray.mk #[98, 97, 108, 97, 110, 99, 101]) (-1000) 1000 [])]), (bR.mk (ByteArray.mk #[67, 97, 115, 104]) 0 false []), (bR.mk (ByteArray.mk #[76, 111, 97, 110]) 0 false [(aW.mk (ByteArray.mk #[115, 116, 97, 116, 101]) 0 1 [(ByteArray.mk #[111, 112, 101, 110]), (ByteArray.mk #[99, 108, 111, 115, 101, 100])])]), (bR.mk (ByteArray.mk #[80, 101, 114, 115, 111, 110]) (-1) false [])]) q Hh q (.cons (A := AL 7 aY [(db.mk (ByteArray.mk #[111, 119, 110, 115]) 3 0 0 (-1) 1 1), (db.mk (ByteArray.mk #[112, 97, 121, 115]) 1 1 0 (-1) 0 (-1))]) q Hi q .nil)) q q ?_
  exact aX (a8 0) (ac (au (aq.mk [(bR.mk (ByteArray.mk #[65, 99, 99, 111, 117, 110, 116]) (-1) true [(aW.mk (ByteArray.mk #[98, 97, 108, 97, 110, 99, 101]) (-1000) 1000 [])]), (bR.mk (ByteArray.mk #[67, 97, 115, 104]) 0 false []), (bR.mk (ByteArray.mk #[76, 111, 97, 110]) 0 false [(aW.mk (ByteArray.mk #[115, 116, 97, 116, 101]) 0 1 [(ByteArray.mk #[111, 112, 101, 110]), (ByteArray.mk #[99, 108, 111, 115, 101, 100])])]), (bR.mk (ByteArray.mk #[80, 101, 114, 115, 111, 110]) (-1) false [])] [(db.mk (ByteArray.mk #[111, 119, 110, 115]) 3 0 0 (-1) 1 1), (db.mk (ByteArray.mk #[112, 97, 121, 115]) 1 1 0 (-1) 0 (-1))]))) (au (aq.mk [(bR.mk (ByteArray.mk #[65, 99, 99, 111, 117, 110, 116]) (-1) true [(aW.mk (ByteArray.mk #[98, 97, 108, 97, 110, 99, 101]) (-1000) 1000 [])]), (bR.mk (ByteArray.mk #[67, 97, 115, 104]) 0 false []), (bR.mk (ByteArray.mk #[76, 111, 97, 110]) 0 false [(aW.mk (ByteArray.mk #[115, 116, 97, 116, 101]) 0 1 [(ByteArray.mk #[111, 112, 101, 110]), (ByteArray.mk #[99, 108, 111, 115, 101, 100])])]), (bR.mk (ByteArray.mk #[80, 101, 114, 115, 111, 110]) (-1) false [])] [(db.mk (ByteArray.mk #[111, 119, 110, 115]) 3 0 0 (-1) 1 1), (db.mk (ByteArray.mk #[112, 97, 121, 115]) 1 1 0 (-1) 0 (-1))])) ld q .obj q q q q q q <| R0 <| Jt hΨ (d8 q (.boxA (cs := (au (aq.mk [(bR.mk (ByteArray.mk #[65, 99, 99, 111, 117, 110, 116]) (-1) true [(aW.mk (ByteArray.mk #[98, 97, 108, 97, 110, 99, 101]) (-1000) 1000 [])]), (bR.mk (ByteArray.mk #[67, 97, 115, 104]) 0 false []), (bR.mk (ByteArray.mk #[76, 111, 97, 110]) 0 false [(aW.mk (ByteArray.mk #[115, 116, 97, 116, 101]) 0 1 [(ByteArray.mk #[111, 112, 101, 110]), (ByteArray.mk #[99, 108, 111, 115, 101, 100])])]), (bR.mk (ByteArray.mk #[80, 101, 114, 115, 111, 110]) (-1) false [])] [(db.mk (ByteArray.mk #[111, 119, 110, 115]) 3 0 0 (-1) 1 1), (db.mk (ByteArray.mk #[112, 97, 121, 115]) 1 1 0 (-1) 0 (-1))]))) bN q q q)) q q
end Go.Proofs.YtngimdmkomkeoaaGreat.K
