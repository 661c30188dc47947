import Derived.Test.YtngimdmkomkeoaaGreatWalk2
set_option linter.unusedVariables false
set_option linter.unusedSimpArgs false
namespace Go.Proofs.YtngimdmkomkeoaaGreat.K
open Go.RowKit Go.Proofs
set_option maxHeartbeats 4000000
set_option maxRecDepth 100000
theorem M0 {t0 t1 r} (hr : lJ t0 t1 = some r) : aB PP 120 [ac (aA t0), ac (cE t1)] (bk [ac (aA r.1), ac (bM r.2.1), I_ r.2.2]) := by
  refine Fo (fun (r : ar × aS × Int) => bk [ac (aA r.1), ac (bM r.2.1), I_ r.2.2]) Tryz.func120 q (n := 85) q q hr fun X hΨ => ?_
  refine Jq q <| aV (ac (aA t0)) q q <| aV (ac (cE t1)) q q <| bE 0 _ dW q q <| bE 1 _ fP q q <| Ra (I_ 0) q q <| R0 <| Js <| Js ?_
  refine Jr q <| aK (aA t0) ck q q q q <| aK (cE t1) gX q q q q <| Rc EL Lt q q fun b1 => Ra (I_ b1) q q <| R0 <| Jq q <| Rm (I_ b1) q q ?_
  refine bP q q q <| R0 <| aw q (fun h3 => ?_) (fun h3 => ?_)
  · exact Jq q <| dH (Cs := [af, af]) (aA (ar.mk [] [])) iN dW .nil q (.nl (.nl .nil)) q <| dH (Cs := [af, af]) (bM (aS.mk [] [])) jr fP .nil q (.nl (.nl .nil)) q <| Rm (I_ b1) q q <| aX (a8 0) (ac (aA (ar.mk [] []))) (aA (ar.mk [] [])) eG q .obj q q q q q q <| aX (a8 1) (ac (bM (aS.mk [] []))) (bM (aS.mk [] [])) iP q .obj q q q q q q <| Ra (I_ b1) q q <| R0 <| Jt hΨ (bG (As := [ac (aA (ar.mk [] [])), ac (bM (aS.mk [] [])), I_ b1]) q q (.cons (.boxA (cs := (aA (ar.mk [] []))) ck q q q) (.cons (.boxA (cs := (bM (aS.mk [] []))) fQ q q q) (.cons (.tmp (A := I_ b1) q) .nil)))) q q
  refine ao <| Jq q <| bE 2 _ dW q q <| R0 <| Js <| Jq q <| Ra (I_ 0) q q <| R0 ?_
  refine aC <| Jn (fun x4 => ⟨fr [(2, ap (aA t0)), (3, ap (cE t1)), (4, a8 0), (5, a8 1), (8, a8 2), (9, I_ x4.2)], hp [(0, .box 29 [af, af]), (1, .box 36 [af, af]), (2, .box 29 [a8 3, af]), (3, .row 3 1 (x4.1.map ab))], 4⟩) [] [] [3] q (.s2 q q (.cons (A := a8 0) q (.ob q) (.cons (A := a8 1) q (.ob q) (.cons (A := a8 2) q (.ob q) (.all q))))) (.cc q (.box (.cons .same (.cons .same .nil))) q (.cc q (.box (.cons .same (.cons .same .nil))) q (.cc q (.box (.cons (.nilobj q q) (.cons .same .nil))) q (.new q q .nil)))) q q (fun E5 hE5 x4 => ?_)
  refine Js <| Jq q <| Rm (I_ x4.2) q q <| ai ((cL 1 ab) t1.Nodes) fw q q q <| ag (AL 1 ab t1.Nodes) bh q q q <| aD (cc := ab) bI q q <| aZ q q q <| R0 <| aw q (fun h9 => ?_) (fun h9 => ?_)
  · refine ao <| Js <| aC <| bW <| aT (a8 2) 0 ct q .obj q q q <| bg (aO 2 0) (a8 3) bh q .at q q q <| ai ((cL 1 ab) t0.Nodes) ct q q q <| ag (AL 1 ab t0.Nodes) bh q q q <| ai ((cL 1 ab) t1.Nodes) fw q q q <| ag (AL 1 ab t1.Nodes) bh q q q ?_
    refine Rm (I_ x4.2) q q <| Ri fun h10 => ?_
    refine aQ (cc := ab) bc q q h10.1 h10.2 q <| ag (I_ (nth t1.Nodes x4.2)) ay q q q <| Ri fun h11 => ?_
    refine aQ (cc := ab) bc q q h11.1 h11.2 q <| ag (I_ (nth t0.Nodes (nth t1.Nodes x4.2))) ay q q q <| cF (cc := ab) [(nth t0.Nodes (nth t1.Nodes x4.2))] bc fj (.cons (A := I_ (nth t0.Nodes (nth t1.Nodes x4.2))) q q q .nil) q q q <| Ri fun h12 => ?_
    refine dx (cc := ab) (xs := x4.1) (ys := [(nth t0.Nodes (nth t1.Nodes x4.2))]) 4 dS q q q h12 q q q <| aT (a8 2) 0 ct q .obj q q q <| aX (aO 2 0) (a8 4) [a8 4, af] js q .at q q q q q q <| bK (by kernel_rfl) <| bn <| aG 23 (m := (t1.Nodes.length : Int)) q fun q13 => aG 9 (m := x4.2) q fun q14 => Jr q <| Rm (I_ x4.2) q q <| aR (x4.2 + 1) q q (bu (by omega) (by omega)) q ?_
    exact Ra (I_ (x4.2 + 1)) q q <| R0 <| bt <| Jc [] [(3, 4)] [] (hE5 ((x4.1 ++ [(nth t0.Nodes (nth t1.Nodes x4.2))]), x4.2 + 1)) (.s2 q q (.cons (A := a8 0) q (.ob q) (.cons (A := a8 1) q (.ob q) (.cons (A := a8 2) q (.ob q) (.all q))))) (.cc q (.box (.cons .same (.cons .same .nil))) q (.cc q (.box (.cons .same (.cons .same .nil))) q (.cc q (.box (.cons (.ob q) (.cons .same .nil))) q (.cc q (.row (ah.flat _ _)) q .nil)))) q q
  refine br q <| du <| Js <| Jq q <| Ra (I_ 0) q q <| R0 <| aC <| Jn (fun x15 => ⟨fr [(2, ap (aA t0)), (3, ap (cE t1)), (4, a8 0), (5, a8 1), (8, a8 2), (9, I_ x4.2), (10, I_ x15.2), (23, I_ (t1.Nodes.length : Int))], hp [(0, .box 29 [af, af]), (1, .box 36 [af, af]), (2, .box 29 [a8 3, a8 4]), (3, .row 3 1 (x4.1.map ab)), (4, .row 77 3 (x15.1.map av))], 5⟩) [] [] [4] q (.s2 q q (.cons (A := a8 0) q (.ob q) (.cons (A := a8 1) q (.ob q) (.cons (A := a8 2) q (.ob q) (.all q))))) (.cc q (.box (.cons .same (.cons .same .nil))) q (.cc q (.box (.cons .same (.cons .same .nil))) q (.cc q (.box (.cons (.ob q) (.cons (.nilobj q q) .nil))) q (.cc q (.row (ah.flat _ _)) q (.new q q .nil))))) q q (fun E16 hE16 x15 => ?_)
  refine Js <| Jq q <| Rm (I_ x15.2) q q <| ai ((cL 1 ab) t1.Edges) gM q q q <| ag (AL 1 ab t1.Edges) bh q q q <| aD (cc := ab) bI q q <| aZ q q q <| R0 <| aw q (fun h24 => ?_) (fun h24 => ?_)
  rotate_left
  · refine br q <| du <| Js <| bW <| cr (a8 2) [a8 3, a8 4] ck q .obj q q q q <| gF 5 bc q q <| ai ((cL 1 ab) t1.Nodes) fw q q q <| ag (AL 1 ab t1.Nodes) bh q q q <| Ri fun h34 => ?_
    refine gH (cc := ab) (ys := t1.Nodes) 6 dS q q q h34 q q q <| gF 7 bc q q <| ai ((cL 1 ab) t1.Edges) gM q q q <| ag (AL 1 ab t1.Edges) bh q q q <| Ri fun h35 => ?_
    exact gH (cc := ab) (ys := t1.Edges) 8 dS q q q h35 q q q <| cO [a8 6, a8 8] jr fP (.cons (A := a8 6) q lr q (.cons (A := a8 8) q mG q .nil)) q q <| aX (a8 0) (ac [a8 3, a8 4]) [a8 3, a8 4] eG q .obj q q q q q q <| aX (a8 1) (ac [a8 6, a8 8]) [a8 6, a8 8] iP q .obj q q q q q q <| Ra (I_ 0) q q <| bK (by kernel_rfl) <| dg hΨ (bG (As := [ac [a8 3, a8 4], ac [a8 6, a8 8], I_ 0]) q q (.cons (.boxA (cs := [a8 3, a8 4]) ck q q q) (.cons (.boxA (cs := [a8 6, a8 8]) fQ q q q) (.cons (.tmp (A := I_ 0) q) .nil)))) (fun y hy => by cases hy; exact (.tup (.cons (.agg (.cons (.frow q q (ah.flat _ _)) (.cons (.frow q q (ah.flat _ _)) .nil))) (.cons (.agg (.cons (.frow q q (ah.flat _ _)) (.cons (.frow q q (ah.flat _ _)) .nil))) (.cons .same .nil)))))
  refine ao <| Js <| aC <| Js <| bW <| ai ((cL 3 av) t0.Edges) d9 q q q <| ag (AL 3 av t0.Edges) di q q q <| ai ((cL 1 ab) t1.Edges) gM q q q <| ag (AL 1 ab t1.Edges) bh q q q <| Rm (I_ x15.2) q q ?_
  refine Ri fun h25 => ?_
  refine aQ (cc := ab) bc q q h25.1 h25.2 q <| ag (I_ (nth t1.Edges x15.2)) ay q q q <| Ri fun h26 => ?_
  refine aQ (cc := av) et q q h26.1 h26.2 q <| aK (av (nth t0.Edges (nth t1.Edges x15.2))) gY q q q q <| bE 5 _ fV q q <| aX (a8 5) (ac (av (nth t0.Edges (nth t1.Edges x15.2)))) (av (nth t0.Edges (nth t1.Edges x15.2))) jt q .obj q q q q q q <| bK (by kernel_rfl) <| bW <| aT (a8 2) 1 d9 q .obj q q q <| bg (aO 2 1) (a8 4) di q .at q q q <| aT (a8 5) 0 i7 q .obj q q q <| bg (aO 5 0) (I_ ((nth t0.Edges (nth t1.Edges x15.2)).Type_)) ay q .at q q q ?_
  refine ai ((cL 1 ab) t1.Nodes) fw q q q <| ag (AL 1 ab t1.Nodes) bh q q q <| aT (a8 5) 1 gm q .obj q q q <| bg (aO 5 1) (I_ ((nth t0.Edges (nth t1.Edges x15.2)).From)) ay q .at q q q <| Rc An D9 q q fun b27 => ai ((cL 1 ab) t1.Nodes) fw q q q <| ag (AL 1 ab t1.Nodes) bh q q q <| aT (a8 5) 2 go q .obj q q q <| bg (aO 5 2) (I_ ((nth t0.Edges (nth t1.Edges x15.2)).To)) ay q .at q q q ?_
  refine Rc An D9 q q fun b29 => cO (av (ba.mk ((nth t0.Edges (nth t1.Edges x15.2)).Type_) b27 b29)) lb fV (.cons (A := I_ ((nth t0.Edges (nth t1.Edges x15.2)).Type_)) q ls q (.cons (A := I_ b27) q lu q (.cons (A := I_ b29) q lv q .nil))) q q <| cF (cc := av) [(ba.mk ((nth t0.Edges (nth t1.Edges x15.2)).Type_) b27 b29)] et lw (.cons (A := ac (av (ba.mk ((nth t0.Edges (nth t1.Edges x15.2)).Type_) b27 b29))) q q q .nil) q q q <| Ri fun h31 => ?_
  refine dx (cc := av) (xs := x15.1) (ys := [(ba.mk ((nth t0.Edges (nth t1.Edges x15.2)).Type_) b27 b29)]) 6 m7 q q q h31 q q q <| aT (a8 2) 1 d9 q .obj q q q <| aX (aO 2 1) (a8 6) [a8 3, a8 6] oH q .at q q q q q q <| bK (by kernel_rfl) <| bn <| aG 44 (m := (t1.Edges.length : Int)) q fun q32 => aG 10 (m := x15.2) q fun q33 => Jr q <| Rm (I_ x15.2) q q <| aR (x15.2 + 1) q q (bu (by omega) (by omega)) q ?_
  exact Ra (I_ (x15.2 + 1)) q q <| R0 <| bt <| Jc [] [(4, 6)] [] (hE16 ((x15.1 ++ [(ba.mk ((nth t0.Edges (nth t1.Edges x15.2)).Type_) b27 b29)]), x15.2 + 1)) (.s2 q q (.cons (A := a8 0) q (.ob q) (.cons (A := a8 1) q (.ob q) (.cons (A := a8 2) q (.ob q) (.all q))))) (.cc q (.box (.cons .same (.cons .same .nil))) q (.cc q (.box (.cons .same (.cons .same .nil))) q (.cc q (.box (.cons (.ob q) (.cons (.ob q) .nil))) q (.cc q (.row (ah.flat _ _)) q (.cc q (.row (ah.flat _ _)) q .nil))))) q q
theorem Mc (q_ref04_Below1 : aq → Int → Int → Option Bool) (hq_ref04_Below1 : ∀ (t0 : aq) (t1 : Int) (t2 : Int) (r : Bool), q_ref04_Below1 t0 t1 t2 = some r → aB PP 143 [ac (au t0), I_ t1, I_ t2] (aa r)) (t0 : aq) (t1 : Int) (t2 : Int) (r : Bool) (hr : lK q_ref04_Below1 t0 t1 t2 = some r) : aB PP 143 [ac (au t0), I_ t1, I_ t2] (aa r) := by
  refine Fo aa Tryz.func143 q (n := 25) q q hr fun X hΨ => ?_
  refine Jq q <| aV (ac (au t0)) q q <| Ra (aa false) q q <| R0 <| Js <| bW <| Rm (I_ t1) q q <| Rm (I_ t2) q q <| bY q q q ?_
  refine Rm (aa (decide (t1 = t2))) q q <| aN (fun h1 => ?_) (fun h1 => ?_)
  · refine dU q (dt h1) <| Rk (bC q q) <| Rk (bC q q) <| Rk (bC q q) <| Rk (bC q q) <| Rk (bC q q) <| Rk (bC q q) <| Rk (bC q q) ?_
    exact Rk (bC q q) <| Rk (bC q q) <| Kf q (dt h1) <| aH (aa true) q (dt h1) q q <| Ra (aa true) q q <| bK (by kernel_rfl) <| eV hΨ q q q
  refine Rm (I_ t1) q (an q q (df h1)) <| cG q q (an q q (df h1)) <| Rm (aa (decide (0 ≤ t1))) q (an q q (df h1)) <| aN (fun h2 => ?_) (fun h2 => ?_)
  rotate_left
  · refine cy q (df h2) <| cy q (df h2) <| Kt q (df h2) <| ax (aa false) q (df h2) q (an q q (df h1)) ?_
    exact ax (aa false) q (df h1) q q <| Ra (aa false) q q <| bK (by kernel_rfl) <| eV hΨ q q q
  refine aK (au t0) bN q q q (ak q q (dt h2)) <| ai ((cL 4 aM) t0.Nodes) dk q q (ak q q (dt h2)) <| ag (AL 4 aM t0.Nodes) dl q q (ak q q (dt h2)) <| Rm (I_ t1) q (ak q q (dt h2)) <| Ri fun h3 => ?_
  refine aQ (cc := aM) ft q q h3.1 h3.2 (ak q q (dt h2)) <| ai (ab ((nth t0.Nodes t1).Parent)) lq q q (ak q q (dt h2)) <| ag (I_ ((nth t0.Nodes t1).Parent)) ay q q (ak q q (dt h2)) <| Rm (I_ t2) q (ak q q (dt h2)) <| aI fun b4 h5 => dv _ rI (hq_ref04_Below1 _ _ _ _ h5) q (ak q q (dt h2)) <| aH (aa b4) q (dt h2) q (an q q (df h1)) <| ax (aa b4) q (df h1) q q <| Ra (aa b4) q q <| bK (by kernel_rfl) ?_
  exact eV hΨ q q q
theorem Mv : ∀ n, (∀ (t0 : aq) (t1 : Int) (t2 : Int) (r : Bool), (ib n) t0 t1 t2 = some r → aB PP 143 [ac (au t0), I_ t1, I_ t2] (aa r)) := by
  intro n
  induction n with
  | zero => exact (fun _ _ _ _ h => by cases h)
  | succ n ih => exact (fun a0 a1 a2 r h => Mc _ ih a0 a1 a2 r h)
theorem xU {t0 t1 t2 r} (hr : nr t0 t1 t2 = some r) : aB PP 143 [ac (au t0), I_ t1, I_ t2] (aa r) := by
  obtain ⟨n, hn⟩ := iS hr
  exact (Mv n) t0 t1 t2 r hn
theorem KM {t0 t1 t2 t3 r} (hr : kK t0 t1 t2 t3 = some r) : aB PP 89 [ac (au t0), I_ t1, I_ t2, I_ t3] (aa r) := by
  refine Fo aa Tryz.func89 q (n := 43) q q hr fun X hΨ => ?_
  refine Jq q <| aV (ac (au t0)) q q <| Ra (aa false) q q <| R0 <| Js <| Jq q <| aK (au t0) bN q q q q <| Rm (I_ t2) q q ?_
  refine Rm (I_ t3) q q <| Rc Aj D7 q q fun b1 => bP q q q <| Rm (aa (decide (¬ (b1 = 0)))) q q <| aN (fun h3 => ?_) (fun h3 => ?_)
  · refine cx q (dt h3) <| dU q (dt h3) <| aH (aa true) q (dt h3) q q <| R0 <| cJ q q ?_
    exact Jq q <| Ra (aa false) q q <| Rt hΨ q q q
  refine Rm (I_ t1) q (an q q (df h3)) <| ai ((cL 7 aY) t0.Edges) dL q q (an q q (df h3)) <| ag (AL 7 aY t0.Edges) dO q q (an q q (df h3)) <| aD (cc := aY) fe q (an q q (df h3)) <| aI fun b4 h5 => dq b4 q q (Option.some.inj h5) (an q q (df h3)) <| Rc iR iY q (an q q (df h3)) fun b6 => cd q (an q q (df h3)) <| ax (aa (!b6)) q (df h3) q q ?_
  refine R0 <| bQ q (fun h8 => ?_) (fun h8 => ?_)
  · exact Jq q <| Ra (aa false) q q <| Rt hΨ q q q
  refine ao <| Js <| bW <| aK (au t0) bN q q q q <| Rm (I_ t2) q q <| ai ((cL 7 aY) t0.Edges) dL q q q <| ag (AL 7 aY t0.Edges) dO q q q <| Rm (I_ t1) q q <| Ri fun h9 => ?_
  refine aQ (cc := aY) fX q q h9.1 h9.2 q <| ai (ab ((nth t0.Edges t1).From)) oY q q q <| ag (I_ ((nth t0.Edges t1).From)) ay q q q <| Rc rI xU q q fun b10 => Rm (aa b10) q q <| aN (fun h12 => ?_) (fun h12 => ?_)
  rotate_left
  · refine cy q (bf h12) <| cy q (bf h12) <| Kt q (bf h12) <| ax (aa false) q (bf h12) q q ?_
    exact Ra (aa false) q q <| bK (by kernel_rfl) <| eV hΨ q q q
  refine aK (au t0) bN q q q (ak q q h12) <| Rm (I_ t3) q (ak q q h12) <| ai ((cL 7 aY) t0.Edges) dL q q (ak q q h12) <| ag (AL 7 aY t0.Edges) dO q q (ak q q h12) <| Rm (I_ t1) q (ak q q h12) <| aQ (cc := aY) fX q q h9.1 h9.2 (ak q q h12) <| ai (ab ((nth t0.Edges t1).To)) oZ q q (ak q q h12) <| ag (I_ ((nth t0.Edges t1).To)) ay q q (ak q q h12) <| Rc rI xU q (ak q q h12) fun b13 => ?_
  exact aH (aa b13) q h12 q q <| Ra (aa b13) q q <| bK (by kernel_rfl) <| eV hΨ q q q
theorem MD {t0 r} (hr : yF t0 = some r) : aB PP 83 [I_ t0] (aa r) := by
  refine Fo aa Tryz.func83 q (n := 9) q q hr fun X hΨ => ?_
  refine Jq q <| Ra (aa false) q q <| R0 <| Jq q <| Rm (I_ t0) q q <| aZ q q q <| Rm (aa (decide (t0 < 0))) q q <| aN (fun h1 => ?_) (fun h1 => ?_)
  · exact e9 q (dt h1) <| aH (aa true) q (dt h1) q q <| Ra (aa true) q q <| Rt hΨ q q q
  exact Rm (I_ t0) q (an q q (df h1)) <| cK q q (an q q (df h1)) <| ax (aa (decide (1000 < t0))) q (df h1) q q <| Ra (aa (decide (1000 < t0))) q q <| Rt hΨ q q q
theorem DN {t0 t1 r} (hr : qh t0 t1 = some r) : aB PP 49 [AL 1 ab t0, I_ t1] (aa r) := by
  refine Fo aa Tryz.func49 q (n := 14) q q hr fun X hΨ => ?_
  refine Jq q <| Ra (aa false) q q <| R0 <| Jq q <| Rm (AL 1 ab t0) q q <| aD (cc := ab) bI q q <| Rm (I_ t1) q q <| bY q q q ?_
  refine Rm (aa (decide ((t0.length : Int) = t1))) q q <| aN (fun h1 => ?_) (fun h1 => ?_)
  rotate_left
  · exact c7 q (df h1) <| ax (aa false) q (df h1) q q <| Ra (aa false) q q <| Rt hΨ q q q
  exact Rm (AL 1 ab t0) q (ak q q (dt h1)) <| aI fun b2 h3 => gp [] [AL 1 ab t0, bj 83 []] l7 (lV h3) .nil q (.cons .same (.cons (.cloFn fn_83 (fun x y h => MD h)) .nil)) (ak q q (dt h1)) <| cd q (ak q q (dt h1)) <| aH (aa (!b2)) q (dt h1) q q <| Ra (aa (!b2)) q q <| Rt hΨ q q q
theorem Dx {t0 t1 t2 r} (hr : lI t0 t1 t2 = some r) : aB PP 16 [ac (au t0), AL 25 aP t1, AL 1 ab t2] (aa r) := by
  refine Fo aa Tryz.func16 q (n := 35) q q hr fun X hΨ => ?_
  refine Jq q <| aV (ac (au t0)) q q <| Ra (aa false) q q <| R0 <| Jq q <| aK (au t0) bN q q q q <| Rm (AL 25 aP t1) q q <| aI fun b1 h2 => ?_
  refine dv _ rh (uv h2) q q <| Rm (bk [AL 1 (cL 1 ab) b1.1, AL 1 ab b1.2.1, I_ b1.2.2]) q q <| bx (AL 1 (cL 1 ab) b1.1) q q q <| bx (AL 1 ab b1.2.1) q q q <| bx (I_ b1.2.2) q q q <| Ra (AL 1 (cL 1 ab) b1.1) q q <| Ra (AL 1 ab b1.2.1) q q <| Ra (I_ b1.2.2) q q <| R0 <| Js ?_
  refine Jr q <| Rm (I_ b1.2.2) q q <| bY q q q <| Rm (aa (decide (b1.2.2 = 0))) q q <| aN (fun h3 => ?_) (fun h3 => ?_)
  rotate_left
  · refine cy q (df h3) <| cy q (df h3) <| Kt q (df h3) <| ax (aa false) q (df h3) q q ?_
    exact Rm (aa false) q q <| c7 q q <| ax (aa false) q q q q <| Ra (aa false) q q <| Rt hΨ q q q
  refine Rm (AL 1 ab t2) q (ak q q (dt h3)) <| ai ((cL 4 aM) t0.Nodes) dk q q (ak q q (dt h3)) <| ag (AL 4 aM t0.Nodes) dl q q (ak q q (dt h3)) <| aD (cc := aM) ef q (ak q q (dt h3)) <| ai ((cL 7 aY) t0.Edges) dL q q (ak q q (dt h3)) <| ag (AL 7 aY t0.Edges) dO q q (ak q q (dt h3)) <| aD (cc := aY) fe q (ak q q (dt h3)) <| aI fun b4 h5 => aR b4 q q (Option.some.inj h5) (ak q q (dt h3)) <| aI fun b6 h7 => ?_
  refine dv _ zB (DN h7) q (ak q q (dt h3)) <| aH (aa b6) q (dt h3) q q <| Rm (aa b6) q q <| aN (fun h8 => ?_) (fun h8 => ?_)
  rotate_left
  · exact c7 q (bf h8) <| ax (aa false) q (bf h8) q q <| Ra (aa false) q q <| Rt hΨ q q q
  exact Rm (AL 1 (cL 1 ab) b1.1) q (ak q q h8) <| Rm (AL 1 ab t2) q (ak q q h8) <| Rc zz DI q (ak q q h8) fun b9 => aH (aa b9) q h8 q q <| Ra (aa b9) q q <| Rt hΨ q q q
theorem MU {t0 t1 t2 r} (hr : qH t0 t1 t2 = some r) : aB PP 19 [ac (au t0), AL 25 aP t1, AL 1 ab t2] (aa r) := by
  refine Fo aa Tryz.func19 q (n := 35) q q hr fun X hΨ => ?_
  refine Jq q <| aV (ac (au t0)) q q <| Ra (aa false) q q <| R0 <| Jq q <| aK (au t0) bN q q q q <| Rm (AL 25 aP t1) q q <| aI fun b1 h2 => ?_
  refine dv _ rh (uv h2) q q <| Rm (bk [AL 1 (cL 1 ab) b1.1, AL 1 ab b1.2.1, I_ b1.2.2]) q q <| bx (AL 1 (cL 1 ab) b1.1) q q q <| bx (AL 1 ab b1.2.1) q q q <| bx (I_ b1.2.2) q q q <| Ra (AL 1 (cL 1 ab) b1.1) q q <| Ra (AL 1 ab b1.2.1) q q <| Ra (I_ b1.2.2) q q <| R0 <| Js ?_
  refine Jr q <| Rm (I_ b1.2.2) q q <| bY q q q <| Rm (aa (decide (b1.2.2 = 0))) q q <| aN (fun h3 => ?_) (fun h3 => ?_)
  rotate_left
  · refine cy q (df h3) <| ax (aa false) q (df h3) q q <| Rm (aa false) q q <| c7 q q <| ax (aa false) q q q q ?_
    exact Rm (aa false) q q <| c7 q q <| ax (aa false) q q q q <| Ra (aa false) q q <| Rt hΨ q q q
  refine Rm (AL 1 ab t2) q (ak q q (dt h3)) <| Rm (AL 25 aP t1) q (ak q q (dt h3)) <| aD (cc := aP) jp q (ak q q (dt h3)) <| Rc zB DN q (ak q q (dt h3)) fun b4 => aH (aa b4) q (dt h3) q q <| Rm (aa b4) q q <| aN (fun h6 => ?_) (fun h6 => ?_)
  rotate_left
  · refine c7 q (bf h6) <| ax (aa false) q (bf h6) q q <| Rm (aa false) q q <| c7 q q <| ax (aa false) q q q q <| Ra (aa false) q q ?_
    exact Rt hΨ q q q
  refine Rm (AL 1 ab t2) q (ak q q h6) <| aD (cc := ab) bI q (ak q q h6) <| cK q q (ak q q h6) <| aH (aa (decide (0 < (t2.length : Int)))) q h6 q q <| Rm (aa (decide (0 < (t2.length : Int)))) q q <| aN (fun h7 => ?_) (fun h7 => ?_)
  rotate_left
  · exact c7 q (df h7) <| ax (aa false) q (df h7) q q <| Ra (aa false) q q <| Rt hΨ q q q
  exact Rm (AL 1 (cL 1 ab) b1.1) q (ak q q (dt h7)) <| Rm (AL 1 ab t2) q (ak q q (dt h7)) <| Rc zC DO q (ak q q (dt h7)) fun b8 => aH (aa b8) q (dt h7) q q <| Ra (aa b8) q q <| Rt hΨ q q q
end Go.Proofs.YtngimdmkomkeoaaGreat.K
