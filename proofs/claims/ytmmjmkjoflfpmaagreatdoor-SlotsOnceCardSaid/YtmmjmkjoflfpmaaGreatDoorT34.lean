/- What the functions do from point to point, as equations. sF by Yn/v2/Dw.sh, Np.py. | The DL functions, on the abstract machine. | The DL functions, on
   By the session's AI agent. -/
import Derived.Test.YtmmjmkjoflfpmaaGreatDoorT33
import Derived.KernelRfl
import Derived.Lib.TrimUEq
import Derived.Lib.TrimAscii
set_option linter.unusedSectionVars false
set_option linter.unusedSimpArgs false
set_option linter.unusedVariables false
set_option maxRecDepth 100000
namespace Go.Am.Qd
theorem S66 (base:Nat) (a0:PV) (h:Hp):ai T base 66 [a0] h =
 (aF a0).ah fun x3 =>
 (aA x3 2).ah fun x4 =>
 (ax 1 false x4 h).ah fun x5 =>
 aG (ai T (size h) 101 [x5,(.int .i64 0)] h) fun x6 h7 =>
 (aE x6 0).ah fun x9 =>
 (aE x6 1).ah fun iR =>
 (cG false x9).ah fun mq =>
 (binOp .neq mq (.int .i64 2)).ah fun mo =>
 (aq mo false).ah fun Xc=>(au Xc (some x9) (some .undef)).ah fun pz =>
 (aq mo false).ah fun b22=>(au b22 ((cX pz (.int .i64 0) 1).ah some) (some .undef)).ah fun oy =>
 (aq mo false).ah fun b26=>(au b26 ((ax 1 false oy h7).ah some) (some .undef)).ah fun yb =>
 (aq mo false).ah fun b30=>(au b30 ((binOp .gtr yb (.int .u8 1)).ah some) (some .undef)).ah fun Bz =>
 (aD mo (some (.bool true)) (some Bz)).ah fun Aj =>
 (aq Aj false).ah fun b36=>(au b36 (some x9) (some .undef)).ah fun rI =>
 (aq Aj false).ah fun b40=>(au b40 ((cX rI (.int .i64 1) 1).ah some) (some .undef)).ah fun tI =>
 (aq Aj false).ah fun b44=>(au b44 ((ax 1 false tI h7).ah some) (some .undef)).ah fun Lc =>
 (aq Aj false).ah fun b48=>(au b48 ((binOp .gtr Lc (.int .u8 2)).ah some) (some .undef)).ah fun Gb =>
 (aD Aj (some (.bool true)) (some Gb)).ah fun D6 =>
 aD D6 (
 bg false false (size h) [(.int .i64 0),(.int .i64 0)] h7) (
 (cX x9 (.int .i64 0) 1).ah fun vi =>
 (ax 1 false vi h7).ah fun QE =>
 (cu QE .i64).ah fun Lo =>
 (cX x9 (.int .i64 1) 1).ah fun Cc =>
 (ax 1 false Cc h7).ah fun Lm =>
 (cu Lm .i64).ah fun JY =>
 bg false false (size h) [Lo,JY] h7):=(aZ afL base _ h).trans (by kernel_rfl)
theorem S67 (base:Nat) (a0 a1:PV) (h:Hp):ai T base 67 [a0,a1] h =
 (fL h a0).ah fun x2 =>
 (fL h a1).ah fun x4 =>
 (binOp .eql x2 x4).ah fun x5 =>
 bg false false (size h) [x5] h:=(aZ afM base _ h).trans (by kernel_rfl)
noncomputable def aee (base n0:Nat) (v9 v3 v7 v2 v8:PV) (h:Hp):Option (PV × Hp):=Pt T F69 [1,1,0,1,0,1] base n0 [(9,v9),(3,v3),(7,v7),(2,v2),(8,v8)] h
theorem adC (base n0:Nat) (v9 v3 v7 v2 v8:PV) (h:Hp):aee base n0 v9 v3 v7 v2 v8 h =
 (binOp .lss v9 v8).ah fun x0 =>
 aD x0 (
 (cX v7 v9 1).ah fun x1 =>
 (ax 1 false x1 h).ah fun x2 =>
 aG (ai T base 90 [v3,x2] h) fun x6 h7 =>
 (binOp .add v9 (.int .i64 1)).ah fun x8 =>
 aee base n0 x8 v3 v7 v2 v8 h7) (
 aG (ai T base 61 [v3] h) fun iC h12 =>
 (aS base 32 v2 iC h12).ah fun h13 =>
 (qQ v2 h13 32 true).ah fun r14 =>
 bg false false n0 [r14] h13):=(ej T F69 [1,1,0,1,0,1] base n0 [(9,v9),(3,v3),(7,v7),(2,v2),(8,v8)] h).trans (by kernel_rfl)
theorem S69 (base:Nat) (a0:PV) (h:Hp):ai T base 69 [a0] h =
 eu (rep 32 (.int .u8 0)) h fun x0 h1 =>
 aG (ai T (size h) 56 [] h1) fun x2 h3 =>
 (cG false a0).ah fun x6 =>
 aee (size h) (size h) (.int .i64 0) x2 a0 x0 x6 h3:=(aZ as9 base _ h).trans (by kernel_rfl)
theorem S70 (base:Nat) (a0 a1 a2:PV) (h:Hp):ai T base 70 [a0,a1,a2] h =
 (aF a0).ah fun x2 =>
 (aA x2 0).ah fun x3 =>
 (ax 1 false x3 h).ah fun x4 =>
 aG (ai T (size h) 41 [x4] h) fun x5 h6 =>
 aD x5 (
 bg false false (size h) [(.int .i64 30)] h6) (
 aG (ai T (size h) 104 [a0,a1,a2] h6) fun gG h13 =>
 (unOp .not gG).ah fun mq =>
 aD mq (
 bg false false (size h) [(.int .i64 1)] h13) (
 bg false false (size h) [(.int .i64 0)] h13)):=(aZ ata base _ h).trans (by kernel_rfl)
noncomputable def aef (base n0:Nat) (v29 v1 v0 v27 v28:PV) (h:Hp):Option (PV × Hp):=Pt T F71 [1,1,0,1,0,1] base n0 [(29,v29),(1,v1),(0,v0),(27,v27),(28,v28)] h
theorem adD (base n0:Nat) (v29 v1 v0 v27 v28:PV) (h:Hp):aef base n0 v29 v1 v0 v27 v28 h =
 (binOp .lss v29 v28).ah fun x0 =>
 aD x0 (
 (cX v27 v29 1).ah fun x2 =>
 (ax 1 false x2 h).ah fun x3 =>
 (binOp .add v1 v29).ah fun x9 =>
 aG (ai T base 107 [v0,x9,x3] h) fun iC h12 =>
 (unOp .not iC).ah fun iT =>
 aD iT (
 bg false false n0 [(.int .i64 30)] h12) (
 (binOp .add v29 (.int .i64 1)).ah fun mo =>
 aef base n0 mo v1 v0 v27 v28 h12)) (
 bg false false n0 [(.int .i64 0)] h):=(ej T F71 [1,1,0,1,0,1] base n0 [(29,v29),(1,v1),(0,v0),(27,v27),(28,v28)] h).trans (by kernel_rfl)
theorem S71 (base:Nat) (a0 a1 a2:PV) (h:Hp):ai T base 71 [a0,a1,a2] h =
 (aF a0).ah fun x2 =>
 (aA x2 5).ah fun x3 =>
 (ax 1 false x3 h).ah fun x4 =>
 aD x4 (
 bg false false (size h) [(.int .i64 30)] h) (
 (cG false a2).ah fun iR =>
 aG (ai T (size h) 105 [a0,a1,iR] h) fun iC h12 =>
 (unOp .not iC).ah fun iT =>
 aD iT (
 bg false false (size h) [(.int .i64 1)] h12) (
 aG (ai T (size h) 106 [a0,a1,a2] h12) fun qf Yu =>
 (unOp .not qf).ah fun oy =>
 aD oy (
 bg false false (size h) [(.int .i64 31)] Yu) (
 (cG false a2).ah fun yb =>
 aef (size h) (size h) (.int .i64 0) a1 a0 a2 yb Yu))):=(aZ atb base _ h).trans (by kernel_rfl)
theorem S72 (base:Nat) (a0:PV) (h:Hp):ai T base 72 [a0] h =
 (aF a0).ah fun x2 =>
 (aA x2 1).ah fun x3 =>
 (ax 1 false x3 h).ah fun x4 =>
 (aF a0).ah fun x6 =>
 (aA x6 0).ah fun x7 =>
 (ax 1 false x7 h).ah fun x8 =>
 aG (gu (ai T (size h)) 82 [x8] h) fun x9 h10=>(fun y=>if h10=h then y else none) <|
 (binOp .mul x4 x9).ah fun iC =>
 bg false false (size h) [iC] h:=(aZ atc base _ h).trans (by kernel_rfl)
theorem S73 (base:Nat) (a0:PV) (h:Hp):ai T base 73 [a0] h =
 (gE 1 false a0).ah fun x2 =>
 aD x2 (
 bg false true (size h) [.bn] h) (
 (cF 1 false [(.int .u8 0)] 0 []).ah fun x4 =>
 aG (sy 1 x4 a0 h) fun x6 h7 =>
 bg false true (size h) [x6] h7):=(aZ afN base _ h).trans (by kernel_rfl)
noncomputable def Lw (base n0:Nat) (v4 v0 v3:PV) (h:Hp):Option (PV × Hp):=Pt T Zj [1,1,0,1,0,1] base n0 [(4,v4),(0,v0),(3,v3)] h
theorem Gw (base n0:Nat) (v4 v0 v3:PV) (h:Hp):Lw base n0 v4 v0 v3 h =
 (cG false v0).ah fun x2 =>
 (binOp .lss v4 x2).ah fun x3 =>
 aD x3 (
 (cX v0 v4 1).ah fun x7 =>
 (ax 1 false x7 h).ah fun x8 =>
 (cF 1 false [(.int .u8 0)] 1 [(0,strip x8)]).ah fun x9 =>
 aG (cU base h (.vH 1) [v3,x9]) fun iR h11 =>
 (binOp .add v4 (.int .i64 1)).ah fun mq =>
 Lw base n0 mq v0 iR h11) (
 bg false true n0 [v3] h):=(ej T Zj [1,1,0,1,0,1] base n0 [(4,v4),(0,v0),(3,v3)] h).trans (by kernel_rfl)
theorem S76 (base:Nat) (a0:PV) (h:Hp):ai T base 76 [a0] h =
 (cF 1 false [(.int .u8 0)] 0 []).ah fun x1 =>
 Lw (size h) (size h) (.int .i64 0) a0 x1 h:=(aZ afO base _ h).trans (by kernel_rfl)
theorem S79 (base:Nat) (a0 a1 a2:PV) (h:Hp):ai T base 79 [a0,a1,a2] h =
 aG (ai T (size h) 70 [a0,a1,a2] h) fun x5 h6 =>
 (binOp .neq x5 (.int .i64 0)).ah fun x9 =>
 aD x9 (
 bg false false (size h) [.bn,x5] h6) (
 (aF a0).ah fun mq =>
 (aA mq 0).ah fun mo =>
 (ax 1 false mo h6).ah fun oe =>
 aG (gu (ai T (size h)) 72 [a0] h6) fun qu UQ=>(fun y=>if UQ=h6 then y else none) <|
 (binOp .add qu a1).ah fun oy =>
 aG (ai T (size h) 108 [oe,oy,a2] h6) fun qG h24 =>
 (aE qG 0).ah fun yb =>
 (aE qG 1).ah fun mX =>
 bg false false (size h) [yb,mX] h24):=(aZ atd base _ h).trans (by kernel_rfl)
theorem S81 (base:Nat) (a0:PV) (h:Hp):ai T base 81 [a0] h =
 (aF a0).ah fun x2 =>
 (aA x2 0).ah fun x3 =>
 (ax 1 false x3 h).ah fun x4 =>
 (cG false x4).ah fun x5 =>
 bg false false (size h) [x5] h:=(aZ afP base _ h).trans (by kernel_rfl)
theorem S82 (base:Nat) (a0:PV) (h:Hp):ai T base 82 [a0] h =
 (aF a0).ah fun x2 =>
 (aA x2 1).ah fun x3 =>
 (ax 1 false x3 h).ah fun x4 =>
 bg false false (size h) [x4] h:=(aZ afQ base _ h).trans (by kernel_rfl)
theorem S83 (base:Nat) (a0:PV) (h:Hp):ai T base 83 [a0] h =
 aG (tF 35 a0 h) fun x0 h1 =>
 (aA x0 2).ah fun x3 =>
 (ax 1 false x3 h1).ah fun x4 =>
 aG (ai T (size h) 45 [x4] h1) fun x5 h6 =>
 (aq x5 true).ah fun b9=>(au b9 ((aA x0 1).ah some) (some .undef)).ah fun x8 =>
 (aq x5 true).ah fun b13=>(au b13 ((ax 1 false x8 h6).ah some) (some .undef)).ah fun gG =>
 (aq x5 true).ah fun b17=>(au b17 ((binOp .geq gG (.int .i64 0)).ah some) (some .undef)).ah fun oe =>
 (aD x5 (some oe) (some (.bool false))).ah fun oh =>
 (aq oh true).ah fun b23=>(au b23 ((aA x0 1).ah some) (some .undef)).ah fun nv =>
 (aq oh true).ah fun b27=>(au b27 ((ax 1 false nv h6).ah some) (some .undef)).ah fun mX =>
 (aq oh true).ah fun b31=>(au b31 ((binOp .leq mX (.int .i64 1048576)).ah some) (some .undef)).ah fun Al =>
 (aD oh (some Al) (some (.bool false))).ah fun tH =>
 bg false false (size h) [tH] h6:=(aZ afR base _ h).trans (by kernel_rfl)
noncomputable def Lx (base n0:Nat) (v6 v1 v5:PV) (h:Hp):Option (PV × Hp):=Pt T Zl [1,1,0,1,0,1] base n0 [(6,v6),(1,v1),(5,v5)] h
theorem Gy (base n0:Nat) (v6 v1 v5:PV) (h:Hp):Lx base n0 v6 v1 v5 h =
 (binOp .lss v6 (.int .i64 4)).ah fun x1 =>
 aD x1 (
 (binOp .rem v1 (.int .u32 256)).ah fun x4 =>
 (cu x4 .u8).ah fun x5 =>
 (cF 1 false [(.int .u8 0)] 1 [(0,strip x5)]).ah fun x6 =>
 aG (cU base h (.vH 1) [v5,x6]) fun x7 h8 =>
 (binOp .quo v1 (.int .u32 256)).ah fun iC =>
 (binOp .add v6 (.int .i64 1)).ah fun mq =>
 Lx base n0 mq iC x7 h8) (
 bg false true n0 [v5] h):=(ej T Zl [1,1,0,1,0,1] base n0 [(6,v6),(1,v1),(5,v5)] h).trans (by kernel_rfl)
theorem S84 (base:Nat) (a0 a1:PV) (h:Hp):ai T base 84 [a0,a1] h =
 aG (ai T (size h) 76 [a0] h) fun x2 h3 =>
 Lx (size h) (size h) (.int .i64 0) a1 x2 h3:=(aZ afS base _ h).trans (by kernel_rfl)
theorem S85 (base:Nat) (a0:PV) (h:Hp):ai T base 85 [a0] h =
 aG (ai T (size h) 111 [a0] h) fun x3 h4 =>
 aG (ai T (size h) 84 [a0,x3] h4) fun x5 h6 =>
 bg false false (size h) [x5] h6:=(aZ afT base _ h).trans (by kernel_rfl)
theorem S86 (base:Nat) (a0 a1:PV) (h:Hp):ai T base 86 [a0,a1] h =
 (binOp .shr a0 a1).ah fun x3 =>
 (binOp .sub (.int .i64 32) a1).ah fun x6 =>
 (binOp .shl a0 x6).ah fun x7 =>
 (binOp .or x3 x7).ah fun x8 =>
 bg false false (size h) [x8] h:=(aZ afU base _ h).trans (by kernel_rfl)
theorem S87 (base:Nat) (a0:PV) (h:Hp):ai T base 87 [a0] h =
 (aF a0).ah fun x2 =>
 (aA x2 0).ah fun x3 =>
 (ax 1 false x3 h).ah fun x4 =>
 bg false false (size h) [x4] h:=(aZ afV base _ h).trans (by kernel_rfl)
noncomputable def Lz (base n0:Nat) (XH v0 v1 v41:PV) (h:Hp):Option (PV × Hp):=Pt T Zm [1,1,1,0,1,0,1] base n0 [(42,XH),(0,v0),(1,v1),(41,v41)] h
theorem Gz (base n0:Nat) (XH v0 v1 v41:PV) (h:Hp):Lz base n0 XH v0 v1 v41 h =
 (binOp .lss XH v41).ah fun x0 =>
 aD x0 (
 (aF v0).ah fun x6 =>
 (aA x6 1).ah fun x7 =>
 (ax 1 false x7 h).ah fun x8 =>
 (binOp .mul v1 x8).ah fun x9 =>
 (binOp .add x9 XH).ah fun iC =>
 aG (ai T base 107 [v0,iC,(.int .u8 255)] h) fun gG h13 =>
 (unOp .not gG).ah fun mq =>
 aD mq (
 bg false false n0 [(.int .i64 30)] h13) (
 (binOp .add XH (.int .i64 1)).ah fun oe =>
 Lz base n0 oe v0 v1 v41 h13)) (
 bg false false n0 [(.int .i64 0)] h):=(ej T Zm [1,1,1,0,1,0,1] base n0 [(42,XH),(0,v0),(1,v1),(41,v41)] h).trans (by kernel_rfl)
theorem S88 (base:Nat) (a0 a1:PV) (h:Hp):ai T base 88 [a0,a1] h =
 (aF a0).ah fun x2 =>
 (aA x2 5).ah fun x3 =>
 (ax 1 false x3 h).ah fun x4 =>
 aD x4 (
 bg false false (size h) [(.int .i64 30)] h) (
 (binOp .lss a1 (.int .i64 0)).ah fun x8 =>
 (aq x8 false).ah fun b11=>(au b11 (some a1) (some .undef)).ah fun iR =>
 (aq x8 false).ah fun b15=>(au b15 (some a0) (some .undef)).ah fun mq =>
 (aq x8 false).ah fun b19=>(au b19 ((aF mq).ah some) (some .undef)).ah fun qu =>
 (aq x8 false).ah fun b23=>(au b23 ((aA qu 2).ah some) (some .undef)).ah fun nv =>
 (aq x8 false).ah fun b27=>(au b27 ((ax 1 false nv h).ah some) (some .undef)).ah fun mX =>
 (aq x8 false).ah fun b31=>(au b31 ((cG false mX).ah some) (some .undef)).ah fun Al =>
 (aq x8 false).ah fun b35=>(au b35 ((binOp .geq iR Al).ah some) (some .undef)).ah fun tH =>
 (aD x8 (some (.bool true)) (some tH)).ah fun Ai =>
 aD Ai (
 bg false false (size h) [(.int .i64 1)] h) (
 (aF a0).ah fun NG =>
 (aA NG 2).ah fun Lc =>
 (ax 1 false Lc h).ah fun vP =>
 (aF a0).ah fun Gb =>
 (aA Gb 2).ah fun HI =>
 (ax 1 false HI h).ah fun x49 =>
 (cX x49 a1 1).ah fun D6 =>
 (ax 1 false D6 h).ah fun QD =>
 (binOp .add QD (.int .i64 1)).ah fun JJ =>
 (jH false [JJ,(.int .i64 1073741824)]).ah fun ya =>
 (cX vP a1 1).ah fun vi =>
 (aS (size h) 1 vi ya h).ah fun Sb =>
 (aF a0).ah fun sI =>
 (aA sI 1).ah fun Cc =>
 (ax 1 false Cc Sb).ah fun Lm =>
 Lz (size h) (size h) (.int .i64 0) a0 a1 Lm Sb)):=(aZ afW base _ h).trans (by kernel_rfl)
theorem S89 (base:Nat) (h:Hp):ai T base 89 [] h =
 eu (rep 8 (.int .u32 0)) h fun x0 h1 =>
 (dw (rep 8 (.int .u32 0)) [(0,1,(.int .u32 1779033703)),(1,1,(.int .u32 3144134277)),(2,1,(.int .u32 1013904242)),(3,1,(.int .u32 2773480762)),(4,1,(.int .u32 1359893119)),(5,1,(.int .u32 2600822924)),(6,1,(.int .u32 528734635)),(7,1,(.int .u32 1541459225))]).ah fun x2 =>
 (aS (size h) 8 x0 x2 h1).ah fun h3 =>
 (qQ x0 h3 8 true).ah fun r4 =>
 bg false false (size h) [r4] h3:=(aZ afX base _ h).trans (by kernel_rfl)
noncomputable def GA (base n0:Nat) (v0 v1:PV) (h:Hp):Option (PV × Hp):=Pt T Zn [0,1] base n0 [(0,v0),(1,v1)] h
theorem GB (base n0:Nat) (v0 v1:PV) (h:Hp):GA base n0 v0 v1 h =
 (cG false v1).ah fun x1 =>
 (binOp .gtr x1 (.int .i64 0)).ah fun x2 =>
 aD x2 (
 (aF v0).ah fun x4 =>
 (aA x4 72).ah fun x5 =>
 (ax 1 false x5 h).ah fun x6 =>
 (binOp .rem x6 (.int .i64 64)).ah fun x7 =>
 (aF v0).ah fun iR =>
 (aA iR 8).ah fun iC =>
 aG (cU base h (.jr 1 64 true false) [iC,x7]) fun iT D5 =>
 aG (copyV base iT v1 D5) fun oe Ak =>
 (cZ (some 1) (some oe) none none v1).ah fun oy =>
 (aF v0).ah fun s8 =>
 (aA s8 72).ah fun yb =>
 (ax 1 false yb Ak).ah fun mX =>
 (binOp .add mX oe).ah fun Ag =>
 (aF v0).ah fun Bz =>
 (aA Bz 72).ah fun Al =>
 (aS base 1 Al Ag Ak).ah fun UT =>
 (binOp .add x7 oe).ah fun tH =>
 (binOp .eql tH (.int .i64 64)).ah fun rI =>
 aD rI (
 aG (ai T base 112 [v0] UT) fun s9 UO =>
 GA base n0 v0 oy UO) (
 GA base n0 v0 oy UT)) (
 bg false false n0 [] h):=(ej T Zn [0,1] base n0 [(0,v0),(1,v1)] h).trans (by kernel_rfl)
theorem S90 (base:Nat) (a0 a1:PV) (h:Hp):ai T base 90 [a0,a1] h =
 GA (size h) (size h) a0 a1 h:=(aZ afY base _ h).trans (by kernel_rfl)
theorem S91 (base:Nat) (a0 a1:PV) (h:Hp):ai T base 91 [a0,a1] h =
 (cG false a0).ah fun x2 =>
 (cG false a1).ah fun x4 =>
 (binOp .geq x2 x4).ah fun x5 =>
 (aq x5 true).ah fun b8=>(au b8 (some a0) (some .undef)).ah fun x7 =>
 (aq x5 true).ah fun TB=>(au TB (some a1) (some .undef)).ah fun iC =>
 (aq x5 true).ah fun Qh=>(au Qh ((cG false iC).ah some) (some .undef)).ah fun mo =>
 (aq x5 true).ah fun Te=>(au Te ((cZ (some 1) none (some mo) none x7).ah some) (some .undef)).ah fun qf =>
 (aq x5 true).ah fun TC=>(au TC (some a1) (some .undef)).ah fun qG =>
 (aq x5 true).ah fun TD=>aG (au TD (aG (ai T (size h) 67 [qf,qG] h) fun Al Q1=>some (Al,Q1)) (some (.undef,h))) fun BB Q1 =>
 (aD x5 (some BB) (some (.bool false))).ah fun qj =>
 bg false false (size h) [qj] Q1:=(aZ afZ base _ h).trans (by kernel_rfl)
theorem S92 (base:Nat) (a0:PV) (h:Hp):ai T base 92 [a0] h =
 (cG false a0).ah fun x3 =>
 (binOp .sub x3 (.int .i64 4)).ah fun x4 =>
 (binOp .lss x4 (.int .i64 0)).ah fun x7 =>
 aD x7 (
 bg false false (size h) [.bn,(.bool false)] h) (
 (cZ (some 1) (some x4) none none a0).ah fun gG =>
 aG (ai T (size h) 93 [gG] h) fun iT D5 =>
 (aE iT 0).ah fun oe =>
 (aE iT 1).ah fun pz =>
 (cZ (some 1) none (some x4) none a0).ah fun qG =>
 aG (ai T (size h) 113 [qG] D5) fun s8 JN =>
 (binOp .neq oe s8).ah fun mX =>
 aD mX (
 bg false false (size h) [.bn,(.bool false)] JN) (
 (cZ (some 1) none (some x4) none a0).ah fun qj =>
 aG (ai T (size h) 73 [qj] JN) fun Ah JX =>
 bg false false (size h) [Ah,(.bool true)] JX)):=(aZ af0 base _ h).trans (by kernel_rfl)
noncomputable def LA (base n0:Nat) (v9 v0 v4:PV) (h:Hp):Option (PV × Hp):=Pt T Zo [1,1,1,0,1,0,1] base n0 [(9,v9),(0,v0),(4,v4)] h
theorem GC (base n0:Nat) (v9 v0 v4:PV) (h:Hp):LA base n0 v9 v0 v4 h =
 (binOp .lss v9 (.int .i64 4)).ah fun x0 =>
 aD x0 (
 (cX v0 v9 1).ah fun x6 =>
 (ax 1 false x6 h).ah fun x7 =>
 (cu x7 .u32).ah fun x8 =>
 (binOp .mul (.int .i64 8) v9).ah fun iR =>
 (binOp .shl x8 iR).ah fun iC =>
 (binOp .or v4 iC).ah fun gG =>
 (binOp .add v9 (.int .i64 1)).ah fun mq =>
 LA base n0 mq v0 gG h) (
 bg false false n0 [v4,(.bool true)] h):=(ej T Zo [1,1,1,0,1,0,1] base n0 [(9,v9),(0,v0),(4,v4)] h).trans (by kernel_rfl)
theorem S93 (base:Nat) (a0:PV) (h:Hp):ai T base 93 [a0] h =
 (cG false a0).ah fun x3 =>
 (binOp .lss x3 (.int .i64 4)).ah fun x4 =>
 aD x4 (
 bg false false (size h) [(.int .u32 0),(.bool false)] h) (
 LA (size h) (size h) (.int .i64 0) a0 (.int .u32 0) h):=(aZ af1 base _ h).trans (by kernel_rfl)
theorem S94 (base:Nat) (a0:PV) (h:Hp):ai T base 94 [a0] h =
 (fL h a0).ah fun x3 =>
 aG (ai T (size h) 114 [x3,(.str [0])] h) fun x4 h5 =>
 aG (ai T (size h) 115 [x4] h5) fun x9 h10 =>
 bg false false (size h) [x4,x9] h10:=(aZ af2 base _ h).trans (by kernel_rfl)
theorem S95 (base:Nat) (a0:PV) (h:Hp):ai T base 95 [a0] h =
 (aF a0).ah fun x2 =>
 (ax 73 true x2 h).ah fun x3 =>
 eu (rep 8 (.int .u32 0)++rep 64 (.int .u8 0)++[(.int .i64 0)]) h fun x4 h5 =>
 (aS base 73 x4 x3 h5).ah fun h6 =>
 bg true false (size h) [x4] h6:=(gR ate base _ h).trans (by kernel_rfl)
noncomputable def aeg (base n0:Nat) (v3 v0:PV) (h:Hp):Option (PV × Hp):=Pt T F96 [1,1,1,1] base n0 [(3,v3),(0,v0)] h
noncomputable def aeh (base n0:Nat) (v27 v5 v3 v4:PV) (h:Hp):Option (PV × Hp):=Pt T F96 [1,1,1,1,1,1,1,0,1,0,1] base n0 [(27,v27),(5,v5),(3,v3),(4,v4)] h
theorem aeX (base n0:Nat) (v3 v0:PV) (h:Hp):aeg base n0 v3 v0 h =
 aG (P5 5 [(.int .u8 0)] v3 v3 h) fun x1 h2 =>
 (cX x1 (.int .i64 0) 1).ah fun x5 =>
 (aS base 1 x5 (.int .u8 128) h2).ah fun h6 =>
 (aF v0).ah fun x8 =>
 (aA x8 72).ah fun x9 =>
 (ax 1 false x9 h6).ah fun iR =>
 (cu iR .u64).ah fun iC =>
 (binOp .mul iC (.int .u64 8)).ah fun gG =>
 aeh base n0 (.int .i64 0) gG v3 x1 h6:=(ej T F96 [1,1,1,1] base n0 [(3,v3),(0,v0)] h).trans (by kernel_rfl)
theorem adF (base n0:Nat) (v27 v5 v3 v4:PV) (h:Hp):aeh base n0 v27 v5 v3 v4 h =
 (binOp .lss v27 (.int .i64 8)).ah fun x0 =>
 aD x0 (
 (binOp .sub v3 (.int .i64 1)).ah fun x5 =>
 (binOp .sub x5 v27).ah fun x7 =>
 (binOp .mul (.int .i64 8) v27).ah fun iR =>
 (binOp .shr v5 iR).ah fun iC =>
 (cu iC .u8).ah fun gG =>
 (cX v4 x7 1).ah fun iT =>
 (aS base 1 iT gG h).ah fun D5 =>
 (binOp .add v27 (.int .i64 1)).ah fun mo =>
 aeh base n0 mo v5 v3 v4 D5) (
 bg false false n0 [v4] h):=(ej T F96 [1,1,1,1,1,1,1,0,1,0,1] base n0 [(27,v27),(5,v5),(3,v3),(4,v4)] h).trans (by kernel_rfl)
theorem S96 (base:Nat) (a0:PV) (h:Hp):ai T base 96 [a0] h =
 (aF a0).ah fun x2 =>
 (aA x2 72).ah fun x3 =>
 (ax 1 false x3 h).ah fun x4 =>
 (binOp .rem x4 (.int .i64 64)).ah fun x5 =>
 (binOp .sub (.int .i64 64) x5).ah fun x6 =>
 (binOp .lss x6 (.int .i64 9)).ah fun x9 =>
 aD x9 (
 (binOp .add x6 (.int .i64 64)).ah fun iC =>
 aeg (size h) (size h) iC a0 h) (
 aeg (size h) (size h) x6 a0 h):=(aZ atf base _ h).trans (by kernel_rfl)
theorem S97 (base:Nat) (a0 a1 a2:PV) (h:Hp):ai T base 97 [a0,a1,a2] h =
 aG (ai T base 116 [a0,a1,a2] h) fun x4 h5 =>
 (binOp .neq x4 (.int .i64 0)).ah fun x8 =>
 aD x8 (
 bg true false (size h) [x4] h5) (
 (aF a0).ah fun gG =>
 (aA gG 6).ah fun iT =>
 (ax 1 false iT h5).ah fun mq =>
 aG (cU base h5 (.lookup [1] false .bn true) [mq,a1]) fun oe Ak =>
 (aE oe 0).ah fun qf =>
 (aE oe 1).ah fun oh =>
 (aq oh true).ah fun b26=>(au b26 (some qf) (some .undef)).ah fun yb =>
 (aq oh true).ah fun b30=>(au b30 (some a2) (some .undef)).ah fun Bz =>
 (aq oh true).ah fun b34=>aG (au b34 (aG (ai T base 67 [yb,Bz] Ak) fun QK h35=>some (QK,h35)) (some (.undef,Ak))) fun Aj h35 =>
 (aD oh (some Aj) (some (.bool false))).ah fun s9 =>
 aD s9 (
 bg true false (size h) [(.int .i64 0)] h35) (
 (aF a0).ah fun FZ =>
 (aA FZ 6).ah fun zY =>
 (ax 1 false zY h35).ah fun NG =>
 aG (ai T base 117 [NG] h35) fun Lc h44 =>
 aG (gu (ai T base) 73 [a2] h44) fun x49 h50=>(fun y=>if h50=h44 then y else none) <|
 aG (cU base h44 (.CK [1] false) [Lc,a1,x49]) fun _ h51 =>
 aG (gu (ai T base) 119 [a1,a2,(.bool false)] h51) fun vi Sb=>(fun y=>if Sb=h51 then y else none) <|
 aG (ai T base 118 [a0,vi,Lc] h51) fun sI h59 =>
 bg true false (size h) [sI] h59)):=(gR atg base _ h).trans (by kernel_rfl)
noncomputable def acO (base n0:Nat) (v10 v0 v4:PV) (h:Hp):Option (PV × Hp):=Pt T F98 [1,1,0,1,0,1] base n0 [(10,v10),(0,v0),(4,v4)] h
theorem adG (base n0:Nat) (v10 v0 v4:PV) (h:Hp):acO base n0 v10 v0 v4 h =
 (binOp .lss v10 (.int .i64 2)).ah fun x0 =>
 aD x0 (
 aG (ai T base 120 [v0,v10] h) fun x5 h6 =>
 (aE x5 0).ah fun x8 =>
 (aE x5 1).ah fun x9 =>
 (binOp .neq x9 (.int .i64 0)).ah fun iT =>
 aD iT (
 bg false false n0 [(.bool false),x9] h6) (
 (cZ (some 1) (some (.int .i64 1)) none none x8).ah fun qu =>
 aG (ai T base 93 [qu] h6) fun qf Yu =>
 (aE qf 0).ah fun nv =>
 (aE qf 1).ah fun qG =>
 (cX x8 (.int .i64 0) 1).ah fun BB =>
 (ax 1 false BB Yu).ah fun Ag =>
 (binOp .eql Ag (.int .u8 0)).ah fun Bz =>
 (aq Bz true).ah fun XE=>(au XE (some v4) (some .undef)).ah fun qj =>
 (aq Bz true).ah fun b36=>(au b36 ((unOp .not qj).ah some) (some .undef)).ah fun rI =>
 (aq Bz true).ah fun b40=>(au b40 (some rI) (some .undef)).ah fun tI =>
 (aq tI false).ah fun b44=>(au b44 (some nv) (some .undef)).ah fun Lc =>
 (aq tI false).ah fun b48=>(au b48 (some v0) (some .undef)).ah fun Gb =>
 (aq tI false).ah fun b52=>(au b52 ((aF Gb).ah some) (some .undef)).ah fun D6 =>
 (aq tI false).ah fun b56=>(au b56 ((aA D6 4).ah some) (some .undef)).ah fun vi =>
 (aq tI false).ah fun b60=>(au b60 ((ax 1 false vi Yu).ah some) (some .undef)).ah fun Cc =>
 (aq tI false).ah fun b64=>(au b64 ((binOp .gtr Lc Cc).ah some) (some .undef)).ah fun FW =>
 (aq Bz true).ah fun b68=>(au b68 ((aD tI (some (.bool true)) (some FW)).ah some) (some .undef)).ah fun NL =>
 (aD Bz (some NL) (some (.bool false))).ah fun QF =>
 aD QF (
 (aF v0).ah fun WV =>
 (aA WV 3).ah fun TK =>
 (aS base 1 TK v10 Yu).ah fun Yq =>
 (aF v0).ah fun Tu =>
 (aA Tu 4).ah fun x80 =>
 (aS base 1 x80 nv Yq).ah fun h81 =>
 (binOp .add v10 (.int .i64 1)).ah fun QG =>
 acO base n0 QG v0 (.bool true) h81) (
 (binOp .add v10 (.int .i64 1)).ah fun x85 =>
 acO base n0 x85 v0 v4 Yu))) (
 bg false false n0 [v4,(.int .i64 0)] h):=(ej T F98 [1,1,0,1,0,1] base n0 [(10,v10),(0,v0),(4,v4)] h).trans (by kernel_rfl)
theorem S98 (base:Nat) (a0:PV) (h:Hp):ai T base 98 [a0] h =
 acO (size h) (size h) (.int .i64 0) a0 (.bool false) h:=(aZ ath base _ h).trans (by kernel_rfl)
noncomputable def adH (base n0:Nat) (v0 v1 v8 v5 v6 v9:PV) (h:Hp):Option (PV × Hp):=Pt T F99 [1,1,1,1,1,1,1,1] base n0 [(0,v0),(1,v1),(8,v8),(5,v5),(6,v6),(9,v9)] h
theorem adI (base n0:Nat) (v0 v1 v8 v5 v6 v9:PV) (h:Hp):adH base n0 v0 v1 v8 v5 v6 v9 h =
 (binOp .eql v9 (.int .i64 0)).ah fun x1 =>
 aD x1 (
 (cF 1 false [(.int .u8 0)] 1 [(0,strip (.int .u8 0))]).ah fun x3 =>
 aG (ai T base 28 [v6,(.int .i64 0),x3] h) fun x4 h5 =>
 (binOp .neq x4 (.int .i64 0)).ah fun x8 =>
 aD x8 (
 bg true false n0 [x4] h5) (
 (aF v0).ah fun pz =>
 (aA pz 3).ah fun qu =>
 (aS base 1 qu v5 h5).ah fun UQ =>
 (aF v0).ah fun oh =>
 (aA oh 5).ah fun oy =>
 (aS base 1 oy v8 UQ).ah fun OH =>
 (aF v0).ah fun qG =>
 (aA qG 6).ah fun s8 =>
 (aS base 1 s8 v1 OH).ah fun JN =>
 (aF v0).ah fun BB =>
 (aA BB 4).ah fun Ag =>
 (ax 1 false Ag JN).ah fun Bz =>
 (binOp .add Bz (.int .u32 1)).ah fun Al =>
 (aF v0).ah fun qj =>
 (aA qj 4).ah fun Ah =>
 (aS base 1 Ah Al JN).ah fun JX =>
 bg true false n0 [(.int .i64 0)] JX)) (
 (binOp .neq v9 (.int .i64 0)).ah fun QK =>
 aD QK (
 bg true false n0 [v9] h) (
 (aF v0).ah fun vg =>
 (aA vg 3).ah fun NH =>
 (aS base 1 NH v5 h).ah fun h47 =>
 (aF v0).ah fun HI =>
 (aA HI 5).ah fun x49 =>
 (aS base 1 x49 v8 h47).ah fun h50 =>
 (aF v0).ah fun D6 =>
 (aA D6 6).ah fun QD =>
 (aS base 1 QD v1 h50).ah fun h53 =>
 (aF v0).ah fun vi =>
 (aA vi 4).ah fun QE =>
 (ax 1 false QE h53).ah fun Lo =>
 (binOp .add Lo (.int .u32 1)).ah fun sI =>
 (aF v0).ah fun Cc =>
 (aA Cc 4).ah fun Lm =>
 (aS base 1 Lm sI h53).ah fun h61 =>
 bg true false n0 [(.int .i64 0)] h61)):=(ej T F99 [1,1,1,1,1,1,1,1] base n0 [(0,v0),(1,v1),(8,v8),(5,v5),(6,v6),(9,v9)] h).trans (by kernel_rfl)
theorem S99 (base:Nat) (a0 a1:PV) (h:Hp):ai T base 99 [a0,a1] h =
 aG (gu (ai T base) 121 [a1] h) fun x2 h3=>(fun y=>if h3=h then y else none) <|
 (aF a0).ah fun x5 =>
 (aA x5 2).ah fun x6 =>
 (ax 1 false x6 h).ah fun x7 =>
 (binOp .gtr x2 x7).ah fun x8 =>
 aD x8 (
 bg true false (size h) [(.int .i64 6)] h) (
 (aF a0).ah fun gG =>
 (aA gG 4).ah fun iT =>
 (ax 1 false iT h).ah fun mq =>
 (binOp .eql mq (.int .u32 4294967295)).ah fun mo =>
 aD mo (
 bg true false (size h) [(.int .i64 3)] h) (
 (aF a0).ah fun qf =>
 (aA qf 3).ah fun oh =>
 (ax 1 false oh h).ah fun oy =>
 (binOp .sub (.int .i64 1) oy).ah fun nv =>
 (aF a0).ah fun mX =>
 (aA mX 0).ah fun BB =>
 (aN 1 2 BB nv).ah fun Ag =>
 (ax 1 false Ag h).ah fun Bz =>
 aG (ai T base 55 [Bz] h) fun Ah JX =>
 (binOp .neq Ah (.int .i64 0)).ah fun QK =>
 aD QK (
 bg true false (size h) [Ah] JX) (
 aG (ai T base 122 [Bz,a1] JX) fun zY h42 =>
 (aE zY 0).ah fun vP =>
 (aE zY 1).ah fun vg =>
 (binOp .eql vg (.int .i64 0)).ah fun x49 =>
 aD x49 (
 (aF a0).ah fun QD =>
 (aA QD 4).ah fun JJ =>
 (ax 1 false JJ h42).ah fun ya =>
 (binOp .add ya (.int .u32 1)).ah fun vi =>
 aG (ai T base 123 [.bn,vi] h42) fun QE h57 =>
 aG (ai T base 28 [Bz,(.int .i64 1),QE] h57) fun sI h59 =>
 adH base (size h) a0 a1 vP nv Bz sI h59) (
 adH base (size h) a0 a1 vP nv Bz vg h42)))):=(gR ati base _ h).trans (by kernel_rfl)
noncomputable def abX (base n0:Nat) (v0 v4:PV) (h:Hp):Option (PV × Hp):=Pt T Zp [1,1,1,1,0,0,1] base n0 [(0,v0),(4,v4)] h
noncomputable def ac8 (base n0:Nat) (v76 v74 v75:PV) (h:Hp):Option (PV × Hp):=Pt T Zp [1,1,1,1,1,0,1,0,1] base n0 [(76,v76),(74,v74),(75,v75)] h
theorem aev (base n0:Nat) (v0 v4:PV) (h:Hp):abX base n0 v0 v4 h =
 (aF v0).ah fun x2 =>
 (aA x2 5).ah fun x3 =>
 (ax 1 false x3 h).ah fun x4 =>
 aG (ai T base 124 [v4,x4] h) fun x5 h6 =>
 (aE x5 0).ah fun x8 =>
 (aE x5 1).ah fun x9 =>
 eu [(.int .i64 0),.bn,(.bool false),(.int .i64 0)] h6 fun iR h11 =>
 (aS base 4 iR x8 h11).ah fun h12 =>
 (unOp .not x9).ah fun mo =>
 aD mo (
 (aF v0).ah fun qu =>
 (aA qu 5).ah fun qf =>
 (ax 1 false qf h12).ah fun oh =>
 (cZ (some 1) (some oh) none none v4).ah fun oy =>
 (cG false oy).ah fun nv =>
 ac8 base n0 (.int .i64 0) oy nv h12) (
 (aF v0).ah fun mX =>
 (aA mX 5).ah fun BB =>
 (ax 1 false BB h12).ah fun Ag =>
 (ax 4 true iR h12).ah fun Bz =>
 aG (ai T base 125 [v4,Ag,Bz] h12) fun Al UT =>
 (unOp .not Al).ah fun Ah =>
 aD Ah (
 bg true false n0 [(.bool false),(.int .i64 40)] UT) (
 (aA iR 2).ah fun rI =>
 (ax 1 false rI UT).ah fun QK =>
 aD QK (
 (aF v0).ah fun Ai =>
 (aA Ai 6).ah fun tI =>
 (ax 1 false tI UT).ah fun FZ =>
 (aA iR 0).ah fun zY =>
 (ax 1 false zY UT).ah fun NG =>
 aG (cU base UT (.CM [1] false) [FZ,NG]) fun _ h43 =>
 (aA iR 3).ah fun vg =>
 (ax 1 false vg h43).ah fun NH =>
 (aF v0).ah fun Gb =>
 (aA Gb 5).ah fun HI =>
 (aS base 1 HI NH h43).ah fun h49 =>
 abX base n0 v0 v4 h49) (
 (aF v0).ah fun D6 =>
 (aA D6 6).ah fun QD =>
 (ax 1 false QD UT).ah fun JJ =>
 (aA iR 0).ah fun ya =>
 (ax 1 false ya UT).ah fun vi =>
 (aA iR 1).ah fun QE =>
 (ax 1 false QE UT).ah fun Lo =>
 aG (gu (ai T base) 73 [Lo] UT) fun sI h59=>(fun y=>if h59=UT then y else none) <|
 aG (cU base UT (.CK [1] false) [JJ,vi,sI]) fun _ Ys =>
 (aA iR 3).ah fun Tx =>
 (ax 1 false Tx Ys).ah fun FW =>
 (aF v0).ah fun QB =>
 (aA QB 5).ah fun TM =>
 (aS base 1 TM FW Ys).ah fun h66 =>
 abX base n0 v0 v4 h66))):=(ej T Zp [1,1,1,1,0,0,1] base n0 [(0,v0),(4,v4)] h).trans (by kernel_rfl)
theorem acP (base n0:Nat) (v76 v74 v75:PV) (h:Hp):ac8 base n0 v76 v74 v75 h =
 (binOp .lss v76 v75).ah fun x0 =>
 aD x0 (
 (cX v74 v76 1).ah fun x1 =>
 (ax 1 false x1 h).ah fun x2 =>
 (binOp .neq x2 (.int .u8 255)).ah fun x5 =>
 aD x5 (
 bg true false n0 [(.bool true),(.int .i64 0)] h) (
 (binOp .add v76 (.int .i64 1)).ah fun x8 =>
 ac8 base n0 x8 v74 v75 h)) (
 bg true false n0 [(.bool false),(.int .i64 0)] h):=(ej T Zp [1,1,1,1,1,0,1,0,1] base n0 [(76,v76),(74,v74),(75,v75)] h).trans (by kernel_rfl)
theorem atP (base:Nat) (a0:PV) (h:Hp):ai T base 100 [a0] h =
 (aF a0).ah fun x4 =>
 (aA x4 3).ah fun x5 =>
 (ax 1 false x5 h).ah fun x6 =>
 aG (ai T base 120 [a0,x6] h) fun x7 h8 =>
 (aE x7 0).ah fun iR =>
 (aE x7 1).ah fun iC =>
 (binOp .neq iC (.int .i64 0)).ah fun mo =>
 aD mo (
 bg true false (size h) [(.bool false),iC] h8) (
 aG (cU base h8 .makeMap []) fun oy OH =>
 (aF a0).ah fun qG =>
 (aA qG 6).ah fun s8 =>
 (aS base 1 s8 oy OH).ah fun JN =>
 (aF a0).ah fun mX =>
 (aA mX 5).ah fun BB =>
 (aS base 1 BB (.int .i64 8) JN).ah fun h28 =>
 abX base (size h) a0 iR h28):=(gR anY base _ h).trans (by kernel_rfl)
theorem TO (base:Nat) (a0 a1:PV) (h:Hp):ai T base 101 [a0,a1] h =
 (aF a0).ah fun x3 =>
 (aA x3 6).ah fun x4 =>
 (ax 1 false x4 h).ah fun x5 =>
 aG (cU (size h) h (.lookup [1] false .bn true) [x5,a1]) fun x7 h8 =>
 (aE x7 0).ah fun iR =>
 (aE x7 1).ah fun iC =>
 aG (ai T (size h) 73 [iR] h8) fun mo HK =>
 bg false true (size h) [mo,iC] HK:=(aZ ZI base _ h).trans (by kernel_rfl)
theorem atQ (base:Nat) (a0 a1 a2:PV) (h:Hp):ai T base 104 [a0,a1,a2] h =
 (binOp .geq a1 (.int .i64 0)).ah fun x2 =>
 (aq x2 true).ah fun b5=>(au b5 (some a2) (some .undef)).ah fun x4 =>
 (aq x2 true).ah fun b9=>(au b9 ((binOp .geq x4 (.int .i64 0)).ah some) (some .undef)).ah fun x8 =>
 (aD x2 (some x8) (some (.bool false))).ah fun gG =>
 (aq gG true).ah fun b15=>(au b15 (some a1) (some .undef)).ah fun mq =>
 (aq gG true).ah fun b19=>(au b19 (some a0) (some .undef)).ah fun qu =>
 (aq gG true).ah fun b23=>aG (au b23 (aG (ai T (size h) 54 [qu] h) fun yb h24=>some (yb,h24)) (some (.undef,h))) fun nv h24 =>
 (aq gG true).ah fun b27=>(au b27 ((binOp .leq mq nv).ah some) (some .undef)).ah fun mX =>
 (aD gG (some mX) (some (.bool false))).ah fun Al =>
 (aq Al true).ah fun b33=>(au b33 (some a2) (some .undef)).ah fun Ah =>
 (aq Al true).ah fun b37=>(au b37 (some a0) (some .undef)).ah fun QK =>
 (aq Al true).ah fun b41=>aG (au b41 (aG (ai T (size h) 54 [QK] h24) fun Lc h42=>some (Lc,h42)) (some (.undef,h24))) fun FZ h42 =>
 (aq Al true).ah fun b45=>(au b45 (some a1) (some .undef)).ah fun vP =>
 (aq Al true).ah fun b49=>(au b49 ((binOp .sub FZ vP).ah some) (some .undef)).ah fun HI =>
 (aq Al true).ah fun b53=>(au b53 ((binOp .leq Ah HI).ah some) (some .undef)).ah fun QD =>
 (aD Al (some QD) (some (.bool false))).ah fun QE =>
 bg false false (size h) [QE] h42:=(aZ anZ base _ h).trans (by kernel_rfl)
theorem atT (base:Nat) (a0 a1 a2:PV) (h:Hp):ai T base 105 [a0,a1,a2] h =
 (binOp .geq a1 (.int .i64 0)).ah fun x2 =>
 (aq x2 true).ah fun b5=>(au b5 (some a2) (some .undef)).ah fun x4 =>
 (aq x2 true).ah fun b9=>(au b9 ((binOp .geq x4 (.int .i64 0)).ah some) (some .undef)).ah fun x8 =>
 (aD x2 (some x8) (some (.bool false))).ah fun gG =>
 (aq gG true).ah fun b15=>(au b15 (some a1) (some .undef)).ah fun mq =>
 (aq gG true).ah fun b19=>(au b19 (some a0) (some .undef)).ah fun qu =>
 (aq gG true).ah fun b23=>(au b23 ((aF qu).ah some) (some .undef)).ah fun nv =>
 (aq gG true).ah fun b27=>(au b27 ((aA nv 0).ah some) (some .undef)).ah fun mX =>
 (aq gG true).ah fun b31=>(au b31 ((ax 1 false mX h).ah some) (some .undef)).ah fun Al =>
 (aq gG true).ah fun b35=>(au b35 ((cG false Al).ah some) (some .undef)).ah fun tH =>
 (aq gG true).ah fun b39=>(au b39 ((binOp .leq mq tH).ah some) (some .undef)).ah fun Ai =>
 (aD gG (some Ai) (some (.bool false))).ah fun NG =>
 (aq NG true).ah fun b45=>(au b45 (some a2) (some .undef)).ah fun vP =>
 (aq NG true).ah fun b49=>(au b49 (some a0) (some .undef)).ah fun HI =>
 (aq NG true).ah fun b53=>(au b53 ((aF HI).ah some) (some .undef)).ah fun QD =>
 (aq NG true).ah fun b57=>(au b57 ((aA QD 0).ah some) (some .undef)).ah fun QE =>
 (aq NG true).ah fun b61=>(au b61 ((ax 1 false QE h).ah some) (some .undef)).ah fun Lm =>
 (aq NG true).ah fun b65=>(au b65 ((cG false Lm).ah some) (some .undef)).ah fun QB =>
 (aq NG true).ah fun b69=>(au b69 (some a1) (some .undef)).ah fun DG =>
 (aq NG true).ah fun b73=>(au b73 ((binOp .sub QB DG).ah some) (some .undef)).ah fun Tt =>
 (aq NG true).ah fun b77=>(au b77 ((binOp .leq vP Tt).ah some) (some .undef)).ah fun WV =>
 (aD NG (some WV) (some (.bool false))).ah fun x80 =>
 bg false false (size h) [x80] h:=(aZ an0 base _ h).trans (by kernel_rfl)
noncomputable def ac9 (base n0:Nat) (v11 v1 v0 v9 v10:PV) (h:Hp):Option (PV × Hp):=Pt T Zt [1,0,1,0,1] base n0 [(11,v11),(1,v1),(0,v0),(9,v9),(10,v10)] h
theorem acQ (base n0:Nat) (v11 v1 v0 v9 v10:PV) (h:Hp):ac9 base n0 v11 v1 v0 v9 v10 h =
 (binOp .lss v11 v10).ah fun x0 =>
 aD x0 (
 (cX v9 v11 1).ah fun x2 =>
 (ax 1 false x2 h).ah fun x3 =>
 (aF v0).ah fun x8 =>
 (aA x8 0).ah fun x9 =>
 (ax 1 false x9 h).ah fun iR =>
 (binOp .add v1 v11).ah fun iT =>
 (cX iR iT 1).ah fun mq =>
 (ax 1 false mq h).ah fun mo =>
 (binOp .andNot x3 mo).ah fun oe =>
 (binOp .neq oe (.int .u8 0)).ah fun pz =>
 aD pz (
 bg false false n0 [(.bool false)] h) (
 (binOp .add v11 (.int .i64 1)).ah fun qf =>
 ac9 base n0 qf v1 v0 v9 v10 h)) (
 bg false false n0 [(.bool true)] h):=(ej T Zt [1,0,1,0,1] base n0 [(11,v11),(1,v1),(0,v0),(9,v9),(10,v10)] h).trans (by kernel_rfl)
theorem atU (base:Nat) (a0 a1 a2:PV) (h:Hp):ai T base 106 [a0,a1,a2] h =
 (cG false a2).ah fun x2 =>
 ac9 (size h) (size h) (.int .i64 0) a1 a0 a2 x2 h:=(aZ an1 base _ h).trans (by kernel_rfl)
theorem amj (base:Nat) (a0 a1 a2:PV) (h:Hp):ai T base 107 [a0,a1,a2] h =
 (aF a0).ah fun x2 =>
 (aA x2 4).ah fun x3 =>
 (ax 1 false x3 h).ah fun x4 =>
 (binOp .eql x4 (.int .i64 0)).ah fun x5 =>
 aD x5 (
 (aF a0).ah fun x7 =>
 (aA x7 5).ah fun x8 =>
 (aS (size h) 1 x8 (.bool true) h).ah fun h9 =>
 bg false false (size h) [(.bool false)] h9) (
 (aF a0).ah fun gG =>
 (aA gG 4).ah fun iT =>
 (ax 1 false iT h).ah fun mq =>
 (binOp .gtr mq (.int .i64 0)).ah fun mo =>
 aD mo (
 (aF a0).ah fun pz =>
 (aA pz 4).ah fun qu =>
 (ax 1 false qu h).ah fun qf =>
 (binOp .sub qf (.int .i64 1)).ah fun oh =>
 (aF a0).ah fun oy =>
 (aA oy 4).ah fun nv =>
 (aS (size h) 1 nv oh h).ah fun h23 =>
 (aF a0).ah fun yb =>
 (aA yb 0).ah fun mX =>
 (ax 1 false mX h23).ah fun BB =>
 (cX BB a1 1).ah fun Al =>
 (aS (size h) 1 Al a2 h23).ah fun UT =>
 (aF a0).ah fun tH =>
 (aA tH 3).ah fun rI =>
 (ax 1 false rI UT).ah fun QK =>
 (binOp .add QK (.int .i64 1)).ah fun s9 =>
 (jH false [s9,(.int .i64 1073741824)]).ah fun Ai =>
 (aF a0).ah fun tI =>
 (aA tI 3).ah fun FZ =>
 (aS (size h) 1 FZ Ai UT).ah fun h41 =>
 bg false false (size h) [(.bool true)] h41) (
 (aF a0).ah fun vP =>
 (aA vP 0).ah fun vg =>
 (ax 1 false vg h).ah fun NH =>
 (cX NH a1 1).ah fun x49 =>
 (aS (size h) 1 x49 a2 h).ah fun h50 =>
 (aF a0).ah fun JJ =>
 (aA JJ 3).ah fun ya =>
 (ax 1 false ya h50).ah fun vi =>
 (binOp .add vi (.int .i64 1)).ah fun QE =>
 (jH false [QE,(.int .i64 1073741824)]).ah fun Lo =>
 (aF a0).ah fun sI =>
 (aA sI 3).ah fun Cc =>
 (aS (size h) 1 Cc Lo h50).ah fun Ys =>
 bg false false (size h) [(.bool true)] Ys)):=(aZ ZJ base _ h).trans (by kernel_rfl)
theorem atV (base:Nat) (a0 a1 a2:PV) (h:Hp):ai T base 108 [a0,a1,a2] h =
 (aF a0).ah fun x3 =>
 (aA x3 5).ah fun x4 =>
 (ax 1 false x4 h).ah fun x5 =>
 aD x5 (
 bg false false (size h) [.bn,(.int .i64 30)] h) (
 aG (ai T (size h) 105 [a0,a1,a2] h) fun gG h13 =>
 (unOp .not gG).ah fun mq =>
 aD mq (
 bg false false (size h) [.bn,(.int .i64 1)] h13) (
 (aF a0).ah fun qf =>
 (aA qf 0).ah fun oh =>
 (ax 1 false oh h13).ah fun oy =>
 (binOp .add a1 a2).ah fun yb =>
 (cZ (some 1) (some a1) (some yb) none oy).ah fun mX =>
 aG (ai T (size h) 73 [mX] h13) fun BB h28 =>
 bg false false (size h) [BB,(.int .i64 0)] h28)):=(aZ an2 base _ h).trans (by kernel_rfl)
noncomputable def Aq (base n0:Nat) (v3 v4 v0:PV) (h:Hp):Option (PV × Hp):=Pt T Jz [1,1,0,1,0,1] base n0 [(3,v3),(4,v4),(0,v0)] h
noncomputable def As (base n0:Nat) (v5 v3 v4 v0:PV) (h:Hp):Option (PV × Hp):=Pt T Jz [1,1,0,1,0,1,0,0,1,0,0,1,0,1] base n0 [(5,v5),(3,v3),(4,v4),(0,v0)] h
theorem Cd (base n0:Nat) (v3 v4 v0:PV) (h:Hp):Aq base n0 v3 v4 v0 h =
 (cG false v0).ah fun x2 =>
 (binOp .lss v4 x2).ah fun x3 =>
 aD x3 (
 As base n0 (.int .i64 0) v3 v4 v0 h) (
 (binOp .xor v3 (.int .u32 4294967295)).ah fun x6 =>
 bg false false n0 [x6] h):=(ej T Jz [1,1,0,1,0,1] base n0 [(3,v3),(4,v4),(0,v0)] h).trans (by kernel_rfl)
theorem Ce (base n0:Nat) (v5 v3 v4 v0:PV) (h:Hp):As base n0 v5 v3 v4 v0 h =
 (binOp .lss v5 (.int .i64 8)).ah fun x1 =>
 aD x1 (
 (cX v0 v4 1).ah fun x4 =>
 (ax 1 false x4 h).ah fun x5 =>
 (binOp .shr x5 v5).ah fun x7 =>
 (cu x7 .u32).ah fun x8 =>
 (binOp .and x8 (.int .u32 1)).ah fun x9 =>
 (binOp .and v3 (.int .u32 1)).ah fun gG =>
 (binOp .quo v3 (.int .u32 2)).ah fun mo =>
 (binOp .neq x9 gG).ah fun qf =>
 aD qf (
 (binOp .xor mo (.int .u32 3988292384)).ah fun oy =>
 (binOp .add v5 (.int .i64 1)).ah fun s8 =>
 As base n0 s8 oy v4 v0 h) (
 (binOp .add v5 (.int .i64 1)).ah fun BB =>
 As base n0 BB mo v4 v0 h)) (
 (binOp .add v4 (.int .i64 1)).ah fun Al =>
 Aq base n0 v3 Al v0 h):=(ej T Jz [1,1,0,1,0,1,0,0,1,0,0,1,0,1] base n0 [(5,v5),(3,v3),(4,v4),(0,v0)] h).trans (by kernel_rfl)
theorem amk (base:Nat) (a0:PV) (h:Hp):ai T base 111 [a0] h =
 Aq (size h) (size h) (.int .u32 4294967295) (.int .i64 0) a0 h:=(aZ ZK base _ h).trans (by kernel_rfl)
noncomputable def tO (base n0:Nat) (v23 v3 v2 v0:PV) (h:Hp):Option (PV × Hp):=Pt T JA [1,1,0,1,0,1] base n0 [(23,v23),(3,v3),(2,v2),(0,v0)] h
noncomputable def tP (base n0:Nat) (DI v0 Yx:PV) (h:Hp):Option (PV × Hp):=Pt T JA [1,1,1,1,0,1] base n0 [(100,DI),(0,v0),(99,Yx)] h
theorem Cg (base n0:Nat) (v23 v3 v2 v0:PV) (h:Hp):tO base n0 v23 v3 v2 v0 h =
 (binOp .lss v23 (.int .i64 64)).ah fun x0 =>
 aD x0 (
 (aN 1 8 v3 (.int .i64 0)).ah fun x3 =>
 (ax 1 false x3 h).ah fun x4 =>
 (aN 1 8 v3 (.int .i64 1)).ah fun x5 =>
 (ax 1 false x5 h).ah fun x6 =>
 (aN 1 8 v3 (.int .i64 2)).ah fun x7 =>
 (ax 1 false x7 h).ah fun x8 =>
 (aN 1 8 v3 (.int .i64 4)).ah fun x9 =>
 (ax 1 false x9 h).ah fun iR =>
 (aN 1 8 v3 (.int .i64 5)).ah fun iC =>
 (ax 1 false iC h).ah fun gG =>
 (aN 1 8 v3 (.int .i64 6)).ah fun iT =>
 (ax 1 false iT h).ah fun mq =>
 (aN 1 8 v3 (.int .i64 7)).ah fun oy =>
 (ax 1 false oy h).ah fun nv =>
 aG (gu (ai T base) 129 [iR,(.int .i64 6)] h) fun s8 JN=>(fun y=>if JN=h then y else none) <|
 aG (gu (ai T base) 129 [iR,(.int .i64 11)] h) fun BB h28=>(fun y=>if h28=h then y else none) <|
 (binOp .xor s8 BB).ah fun Bz =>
 aG (gu (ai T base) 129 [iR,(.int .i64 25)] h) fun qj Yw=>(fun y=>if Yw=h then y else none) <|
 (binOp .xor Bz qj).ah fun Aj =>
 (binOp .add nv Aj).ah fun tH =>
 (binOp .and iR gG).ah fun s9 =>
 (unOp .xor iR).ah fun tI =>
 (binOp .and tI mq).ah fun zY =>
 (binOp .xor s9 zY).ah fun NG =>
 (binOp .add tH NG).ah fun Lc =>
 (aN 1 64 (.ep KS 0) v23).ah fun vg =>
 (ax 1 false vg h).ah fun NH =>
 (binOp .add Lc NH).ah fun Gb =>
 (aN 1 64 v2 v23).ah fun x49 =>
 (ax 1 false x49 h).ah fun FV =>
 (binOp .add Gb FV).ah fun D6 =>
 aG (ai T base 129 [x4,(.int .i64 2)] h) fun ya h55 =>
 aG (ai T base 129 [x4,(.int .i64 13)] h55) fun Lo h58 =>
 (binOp .xor ya Lo).ah fun Cc =>
 aG (ai T base 129 [x4,(.int .i64 22)] h58) fun JY h62 =>
 (binOp .xor Cc JY).ah fun FW =>
 (binOp .and x4 x6).ah fun NK =>
 (binOp .and x4 x8).ah fun HJ =>
 (binOp .xor NK HJ).ah fun Xs =>
 (binOp .and x6 x8).ah fun TJ =>
 (binOp .xor Xs TJ).ah fun TE =>
 (binOp .add FW TE).ah fun Ty =>
 aG (cU base h62 (.jr 1 8 true false) [v3,(.int .i64 1)]) fun TK Yq =>
 aG (cU base Yq (.jr 1 8 false true) [v3,(.int .i64 7)]) fun Tu h80 =>
 aG (copyV base TK Tu h80) fun OG h82 =>
 (aN 1 8 v3 (.int .i64 4)).ah fun QG =>
 (ax 1 false QG h82).ah fun WW =>
 (binOp .add WW D6).ah fun Xt =>
 (aN 1 8 v3 (.int .i64 4)).ah fun NM =>
 (aS base 1 NM Xt h82).ah fun h88 =>
 (binOp .add D6 Ty).ah fun Tw =>
 (aN 1 8 v3 (.int .i64 0)).ah fun XD =>
 (aS base 1 XD Tw h88).ah fun Xd =>
 (binOp .add v23 (.int .i64 1)).ah fun QC =>
 tO base n0 QC v3 v2 v0 Xd) (
 (ax 8 true v3 h).ah fun WY =>
 tP base n0 (.int .i64 0) v0 WY h):=(ej T JA [1,1,0,1,0,1] base n0 [(23,v23),(3,v3),(2,v2),(0,v0)] h).trans (by kernel_rfl)
theorem Ch (base n0:Nat) (DI v0 Yx:PV) (h:Hp):tP base n0 DI v0 Yx h =
 (binOp .lss DI (.int .i64 8)).ah fun x0 =>
 aD x0 (
 (sx 1 false 8 Yx DI).ah fun x2 =>
 (aF v0).ah fun x7 =>
 (aA x7 0).ah fun x8 =>
 (aN 1 8 x8 DI).ah fun x9 =>
 (ax 1 false x9 h).ah fun iR =>
 (binOp .add iR x2).ah fun gG =>
 (aF v0).ah fun iT =>
 (aA iT 0).ah fun mq =>
 (aN 1 8 mq DI).ah fun mo =>
 (aS base 1 mo gG h).ah fun HK =>
 (binOp .add DI (.int .i64 1)).ah fun pz =>
 tP base n0 pz v0 Yx HK) (
 bg false false n0 [] h):=(ej T JA [1,1,1,1,0,1] base n0 [(100,DI),(0,v0),(99,Yx)] h).trans (by kernel_rfl)
theorem aml (base:Nat) (a0:PV) (h:Hp):ai T base 112 [a0] h =
 (aF a0).ah fun x1 =>
 (aA x1 8).ah fun x2 =>
 aG (ai T (size h) 128 [x2] h) fun x3 h4 =>
 eu (rep 64 (.int .u32 0)) h4 fun x5 h6 =>
 (aS (size h) 64 x5 x3 h6).ah fun h7 =>
 (aF a0).ah fun x9 =>
 (aA x9 0).ah fun iR =>
 (ax 8 true iR h7).ah fun iC =>
 eu (rep 8 (.int .u32 0)) h7 fun gG h13 =>
 (aS (size h) 8 gG iC h13).ah fun D5 =>
 tO (size h) (size h) (.int .i64 0) gG x5 a0 D5:=(aZ ZL base _ h).trans (by kernel_rfl)
theorem amm (base:Nat) (a0:PV) (h:Hp):ai T base 113 [a0] h =
 aG (ai T (size h) 130 [(.int .u32 0),a0] h) fun x2 h3 =>
 bg false false (size h) [x2] h3:=(aZ ZM base _ h).trans (by kernel_rfl)
noncomputable def DJ (base n0:Nat) (v0 v6:PV) (h:Hp):Option (PV × Hp):=Pt T P9 [1,0,1,0,1] base n0 [(0,v0),(6,v6)] h
theorem Ci (base n0:Nat) (v0 v6:PV) (h:Hp):DJ base n0 v0 v6 h =
 aG (uW v6 h) fun x0 h1 =>
 (aE x0 0).ah fun x2 =>
 aD x2 (
 (aE x0 2).ah fun x3 =>
 aG (ai T base 135 [x3] h1) fun x6 h7 =>
 (unOp .not x6).ah fun x8 =>
 aD x8 (
 bg false false n0 [(.bool false)] h7) (
 DJ base n0 v0 v6 h7)) (
 (binOp .neq v0 (.str [])).ah fun iC =>
 (aq iC true).ah fun Xb=>(au Xb (some v0) (some .undef)).ah fun iT =>
 (aq iC true).ah fun Xc=>(au Xc ((cG true iT).ah some) (some .undef)).ah fun pz =>
 (aq iC true).ah fun b22=>(au b22 ((binOp .leq pz (.int .i64 16)).ah some) (some .undef)).ah fun oy =>
 (aD iC (some oy) (some (.bool false))).ah fun yb =>
 bg false false n0 [yb] h1):=(ej T P9 [1,0,1,0,1] base n0 [(0,v0),(6,v6)] h).trans (by kernel_rfl)
theorem amn (base:Nat) (a0:PV) (h:Hp):ai T base 115 [a0] h =
 aG (Jo a0 h) fun x2 h3 =>
 DJ (size h) (size h) a0 x2 h3:=(aZ ZO base _ h).trans (by kernel_rfl)
theorem atW (base:Nat) (a0 a1 a2:PV) (h:Hp):ai T base 116 [a0,a1,a2] h =
 (aF a0).ah fun x2 =>
 (aA x2 0).ah fun x3 =>
 (aN 1 2 x3 (.int .i64 0)).ah fun x4 =>
 (ax 1 false x4 h).ah fun x5 =>
 aG (ai T (size h) 87 [x5] h) fun x6 h7 =>
 aG (ai T (size h) 41 [x6] h7) fun x8 h9 =>
 aD x8 (
 aD x8 (
 bg false false (size h) [(.int .i64 30)] h9) (
 (binOp .lss a1 (.int .i64 0)).ah fun iT =>
 (aq iT false).ah fun Qh=>(au Qh (some a1) (some .undef)).ah fun mo =>
 (aq iT false).ah fun Te=>(au Te ((binOp .geq mo (.int .i64 32)).ah some) (some .undef)).ah fun qf =>
 (aD iT (some (.bool true)) (some qf)).ah fun qG =>
 aD qG (
 bg false false (size h) [(.int .i64 1)] h9) (
 (cG false a2).ah fun BB =>
 (binOp .gtr BB (.int .i64 250)).ah fun Ag =>
 aD Ag (
 bg false false (size h) [(.int .i64 2)] h9) (
 bg false false (size h) [(.int .i64 0)] h9)))) (
 (aF a0).ah fun Aj =>
 (aA Aj 0).ah fun tH =>
 (aN 1 2 tH (.int .i64 1)).ah fun rI =>
 (ax 1 false rI h9).ah fun QK =>
 aG (ai T (size h) 87 [QK] h9) fun s9 UO =>
 aG (ai T (size h) 41 [s9] UO) fun tI h40 =>
 aD tI (
 bg false false (size h) [(.int .i64 30)] h40) (
 (binOp .lss a1 (.int .i64 0)).ah fun vP =>
 (aq vP false).ah fun b47=>(au b47 (some a1) (some .undef)).ah fun NH =>
 (aq vP false).ah fun b51=>(au b51 ((binOp .geq NH (.int .i64 32)).ah some) (some .undef)).ah fun FV =>
 (aD vP (some (.bool true)) (some FV)).ah fun ya =>
 aD ya (
 bg false false (size h) [(.int .i64 1)] h40) (
 (cG false a2).ah fun sI =>
 (binOp .gtr sI (.int .i64 250)).ah fun Cc =>
 aD Cc (
 bg false false (size h) [(.int .i64 2)] h40) (
 bg false false (size h) [(.int .i64 0)] h40)))):=(aZ an3 base _ h).trans (by kernel_rfl)
theorem atX (base:Nat) (a0 a1 a2:PV) (h:Hp):ai T base 118 [a0,a1,a2] h =
 (cG false a1).ah fun x2 =>
 (binOp .add x2 (.int .i64 1)).ah fun x3 =>
 aG (gu (ai T base) 121 [a2] h) fun x6 h7=>(fun y=>if h7=h then y else none) <|
 (aF a0).ah fun x9 =>
 (aA x9 2).ah fun iR =>
 (ax 1 false iR h).ah fun iC =>
 (binOp .gtr x6 iC).ah fun gG =>
 aD gG (
 bg true false (size h) [(.int .i64 6)] h) (
 aG (ai T base 137 [a0] h) fun pz h18 =>
 (binOp .gtr x3 pz).ah fun qf =>
 aD qf (
 aG (ai T base 99 [a0,a2] h18) fun qG h24 =>
 bg true false (size h) [qG] h24) (
 (aF a0).ah fun Ag =>
 (aA Ag 3).ah fun Bz =>
 (ax 1 false Bz h18).ah fun Al =>
 (aF a0).ah fun qj =>
 (aA qj 0).ah fun Ah =>
 (aN 1 2 Ah Al).ah fun Aj =>
 (ax 1 false Aj h18).ah fun tH =>
 (aF a0).ah fun QK =>
 (aA QK 5).ah fun s9 =>
 (ax 1 false s9 h18).ah fun Ai =>
 aG (ai T base 138 [tH,Ai,a1] h18) fun FZ h41 =>
 (binOp .neq FZ (.int .i64 0)).ah fun vP =>
 aD vP (
 bg true false (size h) [FZ] h41) (
 (aF a0).ah fun HI =>
 (aA HI 5).ah fun x49 =>
 (ax 1 false x49 h41).ah fun FV =>
 (binOp .add FV x3).ah fun QD =>
 (aF a0).ah fun JJ =>
 (aA JJ 5).ah fun ya =>
 (aS base 1 ya QD h41).ah fun h55 =>
 (aF a0).ah fun sI =>
 (aA sI 6).ah fun Cc =>
 (aS base 1 Cc a2 h55).ah fun Ys =>
 bg true false (size h) [(.int .i64 0)] Ys))):=(gR an8 base _ h).trans (by kernel_rfl)
theorem atY (base:Nat) (a0 a1 a2:PV) (h:Hp):ai T base 119 [a0,a1,a2] h =
 (cG false a1).ah fun x2 =>
 aD a2 (
 (cu a0 .u8).ah fun x7 =>
 (cu (.int .i64 254) .u8).ah fun x9 =>
 (cF 1 false [(.int .u8 0)] 2 [(0,strip x7),(1,strip x9)]).ah fun iR =>
 aG (qE 5 1 iR a1 h) fun gG h13 =>
 aG (ai T (size h) 139 [gG] h13) fun mq Ql =>
 bg false false (size h) [mq] Ql) (
 (cu a0 .u8).ah fun qu =>
 (cu x2 .u8).ah fun oh =>
 (cF 1 false [(.int .u8 0)] 2 [(0,strip qu),(1,strip oh)]).ah fun oy =>
 aG (qE 5 1 oy a1 h) fun qG h24 =>
 aG (ai T (size h) 139 [qG] h24) fun yb h26 =>
 bg false false (size h) [yb] h26):=(aZ an9 base _ h).trans (by kernel_rfl)
theorem atZ (base:Nat) (a0 a1:PV) (h:Hp):ai T base 120 [a0,a1] h =
 (aF a0).ah fun x4 =>
 (aA x4 0).ah fun x5 =>
 (aN 1 2 x5 a1).ah fun x6 =>
 (ax 1 false x6 h).ah fun x7 =>
 (aF a0).ah fun x9 =>
 (aA x9 2).ah fun iR =>
 (ax 1 false iR h).ah fun iC =>
 aG (ai T (size h) 79 [x7,(.int .i64 0),iC] h) fun gG h13 =>
 (aE gG 0).ah fun mq =>
 (aE gG 1).ah fun mo =>
 bg false false (size h) [mq,mo] h13:=(aZ aoc base _ h).trans (by kernel_rfl)
noncomputable def abZ (base n0:Nat) (US v1 v6 v0 v12 om:PV) (h:Hp):Option (PV × Hp):=Pt T Zz [1,1,0,1,0,1] base n0 [(14,US),(1,v1),(6,v6),(0,v0),(12,v12),(13,om)] h
theorem abl (base n0:Nat) (US v1 v6 v0 v12 om:PV) (h:Hp):abZ base n0 US v1 v6 v0 v12 om h =
 (binOp .lss US om).ah fun x0 =>
 aD x0 (
 (cX v12 US 1).ah fun x1 =>
 (ax 1 false x1 h).ah fun x2 =>
 aG (cU base h (.lookup [1] false .bn false) [v1,x2]) fun x9 h10 =>
 aG (ai T base 119 [x2,x9,(.bool false)] h10) fun iC h12 =>
 aG (ai T base 138 [v0,v6,iC] h12) fun iT D5 =>
 (binOp .neq iT (.int .i64 0)).ah fun pz =>
 aD pz (
 bg false false n0 [(.int .i64 0),iT] D5) (
 aG (cU base D5 (.lookup [1] false .bn false) [v1,x2]) fun s8 JN =>
 aG (ai T base 140 [s8] JN) fun mX h27 =>
 (binOp .add v6 mX).ah fun Ag =>
 (binOp .add US (.int .i64 1)).ah fun Al =>
 abZ base n0 Al v1 Ag v0 v12 om h27)) (
 bg false false n0 [v6,(.int .i64 0)] h):=(ej T Zz [1,1,0,1,0,1] base n0 [(14,US),(1,v1),(6,v6),(0,v0),(12,v12),(13,om)] h).trans (by kernel_rfl)
theorem at0 (base:Nat) (a0 a1:PV) (h:Hp):ai T base 122 [a0,a1] h =
 aG (ai T (size h) 142 [a1] h) fun x4 h5 =>
 aG (ai T (size h) 141 [x4] h5) fun x6 h7 =>
 (cG false x6).ah fun x8 =>
 abZ (size h) (size h) (.int .i64 0) a1 (.int .i64 8) a0 x6 x8 h7:=(aZ aoe base _ h).trans (by kernel_rfl)
noncomputable def ada (base n0:Nat) (v9 v1 v5:PV) (h:Hp):Option (PV × Hp):=Pt T ZA [1,1,0,1,0,1] base n0 [(9,v9),(1,v1),(5,v5)] h
theorem acR (base n0:Nat) (v9 v1 v5:PV) (h:Hp):ada base n0 v9 v1 v5 h =
 (binOp .lss v9 (.int .i64 4)).ah fun x0 =>
 aD x0 (
 (binOp .mul (.int .i64 8) v9).ah fun x6 =>
 (binOp .shr v1 x6).ah fun x7 =>
 (cu x7 .u8).ah fun x8 =>
 (cF 1 false [(.int .u8 0)] 1 [(0,strip x8)]).ah fun x9 =>
 aG (cU base h (.vH 1) [v5,x9]) fun iR h11 =>
 (binOp .add v9 (.int .i64 1)).ah fun iT =>
 ada base n0 iT v1 iR h11) (
 bg false false n0 [v5] h):=(ej T ZA [1,1,0,1,0,1] base n0 [(9,v9),(1,v1),(5,v5)] h).trans (by kernel_rfl)
theorem am3 (base:Nat) (a0 a1:PV) (h:Hp):ai T base 123 [a0,a1] h =
 aG (ai T (size h) 73 [a0] h) fun x2 h3 =>
 ada (size h) (size h) (.int .i64 0) a1 x2 h3:=(aZ aof base _ h).trans (by kernel_rfl)
noncomputable def ade (base n0:Nat) (v4 v6 v7 v1 v0:PV) (h:Hp):Option (PV × Hp):=Pt T ZB [1,1,1,1,1,1] base n0 [(4,v4),(6,v6),(7,v7),(1,v1),(0,v0)] h
theorem aew (base n0:Nat) (v4 v6 v7 v1 v0:PV) (h:Hp):ade base n0 v4 v6 v7 v1 v0 h =
 (binOp .add v1 (.int .i64 7)).ah fun x1 =>
 (binOp .add x1 v7).ah fun x3 =>
 (aA v6 3).ah fun x4 =>
 (aS base 1 x4 x3 h).ah fun h5 =>
 (aA v6 3).ah fun x6 =>
 (ax 1 false x6 h5).ah fun x7 =>
 (cG false v0).ah fun x9 =>
 (binOp .gtr x7 x9).ah fun iR =>
 (aq iR false).ah fun b13=>(au b13 (some v0) (some .undef)).ah fun gG =>
 (aq iR false).ah fun b17=>(au b17 ((aA v6 3).ah some) (some .undef)).ah fun oe =>
 (aq iR false).ah fun b21=>(au b21 ((ax 1 false oe h5).ah some) (some .undef)).ah fun oh =>
 (aq iR false).ah fun b25=>(au b25 ((binOp .sub oh (.int .i64 1)).ah some) (some .undef)).ah fun s8 =>
 (aq iR false).ah fun WT=>(au WT ((cX gG s8 1).ah some) (some .undef)).ah fun Ag =>
 (aq iR false).ah fun b33=>(au b33 ((ax 1 false Ag h5).ah some) (some .undef)).ah fun Ah =>
 (aq iR false).ah fun b37=>(au b37 ((binOp .neq Ah (.int .u8 0)).ah some) (some .undef)).ah fun QK =>
 (aD iR (some (.bool true)) (some QK)).ah fun FZ =>
 aD FZ (
 (dw [(.int .i64 0),.bn,(.bool false),(.int .i64 0)] []).ah fun zY =>
 (aS base 4 v4 zY h5).ah fun h42 =>
 (qQ v4 h42 4 true).ah fun r44 =>
 bg false false n0 [r44,(.bool false)] h42) (
 (binOp .add v1 (.int .i64 2)).ah fun Gb =>
 (binOp .add v1 (.int .i64 2)).ah fun x49 =>
 (binOp .add x49 v7).ah fun D6 =>
 (binOp .add v1 (.int .i64 2)).ah fun JJ =>
 (binOp .add JJ v7).ah fun vi =>
 (cZ (some 1) (some Gb) (some D6) (some vi) v0).ah fun QE =>
 (aA v6 1).ah fun Lo =>
 (aS base 1 Lo QE h5).ah fun h58 =>
 (ax 4 true v6 h58).ah fun Cc =>
 (aS base 4 v4 Cc h58).ah fun Ys =>
 (qQ v4 Ys 4 true).ah fun r62 =>
 bg false false n0 [r62,(.bool true)] Ys):=(ej T ZB [1,1,1,1,1,1] base n0 [(4,v4),(6,v6),(7,v7),(1,v1),(0,v0)] h).trans (by kernel_rfl)
theorem at4 (base:Nat) (a0 a1:PV) (h:Hp):ai T base 124 [a0,a1] h =
 eu [(.int .i64 0),.bn,(.bool false),(.int .i64 0)] h fun x0 h1 =>
 (binOp .add a1 (.int .i64 2)).ah fun x4 =>
 (cG false a0).ah fun x6 =>
 (binOp .gtr x4 x6).ah fun x7 =>
 (aq x7 false).ah fun b10=>(au b10 (some a0) (some .undef)).ah fun x9 =>
 (aq x7 false).ah fun Xb=>(au Xb (some a1) (some .undef)).ah fun iT =>
 (aq x7 false).ah fun Xc=>(au Xc ((cX x9 iT 1).ah some) (some .undef)).ah fun pz =>
 (aq x7 false).ah fun b22=>(au b22 ((ax 1 false pz h1).ah some) (some .undef)).ah fun oy =>
 (aq x7 false).ah fun b26=>(au b26 ((binOp .geq oy (.int .u8 32)).ah some) (some .undef)).ah fun yb =>
 (aD x7 (some (.bool true)) (some yb)).ah fun Bz =>
 aD Bz (
 (dw [(.int .i64 0),.bn,(.bool false),(.int .i64 0)] []).ah fun Al =>
 (aS (size h) 4 x0 Al h1).ah fun UT =>
 (qQ x0 UT 4 true).ah fun r33 =>
 bg false false (size h) [r33,(.bool false)] UT) (
 (cX a0 a1 1).ah fun QK =>
 (ax 1 false QK h1).ah fun s9 =>
 (cu s9 .i64).ah fun Ai =>
 (binOp .add a1 (.int .i64 1)).ah fun zY =>
 (cX a0 zY 1).ah fun NG =>
 (ax 1 false NG h1).ah fun Lc =>
 (binOp .eql Lc (.int .u8 254)).ah fun vP =>
 (dw [(.int .i64 0),.bn,(.bool false),(.int .i64 0)] [(0,1,Ai),(2,1,vP)]).ah fun vg =>
 eu [(.int .i64 0),.bn,(.bool false),(.int .i64 0)] h1 fun NH h47 =>
 (aS (size h) 4 NH vg h47).ah fun h48 =>
 (binOp .add a1 (.int .i64 1)).ah fun D6 =>
 (cX a0 D6 1).ah fun QD =>
 (ax 1 false QD h48).ah fun JJ =>
 (cu JJ .i64).ah fun ya =>
 (aA NH 2).ah fun QE =>
 (ax 1 false QE h48).ah fun Lo =>
 aD Lo (
 ade (size h) (size h) x0 NH (.int .i64 0) a1 a0 h48) (
 (binOp .gtr ya (.int .i64 250)).ah fun JY =>
 aD JY (
 (dw [(.int .i64 0),.bn,(.bool false),(.int .i64 0)] []).ah fun FW =>
 (aS (size h) 4 x0 FW h48).ah fun HL =>
 (qQ x0 HL 4 true).ah fun r66 =>
 bg false false (size h) [r66,(.bool false)] HL) (
 ade (size h) (size h) x0 NH ya a1 a0 h48))):=(aZ aog base _ h).trans (by kernel_rfl)
theorem at5 (base:Nat) (a0 a1 a2:PV) (h:Hp):ai T base 125 [a0,a1,a2] h =
 aG (tF 4 a2 h) fun x0 h1 =>
 (aA x0 3).ah fun x5 =>
 (ax 1 false x5 h1).ah fun x6 =>
 (binOp .sub x6 (.int .i64 1)).ah fun x7 =>
 (cZ (some 1) (some a1) (some x7) none a0).ah fun x8 =>
 aG (ai T (size h) 92 [x8] h1) fun x9 h10 =>
 (aE x9 0).ah fun gG =>
 (aE x9 1).ah fun iT =>
 bg false false (size h) [iT] h10:=(aZ aok base _ h).trans (by kernel_rfl)
noncomputable def Au (base n0:Nat) (v9 v3 v0 v2:PV) (h:Hp):Option (PV × Hp):=Pt T Qa [1,1,0,1,0,1] base n0 [(9,v9),(3,v3),(0,v0),(2,v2)] h
theorem tQ (base n0:Nat) (v9 v3 v0 v2:PV) (h:Hp):Au base n0 v9 v3 v0 v2 h =
 (binOp .lss v9 (.int .i64 64)).ah fun x0 =>
 aD x0 (
 (binOp .lss v9 (.int .i64 16)).ah fun x4 =>
 aD x4 (
 (binOp .mul (.int .i64 4) v9).ah fun x8 =>
 (aF v0).ah fun x9 =>
 (aN 1 64 x9 x8).ah fun iR =>
 (ax 1 false iR h).ah fun iC =>
 (cu iC .u32).ah fun gG =>
 (binOp .shl gG (.int .u64 24)).ah fun iT =>
 (binOp .mul (.int .i64 4) v9).ah fun oe =>
 (binOp .add oe (.int .i64 1)).ah fun pz =>
 (aF v0).ah fun qu =>
 (aN 1 64 qu pz).ah fun qf =>
 (ax 1 false qf h).ah fun oh =>
 (cu oh .u32).ah fun oy =>
 (binOp .shl oy (.int .u64 16)).ah fun nv =>
 (binOp .or iT nv).ah fun qG =>
 (binOp .mul (.int .i64 4) v9).ah fun mX =>
 (binOp .add mX (.int .i64 2)).ah fun BB =>
 (aF v0).ah fun Ag =>
 (aN 1 64 Ag BB).ah fun Bz =>
 (ax 1 false Bz h).ah fun Al =>
 (cu Al .u32).ah fun qj =>
 (binOp .shl qj (.int .u64 8)).ah fun Ah =>
 (binOp .or qG Ah).ah fun Aj =>
 (binOp .mul (.int .i64 4) v9).ah fun QK =>
 (binOp .add QK (.int .i64 3)).ah fun s9 =>
 (aF v0).ah fun Ai =>
 (aN 1 64 Ai s9).ah fun tI =>
 (ax 1 false tI h).ah fun FZ =>
 (cu FZ .u32).ah fun zY =>
 (binOp .or Aj zY).ah fun NG =>
 (aN 1 64 v3 v9).ah fun Lc =>
 (aS base 1 Lc NG h).ah fun h44 =>
 (binOp .add v9 (.int .i64 1)).ah fun vg =>
 Au base n0 vg v3 v0 v2 h44) (
 (binOp .sub v9 (.int .i64 15)).ah fun HI =>
 (aN 1 64 v3 HI).ah fun x49 =>
 (ax 1 false x49 h).ah fun FV =>
 (binOp .sub v9 (.int .i64 2)).ah fun QD =>
 (aN 1 64 v3 QD).ah fun JJ =>
 (ax 1 false JJ h).ah fun ya =>
 aG (ai T base 129 [FV,(.int .i64 7)] h) fun sI h59 =>
 aG (ai T base 129 [FV,(.int .i64 18)] h59) fun JY h62 =>
 (binOp .xor sI JY).ah fun FW =>
 (binOp .shr FV (.int .u64 3)).ah fun TM =>
 (binOp .xor FW TM).ah fun NK =>
 aG (ai T base 129 [ya,(.int .i64 17)] h62) fun HJ h70 =>
 aG (ai T base 129 [ya,(.int .i64 19)] h70) fun Tt h73 =>
 (binOp .xor HJ Tt).ah fun TE =>
 (binOp .shr ya (.int .u64 10)).ah fun WV =>
 (binOp .xor TE WV).ah fun TK =>
 (binOp .sub v9 (.int .i64 16)).ah fun OG =>
 (aN 1 64 v3 OG).ah fun UP =>
 (ax 1 false UP h73).ah fun QG =>
 (binOp .add QG NK).ah fun x85 =>
 (binOp .sub v9 (.int .i64 7)).ah fun NM =>
 (aN 1 64 v3 NM).ah fun Tv =>
 (ax 1 false Tv h73).ah fun TL =>
 (binOp .add x85 TL).ah fun OF =>
 (binOp .add OF TK).ah fun XD =>
 (aN 1 64 v3 v9).ah fun XG =>
 (aS base 1 XG XD h73).ah fun h94 =>
 (binOp .add v9 (.int .i64 1)).ah fun WX =>
 Au base n0 WX v3 v0 v2 h94)) (
 (ax 64 true v3 h).ah fun Xu =>
 (aS base 64 v2 Xu h).ah fun h98 =>
 (qQ v2 h98 64 true).ah fun r99 =>
 bg false false n0 [r99] h98):=(ej T Qa [1,1,0,1,0,1] base n0 [(9,v9),(3,v3),(0,v0),(2,v2)] h).trans (by kernel_rfl)
theorem amq (base:Nat) (a0:PV) (h:Hp):ai T base 128 [a0] h =
 eu (rep 64 (.int .u32 0)) h fun x0 h1 =>
 eu (rep 64 (.int .u32 0)) h1 fun x2 h3 =>
 Au (size h) (size h) (.int .i64 0) x2 a0 x0 h3:=(aZ ZP base _ h).trans (by kernel_rfl)
theorem amr (base:Nat) (a0 a1:PV) (h:Hp):ai T base 129 [a0,a1] h =
 (unOp .neg a1).ah fun x3 =>
 aG (ai T (size h) 143 [a0,x3] h) fun x4 h5 =>
 bg false false (size h) [x4] h5:=(aZ ZQ base _ h).trans (by kernel_rfl)
noncomputable def DK (base n0:Nat) (v12 v5 v10 v11:PV) (h:Hp):Option (PV × Hp):=Pt T Qb [1,1,0,1,0,1] base n0 [(12,v12),(5,v5),(10,v10),(11,v11)] h
theorem Cj (base n0:Nat) (v12 v5 v10 v11:PV) (h:Hp):DK base n0 v12 v5 v10 v11 h =
 (binOp .lss v12 v11).ah fun x0 =>
 aD x0 (
 (cX v10 v12 1).ah fun x1 =>
 (ax 1 false x1 h).ah fun x2 =>
 aG (ai T base 144 [v5,x2] h) fun x6 h7 =>
 (binOp .add v12 (.int .i64 1)).ah fun x9 =>
 DK base n0 x9 x6 v10 v11 h7) (
 (unOp .xor v5).ah fun gG =>
 bg false false n0 [gG] h):=(ej T Qb [1,1,0,1,0,1] base n0 [(12,v12),(5,v5),(10,v10),(11,v11)] h).trans (by kernel_rfl)
theorem ams (base:Nat) (a0 a1:PV) (h:Hp):ai T base 130 [a0,a1] h =
 (unOp .xor a0).ah fun x2 =>
 (cG false a1).ah fun x5 =>
 DK (size h) (size h) (.int .i64 0) x2 a1 x5 h:=(aZ ZR base _ h).trans (by kernel_rfl)
theorem amt (base:Nat) (a0:PV) (h:Hp):ai T base 135 [a0] h =
 (binOp .geq a0 (.int .i32 97)).ah fun x2 =>
 (aq x2 true).ah fun b5=>(au b5 (some a0) (some .undef)).ah fun x4 =>
 (aq x2 true).ah fun b9=>(au b9 ((binOp .leq x4 (.int .i32 122)).ah some) (some .undef)).ah fun x8 =>
 (aD x2 (some x8) (some (.bool false))).ah fun gG =>
 (aq gG false).ah fun b15=>(au b15 (some a0) (some .undef)).ah fun mq =>
 (aq gG false).ah fun b19=>(au b19 ((binOp .geq mq (.int .i32 48)).ah some) (some .undef)).ah fun qu =>
 (aq gG false).ah fun b23=>(au b23 (some qu) (some .undef)).ah fun nv =>
 (aq nv true).ah fun b27=>(au b27 (some a0) (some .undef)).ah fun mX =>
 (aq nv true).ah fun b31=>(au b31 ((binOp .leq mX (.int .i32 57)).ah some) (some .undef)).ah fun Al =>
 (aq gG false).ah fun b35=>(au b35 ((aD nv (some Al) (some (.bool false))).ah some) (some .undef)).ah fun tH =>
 (aD gG (some (.bool true)) (some tH)).ah fun Ai =>
 (aq Ai false).ah fun b41=>(au b41 (some a0) (some .undef)).ah fun FZ =>
 (aq Ai false).ah fun b45=>(au b45 ((binOp .eql FZ (.int .i32 46)).ah some) (some .undef)).ah fun vP =>
 (aD Ai (some (.bool true)) (some vP)).ah fun HI =>
 (aq HI false).ah fun b51=>(au b51 (some a0) (some .undef)).ah fun FV =>
 (aq HI false).ah fun b55=>(au b55 ((binOp .eql FV (.int .i32 45)).ah some) (some .undef)).ah fun ya =>
 (aD HI (some (.bool true)) (some ya)).ah fun sI =>
 (aq sI false).ah fun b61=>(au b61 (some a0) (some .undef)).ah fun Lm =>
 (aq sI false).ah fun b65=>(au b65 ((binOp .eql Lm (.int .i32 95)).ah some) (some .undef)).ah fun QB =>
 (aD sI (some (.bool true)) (some QB)).ah fun DG =>
 bg false false (size h) [DG] h:=(aZ ZS base _ h).trans (by kernel_rfl)
theorem at6 (base:Nat) (a0:PV) (h:Hp):ai T base 137 [a0] h =
 (aF a0).ah fun x2 =>
 (aA x2 2).ah fun x3 =>
 (ax 1 false x3 h).ah fun x4 =>
 (aF a0).ah fun x6 =>
 (aA x6 5).ah fun x7 =>
 (ax 1 false x7 h).ah fun x8 =>
 (binOp .sub x4 x8).ah fun x9 =>
 bg false false (size h) [x9] h:=(aZ aol base _ h).trans (by kernel_rfl)
theorem at7 (base:Nat) (a0 a1 a2:PV) (h:Hp):ai T base 138 [a0,a1,a2] h =
 aG (ai T (size h) 28 [a0,a1,a2] h) fun x4 h5 =>
 (binOp .neq x4 (.int .i64 0)).ah fun x8 =>
 aD x8 (
 bg false false (size h) [x4] h5) (
 (cG false a2).ah fun mq =>
 (binOp .add a1 mq).ah fun mo =>
 (cF 1 false [(.int .u8 0)] 1 [(0,strip (.int .u8 0))]).ah fun oe =>
 aG (ai T (size h) 28 [a0,mo,oe] h5) fun pz h18 =>
 bg false false (size h) [pz] h18):=(aZ aom base _ h).trans (by kernel_rfl)
theorem aua (base:Nat) (a0:PV) (h:Hp):ai T base 139 [a0] h =
 aG (ai T (size h) 113 [a0] h) fun x3 h4 =>
 aG (ai T (size h) 123 [a0,x3] h4) fun x5 h6 =>
 bg false false (size h) [x5] h6:=(aZ aon base _ h).trans (by kernel_rfl)
theorem aub (base:Nat) (a0:PV) (h:Hp):ai T base 140 [a0] h =
 (cG false a0).ah fun x2 =>
 (binOp .add (.int .i64 7) x2).ah fun x3 =>
 bg false false (size h) [x3] h:=(aZ aoo base _ h).trans (by kernel_rfl)
theorem auc (base:Nat) (a0:PV) (h:Hp):ai T base 142 [a0] h =
 aG (tF 1 a0 h) fun x0 h1 =>
 bg true false (size h) [(.fn 150 [x0])] h1:=(gR aor base _ h).trans (by kernel_rfl)
theorem amu (base:Nat) (a0 a1:PV) (h:Hp):ai T base 143 [a0,a1] h =
 (cu a1 .u64).ah fun x2 =>
 (binOp .and x2 (.int .u64 31)).ah fun x3 =>
 (binOp .shl a0 x3).ah fun x7 =>
 (binOp .sub (.int .u64 32) x3).ah fun iR =>
 (binOp .shr a0 iR).ah fun iC =>
 (binOp .or x7 iC).ah fun gG =>
 bg false false (size h) [gG] h:=(aZ ZT base _ h).trans (by kernel_rfl)
noncomputable def Av (base n0:Nat) (v10 v0:PV) (h:Hp):Option (PV × Hp):=Pt T Qc [1,1,0,1,0,1] base n0 [(10,v10),(0,v0)] h
theorem Cl (base n0:Nat) (v10 v0:PV) (h:Hp):Av base n0 v10 v0 h =
 (binOp .lss v10 (.int .i64 8)).ah fun x0 =>
 aD x0 (
 (binOp .and v0 (.int .u32 1)).ah fun x2 =>
 (binOp .shr v0 (.int .u64 1)).ah fun x5 =>
 (binOp .eql x2 (.int .u32 1)).ah fun x8 =>
 aD x8 (
 (binOp .xor x5 (.int .u32 3988292384)).ah fun iR =>
 (binOp .add v10 (.int .i64 1)).ah fun gG =>
 Av base n0 gG iR h) (
 (binOp .add v10 (.int .i64 1)).ah fun mq =>
 Av base n0 mq x5 h)) (
 bg false false n0 [v0] h):=(ej T Qc [1,1,0,1,0,1] base n0 [(10,v10),(0,v0)] h).trans (by kernel_rfl)
theorem amv (base:Nat) (a0 a1:PV) (h:Hp):ai T base 144 [a0,a1] h =
 (cu a1 .u32).ah fun x3 =>
 (binOp .xor a0 x3).ah fun x4 =>
 Av (size h) (size h) (.int .i64 0) x4 h:=(aZ ZU base _ h).trans (by kernel_rfl)
end Go.Am.Qd
namespace Go.Am.Qd
variable {h:Hp} {p:FP} {F:Fl}
theorem NQ (hp:pH h p) (base:Nat):ai T base 41 [.ptr p.f 0] (cw h p F)=some (.bool F.down,cw h p F):=by
 rw[S41];simp only[bS,ld5 hp,cR,↓jV,jX,jY,jZ,simprocAttr,if_true,if_false,implies_true,forall_const]
theorem vk (hp:pH h p) (base:Nat):ai T base 82 [.ptr p.f 0] (cw h p F)=some (.int .i64 F.aj,cw h p F):=by
 rw[S82];simp only[bS,ld1 hp,cR,↓jV,jX,jY,jZ,simprocAttr,if_true,if_false,implies_true,forall_const]
theorem NR (hp:pH h p) (base:Nat):ai T base 81 [.ptr p.f 0] (cw h p F)=some (.int .i64 F.b.length,cw h p F):=by
 rw[S81];simp only[bS,ld0 hp,cR,↓jV,jX,jY,jZ,simprocAttr,if_true,if_false,implies_true,forall_const]
theorem NS (hp:pH h p) (base:Nat) {i:Nat} {c:UInt8} (hi:i<F.b.length) (ht:F.dh≤1073741824) (hl:-1≤F.left∧F.left≤9223372036854775807) :
  ai T base 107 [.ptr p.f 0,.int .i64 i,.int .u8 c.toNat] (cw h p F)=some (.bool (F.cD i c).1,cw h p (F.cD i c).2):=by
 rw[amj];unfold Fl.cD;have hm:(if((1073741824:Int)<((F.dh+1:Nat):Int)) then(1073741824:Int) else((F.dh+1:Nat):Int))=((min (F.dh+1) 1073741824:Nat):Int):=by split<;>omega
 by_cases h0:F.left=0
 ·simp only[bS,ld4 hp,st5 hp,h0,cR,↓jV,jX,jY,jZ,simprocAttr,if_true,if_false,implies_true,forall_const]
 ·have e0:(F.left == 0)=false:=by simpa using h0
  by_cases h1:F.left > 0
  ·have ew:IntKind.i64.wrap (F.left-1)=F.left-1:=wrap_small (by omega) (by omega)
   simp (disch:=omega) only[bS,ld4 hp,ld0 hp,ld3 hp,Yp hp,h0,e0,h1,ew,decide_true,cR,iZ,hi,stb hp,st3 hp,Ca hp,kK,fm,hm,List.length_set,↓jV,jX,jY,jZ,simprocAttr,if_true,if_false,implies_true,forall_const]
  ·simp (disch:=omega) only[bS,ld4 hp,ld0 hp,ld3 hp,Yp hp,h0,e0,h1,decide_false,cR,iZ,hi,stb hp,st3 hp,Ca hp,kK,fm,hm,List.length_set,↓jV,jX,jY,jZ,simprocAttr,if_true,if_false,implies_true,forall_const]
end Go.Am.Qd
namespace Go.Am.Qd
variable {h:Hp} {p:FP} {F:Fl}
theorem abw (hp:pH h p) (base:Nat) (a n:Nat) (hb:F.b.length≤1000000) :
  ai T base 105 [.ptr p.f 0,.int .i64 a,.int .i64 n] (cw h p F)=some (.bool (decide (a+n≤F.b.length)),cw h p F):=by
 rw[atT]
 by_cases h1:a≤F.b.length
 ·by_cases h2:n≤F.b.length-a
  ·have e3:a+n≤F.b.length:=by omega
   simp (disch:=omega) only[bS,ld0 hp,aaX,Qq,h1,h2,e3,decide_true,aa8,cR,↓jV,jX,jY,jZ,simprocAttr,if_true,if_false,implies_true,forall_const]
  ·have e3:¬ (a+n≤F.b.length):=by omega
   simp (disch:=omega) only[bS,ld0 hp,aaX,Qq,h1,h2,e3,decide_true,decide_false,aa8,cR,↓jV,jX,jY,jZ,simprocAttr,if_true,if_false,implies_true,forall_const]
 ·have e3:¬ (a+n≤F.b.length):=by omega
  simp (disch:=omega) only[bS,ld0 hp,aaX,Qq,h1,e3,decide_true,decide_false,aa8,cR,↓jV,jX,jY,jZ,simprocAttr,if_true,if_false,implies_true,forall_const]
structure Bv (v:PV) (l:List UInt8):Prop where
 len:cG false v=some (.int .i64 l.length)
 ix:∀ (k:IntKind) (i:Nat) (c:UInt8),l[i]?=some c→cX v (.int k i) 1=some (.ep [.int .u8 c.toNat] 0)
 el:∀ h,elems h v=some (aP l)
 below:∀ n,below n v=true
 gW:∀ n h,gW n h v=some v
 strip:strip v=v
theorem vm {o:Own} (ho:o=.no∨o=.full) (l:List UInt8):Bv (.sl o 1 (aP l)) l:=by
 have hs:∀ n,belows n (aP l)=true:=by
  intro n;induction l with
  | nil=>rfl
  | cons c l ih=>simp only[aP,List.map_cons,belows,Bool.and_eq_true]at *;exact⟨rfl,ih⟩
 refine⟨by rw[fA,aM],fun k i c hc=>?_,fun _=>rfl,fun n=>?_,fun n h=>?_,?_⟩
 ·have hi:=(List.getElem?_eq_some_iff.1 hc).1
  rw[k9,if_pos rfl,iZ k i _ (by rw[aM];exact hi),Option.ag,pZ,hc];rfl
 ·rcases ho with rfl | rfl<;>simp[below,Own.below,hs]
 ·rcases ho with rfl | rfl<;>rfl
 ·rcases ho with rfl | rfl<;>rfl
theorem yf:Bv .bn []:=⟨rfl,fun k i c hc=>by simp at hc,fun _=>rfl,fun _=>rfl,fun _ _=>rfl,rfl⟩
theorem acS (c d:UInt8):lV .andNot .u8 (c.toNat:Int) (d.toNat:Int)=some (.int .u8 ((c &&& ~~~ d).toNat:Nat)):=by
 have h1:∀ c:UInt8,BitVec.ofInt 8 (c.toNat:Int)=c.toBitVec:=by intro c;apply BitVec.eq_of_toNat_eq;simp
 show some (PV.int .u8 (IntKind.u8.wrap ((BitVec.ofInt 8 (c.toNat:Int) &&& ~~~ (BitVec.ofInt 8 (d.toNat:Int))).toNat:Int)))=_;rw[h1,h1,show(c.toBitVec &&& ~~~ d.toBitVec)=(c &&& ~~~ d).toBitVec from rfl];have h2:(c &&& ~~~ d).toBitVec.toNat<256:=(c &&& ~~~ d).toBitVec.isLt;have h3:∀ n:Nat,n<256→IntKind.u8.wrap (n:Int)=n:=by
  intro n hn;simp only[IntKind.wrap,IntKind.signed,IntKind.bits,Bool.false_and,Bool.false_eq_true,if_false];omega
 rw[h3 _ h2];rfl
theorem abz (hp:pH h p) (base:Nat) (a:Nat) (l:List UInt8) {v:PV} (hv:Bv v l) (hb:a+l.length≤F.b.length) (hs:F.b.length≤1000000):∀ (m k:Nat),k+m=l.length →
  ac9 base (size h) (.int .i64 k) (.int .i64 a) (.ptr p.f 0) v (.int .i64 l.length) (cw h p F)=some (.bool ((l.drop k).zipIdx k |>.all fun q=>q.1 &&& ~~~ (F.b.getD (a+q.2) 0) == 0),cw h p F)
 | 0,k,hk=>by
  have e0:¬ (k<l.length):=by omega
  rw[acQ];simp only[dec_lt,e0,decide_false,cR,List.drop_of_length_le (show l.length≤k by omega),List.zipIdx_nil,List.all_nil,↓jV,jX,jY,jZ,simprocAttr,if_true,if_false,implies_true,forall_const]
 | m+1,k,hk=>by
  have e0:k<l.length:=by omega
  have hc:l[k]?=some l[k]:=List.getElem?_eq_getElem e0;have hi:=hv.ix .i64 k _ hc;have hd:F.b[a+k]?=some F.b[a+k]:=List.getElem?_eq_getElem (by omega);have ihx:=abz hp base a l hv hb hs m (k+1) (by omega);rw[acQ];have aoX:(l.drop k).zipIdx k=(l[k],k)::(l.drop (k+1)).zipIdx (k+1):=by rw[List.drop_eq_getElem_cons e0,List.zipIdx_cons]
  have hgd:F.b.getD (a+k) 0=F.b[a+k]:=by rw[List.getD_eq_getElem?_getD,hd];rfl
  have hbe:((((l[k] &&& ~~~ F.b[a+k]).toNat:Nat):Int) != 0)=!(l[k] &&& ~~~ F.b[a+k] == 0):=by
   rw[bne,Bool.not_inj_iff,Bool.eq_iff_iff,beq_iff_eq,beq_iff_eq];constructor
   ·intro hq;apply UInt8.toNat_inj.1;have:(l[k] &&& ~~~ F.b[a+k]).toNat=0:=by omega
    simpa using this
   ·intro hq;rw[hq];rfl
  have hlt:a+k<F.b.length:=by omega
  rw[aoX,List.all_cons,hgd];cases hz:(l[k] &&& ~~~ F.b[a+k] == 0) with
  | true =>
   rw[hz]at hbe;simp (disch:=omega) only[dec_lt,e0,decide_true,hi,ld0 hp,mI,iZ,hlt,ldb hp hd,acS,hbe,fm,ihx,Bool.not_true,Bool.true_and,↓jV,jX,jY,jZ,simprocAttr,if_true,if_false,implies_true,forall_const]
  | false =>
   rw[hz]at hbe;simp (disch:=omega) only[dec_lt,e0,decide_true,hi,ld0 hp,mI,iZ,hlt,ldb hp hd,acS,hbe,cR,Bool.not_false,Bool.false_and,↓jV,jX,jY,jZ,simprocAttr,if_true,if_false,implies_true,forall_const]
theorem adJ (hp:pH h p) (base:Nat) (a:Nat) (l:List UInt8) {v:PV} (hv:Bv v l) (hb:a+l.length≤F.b.length) (hs:F.b.length≤1000000) :
  ai T base 106 [.ptr p.f 0,.int .i64 a,v] (cw h p F)=some (.bool (F.clears a l),cw h p F):=by
 rw[atU];have:=abz (h:=h) hp (size h) a l hv hb hs l.length 0 (by omega);simp only[hv.len,bS,↓jV,jX,jY,jZ,simprocAttr,if_true,if_false,implies_true,forall_const];rw[show((0:Nat):Int)=0 from rfl]at this;rw[this];rfl
structure gL (F:Fl):Prop where
 dh:F.dh≤1073741824
 left:-1≤F.left∧F.left≤9223372036854775807
 len:F.b.length≤1000000
 bN:∀ n∈F.bN,n≤1073741824
theorem gL.cD (hF:gL F) (i:Nat) (c:UInt8):gL (F.cD i c).2∧(F.cD i c).2.b.length=F.b.length∧(F.cD i c).2.bN=F.bN∧(F.cD i c).2.aj=F.aj:=by
 unfold Fl.cD;split
 ·exact⟨⟨hF.dh,hF.left,hF.len,hF.bN⟩,rfl,rfl,rfl⟩
 ·refine⟨⟨Nat.min_le_right _ _,?_,by simpa using hF.len,hF.bN⟩,by simp,rfl,rfl⟩
  have:=hF.left
  dsimp only
  split<;>omega
theorem gL.prog:∀ (l:List UInt8) {F:Fl} (hF:gL F) (i:Nat),gL (F.prog i l).2∧(F.prog i l).2.b.length=F.b.length∧(F.prog i l).2.bN=F.bN∧(F.prog i l).2.aj=F.aj
 | [],F,hF,i=>⟨hF,rfl,rfl,rfl⟩
 | c::l,F,hF,i=>by
  obtain⟨h1,h2,h3,h4⟩:=hF.cD i c;simp only[Fl.prog];split
  ·obtain⟨q1,q2,q3,q4⟩:=gL.prog l h1 (i+1)
   exact⟨q1,q2.trans h2,q3.trans h3,q4.trans h4⟩
  ·exact⟨h1,h2,h3,h4⟩
theorem acT (hp:pH h p) (base:Nat) (a:Nat) (l:List UInt8) {v:PV} (hv:Bv v l):∀ (m k:Nat) {F:Fl},gL F→a+l.length≤F.b.length→k+m=l.length →
  aef base (size h) (.int .i64 k) (.int .i64 a) (.ptr p.f 0) v (.int .i64 l.length) (cw h p F)=some (.int .i64 ((F.prog (a+k) (l.drop k)).1:Nat),cw h p (F.prog (a+k) (l.drop k)).2)
 | 0,k,F,hF,hb,hk=>by
  have e0:¬ (k<l.length):=by omega
  rw[adD];simp only[dec_lt,e0,decide_false,cR,List.drop_of_length_le (show l.length≤k by omega),Fl.prog,↓jV,jX,jY,jZ,simprocAttr,if_true,if_false,implies_true,forall_const]<;>rfl
 | m+1,k,F,hF,hb,hk=>by
  have e0:k<l.length:=by omega
  have hc:l[k]?=some l[k]:=List.getElem?_eq_getElem e0;have hi:=hv.ix .i64 k _ hc;obtain⟨t1,t2,t3,t4⟩:=hF.cD (a+k) l[k];have hl:=hF.len;have ht:=fun b=>NS (h:=h) (F:=F) hp b (i:=a+k) (c:=l[k]) (by omega) hF.dh hF.left
  have ihx:=acT hp base a l hv m (k+1) t1 (by omega) (by omega);rw[adD,List.drop_eq_getElem_cons e0];simp only[Fl.prog];cases hz:(F.cD (a+k) l[k]).1 with
  | true =>
   simp (disch:=omega) only[dec_lt,e0,decide_true,hi,mI,ht,hz,fm,ihx,↓jV,jX,jY,jZ,simprocAttr,if_true,if_false,implies_true,forall_const];rw[Nat.add_assoc]
  | false =>
   simp (disch:=omega) only[dec_lt,e0,decide_true,hi,mI,ht,hz,cR,↓jV,jX,jY,jZ,simprocAttr,if_true,if_false,implies_true,forall_const]<;>rfl
theorem adg (hp:pH h p) (base:Nat) (a:Nat) (l:List UInt8) {v:PV} (hv:Bv v l) (hF:gL F) (hb:a+l.length≤F.b.length) :
  ai T base 71 [.ptr p.f 0,.int .i64 a,v] (cw h p F)=some (.int .i64 ((F.program a l).1:Nat),cw h p (F.program a l).2):=by
 rw[S71];have hw:=fun b=>abw (h:=h) (F:=F) hp b a l.length hF.len
 have Kb:=fun b=>adJ (h:=h) (F:=F) hp b a l hv hb hF.len
 have hlp:=fun b=>acT (h:=h) hp b a l hv l.length 0 hF hb (by omega)
 simp only[show((0:Nat):Int)=0 from rfl,Nat.add_zero,List.drop_zero]at hlp;unfold Fl.program;cases hd:F.down with
 | true=>simp only[bS,ld5 hp,hd,cR,↓jV,jX,jY,jZ,simprocAttr,if_true,if_false,implies_true,forall_const]<;>rfl
 | false =>
  cases hz:F.clears a l with
  | false=>simp only[bS,ld5 hp,hd,hv.len,hw,hb,decide_true,Kb,hz,cR,↓jV,jX,jY,jZ,simprocAttr,if_true,if_false,implies_true,forall_const]<;>rfl
  | true=>simp only[bS,ld5 hp,hd,hv.len,hw,hb,decide_true,Kb,hz,hlp,cR,↓jV,jX,jY,jZ,simprocAttr,if_true,if_false,implies_true,forall_const]
end Go.Am.Qd
namespace Go.Am.Qd
variable {h:Hp} {p:FP} {F:Fl}
theorem Aw (hp:pH h p) (base:Nat) (s:Nat):∀ (m k:Nat) {F:Fl},gL F→s*F.aj+F.aj≤F.b.length→k+m=F.aj →
  Lz base (size h) (.int .i64 k) (.ptr p.f 0) (.int .i64 s) (.int .i64 F.aj) (cw h p F)=some (.int .i64 ((F.prog (s*F.aj+k) (List.replicate m 255)).1:Nat),cw h p (F.prog (s*F.aj+k) (List.replicate m 255)).2)
 | 0,k,F,hF,hb,hk=>by
  have e0:¬ (k<F.aj):=by omega
  rw[Gz];simp only[dec_lt,e0,decide_false,cR,List.replicate_zero,Fl.prog,↓jV,jX,jY,jZ,Nat.reduceAdd,Nat.reduceSub,Nat.reduceMul,Nat.reduceLeDiff,Nat.reduceLT,Nat.reduceEqDiff,Nat.reduceBEq,reduceIte,reduceCtorEq,Int.reduceBEq,Int.reduceEq,Int.reduceLT,Int.reduceLE,Int.reduceGT,Int.reduceGE,Int.reduceAdd,Int.reduceSub,Int.reduceNeg,Int.reduceBNe,ite_true,ite_false,if_true,if_false,implies_true,forall_const]<;>rfl
 | m+1,k,F,hF,hb,hk=>by
  have e0:k<F.aj:=by omega
  have hl:=hF.len;obtain⟨t1,t2,t3,t4⟩:=hF.cD (s*F.aj+k) 255;have ht:=fun b=>NS (h:=h) (F:=F) hp b (i:=s*F.aj+k) (c:=255) (by omega) hF.dh hF.left
  simp only[show(((255:UInt8).toNat:Nat):Int)=255 from rfl]at ht;have ihx:=Aw hp base s m (k+1) t1 (by rw[t4,t2];omega) (by rw[t4];omega);rw[t4]at ihx;rw[Gz,List.replicate_succ];simp only[Fl.prog];cases hz:(F.cD (s*F.aj+k) 255).1 with
  | true =>
   simp (disch:=omega) only[dec_lt,e0,decide_true,ld1 hp,DE,mI,ht,hz,fm,ihx,↓jV,jX,jY,jZ,Nat.reduceAdd,Nat.reduceSub,Nat.reduceMul,Nat.reduceLeDiff,Nat.reduceLT,Nat.reduceEqDiff,Nat.reduceBEq,reduceIte,reduceCtorEq,Int.reduceBEq,Int.reduceEq,Int.reduceLT,Int.reduceLE,Int.reduceGT,Int.reduceGE,Int.reduceAdd,Int.reduceSub,Int.reduceNeg,Int.reduceBNe,ite_true,ite_false,if_true,if_false,implies_true,forall_const];rw[Nat.add_assoc]
  | false =>
   simp (disch:=omega) only[dec_lt,e0,decide_true,ld1 hp,DE,mI,ht,hz,cR,↓jV,jX,jY,jZ,Nat.reduceAdd,Nat.reduceSub,Nat.reduceMul,Nat.reduceLeDiff,Nat.reduceLT,Nat.reduceEqDiff,Nat.reduceBEq,reduceIte,reduceCtorEq,Int.reduceBEq,Int.reduceEq,Int.reduceLT,Int.reduceLE,Int.reduceGT,Int.reduceGE,Int.reduceAdd,Int.reduceSub,Int.reduceNeg,Int.reduceBNe,ite_true,ite_false,if_true,if_false,implies_true,forall_const]<;>rfl
theorem JZ (hp:pH h p) (base:Nat) (s:Nat) (hF:gL F) (hs:s<F.bN.length) (hb:s*F.aj+F.aj≤F.b.length) (hs2:s≤1000000) (Yy:F.bN.length≤1000000) :
  ai T base 88 [.ptr p.f 0,.int .i64 s] (cw h p F)=some (.int .i64 ((F.erase s).1:Nat),cw h p (F.erase s).2):=by
 rw[S88];unfold Fl.erase;cases hd:F.down with
 | true=>simp only[bS,ld5 hp,hd,cR,↓jV,jX,jY,jZ,Nat.reduceAdd,Nat.reduceSub,Nat.reduceMul,Nat.reduceLeDiff,Nat.reduceLT,Nat.reduceEqDiff,Nat.reduceBEq,reduceIte,reduceCtorEq,Int.reduceBEq,Int.reduceEq,Int.reduceLT,Int.reduceLE,Int.reduceGT,Int.reduceGE,Int.reduceAdd,Int.reduceSub,Int.reduceNeg,Int.reduceBNe,ite_true,ite_false,if_true,if_false,implies_true,forall_const];rfl
 | false =>
  have hg:F.bN[s]?=some F.bN[s]:=List.getElem?_eq_getElem hs;have hgd:F.bN.getD s 0=F.bN[s]:=by rw[List.getD_eq_getElem?_getD,hg];rfl
  have hwb:=hF.bN _ (List.mem_of_getElem? hg);have hm:(if((1073741824:Int)<((F.bN[s]+1:Nat):Int)) then(1073741824:Int) else((F.bN[s]+1:Nat):Int))=((min (F.bN[s]+1) 1073741824:Nat):Int):=by split<;>omega
  have HG:gL { F with bN:=F.bN.set s (min (F.bN[s]+1) 1073741824) }:=⟨hF.dh,hF.left,hF.len,fun n hn=>by
   rcases List.mem_or_eq_of_mem_set hn with h1 | rfl
   ·exact hF.bN n h1
   ·exact Nat.min_le_right _ _⟩
  have hlp:=fun b=>Aw (h:=h) hp b s F.aj 0 HG (by exact hb) (Nat.zero_add _)
  simp only[show((0:Nat):Int)=0 from rfl,Nat.add_zero,hd]at hlp;have hns:¬ (s≥F.bN.length):=by omega
  rw[hgd];simp (disch:=omega) only[bS,ld5 hp,ld2 hp,ld1 hp,hd,Ti,DF,hns,decide_false,hs,iZ,ldw hp hg,fm,kK,hm,stw hp,hlp,↓jV,jX,jY,jZ,Nat.reduceAdd,Nat.reduceSub,Nat.reduceMul,Nat.reduceLeDiff,Nat.reduceLT,Nat.reduceEqDiff,Nat.reduceBEq,reduceIte,reduceCtorEq,Int.reduceBEq,Int.reduceEq,Int.reduceLT,Int.reduceLE,Int.reduceGT,Int.reduceGE,Int.reduceAdd,Int.reduceSub,Int.reduceNeg,Int.reduceBNe,ite_true,ite_false,if_true,if_false,implies_true,forall_const]
def BC (l:List UInt8):PV:=if l=[] then .sl .full 1 [] else .sl .no 1 (aP l)
theorem J0 (l:List UInt8):Bv (BC l) l:=by
 unfold BC;split
 ·rename_i hq;subst hq;exact vm (.inr rfl) []
 ·exact vm (.inl rfl) l
theorem TP (l:List UInt8):jj 1 (BC l)=some false:=by unfold BC;split<;>rfl
theorem lJ (l:List UInt8):(aP l).all scalar=true:=by induction l<;>simp_all [aP,scalar]
theorem TQ (l:List UInt8):(aP l).all (fun x=>x.cells.length == 1)=true:=by induction l<;>simp_all [aP,PV.cells]
theorem tR (l:List UInt8) (n:Nat):belows n (aP l)=true:=by
 induction l with
 | nil=>rfl
 | cons c l ih=>simp only[aP,List.map_cons,belows,Bool.and_eq_true]at *;exact⟨rfl,ih⟩
theorem nO (l:List UInt8):aO (aP l)=aP l:=by
 induction l with
 | nil=>rfl
 | cons c l ih=>simp only[aP,List.map_cons,aO]at *;rw[ih];rfl
theorem ql {l:List UInt8}:aP l=[]↔l=[]:=by cases l<;>simp[aP]
theorem Ax (base:Nat) {v:PV} {l:List UInt8} (hn:jj 1 v=some false) (he:elems h v=some (aP l)) (hl:l.length≤1000000) :
  ai T base 73 [v] h=some (if l=[] then(.sl .full 1 [],h) else(.bW false (size h) 0 l.length 1,ext h [.cells (aP l)])):=by
 rw[S73];have ha:sy 1 (.sl .full 1 []) v h=some (if l=[] then(.sl .full 1 [],h) else(.bW false (size h) 0 l.length 1,ext h [.cells (aP l)])):=by
  unfold sy;rw[he,Option.ag];simp only[tf,Option.ag]
  by_cases h0:l=[]
  ·rw[if_pos (ql.2 h0),if_pos h0]
  ·simp only[ql,h0,if_false,TQ,lJ,List.all_nil,List.length_nil,Nat.zero_add,aM,List.nil_append,and_true,true_and,gy]
   rw[if_pos (by omega)]
 by_cases h0:l=[]
 ·rw[if_pos h0]at ha ⊢
  simp only[qh,hn,ha,↓jV,jX,jY,jZ,Nat.reduceAdd,Nat.reduceSub,Nat.reduceMul,Nat.reduceLeDiff,Nat.reduceLT,Nat.reduceEqDiff,Nat.reduceBEq,reduceIte,reduceCtorEq,Int.reduceBEq,Int.reduceEq,Int.reduceLT,Int.reduceLE,Int.reduceGT,Int.reduceGE,Int.reduceAdd,Int.reduceSub,Int.reduceNeg,Int.reduceBNe,ite_true,ite_false,if_true,if_false,implies_true,forall_const]
 ·rw[if_neg h0]at ha ⊢
  simp only[qh,hn,ha,tR,↓jV,jX,jY,jZ,Nat.reduceAdd,Nat.reduceSub,Nat.reduceMul,Nat.reduceLeDiff,Nat.reduceLT,Nat.reduceEqDiff,Nat.reduceBEq,reduceIte,reduceCtorEq,Int.reduceBEq,Int.reduceEq,Int.reduceLT,Int.reduceLE,Int.reduceGT,Int.reduceGE,Int.reduceAdd,Int.reduceSub,Int.reduceNeg,Int.reduceBNe,ite_true,ite_false,if_true,if_false,implies_true,forall_const]
theorem J1 (base:Nat):ai T base 73 [.bn] h=some (.bn,h):=by
 rw[S73];simp only[qh,↓jV,jX,jY,jZ,Nat.reduceAdd,Nat.reduceSub,Nat.reduceMul,Nat.reduceLeDiff,Nat.reduceLT,Nat.reduceEqDiff,Nat.reduceBEq,reduceIte,reduceCtorEq,Int.reduceBEq,Int.reduceEq,Int.reduceLT,Int.reduceLE,Int.reduceGT,Int.reduceGE,Int.reduceAdd,Int.reduceSub,Int.reduceNeg,Int.reduceBNe,ite_true,ite_false,if_true,if_false,implies_true,forall_const]
theorem LB (k:Nat) (l:List UInt8) (hk:size h≤k) {g:Hp} (hg:ay g k=some (aP l)):gW (size h) g (.bW false k 0 l.length 1)=some (.sl .no 1 (aP l)):=by
 have ht:(aP l).take l.length=aP l:=by rw[←aM l,List.take_length]
 simp only[xP,if_neg (show ¬ k<size h by omega),hg,Option.ag,List.drop_zero,lX,Bool.false_eq_true,if_false,ht];rw[if_pos ⟨by rw[aM];exact Nat.le_refl _,lJ l⟩,Option.ag,nO]
theorem adK (base:Nat) {v:PV} {l:List UInt8} (hn:jj 1 v=some false) (he:elems h v=some (aP l)) (hl:l.length≤1000000):gu (ai T base) 73 [v] h=some (BC l,h):=by
 rw[Dz,Ax base hn he hl,Option.ag];unfold BC
 by_cases h0:l=[]
 ·rw[if_pos h0,if_pos h0,iP]
 ·rw[if_neg h0,if_neg h0]
  unfold forget;have hne:(ext h [gT.cells (aP l)])≠h:=by
   intro hq;have:=congrArg size hq;rw[aW]at this;simp at this
  rw[if_neg hne];simp only;rw[LB (h:=h) (size h) l (Nat.le_refl _) (by rw[aQ];rfl),Option.ag,if_pos ⟨by simp[below,Own.below,tR],by rw[aW];omega,cH⟩]
theorem aeY (hp:pH h p) (f:Bool) (a n:Nat) (hb:a+n≤F.b.length):elems (cw h p F) (.bW f p.bb a n 1)=some (aP ((F.b.drop a).take n)):=by
 rw[mT,Z1 hp,Option.ag];have:((aP F.b).drop a).take n=aP ((F.b.drop a).take n):=by simp[aP]
 rw[this,if_pos ⟨by rw[aM];exact hb,lJ _⟩]
theorem aex (hp:pH h p) (base:Nat) (a n:Nat) (hF:gL F) (hb:a+n≤F.b.length) :
  ai T base 108 [.ptr p.f 0,.int .i64 a,.int .i64 n] (cw h p F)=some (if F.down then .cC [.bn,.int .i64 30] else .cC [BC ((F.b.drop a).take n),.int .i64 0],cw h p F):=by
 rw[atV];cases hd:F.down with
 | true=>simp only[bS,ld5 hp,hd,cR,↓jV,jX,jY,jZ,Nat.reduceAdd,Nat.reduceSub,Nat.reduceMul,Nat.reduceLeDiff,Nat.reduceLT,Nat.reduceEqDiff,Nat.reduceBEq,reduceIte,reduceCtorEq,Int.reduceBEq,Int.reduceEq,Int.reduceLT,Int.reduceLE,Int.reduceGT,Int.reduceGE,Int.reduceAdd,Int.reduceSub,Int.reduceNeg,Int.reduceBNe,ite_true,ite_false,if_true,if_false,implies_true,forall_const]
 | false =>
  have hw:=fun b=>abw (h:=h) (F:=F) hp b a n hF.len
  have hl:=hF.len;have am4:Zb F.b.length (.int .i64 ((a+n:Nat):Int))=some (a+n):=gQ _ _ _ hb;have am6:Zb (a+n) (.int .i64 (a:Int))=some a:=gQ _ _ _ (by omega)
  by_cases h0:n=0
  ·subst h0
   have Kb:=fun b=>Ax (h:=cw h p F) b (v:=.sl .no 1 []) (l:=[]) rfl rfl (by simp)
   simp only[if_true]at Kb;have hz:a-a=0:=by omega
   simp only[Nat.add_zero]at hb am4 am6 hw;have hw0:IntKind.i64.wrap ((a:Int)+((0:Nat):Int))=a:=by rw[mI _ _ (by omega)];simp
   simp (disch:=omega) only[hw0,bS,ld5 hp,ld0 hp,hd,hw,hb,decide_true,mI,rj,jd,am4,am6,hz,Kb,BC,List.take_zero,cR,↓jV,jX,jY,jZ,Nat.reduceAdd,Nat.reduceSub,Nat.reduceMul,Nat.reduceLeDiff,Nat.reduceLT,Nat.reduceEqDiff,Nat.reduceBEq,reduceIte,reduceCtorEq,Int.reduceBEq,Int.reduceEq,Int.reduceLT,Int.reduceLE,Int.reduceGT,Int.reduceGE,Int.reduceAdd,Int.reduceSub,Int.reduceNeg,Int.reduceBNe,ite_true,ite_false,if_true,if_false,implies_true,forall_const]
   first | rfl | skip
  ·have hne:¬ ((F.b.drop a).take n=[]):=by
    intro hq;have:=congrArg List.length hq;simp at this;omega
   have hln:((F.b.drop a).take n).length=n:=by simp;omega
   have hz:a+n-a=n:=by omega
   have Kb:=fun(b:Nat) (f:Bool)=>Ax (h:=cw h p F) b (v:=.bW f p.bb a n 1) rfl (aeY hp f a n hb) (by omega)
   simp only[if_neg hne,hln]at Kb;have hfz:=LB (h:=cw h p F) (size (cw h p F)) ((F.b.drop a).take n) (Nat.le_refl _) (g:=ext (cw h p F) [.cells (aP ((F.b.drop a).take n))]) (by rw[aQ];rfl);rw[bS,hln]at hfz;have hcv:BC ((F.b.drop a).take n)=.sl .no 1 (aP ((F.b.drop a).take n)):=by unfold BC;rw[if_neg hne]
   have htr:bJ (ext (cw h p F) [.cells (aP ((F.b.drop a).take n))]) (size h)=cw h p F:=by
    have:=cH (h:=cw h p F) (l:=[.cells (aP ((F.b.drop a).take n))]);rwa [bS]at this
   rw[hcv];simp (disch:=omega) only[bS,ld5 hp,ld0 hp,hd,hw,hb,decide_true,mI,rj,jd,am4,am6,hz,h0,Nat.zero_add,Nat.mul_one,Kb,hfz,tR,htr,↓jV,jX,jY,jZ,Nat.reduceAdd,Nat.reduceSub,Nat.reduceMul,Nat.reduceLeDiff,Nat.reduceLT,Nat.reduceEqDiff,Nat.reduceBEq,reduceIte,reduceCtorEq,Int.reduceBEq,Int.reduceEq,Int.reduceLT,Int.reduceLE,Int.reduceGT,Int.reduceGE,Int.reduceAdd,Int.reduceSub,Int.reduceNeg,Int.reduceBNe,ite_true,ite_false,if_true,if_false,implies_true,forall_const]
end Go.Am.Qd
namespace Go.Am.Qd
variable {h:Hp} {p:FP} {F:Fl}
theorem pJ:∀ (l t:List UInt8) (k:Nat),k+l.length≤t.length→bE (aP t) k (aP l)=aP (t.take k++l++t.drop (k+l.length))
 | [],t,k,hk=>by simp[aP,bE]
 | c::l,t,k,hk=>by
  simp only[List.length_cons]at hk;have e1:(aP t).set k (.int .u8 c.toNat)=aP (t.set k c):=xV t k c;have e2:aP (c::l)=.int .u8 c.toNat::aP l:=rfl;rw[e2,bE,e1,pJ l (t.set k c) (k+1) (by simp;omega)];congr 1;rw[List.drop_set_of_lt (by omega)];have:(t.set k c).take (k+1)=t.take k++[c]:=by
   rw[List.take_set,List.take_succ_eq_append_getElem (by omega),List.set_append];simp[Nat.min_eq_left (show k≤t.length by omega)]
  rw[this];simp[Nat.add_assoc,Nat.add_comm,Nat.add_left_comm]
def _root_.Go.Am.Fl.load (F:Fl) (l:List UInt8):Fl:={ F with b:=l.take F.b.length++F.b.drop (min l.length F.b.length),left:=-1,down:=false }
structure gI (h:Hp) (p:FP) (q:Nat) (first count:Nat):Prop where
 get:ay h q=some [.ptr p.f 0,.int .i64 first,.int .i64 count]
 n1:q≠p.f
 n2:q≠p.bb
 n3:q≠p.wb
section
variable {q first count:Nat} (hp:pH h p) (hq:gI h p q first count)
include hp hq
theorem Q2:ay (cw h p F) q=some [.ptr p.f 0,.int .i64 first,.int .i64 count]:=by rw[iQ hp hq.n1 hq.n2 hq.n3];exact hq.get
theorem GD (base:Nat):ai T base 87 [.ptr q 0] (cw h p F)=some (.ptr p.f 0,cw h p F):=by
 rw[S87];simp only[bS,Q2 hp hq,hp.lf,decide_true,cR,↓jV,jX,jY,jZ,simprocAttr,if_true,if_false,implies_true,forall_const]
theorem J3 (base:Nat) (hb:count*F.aj≤1000000):ai T base 54 [.ptr q 0] (cw h p F)=some (.int .i64 (count*F.aj:Nat),cw h p F):=by
 rw[S54];have hs:=fun(b:Nat)=>vk (h:=h) (F:=F) hp b
 simp (disch:=omega) only[bS,Q2 hp hq,Dz,hs,Option.ag,iP,Lf,DE,cR,↓jV,jX,jY,jZ,simprocAttr,if_true,if_false,implies_true,forall_const]
theorem ach (base:Nat) (hb:first*F.aj≤1000000):ai T base 72 [.ptr q 0] (cw h p F)=some (.int .i64 (first*F.aj:Nat),cw h p F):=by
 rw[S72];have hs:=fun(b:Nat)=>vk (h:=h) (F:=F) hp b
 simp (disch:=omega) only[bS,Q2 hp hq,Dz,hs,Option.ag,iP,Lf,DE,cR,↓jV,jX,jY,jZ,simprocAttr,if_true,if_false,implies_true,forall_const]
theorem adh (base:Nat) (a n:Nat) (hb:count*F.aj≤1000000) :
  ai T base 104 [.ptr q 0,.int .i64 a,.int .i64 n] (cw h p F)=some (.bool (decide (a+n≤count*F.aj)),cw h p F):=by
 rw[atQ];have hs:=fun(b:Nat)=>J3 (F:=F) hp hq b hb
 by_cases h1:a≤count*F.aj
 ·by_cases h2:n≤count*F.aj-a
  ·have e3:a+n≤count*F.aj:=by omega
   simp (disch:=omega) only[bS,aaX,Qq,h1,h2,e3,hs,decide_true,aa8,cR,↓jV,jX,jY,jZ,simprocAttr,if_true,if_false,implies_true,forall_const]
  ·have e3:¬ (a+n≤count*F.aj):=by omega
   simp (disch:=omega) only[bS,aaX,Qq,h1,h2,e3,hs,decide_true,decide_false,aa8,cR,↓jV,jX,jY,jZ,simprocAttr,if_true,if_false,implies_true,forall_const]
 ·have e3:¬ (a+n≤count*F.aj):=by omega
  simp (disch:=omega) only[bS,aaX,Qq,h1,e3,hs,decide_true,decide_false,aa8,cR,↓jV,jX,jY,jZ,simprocAttr,if_true,if_false,implies_true,forall_const]
theorem abA (base:Nat) (a n:Nat) (hb:count*F.aj≤1000000) :
  ai T base 70 [.ptr q 0,.int .i64 a,.int .i64 n] (cw h p F)=some (.int .i64 (if F.down then 30 else if a+n≤count*F.aj then 0 else 1:Nat),cw h p F):=by
 rw[S70];have hs:=fun(b:Nat)=>adh (F:=F) hp hq b a n hb
 have hd:=fun(b:Nat)=>NQ (h:=h) (F:=F) hp b
 cases hdn:F.down with
 | true=>simp only[bS,Q2 hp hq,hd,hdn,cR,↓jV,jX,jY,jZ,simprocAttr,if_true,if_false,implies_true,forall_const]<;>rfl
 | false =>
  by_cases h1:a+n≤count*F.aj
  ·simp only[bS,Q2 hp hq,hd,hdn,hs,h1,decide_true,cR,↓jV,jX,jY,jZ,simprocAttr,if_true,if_false,implies_true,forall_const]<;>rfl
  ·simp only[bS,Q2 hp hq,hd,hdn,hs,h1,decide_false,cR,↓jV,jX,jY,jZ,simprocAttr,if_true,if_false,implies_true,forall_const]<;>rfl
theorem aci (base:Nat) (a n:Nat) (hF:gL F) (hin:a+n≤count*F.aj) (hb:(first+count)*F.aj≤F.b.length) :
  ai T base 79 [.ptr q 0,.int .i64 a,.int .i64 n] (cw h p F)=some (if F.down then .cC [.bn,.int .i64 30] else .cC [BC ((F.b.drop (first*F.aj+a)).take n),.int .i64 0],cw h p F):=by
 rw[S79];have hl:=hF.len;rw[Nat.add_mul]at hb;have hf:=fun(b:Nat)=>abA (F:=F) hp hq b a n (by omega)
 have hbs:=fun(b:Nat)=>ach (F:=F) hp hq b (by omega)
 have hr:=fun(b:Nat)=>aex (h:=h) (F:=F) hp b (first*F.aj+a) n hF (by omega)
 have hcb:=(J0 ((F.b.drop (first*F.aj+a)).take n)).below (size h);have Na:=(J0 ((F.b.drop (first*F.aj+a)).take n)).gW;cases hdn:F.down with
 | true =>
  rw[hdn]at hf;simp only[if_true,show((30:Nat):Int)=30 from rfl]at hf;simp only[bS,hf,cR,↓jV,jX,jY,jZ,simprocAttr,if_true,if_false,implies_true,forall_const]
 | false =>
  rw[hdn]at hf hr;simp only[Bool.false_eq_true,if_false,if_pos hin,show((0:Nat):Int)=0 from rfl]at hf hr;simp (disch:=omega) only[bS,hf,Q2 hp hq,Dz,hbs,Option.ag,iP,Lf,mI,hr,hcb,Na,cR,↓jV,jX,jY,jZ,simprocAttr,if_true,if_false,implies_true,forall_const]
theorem aaY (base:Nat) (a:Nat) (l:List UInt8) {v:PV} (hv:Bv v l) (hF:gL F) (hin:a+l.length≤count*F.aj) (hb:(first+count)*F.aj≤F.b.length) :
  ai T base 28 [.ptr q 0,.int .i64 a,v] (cw h p F)=some (.int .i64 ((F.program (first*F.aj+a) l).1:Nat),cw h p (F.program (first*F.aj+a) l).2):=by
 rw[S28];have hl:=hF.len;rw[Nat.add_mul]at hb;have hf:=fun(b:Nat)=>abA (F:=F) hp hq b a l.length (by omega)
 have hbs:=fun(b:Nat)=>ach (F:=F) hp hq b (by omega)
 have hr:=fun(b:Nat)=>adg (h:=h) (F:=F) hp b (first*F.aj+a) l hv hF (by omega)
 cases hdn:F.down with
 | true =>
  rw[hdn]at hf;simp only[if_true,show((30:Nat):Int)=30 from rfl]at hf;have hpr:F.program (first*F.aj+a) l=(30,F):=by unfold Fl.program;rw[if_pos hdn]
  rw[hpr];simp only[bS,hv.len,hf,cR,↓jV,jX,jY,jZ,simprocAttr,if_true,if_false,implies_true,forall_const]<;>rfl
 | false =>
  rw[hdn]at hf;simp only[Bool.false_eq_true,if_false,if_pos hin,show((0:Nat):Int)=0 from rfl]at hf;simp (disch:=omega) only[bS,hv.len,hf,Q2 hp hq,Dz,hbs,Option.ag,iP,Lf,mI,hr,cR,↓jV,jX,jY,jZ,simprocAttr,if_true,if_false,implies_true,forall_const]
end
def _root_.Go.Am.Fl.clear (F:Fl) (s:Nat):Nat→Nat × Fl
 | 0=>(0,F)
 | n+1=>if(F.erase s).1=0 then(F.erase s).2.clear (s+1) n else F.erase s
theorem gL.erase (hF:gL F) (s:Nat) (hs:s<F.bN.length):gL (F.erase s).2∧(F.erase s).2.b.length=F.b.length∧(F.erase s).2.bN.length=F.bN.length∧(F.erase s).2.aj=F.aj:=by
 unfold Fl.erase;split
 ·exact⟨hF,rfl,rfl,rfl⟩
 ·have HG:gL { F with bN:=F.bN.set s (min (F.bN.getD s 0+1) 1073741824) }:=⟨hF.dh,hF.left,hF.len,fun n hn=>by
   rcases List.mem_or_eq_of_mem_set hn with h1 | rfl
   ·exact hF.bN n h1
   ·exact Nat.min_le_right _ _⟩
  obtain⟨h1,h2,h3,h4⟩:=gL.prog (List.replicate F.aj 255) HG (s*F.aj);exact⟨h1,h2,by rw[h3];simp,h4⟩
theorem Ay (hp:pH h p) {q first count:Nat} (hq:gI h p q first count) (base:Nat):∀ (m k:Nat) {F:Fl},gL F→(first+count)*F.aj≤F.b.length→first+count≤F.bN.length→F.bN.length≤1000000→k+m=count →
  Lu base (size h) (.int .i64 k) (.ptr q 0) (.int .i64 count) (cw h p F)=some (.int .i64 ((F.clear (first+k) m).1:Nat),cw h p (F.clear (first+k) m).2)
 | 0,k,F,hF,hb,hw,Yy,hk=>by
  have e0:¬ (k<count):=by omega
  rw[Gv];simp only[dec_lt,e0,decide_false,cR,Fl.clear,↓jV,jX,jY,jZ,simprocAttr,if_true,if_false,implies_true,forall_const]<;>rfl
 | m+1,k,F,hF,hb,hw,Yy,hk=>by
  have e0:k<count:=by omega
  obtain⟨t1,t2,t3,t4⟩:=hF.erase (first+k) (by omega);have arF:(first+k)*F.aj+F.aj≤(first+count)*F.aj:=by
   have:=Nat.mul_le_mul_right F.aj (show first+k+1≤first+count by omega);rwa [Nat.succ_mul]at this
  have ht:=fun b=>JZ (h:=h) (F:=F) hp b (first+k) hF (by omega) (by omega) (by omega) Yy
  have ihx:=Ay hp hq base m (k+1) t1 (by rw[t4,t2];exact hb) (by rw[t3];exact hw) (by rw[t3];exact Yy) (by omega);rw[Gv];simp only[Fl.clear]
  by_cases hz:(F.erase (first+k)).1=0
  ·rw[if_pos hz]
   have UB:(((F.erase (first+k)).1:Int) != 0)=false:=by rw[hz];rfl
   simp (disch:=omega) only[dec_lt,e0,decide_true,Q2 hp hq,mI,ht,UB,fm,ihx,↓jV,jX,jY,jZ,simprocAttr,if_true,if_false,implies_true,forall_const];rw[Nat.add_assoc]
  ·rw[if_neg hz]
   have UB:(((F.erase (first+k)).1:Int) != 0)=true:=by simpa using hz
   simp (disch:=omega) only[dec_lt,e0,decide_true,Q2 hp hq,mI,ht,UB,cR,↓jV,jX,jY,jZ,simprocAttr,if_true,if_false,implies_true,forall_const]
theorem GF (hp:pH h p) {q first count:Nat} (hq:gI h p q first count) (base:Nat) (hF:gL F) (hb:(first+count)*F.aj≤F.b.length) (hw:first+count≤F.bN.length) (Yy:F.bN.length≤1000000) :
  ai T base 55 [.ptr q 0] (cw h p F)=some (.int .i64 ((F.clear first count).1:Nat),cw h p (F.clear first count).2):=by
 rw[S55];have hl:=fun b=>Ay hp hq b count 0 hF hb hw Yy (by omega)
 simp only[show((0:Nat):Int)=0 from rfl,Nat.add_zero]at hl;simp only[bS,Q2 hp hq,hl,↓jV,jX,jY,jZ,simprocAttr,if_true,if_false,implies_true,forall_const]
end Go.Am.Qd
namespace Go.Am.Qd
variable {h:Hp}
def uV (a:BitVec 32):PV:=.int .u32 (a.toNat:Int)
theorem J4 (a:BitVec 32):BitVec.ofInt 32 (a.toNat:Int)=a:=by apply BitVec.eq_of_toNat_eq;simp
theorem TS (a:BitVec 32):IntKind.u32.wrap (a.toNat:Int)=(a.toNat:Int):=by
 have:=a.isLt;simp[IntKind.wrap,IntKind.signed,IntKind.bits];omega
theorem wr8 (m:Nat):IntKind.u8.wrap (m:Int)=((UInt8.ofNat m).toNat:Int):=by
 simp[IntKind.wrap,IntKind.signed,IntKind.bits]
theorem vn (a b:BitVec 32):binOp .xor (uV a) (uV b)=some (uV (a ^^^ b)):=by
 show some (PV.int .u32 (IntKind.u32.wrap ((BitVec.ofInt 32 (a.toNat:Int) ^^^ BitVec.ofInt 32 (b.toNat:Int)).toNat:Int)))=_;rw[J4,J4,TS];rfl
theorem LC (a b:BitVec 32):binOp .and (uV a) (uV b)=some (uV (a &&& b)):=by
 show some (PV.int .u32 (IntKind.u32.wrap ((BitVec.ofInt 32 (a.toNat:Int) &&& BitVec.ofInt 32 (b.toNat:Int)).toNat:Int)))=_;rw[J4,J4,TS];rfl
theorem TT (a b:BitVec 32):binOp .or (uV a) (uV b)=some (uV (a ||| b)):=by
 show some (PV.int .u32 (IntKind.u32.wrap ((BitVec.ofInt 32 (a.toNat:Int) ||| BitVec.ofInt 32 (b.toNat:Int)).toNat:Int)))=_;rw[J4,J4,TS];rfl
theorem LD (a:BitVec 32):unOp .xor (uV a)=some (uV (~~~ a)):=by
 show some (PV.int .u32 (IntKind.u32.wrap ((BitVec.ofInt 32 IntKind.u32.max ^^^ BitVec.ofInt 32 (a.toNat:Int)).toNat:Int)))=_;rw[J4,TS];congr 2
theorem vo (k:IntKind) (a:BitVec 32) (n:Nat) (hn:n≤32):binOp .shr (uV a) (.int k (n:Int))=some (uV (a >>> n)):=by
 show(if((n:Nat):Int)<0 then none else some (PV.int .u32 ((a.toNat:Int).fdiv (2 ^ (min ((n:Int)).toNat 32)))))=_;rw[if_neg (by omega)];have:min ((n:Int)).toNat 32=n:=by simp;omega
 rw[this];show some (PV.int .u32 _)=some (PV.int .u32 _);congr 2;rw[BitVec.toNat_ushiftRight,Nat.shiftRight_eq_div_pow];rw[Int.fdiv_eq_ediv_of_nonneg _ (Int.pow_nonneg (by decide))];simp
theorem LF (k:IntKind) (a:BitVec 32) (n:Nat) (hn:n≤32):binOp .shl (uV a) (.int k (n:Int))=some (uV (a <<< n)):=by
 show(if((n:Nat):Int)<0 then none else some (PV.int .u32 (IntKind.u32.wrap ((a.toNat:Int)*(2 ^ (min ((n:Int)).toNat 32))))))=_;rw[if_neg (by omega)];have:min ((n:Int)).toNat 32=n:=by simp;omega
 rw[this];show some (PV.int .u32 _)=some (PV.int .u32 _);congr 2;rw[BitVec.toNat_shiftLeft,Nat.shiftLeft_eq];simp[IntKind.wrap,IntKind.signed,IntKind.bits]
theorem aa7 (a b:BitVec 32):binOp .eql (uV a) (uV b)=some (.bool (a == b)):=by
 show some (PV.bool ((a.toNat:Int) == (b.toNat:Int)))=_;congr 2;rw[Bool.eq_iff_iff,beq_iff_eq,beq_iff_eq,Int.natCast_inj,BitVec.toNat_inj]
theorem LG (a b:BitVec 32):binOp .neq (uV a) (uV b)=some (.bool (a != b)):=by
 show some (PV.bool ((a.toNat:Int) != (b.toNat:Int)))=_;congr 2;rw[bne,bne];congr 1;rw[Bool.eq_iff_iff,beq_iff_eq,beq_iff_eq,Int.natCast_inj,BitVec.toNat_inj]
theorem Q3 (c:UInt8):cu (.int .u8 (c.toNat:Int)) .u32=some (uV (c.toBitVec.setWidth 32)):=by
 show some (PV.int .u32 (IntKind.u32.wrap (c.toNat:Int)))=_;congr 2;have:=c.toNat_lt;simp[IntKind.wrap,IntKind.signed,IntKind.bits];omega
theorem to8 (a:BitVec 32):cu (uV a) .u8=some (.int .u8 ((UInt8.ofNat a.toNat).toNat:Int)):=by
 show some (PV.int .u8 (IntKind.u8.wrap (a.toNat:Int)))=_;rw[wr8]
/-! ### The sum -/
def round (x:BitVec 32):BitVec 32:=if(x &&& 1#32) == 1#32 then(x >>> 1) ^^^ 3988292384#32 else x >>> 1
def rounds:Nat→BitVec 32→BitVec 32
 | 0,x=>x
 | n+1,x=>rounds n (round x)
def Az (r:BitVec 32) (c:UInt8):BitVec 32:=rounds 8 (r ^^^ c.toBitVec.setWidth 32)
def XI (s:BitVec 32) (l:List UInt8):BitVec 32 := ~~~ (l.foldl Az (~~~ s))
def mJ (l:List UInt8):BitVec 32:=XI 0#32 l
theorem AA (n0:Nat) (a:BitVec 32):bg false false n0 [uV a] h=some (uV a,bJ h n0):=rfl
theorem step_loop (base:Nat):∀ (m k:Nat) (r:BitVec 32),k+m=8→Av base (size h) (.int .i64 k) (uV r) h=some (uV (rounds m r),h)
 | 0,k,r,hk=>by
  have e0:¬ (k<8):=by omega
  have hd:decide ((k:Int)<8)=false:=by simp;omega
  rw[Cl];simp only[hd,AA,bL,rounds,↓jV,jX,jY,jZ,simprocAttr,if_true,if_false,implies_true,forall_const]<;>rfl
 | m+1,k,r,hk=>by
  have hd:decide ((k:Int)<8)=true:=by simp;omega
  have ih:=fun r=>step_loop base m (k+1) r (by omega)
  have h1:binOp .and (uV r) (.int .u32 1)=some (uV (r &&& 1#32)):=LC r 1#32;have h2:binOp .shr (uV r) (.int .u64 1)=some (uV (r >>> 1)):=vo .u64 r 1 (by decide);have h3:binOp .eql (uV (r &&& 1#32)) (.int .u32 1)=some (.bool ((r &&& 1#32) == 1#32)):=aa7 _ 1#32;have h4:binOp .xor (uV (r >>> 1)) (.int .u32 3988292384)=some (uV ((r >>> 1) ^^^ 3988292384#32)):=vn _ 3988292384#32;rw[Cl];simp only[rounds,round];cases hq:((r &&& 1#32) == 1#32) with
  | true =>
   rw[hq]at h3;simp (disch:=omega) only[hd,h1,h2,h3,h4,fm,ih,if_true,↓jV,jX,jY,jZ,simprocAttr,if_true,if_false,implies_true,forall_const]
  | false =>
   rw[hq]at h3;simp (disch:=omega) only[hd,h1,h2,h3,h4,fm,ih,if_false,Bool.false_eq_true,↓jV,jX,jY,jZ,simprocAttr,if_true,if_false,implies_true,forall_const]
theorem NU (base:Nat) (r:BitVec 32) (c:UInt8):ai T base 144 [uV r,.int .u8 (c.toNat:Int)] h=some (uV (Az r c),h):=by
 have hl:=step_loop (h:=h) (size h) 8 0 (r ^^^ c.toBitVec.setWidth 32) rfl;simp only[show((0:Nat):Int)=0 from rfl]at hl;rw[amv];simp only[Q3,vn,hl,Option.ag,Az]
structure Rd (h:Hp) (v:PV) (l:List UInt8):Prop where
 len:cG false v=some (.int .i64 l.length)
 rd:∀ (k:IntKind) (i:Nat) (c:UInt8),l[i]?=some c→∃ a,cX v (.int k i) 1=some a∧ax 1 false a h=some (.int .u8 c.toNat)
 el:elems h v=some (aP l)
 nn:jj 1 v=some false∨v=.bn
theorem Bv.rd {v:PV} {l:List UInt8} (hv:Bv v l) (hn:jj 1 v=some false∨v=.bn):Rd h v l :=
 ⟨hv.len,fun k i c hc=>⟨_,hv.ix k i c hc,rfl⟩,hv.el h,hn⟩
theorem vp (base:Nat) {v:PV} {l:List UInt8} (hv:Rd h v l) (hl:l.length≤1000000):∀ (m k:Nat) (r:BitVec 32),k+m=l.length →
  DK base (size h) (.int .i64 k) (uV r) v (.int .i64 l.length) h=some (uV (~~~ ((l.drop k).foldl Az r)),h)
 | 0,k,r,hk=>by
  have e0:¬ (k<l.length):=by omega
  rw[Cj];simp only[dec_lt,e0,decide_false,LD,AA,bL,↓jV,jX,jY,jZ,simprocAttr,if_true,if_false,implies_true,forall_const];rw[List.drop_of_length_le (by omega)];rfl
 | m+1,k,r,hk=>by
  have e0:k<l.length:=by omega
  obtain⟨a,a1,a2⟩:=hv.rd .i64 k l[k] (List.getElem?_eq_getElem e0);have ih:=fun r=>vp base hv hl m (k+1) r (by omega)
  rw[Cj];simp (disch:=omega) only[dec_lt,e0,decide_true,a1,a2,NU,fm,ih,↓jV,jX,jY,jZ,simprocAttr,if_true,if_false,implies_true,forall_const];rw[List.drop_eq_getElem_cons e0];rfl
theorem GG (base:Nat) (s:BitVec 32) {v:PV} {l:List UInt8} (hv:Rd h v l) (hl:l.length≤1000000):ai T base 130 [uV s,v] h=some (uV (XI s l),h):=by
 have hq:=vp (size h) hv hl l.length 0 (~~~ s) (by omega);simp only[show((0:Nat):Int)=0 from rfl,List.drop_zero]at hq;rw[ams];simp only[LD,hv.len,hq,Option.ag,XI]
theorem Q4 (base:Nat) {v:PV} {l:List UInt8} (hv:Rd h v l) (hl:l.length≤1000000):ai T base 113 [v] h=some (uV (mJ l),h):=by
 have:=fun b=>GG b 0#32 hv hl
 have h0:uV 0#32=.int .u32 0:=rfl;rw[h0]at this;rw[amm];simp only[this,AA,bL,↓jV,jX,jY,jZ,simprocAttr,if_true,if_false,implies_true,forall_const]<;>rfl
/-! ### DD as bytes -/
def dK (n:BitVec 32) (i:Nat):UInt8:=UInt8.ofNat (n >>> (8*i)).toNat
def br (n:BitVec 32):List UInt8:=[dK n 0,dK n 1,dK n 2,dK n 3]
theorem abg {h:Hp} (base:Nat) (n:BitVec 32):∀ (m k:Nat) {H:Hp} {v:PV} {l:List UInt8},GK h H v (aP l)→l.length+m≤900000→k+m=4→(k=4→l≠[]) →
  ada base (size h) (.int .i64 k) (uV n) v H=some (.sl .no 1 (aP (l++(List.range' k m).map (dK n))),h)
 | 0,k,H,v,l,hg,hl,hk,hne=>by
  have hd:decide ((k:Int)<4)=false:=by simp;omega
  rw[acR];have:=hg.fin (nO l) (fun hq=>hne (by omega) (ql.1 hq));simp only[hd,this,↓jV,jX,jY,jZ,simprocAttr,if_true,if_false,implies_true,forall_const];simp
 | m+1,k,H,v,l,hg,hl,hk,hne=>by
  have hd:decide ((k:Int)<4)=true:=by simp;omega
  have h1:=vo .i64 n (8*k) (by omega);have h2:=to8 (n >>> (8*k));have e1:((8:Nat):Int)=8:=rfl;have hw:=DE 8 k (by omega);rw[e1]at hw;obtain⟨v',H',g1,g2⟩:=hg.app base (o:=.full) (xs:=[.int .u8 (((dK n k).toNat:Nat):Int)]) rfl rfl (by rw[aM];simp;omega) (by simp);have e2:aP l++[.int .u8 (((dK n k).toNat:Nat):Int)]=aP (l++[dK n k]):=by simp[aP]
  rw[e2]at g2;have ih:=abg base n m (k+1) g2 (by simp;omega) (by omega) (by simp);rw[acR];have h3:cF 1 false [(.int .u8 0)] 1 [(0,strip (.int .u8 (((dK n k).toNat:Nat):Int)))]=some (.sl .full 1 [.int .u8 (((dK n k).toNat:Nat):Int)]):=rfl;simp only[dK]at h3 g1;simp (disch:=omega) only[hd,hw,h1,h2,h3,g1,fm,ih,↓jV,jX,jY,jZ,simprocAttr,if_true,if_false,implies_true,forall_const];rw[List.range'_succ,List.map_cons,List.append_assoc];rfl
theorem aey (base:Nat) (n:BitVec 32):ai T base 123 [.bn,uV n] h=some (.sl .no 1 (aP (br n)),h):=by
 have hq:=abg (h:=h) (l:=[]) (size h) n 4 0 (show GK h h .bn (aP []) from GK.nil (.inl rfl)) (by simp) rfl (by simp);simp only[show((0:Nat):Int)=0 from rfl]at hq;rw[am3,J1,az,hq];rfl
theorem ad7 (base:Nat) {v:PV} {l:List UInt8} (hv:Rd h v l) (hn:jj 1 v=some false) (hl:l.length≤800000) (n:BitVec 32):ai T base 123 [v,uV n] h=some (.sl .no 1 (aP (l++br n)),h):=by
 have hc:=Ax (size h) hn hv.el (by omega)
 by_cases h0:l=[]
 ·subst h0
  rw[if_pos rfl]at hc;have hq:=abg (h:=h) (l:=[]) (size h) n 4 0 (show GK h h (.sl .full 1 []) (aP []) from GK.nil (.inr rfl)) (by simp) rfl (by simp);simp only[show((0:Nat):Int)=0 from rfl]at hq;rw[am3,hc,az,hq];rfl
 ·rw[if_neg h0]at hc
  have hg:GK h (ext h [.cells (aP l)]) (.bW false (size h) 0 (aP l).length 1) (aP l):=GK.WJ (lJ l) (tR l _);rw[aM]at hg;have hq:=abg (h:=h) (size h) n 4 0 hg (by omega) rfl (by simp);simp only[show((0:Nat):Int)=0 from rfl]at hq;rw[am3,hc,az,hq];rfl
theorem acV (base:Nat) {v:PV} {l:List UInt8} (hv:Rd h v l) (hn:jj 1 v=some false) (hl:l.length≤800000):ai T base 139 [v] h=some (.sl .no 1 (aP (l++br (mJ l))),h):=by
 have h1:=fun b=>Q4 b hv (by omega)
 have h2:=fun b=>ad7 b hv hn hl (mJ l)
 have h3:=(vm (.inl rfl) (l++br (mJ l))).gW;have h4:=(vm (.inl rfl) (l++br (mJ l))).below;rw[aua];simp only[h1,h2,h3,h4,bL,↓jV,jX,jY,jZ,simprocAttr,if_true,if_false,implies_true,forall_const]
end Go.Am.Qd
namespace Go.Am.Qd
variable {h:Hp}
theorem AB (a b:BitVec 32):binOp .add (uV a) (uV b)=some (uV (a+b)):=by
 show some (PV.int .u32 (IntKind.u32.wrap ((a.toNat:Int)+(b.toNat:Int))))=some (PV.int .u32 _);congr 2
def ru (x:BitVec 32) (n:Nat):BitVec 32:=x <<< (32-n) ||| x >>> n
theorem TU (n:Nat) (h1:1≤n) (h2:n≤31):(cu (.int .i64 (-(n:Int))) .u64).ah (fun x=>binOp .and x (.int .u64 31))=some (.int .u64 ((32-n:Nat):Int)):=by
 have e1:cu (.int .i64 (-(n:Int))) .u64=some (.int .u64 ((18446744073709551616-n:Nat):Int)):=by
  show some (PV.int .u64 (IntKind.u64.wrap (-(n:Int))))=some (PV.int .u64 _);congr 2;simp only[IntKind.wrap,IntKind.signed,IntKind.bits,Bool.false_and,Bool.false_eq_true,if_false];omega
 rw[e1,Option.ag];show some (PV.int .u64 (IntKind.u64.wrap ((BitVec.ofInt 64 ((18446744073709551616-n:Nat):Int) &&& BitVec.ofInt 64 31).toNat:Int)))=some (PV.int .u64 _);congr 2;have e2:(BitVec.ofInt 64 ((18446744073709551616-n:Nat):Int)).toNat=18446744073709551616-n:=by simp;omega
 have e3:(BitVec.ofInt 64 31).toNat=2 ^ 5-1:=by decide
 rw[BitVec.toNat_and,e2,e3,Nat.and_two_pow_sub_one_eq_mod];simp only[IntKind.wrap,IntKind.signed,IntKind.bits,Bool.false_and,Bool.false_eq_true,if_false];omega
theorem Q5 (base:Nat) (x:BitVec 32) (n:Nat) (h1:1≤n) (h2:n≤31):ai T base 143 [uV x,.int .i64 (-(n:Int))] h=some (uV (ru x n),h):=by
 have e1:=TU n h1 h2;rw[Option.aa]at e1;obtain⟨y,y1,y2⟩:=e1;have e3:binOp .sub (.int .u64 32) (.int .u64 ((32-n:Nat):Int))=some (.int .u64 (n:Int)):=by
  show some (PV.int .u64 (IntKind.u64.wrap (32-((32-n:Nat):Int))))=some (PV.int .u64 _);congr 2;simp only[IntKind.wrap,IntKind.signed,IntKind.bits,Bool.false_and,Bool.false_eq_true,if_false];omega
 rw[amu,y1,Option.ag,y2,Option.ag,LF _ _ _ (by omega),Option.ag,e3,Option.ag,vo _ _ _ (by omega),Option.ag,TT,Option.ag,AA,bL];rfl
theorem sJ (base:Nat) (x:BitVec 32) (n:Nat) (h1:1≤n) (h2:n≤31):ai T base 129 [uV x,.int .i64 (n:Int)] h=some (uV (ru x n),h):=by
 have e1:unOp .neg (.int .i64 (n:Int))=some (.int .i64 (-(n:Int))):=by
  show some (PV.int .i64 (IntKind.i64.wrap (0-(n:Int))))=_;rw[wrap_small (by omega) (by omega)];simp
 rw[amr,e1,Option.ag,Q5 (size h) x n h1 h2,az,AA,bL]
theorem Q6 (base:Nat) (x:BitVec 32) (n:Nat) (h1:1≤n) (h2:n≤31):ai T base 86 [uV x,.int .i64 (n:Int)] h=some (uV (ru x n),h):=by
 have e3:binOp .sub (.int .i64 32) (.int .i64 (n:Int))=some (.int .i64 ((32-n:Nat):Int)):=by
  show some (PV.int .i64 (IntKind.i64.wrap (32-(n:Int))))=_;rw[wrap_small (by omega) (by omega)];congr 2;omega
 rw[S86,vo _ _ _ (by omega),Option.ag,e3,Option.ag,LF _ _ _ (by omega),Option.ag,TT,Option.ag,AA,bL];unfold ru;rw[BitVec.or_comm]
/-! ### Rows of words -/
def aT (l:List (BitVec 32)):List PV:=l.map uV
theorem je (l:List (BitVec 32)) (i:Nat):(aT l)[i]?=(l[i]?).map uV:=by simp[aT]
theorem bY (l:List (BitVec 32)):(aT l).length=l.length:=by simp[aT]
theorem GH (l:List (BitVec 32)) (i:Nat) (x:BitVec 32):(aT l).set i (uV x)=aT (l.set i x):=by simp[aT,List.map_set]
theorem kN (l:List (BitVec 32)):(aT l).all scalar=true:=by
 induction l with
 | nil=>rfl
 | cons a l ih=>show(scalar (uV a)&&(aT l).all scalar)=true;rw[ih];rfl
theorem J5 (n:Nat) (l:List (BitVec 32)):belows n (aT l)=true:=by
 induction l with
 | nil=>rfl
 | cons a l ih=>show belows n (uV a::aT l)=true;rw[iN,ih];rfl
theorem LH (n:Nat):rep n (.int .u32 0)=aT (List.replicate n 0#32):=by rw[rep,aT,List.map_replicate];rfl
theorem XJ (n:Nat):rep n (.int .u8 0)=aP (List.replicate n 0):=by simp[rep,aP]
def Cm (a b c d:UInt8):BitVec 32:=((a.toBitVec.setWidth 32 <<< 24 ||| b.toBitVec.setWidth 32 <<< 16) ||| c.toBitVec.setWidth 32 <<< 8) ||| d.toBitVec.setWidth 32
def sg0 (x:BitVec 32):BitVec 32:=(ru x 7 ^^^ ru x 18) ^^^ x >>> 3
def sg1 (x:BitVec 32):BitVec 32:=(ru x 17 ^^^ ru x 19) ^^^ x >>> 10
def oo (b:List UInt8) (w:List (BitVec 32)) (i:Nat):BitVec 32 :=
 if i<16 then Cm (b.getD (4*i) 0) (b.getD (4*i+1) 0) (b.getD (4*i+2) 0) (b.getD (4*i+3) 0)
 else((w.getD (i-16) 0+sg0 (w.getD (i-15) 0))+w.getD (i-7) 0)+sg1 (w.getD (i-2) 0)
def sched (b:List UInt8):Nat→List (BitVec 32)
 | 0=>[]
 | n+1=>sched b n++[oo b (sched b n) n]
theorem gS (b:List UInt8):∀ n,(sched b n).length=n
 | 0=>rfl
 | n+1=>by simp[sched,gS b n]
def rnd (k w:BitVec 32) (s:List (BitVec 32)):List (BitVec 32) :=
 let a:=s.getD 0 0;let b:=s.getD 1 0;let c:=s.getD 2 0;let d:=s.getD 3 0;let e:=s.getD 4 0;let f:=s.getD 5 0;let g:=s.getD 6 0;let i:=s.getD 7 0
 let t1:=(((i+((ru e 6 ^^^ ru e 11) ^^^ ru e 25))+((e &&& f) ^^^ (~~~ e &&& g)))+k)+w
 let t2:=((ru a 2 ^^^ ru a 13) ^^^ ru a 22)+(((a &&& b) ^^^ (a &&& c)) ^^^ (b &&& c))
 [t1+t2,a,b,c,d+t1,e,f,g]
end Go.Am.Qd
namespace Go.Am.Qd
variable {h:Hp}
theorem g2a (X Y:List PV):ay (ext h [.cells X,.cells Y]) (size h)=some X:=by rw[aQ];rfl
theorem J6 (X Y:List PV):ay (ext h [.cells X,.cells Y]) (size h+1)=some Y:=by rw[eZ];rfl
theorem s2a (X Y Z:gT):aC (ext h [X,Y]) (size h) Z=ext h [Z,Y]:=by rw[ez (Nat.le_refl _)];simp
theorem Yz (X Y Z:gT):aC (ext h [X,Y]) (size h+1) Z=ext h [X,Z]:=by rw[ez (by omega)];simp
def wz (b:List UInt8) (i:Nat):List (BitVec 32):=sched b i++List.replicate (64-i) 0#32
theorem Q7 (b:List UInt8) {i:Nat} (hi:i≤64):(wz b i).length=64:=by simp[wz,gS];omega
theorem Q8 (b:List UInt8) {i j:Nat} (hj:j<i):(aT (wz b i))[j]?=some (uV ((sched b i).getD j 0)):=by
 have:j<(sched b i).length:=by rw[gS];exact hj
 rw[je,wz,List.getElem?_append_left this,List.getD_eq_getElem?_getD,List.getElem?_eq_getElem this];rfl
theorem Q9 (b:List UInt8) {i:Nat} (hi:i<64):(wz b i).set i (oo b (sched b i) i)=wz b (i+1):=by
 unfold wz;rw[List.set_append_right _ _ (by rw[gS];exact Nat.le_refl _),gS,Nat.sub_self,show 64-i=(64-(i+1))+1 by omega,List.replicate_succ,List.set_cons_zero];simp[sched]
theorem mK {base b off:Nat} {H:Hp} {cs:List PV} {x:PV} (hg:ay H b=some cs) (hb:base≤b) (hs:scalar x=true) (hc:x.cells=[x]) (ho:off<cs.length):aS base 1 (.ptr b off) x H=some (aC H b (.cells (cs.set off x))):=by
 rw[dz,hg,Option.ag,hc,if_pos ⟨rfl,by omega,by simp[hs],fun q=>absurd q (by omega)⟩,if_neg (by omega)];rfl
theorem dL {b off:Nat} {H:Hp} {cs:List PV} (hg:ay H b=some cs):ax 1 false (.ptr b off) H=cs[off]?:=by
 rw[ek,hg,Option.ag,part,if_neg (by simp)]
theorem HM (sz b o i n:Nat) (hi:i<n):aN sz n (.ptr b o) (.int .i64 (i:Int))=some (.ptr b (o+i*sz)):=by
 rw[u7,iZ .i64 i n hi,Option.ag]
theorem DN {vs cs:List PV} (hl:vs.length=cs.length):bE cs 0 vs=vs:=by
 obtain⟨h1,h2⟩:=nI vs cs 0;apply List.ext_getElem?;intro i;rw[h2 i];split
 ·simp
 ·rw[List.getElem?_eq_none (by omega),List.getElem?_eq_none (by omega)]
theorem ry {b n:Nat} {H:Hp} {cs:List PV} (hg:ay H b=some cs) (hn:cs.length=n):ax n true (.ptr b 0) H=some (.agg cs):=by
 rw[ek,hg,Option.ag,part,if_pos rfl,if_pos (by omega),List.drop_zero,List.take_of_length_le (by omega)]
theorem AD {b n:Nat} {H:Hp} {cs:List PV} (hg:ay H b=some cs) (hn:cs.length=n):qQ (.ptr b 0) H n true=some (.agg cs):=by
 rw[E1,hg,Option.ag,part,if_pos rfl,if_pos (by omega),List.drop_zero,List.take_of_length_le (by omega)]
theorem jf {base b n:Nat} {H:Hp} {cs ds:List PV} (hg:ay H b=some cs) (hb:base≤b) (hc:cs.length=n) (hd:ds.length=n) (hs:ds.all scalar=true):aS base n (.ptr b 0) (.agg ds) H=some (aC H b (.cells ds)):=by
 have e:(PV.agg ds).cells=ds:=rfl;rw[dz,hg,Option.ag,e,if_pos ⟨hd,by omega,hs,fun q=>absurd q (by omega)⟩,if_neg (by omega),DN (by omega)];rfl
theorem LI (ws:List (BitVec 32)) (H:Hp) (n:Nat):bg false false n [.agg (aT ws)] H=some (.agg (aT ws),bJ H n):=by
 have hf:gW n H (.agg (aT ws))=some (.agg (aT ws)):=by
  have:fM n H (aT ws)=some (aT ws):=by
   induction ws with
   | nil=>rfl
   | cons a l ih=>show fM n H (uV a::aT l)=_;rw[fM,ih];rfl
  rw[gW,this];rfl
 rw[bZ];simp only[fM,hf,Option.ag];rw[if_pos (by simp[belows,below,J5])];rfl
section
variable {b off:Nat} {cs:List PV} {blk:List UInt8} (hb:ay h b=some cs) (hcs:∀ i,i<64→cs[off+i]?=some (.int .u8 ((blk.getD i 0).toNat:Int)))
include hb hcs
theorem vq:∀ (n i:Nat),i+n=64→Au (size h) (size h) (.int .i64 (i:Int)) (.ptr (size h+1) 0) (.ptr b off) (.ptr (size h) 0) (ext h [.cells (aT (List.replicate 64 0#32)),.cells (aT (wz blk i))])=some (.agg (aT (sched blk 64)),h)
 | 0,i,hi=>by
  obtain rfl:i=64:=by omega
  have e:wz blk 64=sched blk 64:=by simp[wz]
  have hl:(aT (sched blk 64)).length=64:=by rw[bY,gS]
  have hz:(aT (List.replicate 64 0#32)).length=64:=by rw[bY];simp
  have hld:=ry (n:=64) (J6 (h:=h) (aT (List.replicate 64 0#32)) (aT (sched blk 64))) hl;have hst:=jf (base:=size h) (n:=64) (g2a (h:=h) (aT (List.replicate 64 0#32)) (aT (sched blk 64))) (Nat.le_refl _) hz hl (kN _);rw[s2a]at hst;have hrs:=AD (n:=64) (g2a (h:=h) (aT (sched blk 64)) (aT (sched blk 64))) hl;have hk:binOp .lss (.int .i64 ((64:Nat):Int)) (.int .i64 64)=some (.bool false):=rfl;rw[tQ,hk,Option.ag,aL,e,hld,Option.ag,hst,Option.ag,hrs,Option.ag,LI,cH]
 | n+1,i,hi=>by
  have hlt:i<64:=by omega
  have hbl:=bw (bq hb);have ih:=vq n (i+1) (by omega);have hk:binOp .lss (.int .i64 (i:Int)) (.int .i64 64)=some (.bool true):=by
   show some (PV.bool (decide ((i:Int)<64)))=_;rw[decide_eq_true (by omega)]
  have w1:IntKind.i64.wrap ((i:Int)+1)=((i+1:Nat):Int):=fm i (by omega);have gb:=fun X Y=>(aX (l:=[.cells X,.cells Y]) hbl).trans hb
  have hw:=Q7 blk (i:=i) (by omega);have hst:=mK (base:=size h) (b:=size h+1) (off:=i) (x:=uV (oo blk (sched blk i) i)) (J6 (h:=h) (aT (List.replicate 64 0#32)) (aT (wz blk i))) (by omega) rfl rfl (by rw[bY];omega);rw[GH,Q9 blk hlt,Yz]at hst;have XK:=HM 1 (size h+1) 0 i 64 hlt;rw[Nat.zero_add,Nat.mul_one]at XK
  by_cases HK:i<16
  ·have hk2:binOp .lss (.int .i64 (i:Int)) (.int .i64 16)=some (.bool true):=by
    show some (PV.bool (decide ((i:Int)<16)))=_;rw[decide_eq_true (by omega)]
   have m4:binOp .mul (.int .i64 4) (.int .i64 (i:Int))=some (.int .i64 ((4*i:Nat):Int)):=by
    show some (PV.int .i64 (IntKind.i64.wrap (4*(i:Int))))=_;rw[wrap_small (by omega) (by omega)];simp
   have ak:∀ k:Nat,k≤3→binOp .add (.int .i64 ((4*i:Nat):Int)) (.int .i64 (k:Int))=some (.int .i64 ((4*i+k:Nat):Int)):=fun k hk=>by
    show some (PV.int .i64 (IntKind.i64.wrap (((4*i:Nat):Int)+(k:Int))))=_;rw[wrap_small (by omega) (by omega)];simp
   have a1:=ak 1 (by omega);have a2:=ak 2 (by omega);have a3:=ak 3 (by omega);simp only[show((1:Nat):Int)=1 from rfl,show((2:Nat):Int)=2 from rfl,show((3:Nat):Int)=3 from rfl]at a1 a2 a3;have GI:∀ k:Nat,k≤3→aN 1 64 (.ptr b off) (.int .i64 ((4*i+k:Nat):Int))=some (.ptr b (off+(4*i+k))):=fun k hk=>by
    have:=HM 1 b off (4*i+k) 64 (by omega);rwa [Nat.mul_one]at this
   have i0:=GI 0 (by omega);have i1:=GI 1 (by omega);have i2:=GI 2 (by omega);have i3:=GI 3 (by omega);rw[Nat.add_zero]at i0;have LJ:∀ k:Nat,k≤3→∀ X Y,ax 1 false (.ptr b (off+(4*i+k))) (ext h [.cells X,.cells Y])=some (.int .u8 ((blk.getD (4*i+k) 0).toNat:Int)):=fun k hk X Y=>by
    rw[dL (gb X Y),hcs _ (by omega)]
   have l0:=LJ 0 (by omega);have l1:=LJ 1 (by omega);have l2:=LJ 2 (by omega);have l3:=LJ 3 (by omega);rw[Nat.add_zero]at l0;have nk:aF (.ptr b off)=some (.ptr b off):=rfl;have hn:oo blk (sched blk i) i=Cm (blk.getD (4*i) 0) (blk.getD (4*i+1) 0) (blk.getD (4*i+2) 0) (blk.getD (4*i+3) 0):=by unfold oo;rw[if_pos HK]
   rw[hn]at hst;unfold Cm at hst;have sh:=fun(a:BitVec 32) (n:Nat) (hn:n≤32)=>LF .u64 a n hn
   have abb:=fun a=>sh a 24 (by omega);have abc:=fun a=>sh a 16 (by omega);have sh8:=fun a=>sh a 8 (by omega)
   simp only[show((24:Nat):Int)=24 from rfl,show((16:Nat):Int)=16 from rfl,show((8:Nat):Int)=8 from rfl]at abb abc sh8;rw[tQ,hk,Option.ag,aR,hk2,Option.ag,aR];simp only[m4,a1,a2,a3,nk,i0,i1,i2,i3,l0,l1,l2,l3,Q3,abb,abc,sh8,TT,XK,hst,Option.ag];rw[show binOp .add (.int .i64 (i:Int)) (.int .i64 1)=some (.int .i64 ((i+1:Nat):Int)) by rw[←w1];rfl,Option.ag];exact ih
  ·have hk2:binOp .lss (.int .i64 (i:Int)) (.int .i64 16)=some (.bool false):=by
    show some (PV.bool (decide ((i:Int)<16)))=_;rw[decide_eq_false (by omega)]
   have sk:∀ k:Nat,k≤16→binOp .sub (.int .i64 (i:Int)) (.int .i64 (k:Int))=some (.int .i64 ((i-k:Nat):Int)):=fun k hk=>by
    show some (PV.int .i64 (IntKind.i64.wrap ((i:Int)-(k:Int))))=_;rw[wrap_small (by omega) (by omega)];congr 2;omega
   have k15:=sk 15 (by omega);have k2:=sk 2 (by omega);have k16:=sk 16 (by omega);have k7:=sk 7 (by omega);simp only[show((15:Nat):Int)=15 from rfl,show((2:Nat):Int)=2 from rfl,show((16:Nat):Int)=16 from rfl,show((7:Nat):Int)=7 from rfl]at k15 k2 k16 k7;have GI:∀ k:Nat,aN 1 64 (.ptr (size h+1) 0) (.int .i64 ((i-k:Nat):Int))=some (.ptr (size h+1) (i-k)):=fun k=>by
    have:=HM 1 (size h+1) 0 (i-k) 64 (by omega);rwa [Nat.mul_one,Nat.zero_add]at this
   have LJ:∀ k:Nat,1≤k→k≤16→ax 1 false (.ptr (size h+1) (i-k)) (ext h [.cells (aT (List.replicate 64 0#32)),.cells (aT (wz blk i))])=some (uV ((sched blk i).getD (i-k) 0)):=fun k h1 h2=>by
    rw[dL (J6 _ _),Q8 blk (by omega)]
   have l15:=LJ 15 (by omega) (by omega);have l2:=LJ 2 (by omega) (by omega);have l16:=LJ 16 (by omega) (by omega);have l7:=LJ 7 (by omega) (by omega);have rt:=fun(H:Hp) (x:BitVec 32) (n:Nat) (h1:1≤n) (h2:n≤31)=>sJ (h:=H) (size h) x n h1 h2
   have r7:=fun H x=>rt H x 7 (by omega) (by omega);have r18:=fun H x=>rt H x 18 (by omega) (by omega);have XF:=fun H x=>rt H x 17 (by omega) (by omega);have r19:=fun H x=>rt H x 19 (by omega) (by omega)
   simp only[show((7:Nat):Int)=7 from rfl,show((18:Nat):Int)=18 from rfl,show((17:Nat):Int)=17 from rfl,show((19:Nat):Int)=19 from rfl]at r7 r18 XF r19;have s3:=fun a=>vo .u64 a 3 (by omega);have s10:=fun a=>vo .u64 a 10 (by omega)
   simp only[show((3:Nat):Int)=3 from rfl,show((10:Nat):Int)=10 from rfl]at s3 s10;have hn:oo blk (sched blk i) i=(((sched blk i).getD (i-16) 0+sg0 ((sched blk i).getD (i-15) 0))+(sched blk i).getD (i-7) 0)+sg1 ((sched blk i).getD (i-2) 0):=by unfold oo;rw[if_neg HK]
   rw[hn]at hst;unfold sg0 sg1 at hst;rw[tQ,hk,Option.ag,aR,hk2,Option.ag,aL];simp only[k15,k2,k16,k7,GI,l15,l2,l16,l7,r7,r18,XF,r19,s3,s10,vn,AB,XK,hst,Option.ag,az];rw[show binOp .add (.int .i64 (i:Int)) (.int .i64 1)=some (.int .i64 ((i+1:Nat):Int)) by rw[←w1];rfl,Option.ag];exact ih
theorem GJ (base:Nat):ai T base 128 [.ptr b off] h=some (.agg (aT (sched blk 64)),h):=by
 have hl:=vq hb hcs 64 0 (by omega);have e:wz blk 0=List.replicate 64 0#32:=by simp[wz,sched]
 rw[e]at hl;simp only[show((0:Nat):Int)=0 from rfl]at hl;rw[amq,LH,eo,eo,aW,fz];exact hl
end
end Go.Am.Qd
namespace Go.Am.Qd
variable {h:Hp}
def ks:List (BitVec 32):=KS.map fun v=>match v with | .int _ i=>BitVec.ofInt 32 i | _=>0#32
theorem abi:KS=aT ks:=by rfl
theorem XL:ks.length=64:=by rfl
theorem UU {i:Nat} (hi:i<64) (H:Hp):ax 1 false (.ep KS i) H=some (uV (ks.getD i 0)):=by
 rw[ady,yX,abi,je,List.getD_eq_getElem?_getD,List.getElem?_eq_getElem (by rw[XL];exact hi)];rfl
theorem ixe (cs:List PV) (i n:Nat) (hi:i<n):aN 1 n (.ep cs 0) (.int .i64 (i:Int))=some (.ep cs i):=by
 rw[zZ,iZ .i64 i n hi,Option.ag,Nat.zero_add,Nat.mul_one]
def we (W:List (BitVec 32)):Nat→Nat→List (BitVec 32)→List (BitVec 32)
 | _,0,s=>s
 | i,n+1,s=>we W (i+1) n (rnd (ks.getD i 0) (W.getD i 0) s)
theorem sK (W:List (BitVec 32)):∀ (n i:Nat) (s:List (BitVec 32)),s.length=8→(we W i n s).length=8
 | 0,_,s,hs=>hs
 | n+1,i,s,_=>sK W n (i+1) _ rfl
theorem Cn {W:List (BitVec 32)} (hW:W.length=64) (a0:PV):∀ (n i:Nat) (s:List (BitVec 32)),i+n=64→s.length=8 →
  tO (size h) (size h) (.int .i64 (i:Int)) (.ptr (size h+1) 0) (.ptr (size h) 0) a0 (ext h [.cells (aT W),.cells (aT s)])
  = tO (size h) (size h) (.int .i64 64) (.ptr (size h+1) 0) (.ptr (size h) 0) a0 (ext h [.cells (aT W),.cells (aT (we W i n s))])
 | 0,i,s,hi,hs=>by
  obtain rfl:i=64:=by omega
  rfl
 | n+1,i,s,hi,hs=>by
  have hlt:i<64:=by omega
  obtain⟨a,b,c,d,e,f,g,k,rfl⟩ : ∃ a b c d e f g k,s=[a,b,c,d,e,f,g,k]:=by
   match s,hs with
   | [a,b,c,d,e,f,g,k],_=>exact⟨a,b,c,d,e,f,g,k,rfl⟩
  have ih:=Cn hW a0 n (i+1) (rnd (ks.getD i 0) (W.getD i 0) [a,b,c,d,e,f,g,k]) (by omega) rfl;have hk:binOp .lss (.int .i64 (i:Int)) (.int .i64 64)=some (.bool true):=by
   show some (PV.bool (decide ((i:Int)<64)))=_;rw[decide_eq_true (by omega)]
  have w1:IntKind.i64.wrap ((i:Int)+1)=((i+1:Nat):Int):=fm i (by omega);have lw:ax 1 false (.ptr (size h) i) (ext h [.cells (aT W),.cells (aT [a,b,c,d,e,f,g,k])])=some (uV (W.getD i 0)):=by
   rw[dL (g2a _ _),je,List.getD_eq_getElem?_getD,List.getElem?_eq_getElem (by rw[hW];exact hlt)];rfl
  have GI:=ixe KS i 64 hlt;have lk:=UU hlt (ext h [.cells (aT W),.cells (aT [a,b,c,d,e,f,g,k])]);have ixw:=HM 1 (size h) 0 i 64 hlt;rw[Nat.zero_add,Nat.mul_one]at ixw;have ixs:∀ j:Nat,j<8→aN 1 8 (.ptr (size h+1) 0) (.int .i64 (j:Int))=some (.ptr (size h+1) j):=fun j hj=>by
   have:=HM 1 (size h+1) 0 j 8 hj;rwa [Nat.mul_one,Nat.zero_add]at this
  have x0:=ixs 0 (by omega);have x1:=ixs 1 (by omega);have x2:=ixs 2 (by omega);have x4:=ixs 4 (by omega);have x5:=ixs 5 (by omega);have x6:=ixs 6 (by omega);have x7:=ixs 7 (by omega);simp only[show((0:Nat):Int)=0 from rfl,show((1:Nat):Int)=1 from rfl,show((2:Nat):Int)=2 from rfl,show((4:Nat):Int)=4 from rfl,show((5:Nat):Int)=5 from rfl,show((6:Nat):Int)=6 from rfl,show((7:Nat):Int)=7 from rfl]at x0 x1 x2 x4 x5 x6 x7;have ldj:∀ (Z:List PV) (j:Nat),ax 1 false (.ptr (size h+1) j) (ext h [.cells (aT W),.cells Z])=Z[j]?:=fun Z j=>dL (J6 _ _)
  have stj:∀ (Z:List PV) (j:Nat) (x:BitVec 32),j<Z.length→aS (size h) 1 (.ptr (size h+1) j) (uV x) (ext h [.cells (aT W),.cells Z])=some (ext h [.cells (aT W),.cells (Z.set j (uV x))]):=fun Z j x hj=>by
   rw[mK (base:=size h) (J6 _ _) (by omega) rfl rfl hj,Yz]
  have rt:=fun(H:Hp) (x:BitVec 32) (n:Nat) (h1:1≤n) (h2:n≤31)=>sJ (h:=H) (size h) x n h1 h2
  have r2:=fun H x=>rt H x 2 (by omega) (by omega);have r13:=fun H x=>rt H x 13 (by omega) (by omega);have r22:=fun H x=>rt H x 22 (by omega) (by omega)
  have r6:=fun H x=>rt H x 6 (by omega) (by omega);have r11:=fun H x=>rt H x 11 (by omega) (by omega);have r25:=fun H x=>rt H x 25 (by omega) (by omega)
  simp only[show((2:Nat):Int)=2 from rfl,show((13:Nat):Int)=13 from rfl,show((22:Nat):Int)=22 from rfl,show((6:Nat):Int)=6 from rfl,show((11:Nat):Int)=11 from rfl,show((25:Nat):Int)=25 from rfl]at r2 r13 r22 r6 r11 r25;have oq:∀ (H:Hp) (x:BitVec 32) (n:Int) (y:BitVec 32),ai T (size h) 129 [uV x,.int .i64 n] H=some (uV y,H)→gu (ai T (size h)) 129 [uV x,.int .i64 n] H=some (uV y,H):=fun H x n y hy=>by
   rw[gu,hy,Option.ag,forget,if_pos rfl]
  have o6:=fun H x=>oq H x 6 _ (r6 H x);have o11:=fun H x=>oq H x 11 _ (r11 H x);have o25:=fun H x=>oq H x 25 _ (r25 H x)
  have u:∀ (x y z v p q r t:BitVec 32),aT [x,y,z,v,p,q,r,t]=[uV x,uV y,uV z,uV v,uV p,uV q,uV r,uV t]:=fun _ _ _ _ _ _ _ _=>rfl
  have sl1:∀ (Z:List PV),Z.length=8→HF 1 8 (.ptr (size h+1) 0) (some (.int .i64 1)) none (ext h [.cells (aT W),.cells Z])=some (.bW true (size h+1) 1 7 1,ext h [.cells (aT W),.cells Z]):=fun Z hZ=>by
   rw[xU,J6,Option.ag,if_pos (by omega)];rfl
  have sl2:∀ (Z:List PV),Z.length=8→HF 1 8 (.ptr (size h+1) 0) none (some (.int .i64 7)) (ext h [.cells (aT W),.cells Z])=some (.bW false (size h+1) 0 7 1,ext h [.cells (aT W),.cells Z]):=fun Z hZ=>by
   rw[xU,J6,Option.ag,if_pos (by omega)];rfl
  have cp:copyV (size h) (.bW true (size h+1) 1 7 1) (.bW false (size h+1) 0 7 1) (ext h [.cells (aT W),.cells (aT [a,b,c,d,e,f,g,k])])=some (.int .i64 7,ext h [.cells (aT W),.cells (aT [a,a,b,c,d,e,f,g])]):=by
   rw[kU,mT,J6,Option.ag,if_pos ⟨by simp[bY],by rfl⟩,Option.ag,Option.ag,if_pos ⟨rfl,by simp[bY],by rfl,fun q=>absurd q (by omega)⟩];show some (_,aC _ (size h+1) (.cells _))=_;rw[Yz];rfl
  have s1':=sl1 (aT [a,b,c,d,e,f,g,k]) rfl;have s2':=sl2 (aT [a,b,c,d,e,f,g,k]) rfl;have e0:(aT [a,b,c,d,e,f,g,k])[0]?=some (uV a):=rfl;have e1:(aT [a,b,c,d,e,f,g,k])[1]?=some (uV b):=rfl;have e2:(aT [a,b,c,d,e,f,g,k])[2]?=some (uV c):=rfl;have e4:(aT [a,b,c,d,e,f,g,k])[4]?=some (uV e):=rfl;have e5:(aT [a,b,c,d,e,f,g,k])[5]?=some (uV f):=rfl;have e6:(aT [a,b,c,d,e,f,g,k])[6]?=some (uV g):=rfl;have e7:(aT [a,b,c,d,e,f,g,k])[7]?=some (uV k):=rfl;have e4':(aT [a,a,b,c,d,e,f,g])[4]?=some (uV d):=rfl;have Yp:∀ x,aS (size h) 1 (.ptr (size h+1) 4) (uV x) (ext h [.cells (aT W),.cells (aT [a,a,b,c,d,e,f,g])])=some (ext h [.cells (aT W),.cells (aT [a,a,b,c,x,e,f,g])]):=fun x=>stj _ 4 x (by rw[bY];show 4<8;decide)
  have st0:∀ x y,aS (size h) 1 (.ptr (size h+1) 0) (uV x) (ext h [.cells (aT W),.cells (aT [a,a,b,c,y,e,f,g])])=some (ext h [.cells (aT W),.cells (aT [x,a,b,c,y,e,f,g])]):=fun x y=>stj _ 0 x (by rw[bY];show 0<8;decide)
  have ad:binOp .add (.int .i64 (i:Int)) (.int .i64 1)=some (.int .i64 ((i+1:Nat):Int)):=by rw[←w1];rfl
  rw[Cg];simp only[hk,aR,x0,x1,x2,x4,x5,x6,x7,ldj,e0,e1,e2,e4,e5,e6,e7,e4',o6,o11,o25,r2,r13,r22,vn,AB,LC,LD,GI,lk,ixw,lw,tJ,B7,s1',s2',cp,Yp,st0,ad,Option.ag,az,if_true];exact ih
def sL (W s:List (BitVec 32)):List (BitVec 32):=List.zipWith (·+·) s (we W 0 64 s)
theorem NV {b i:Nat} {H:Hp} {Z:List PV} {x y:BitVec 32} {s:List (BitVec 32)} (hi:i<8) (base n0:Nat) (hg:ay H b=some Z) (hz:Z[i]?=some (uV x)) (hs:s[i]?=some y) (hl:s.length=8) :
  tP base n0 (.int .i64 (i:Int)) (.ptr b 0) (.agg (aT s)) H=tP base n0 (.int .i64 ((i+1:Nat):Int)) (.ptr b 0) (.agg (aT s)) (aC H b (.cells (Z.set i (uV (x+y))))):=by
 have hk:binOp .lss (.int .i64 (i:Int)) (.int .i64 8)=some (.bool true):=by
  show some (PV.bool (decide ((i:Int)<8)))=_;rw[decide_eq_true (by omega)]
 have w1:IntKind.i64.wrap ((i:Int)+1)=((i+1:Nat):Int):=fm i (by omega);have ad:binOp .add (.int .i64 (i:Int)) (.int .i64 1)=some (.int .i64 ((i+1:Nat):Int)):=by rw[←w1];rfl
 have ia:sx 1 false 8 (.agg (aT s)) (.int .i64 (i:Int))=some (uV y):=by
  rw[u9,iZ .i64 i 8 hi,Option.ag,yX,Nat.mul_one,je,hs];rfl
 have nk:aF (.ptr b 0)=some (.ptr b 0):=rfl;have fb:aA (.ptr b 0) 0=some (.ptr b 0):=rfl;have ip:=HM 1 b 0 i 8 hi;rw[Nat.zero_add,Nat.mul_one]at ip;have ld:ax 1 false (.ptr b i) H=some (uV x):=by rw[dL hg,hz]
 have st:aS base 1 (.ptr b i) (uV (x+y)) H=some (aC H b (.cells (Z.set i (uV (x+y))))):=by
  have hlt:i<Z.length:=by
   rcases Nat.lt_or_ge i Z.length with q | q
   ·exact q
   ·rw[List.getElem?_eq_none q]at hz;cases hz
  rw[dz,hg,Option.ag,if_pos ⟨rfl,by omega,rfl,fun _=>rfl⟩];have:(if b<base then aO (uV (x+y)).cells else(uV (x+y)).cells)=[uV (x+y)]:=by split<;>rfl
  rw[this];rfl
 rw[Ch];simp only[hk,aR,ia,nk,fb,ip,ld,st,ad,AB,Option.ag]
def TY (w s:List (BitVec 32)):Nat→Nat→List PV→List PV
 | 0,_,Z=>Z
 | n+1,i,Z=>TY w s n (i+1) (Z.set i (uV (w.getD i 0+s.getD i 0)))
theorem Co {b:Nat} {H:Hp} {w s:List (BitVec 32)} (hb:b<size H) (hs:s.length=8) (base n0:Nat):∀ (n i:Nat) (Z:List PV),i+n=8→(∀ j,i≤j→j<8→Z[j]?=some (uV (w.getD j 0))) →
  tP base n0 (.int .i64 (i:Int)) (.ptr b 0) (.agg (aT s)) (aC H b (.cells Z))=bg false false n0 [] (aC H b (.cells (TY w s n i Z)))
 | 0,i,Z,hi,_=>by
  obtain rfl:i=8:=by omega
  rw[Ch,show binOp .lss (.int .i64 ((8:Nat):Int)) (.int .i64 8)=some (.bool false) from rfl,Option.ag,aL];rfl
 | n+1,i,Z,hi,hz=>by
  have hsi:s[i]?=some (s.getD i 0):=by rw[List.getD_eq_getElem?_getD,List.getElem?_eq_getElem (by omega)];rfl
  rw[NV (by omega) base n0 (fV hb) (hz i (Nat.le_refl _) (by omega)) hsi hs,fN];exact Co hb hs base n0 n (i+1) _ (by omega) fun j h1 h2=>by rw[List.getElem?_set_ne (by omega)];exact hz j (by omega) h2
theorem LK {w s:List (BitVec 32)} {R:List PV} (hw:w.length=8) (hs:s.length=8):TY w s 8 0 (aT w++R)=aT (List.zipWith (·+·) w s)++R:=by
 obtain⟨a,c,d,e,f,g,i,k,rfl⟩ : ∃ a b c d e f g k,w=[a,b,c,d,e,f,g,k]:=by
  match w,hw with
  | [a,b,c,d,e,f,g,k],_=>exact⟨a,b,c,d,e,f,g,k,rfl⟩
 obtain⟨a',c',d',e',f',g',i',k',rfl⟩ : ∃ a b c d e f g k,s=[a,b,c,d,e,f,g,k]:=by
  match s,hs with
  | [a,b,c,d,e,f,g,k],_=>exact⟨a,b,c,d,e,f,g,k,rfl⟩
 rfl
theorem Ra {w:List (BitVec 32)} {R:List PV} {j:Nat} (hj:j<w.length):(aT w++R)[j]?=some (uV (w.getD j 0)):=by
 rw[List.getElem?_append_left (by rw[bY];exact hj),je,List.getD_eq_getElem?_getD,List.getElem?_eq_getElem hj];rfl
theorem J7 {b:Nat} {w:List (BitVec 32)} {r:List UInt8} {L:List PV} (base:Nat) (hw:w.length=8) (hr:r.length=64) (hg:ay h b=some (aT w++(aP r++L))) :
  ai T base 112 [.ptr b 0] h=some (.cC [],aC h b (.cells (aT (sL (sched r 64) w)++(aP r++L)))):=by
 have hb:=bw (bq hg);have hsp:=GJ (h:=h) (b:=b) (off:=8) (blk:=r) hg (fun i hi=>by
  rw[List.getElem?_append_right (by rw[bY];omega),bY,hw,Nat.add_sub_cancel_left,List.getElem?_append_left (by rw[aM];omega),pZ,List.getD_eq_getElem?_getD,List.getElem?_eq_getElem (by omega)];rfl) (size h)
 have hl:(aT (sched r 64)).length=64:=by rw[bY,gS]
 have z64:(rep 64 (.int .u32 0)).length=64:=by simp[rep]
 have z8:(rep 8 (.int .u32 0)).length=8:=by simp[rep]
 have hld:ax 8 true (.ptr b 0) (ext h [.cells (aT (sched r 64))])=some (.agg (aT w)):=by
  rw[ek,aX hb,hg,Option.ag,ES,if_pos (by simp[bY];omega),List.drop_zero,List.take_left' (by rw[bY,hw])]
 have h1:aS (size h) 64 (.ptr (size h) 0) (.agg (aT (sched r 64))) (ext h [.cells (rep 64 (.int .u32 0))])=some (ext h [.cells (aT (sched r 64))]):=by
  rw[jf aQ (Nat.le_refl _) z64 hl (kN _),eF]
 have h2:aS (size h) 8 (.ptr (size h+1) 0) (.agg (aT w)) (ext h [.cells (aT (sched r 64)),.cells (rep 8 (.int .u32 0))])=some (ext h [.cells (aT (sched r 64)),.cells (aT w)]):=by
  rw[jf (J6 _ _) (by omega) z8 (by rw[bY,hw]) (kN _),Yz]
 have hlp:=Cn (h:=h) (W:=sched r 64) (gS _ _) (.ptr b 0) 64 0 w rfl hw;have hend:tO (size h) (size h) (.int .i64 64) (.ptr (size h+1) 0) (.ptr (size h) 0) (.ptr b 0) (ext h [.cells (aT (sched r 64)),.cells (aT (we (sched r 64) 0 64 w))])=some (.cC [],aC h b (.cells (aT (sL (sched r 64) w)++(aP r++L)))):=by
  have hrl:=sK (sched r 64) 64 0 w hw;rw[Cg,show binOp .lss (.int .i64 64) (.int .i64 64)=some (.bool false) from rfl,Option.ag,aL,ry (J6 _ _) (by rw[bY,hrl]),Option.ag];have abo:ext h [.cells (aT (sched r 64)),.cells (aT (we (sched r 64) 0 64 w))]=aC (ext h [.cells (aT (sched r 64)),.cells (aT (we (sched r 64) 0 64 w))]) b (.cells (aT w++(aP r++L))):=by
   rw[aaD hb,ju (bq hg)]
  rw[abo];have:=Co (b:=b) (H:=ext h [.cells (aT (sched r 64)),.cells (aT (we (sched r 64) 0 64 w))]) (w:=w) (s:=we (sched r 64) 0 64 w) (by rw[aW];omega) hrl (size h) (size h) 8 0 (aT w++(aP r++L)) rfl (fun j _ hj=>Ra (by omega));rw[LK hw hrl]at this;refine this.trans ?_;rw[aaD hb,bZ];simp only[fM,Option.ag];rw[yT];rfl
 rw[aml];have n1:aF (.ptr b 0)=some (.ptr b 0):=rfl;have f8:aA (.ptr b 0) 8=some (.ptr b 8):=rfl;have f0:aA (.ptr b 0) 0=some (.ptr b 0):=rfl;have sz:size (ext h [.cells (aT (sched r 64))])=size h+1:=by rw[aW];rfl
 simp only[n1,f8,f0,Option.ag,hsp,az,eo,h1,hld,sz,fz,List.cons_append,List.nil_append,h2];exact hlp.trans hend
end Go.Am.Qd
namespace Go.Am.Qd
variable {h:Hp}
def Nf (o:Own):Prop:=o=.no∨o=.full
theorem sM (l:List UInt8) (a n:Nat):((aP l).drop a).take n=aP ((l.drop a).take n):=by simp[aP]
theorem slc {o:Own} (l:List UInt8) {lo hi:Option PV} {a b:Nat} (ha:oY b 0 lo=some a) (hb:oY l.length l.length hi=some b):∃ o',Nf o'∧cZ (some 1) lo hi none (.sl o 1 (aP l))=some (.sl o' 1 (aP ((l.drop a).take (b-a)))):=by
 rw[B5];simp only[aM,hb,ha,Option.ag,sM];exact⟨_,by unfold Nf;split<;>simp,rfl⟩
theorem aul {o:Own} (l:List UInt8) {a b:Nat} (ha:a≤b) (hb:b≤l.length):cZ (some 1) (some (.int .i64 (a:Int))) (some (.int .i64 (b:Int))) (some (.int .i64 (b:Int))) (.sl o 1 (aP l))=some (.sl .full 1 (aP ((l.drop a).take (b-a)))):=by
 simp only[cZ,if_true,jd,aM];rw[gQ _ _ _ hb,Option.ag,gQ _ _ _ (Nat.le_refl b),Option.ag,gQ _ _ _ ha,Option.ag];simp only[Option.isSome_some,beq_self_eq_true,Bool.and_self,if_true,sM]
theorem jQ {o:Own} (ho:Nf o) (l:List UInt8):Rd h (.sl o 1 (aP l)) l:=(vm ho l).rd (.inl rfl)
/-! ### DD out of bytes -/
def NW:List UInt8→Nat→Nat→BitVec 32→BitVec 32
 | l,k,0,x=>x
 | l,k,m+1,x=>NW l (k+1) m (x ||| ((l.getD k 0).toBitVec.setWidth 32) <<< (8*k))
def jk (l:List UInt8):BitVec 32:=NW l 0 4 0#32
theorem amD (c:UInt8):PV.int .u32 (IntKind.u32.wrap (c.toNat:Int))=uV (c.toBitVec.setWidth 32):=by
 have:=Q3 c;rw[nE]at this;exact Option.some.inj this
theorem GL (base:Nat) {v:PV} {l:List UInt8} (hv:Rd h v l) (hl:4≤l.length):∀ (m k:Nat) (x:BitVec 32),k+m=4 →
  LA base (size h) (.int .i64 k) v (uV x) h=some (.cC [uV (NW l k m x),.bool true],h)
 | 0,k,x,hk=>by
  have hd:decide ((k:Int)<4)=false:=by simp;omega
  rw[GC];simp only[hd,NW,↓jV,jX,jY,jZ,simprocAttr,if_true,if_false,implies_true,forall_const];rw[show gW (size h) h (uV x)=some (uV x) from rfl];simp only[↓jV,jX,jY,jZ,simprocAttr,if_true,if_false,implies_true,forall_const]<;>rfl
 | m+1,k,x,hk=>by
  have hd:decide ((k:Int)<4)=true:=by simp;omega
  have hkl:k<l.length:=by omega
  obtain⟨a,a1,a2⟩:=hv.rd .i64 k l[k] (List.getElem?_eq_getElem hkl);have e1:((8:Nat):Int)=8:=rfl;have hw:=DE 8 k (by omega);rw[e1]at hw;have h1:=LF .i64 (l[k].toBitVec.setWidth 32) (8*k) (by omega);have ih:=GL base hv hl m (k+1) (x ||| (l[k].toBitVec.setWidth 32) <<< (8*k)) (by omega);have hg:l.getD k 0=l[k]:=by simp[hkl]
  rw[GC];simp (disch:=omega) only[hd,a1,a2,Q3,hw,amD,h1,TT,fm,ih,NW,hg,↓jV,jX,jY,jZ,simprocAttr,if_true,if_false,implies_true,forall_const]
theorem rz (base:Nat) {v:PV} {l:List UInt8} (hv:Rd h v l) (hl:4≤l.length):ai T base 93 [v] h=some (.cC [uV (jk l),.bool true],h):=by
 have hq:=GL (size h) hv hl 4 0 0#32 rfl;simp only[show((0:Nat):Int)=0 from rfl,show uV 0#32=.int .u32 0 from rfl]at hq;have hd:decide (((l.length:Nat):Int)<4)=false:=by simp;omega
 rw[S93];simp only[hv.len,hd,hq,jk,↓jV,jX,jY,jZ,simprocAttr,if_true,if_false,implies_true,forall_const]
def lK (l:List UInt8):Bool:=decide (4≤l.length)&&jk (l.drop (l.length-4)) == mJ (l.take (l.length-4))
theorem NX (base:Nat) {o:Own} (ho:Nf o) (l:List UInt8) (hl:l.length≤1000000):∃ x,ai T base 92 [.sl o 1 (aP l)] h=some (.cC [x,.bool (lK l)],h)∧(lK l=true→x=.sl (if l.length-4=0 then .full else .no) 1 (aP (l.take (l.length-4)))):=by
 by_cases h4:4≤l.length
 ·have hd:decide (((l.length-4:Nat):Int)<0)=false:=by simp
  have b0:oY l.length l.length none=some l.length:=rfl;have b1:oY l.length 0 (some (.int .i64 ((l.length-4:Nat):Int)))=some (l.length-4):=(jd _ _ _).trans (gQ _ .i64 _ (by omega));have b2:oY l.length l.length (some (.int .i64 ((l.length-4:Nat):Int)))=some (l.length-4):=(jd _ _ _).trans (gQ _ .i64 _ (by omega));have b3:oY (l.length-4) 0 none=some 0:=rfl;obtain⟨o1,p1,s1⟩:=slc (o:=o) l b1 b0;obtain⟨o2,p2,s2⟩:=slc (o:=o) l b3 b2;have e1:(l.drop (l.length-4)).take (l.length-(l.length-4))=l.drop (l.length-4):=by rw[List.take_of_length_le (by simp)]
  have e2:(l.drop 0).take (l.length-4-0)=l.take (l.length-4):=by simp
  rw[e1]at s1;rw[e2]at s2;have hg:=fun b=>rz (h:=h) b (jQ p1 (l.drop (l.length-4))) (by simp;omega)
  have hs:=fun b=>Q4 (h:=h) b (jQ p2 (l.take (l.length-4))) (by simp;omega)
  have hc:=fun b=>Ax (h:=h) (v:=.sl o2 1 (aP (l.take (l.length-4)))) b rfl (jQ p2 _).el (by simp;omega)
  have YA:lK l=(jk (l.drop (l.length-4)) == mJ (l.take (l.length-4))):=by simp[lK,h4]
  cases hq:(jk (l.drop (l.length-4)) == mJ (l.take (l.length-4))) with
  | false =>
   have hn:(jk (l.drop (l.length-4)) != mJ (l.take (l.length-4)))=true:=by rw[bne,hq];rfl
   refine⟨.bn,?_,by rw[YA,hq];simp⟩;rw[YA,hq,S92];simp (disch:=omega) only[fA,aM,Qp,hd,s1,s2,hg,hs,LG,hn,bL,↓jV,jX,jY,jZ,simprocAttr,if_true,if_false,implies_true,forall_const]
  | true =>
   have hn:(jk (l.drop (l.length-4)) != mJ (l.take (l.length-4)))=false:=by rw[bne,hq];rfl
   refine⟨_,?_,fun _=>rfl⟩;rw[YA,hq,S92]
   by_cases h0:l.length-4=0
   ·have ht:l.take (l.length-4)=[]:=by rw[h0];rfl
    simp only[ht,if_true]at hc;rw[if_pos h0,ht];rw[ht]at s2 hs hn;simp (disch:=omega) only[fA,aM,Qp,hd,s1,s2,hg,hs,LG,hn,hc,bL,↓jV,jX,jY,jZ,simprocAttr,if_true,if_false,implies_true,forall_const]<;>rfl
   ·have ht:¬ l.take (l.length-4)=[]:=by
     intro hq2;have:=congrArg List.length hq2;simp at this;omega
    simp only[ht,if_false]at hc;rw[if_neg h0];have hfz:=LB (h:=h) (g:=ext h [.cells (aP (l.take (l.length-4)))]) (size h) (l.take (l.length-4)) (Nat.le_refl _) (by rw[aQ];rfl);have hbl:=(vm (.inl rfl) (l.take (l.length-4))).below;simp (disch:=omega) only[fA,aM,Qp,hd,s1,s2,hg,hs,LG,hn,hc,bZ,fM,hfz,hbl,bL,cH,↓jV,jX,jY,jZ,simprocAttr,if_true,if_false,implies_true,forall_const]
 ·have hlt:IntKind.i64.wrap ((l.length:Int)-4)=(l.length:Int)-4:=wrap_small (by omega) (by omega)
  have hd:decide (((l.length:Nat):Int)-4<0)=true:=by simp;omega
  have YA:lK l=false:=by simp[lK,h4]
  refine⟨.bn,?_,by rw[YA];simp⟩;rw[YA,S92];simp only[fA,aM,hlt,hd,↓jV,jX,jY,jZ,simprocAttr,if_true,if_false,implies_true,forall_const]
end Go.Am.Qd
namespace Go.Am.Qd
variable {h:Hp}
/-! ### The plain jA -/
def eP:List (BitVec 32):=[1779033703,3144134277,1013904242,2773480762,1359893119,2600822924,528734635,1541459225]
def ws (l:List UInt8):Nat→List (BitVec 32)
 | 0=>eP
 | k+1=>sL (sched ((l.drop (64*k)).take 64) 64) (ws l k)
theorem J8 (l:List UInt8):∀ k,(ws l k).length=8
 | 0=>rfl
 | k+1=>by
  have h1:=J8 l k;simp[ws,sL,sK _ 64 0 _ h1,h1]
theorem J9 (l m:List UInt8):∀ k,64*k≤l.length→ws (l++m) k=ws l k
 | 0,_=>rfl
 | k+1,hk=>by
  rw[ws,ws,J9 l m k (by omega),List.drop_append_of_le_length (by omega),List.take_append_of_le_length (by rw[List.length_drop];omega)]
structure Hs (w:List (BitVec 32)) (r:List UInt8) (l:List UInt8):Prop where
 hw:w=ws l (l.length / 64)
 hr:r.length=64
 he:r.take (l.length % 64)=l.drop (64*(l.length / 64))
theorem Hs.wl {w r l} (x:Hs w r l):w.length=8:=by rw[x.hw];exact J8 _ _
def patch (r:List UInt8) (a:Nat) (x:List UInt8):List UInt8:=r.take a++x++r.drop (a+x.length)
theorem tS {r:List UInt8} {a:Nat} {x:List UInt8} (hr:a+x.length≤r.length):(patch r a x).length=r.length:=by simp[patch];omega
theorem Hs.part {w r l} (x:Hs w r l) {b:List UInt8} (hb:l.length % 64+b.length<64):Hs w (patch r (l.length % 64) b) (l++b):=by
 have hd:(l++b).length / 64=l.length / 64:=by rw[List.length_append];omega
 have hm:(l++b).length % 64=l.length % 64+b.length:=by rw[List.length_append];omega
 refine⟨by rw[hd,J9 _ _ _ (by omega)];exact x.hw,by rw[tS (by rw[x.hr];omega)];exact x.hr,?_⟩;rw[hd,hm,patch,List.drop_append_of_le_length (by omega),←x.he,List.take_left' (by simp[x.hr];omega)]
theorem Hs.full {w r l} (x:Hs w r l) {b:List UInt8} (hb:l.length % 64+b.length=64):Hs (sL (sched (patch r (l.length % 64) b) 64) w) (patch r (l.length % 64) b) (l++b):=by
 have hd:(l++b).length / 64=l.length / 64+1:=by rw[List.length_append];omega
 have hm:(l++b).length % 64=0:=by rw[List.length_append];omega
 have hp:patch r (l.length % 64) b=((l++b).drop (64*(l.length / 64))).take 64:=by
  rw[List.drop_append_of_le_length (by omega),←x.he,patch,hb,List.drop_of_length_le (by rw[x.hr];exact Nat.le_refl _),List.append_nil];exact(List.take_of_length_le (by rw[List.length_append,List.length_take,x.hr];omega)).symm
 refine⟨?_,by rw[tS (by rw[x.hr];omega)];exact x.hr,?_⟩
 ·rw[hd,ws,J9 _ _ _ (by omega),←x.hw,←hp]
 ·rw[hm,hd,List.take_zero,List.drop_of_length_le (by rw[List.length_append];omega)]
/-! ### The struct in its box -/
def hC (w:List (BitVec 32)) (r:List UInt8) (n:Nat):List PV:=aT w++(aP r++[.int .i64 (n:Int)])
theorem DO {w r n} (hw:w.length=8) (hr:r.length=64):(hC w r n).length=73:=by simp[hC,bY,aM,hw,hr]
theorem abp {w r n} (hw:w.length=8) (hr:r.length=64):(hC w r n)[72]?=some (.int .i64 (n:Int)):=by
 rw[hC,List.getElem?_append_right (by rw[bY];omega),bY,hw,List.getElem?_append_right (by rw[aM];omega),aM,hr];rfl
theorem XN {w r n} {m:Nat} (hw:w.length=8) (hr:r.length=64):(hC w r n).set 72 (.int .i64 (m:Int))=hC w r m:=by
 rw[hC,List.set_append_right _ _ (by rw[bY];omega),bY,hw,List.set_append_right _ _ (by rw[aM];omega),aM,hr];rfl
theorem nP:∀ (v a c:List PV) (k:Nat),bE (a++c) (a.length+k) v=a++bE c k v
 | [],_,_,_=>rfl
 | x::v,a,c,k=>by
  rw[fY,fY,List.set_append_right _ _ (by omega),Nat.add_sub_cancel_left,Nat.add_assoc];exact nP v a _ (k+1)
theorem qL:∀ (v a c:List PV) (k:Nat),k+v.length≤a.length→bE (a++c) k v=bE a k v++c
 | [],_,_,_,_=>rfl
 | x::v,a,c,k,hk=>by
  have hk':k+(v.length+1)≤a.length:=hk;rw[fY,fY,List.set_append_left _ _ (by omega)];exact qL v _ c (k+1) (by rw[List.length_set];omega)
theorem Rb {w r n a} {x:List UInt8} (hw:w.length=8) (hr:r.length=64) (ha:a+x.length≤64):bE (hC w r n) (8+a) (aP x)=hC w (patch r a x) n:=by
 have:8=(aT w).length:=by rw[bY,hw]
 rw[hC,this,nP,qL _ _ _ _ (by rw[aM,aM];omega),pJ _ _ _ (by omega)];rfl
theorem gJ (l:List UInt8):(aP l).all scalar=true:=by
 induction l with
 | nil=>rfl
 | cons a l ih=>show(scalar (.int .u8 a.toNat)&&(aP l).all scalar)=true;rw[ih];rfl
theorem sN (l:List UInt8) (n:Nat):(aP l).take n=aP (l.take n):=by simp[aP]
theorem mu (n:Nat) (l:List UInt8):belows n (aP l)=true:=by
 induction l with
 | nil=>rfl
 | cons a l ih=>show belows n (.int .u8 a.toNat::aP l)=true;rw[iN,ih];rfl
theorem Re (n:Nat):binOp .rem (.int .i64 (n:Int)) (.int .i64 64)=some (.int .i64 ((n % 64:Nat):Int)):=by
 show some (PV.int .i64 ((n:Int).tmod 64))=_;rw[Int.tmod_eq_emod_of_nonneg (by omega)];rfl
theorem Ka (base:Nat) {k:Nat} (hk:k<size h):∀ (m:Nat) (w:List (BitVec 32)) (r l b:List UInt8) (o:Own),Nf o→b.length≤m→Hs w r l→l.length+b.length≤4611686018427387904 →
  ∃ w' r',Hs w' r' (l++b)∧GA base (size h) (.ptr k 0) (.sl o 1 (aP b)) (aC h k (.cells (hC w r l.length)))=some (.cC [],aC h k (.cells (hC w' r' (l++b).length))):=by
 intro m
 induction m with
 | zero =>
  intro w r l b o ho hm x hl;obtain rfl:b=[]:=List.eq_nil_of_length_eq_zero (by omega);refine⟨w,r,by rw[List.append_nil];exact x,?_⟩;rw[GB,fA,Option.ag,show binOp .gtr (.int .i64 ((aP []).length:Int)) (.int .i64 0)=some (.bool false) from rfl,Option.ag,aL,bZ];simp only[fM,Option.ag,List.append_nil];rw[BK];rfl
 | succ m ih =>
  intro w r l b o ho hm x hl
  by_cases hb:b=[]
  ·subst hb
   exact ih w r l [] o ho (by simp) x hl
  have hpos:0<b.length:=List.length_pos_iff.2 hb;have e0:cG false (.sl o 1 (aP b))=some (.int .i64 (b.length:Int)):=by rw[fA,aM]
  have e1:binOp .gtr (.int .i64 (b.length:Int)) (.int .i64 0)=some (.bool true):=by
   show some (PV.bool (decide ((b.length:Int) > 0)))=_;rw[decide_eq_true (by omega)]
  have e2:aF (.ptr k 0)=some (.ptr k 0):=rfl;have e3:aA (.ptr k 0) 72=some (.ptr k 72):=rfl;have e4:aA (.ptr k 0) 8=some (.ptr k 8):=rfl;have hw:=x.wl;have gk:∀ X:List PV,ay (aC h k (.cells X)) k=some X:=fun X=>fV hk
  have ld:∀ (w':List (BitVec 32)) (r':List UInt8) (n:Nat),w'.length=8→r'.length=64→ax 1 false (.ptr k 72) (aC h k (.cells (hC w' r' n)))=some (.int .i64 (n:Int)):=fun w' r' n h1 h2=>by
   rw[dL (gk _),abp h1 h2]
  have l1:=ld w r l.length hw x.hr;have rm:=Re l.length;have sl1:HF 1 64 (.ptr k 8) (some (.int .i64 ((l.length % 64:Nat):Int))) none (aC h k (.cells (hC w r l.length)))=some (.bW true k (8+l.length % 64) (64-l.length % 64) 1,aC h k (.cells (hC w r l.length))):=by
   rw[xU,gk,Option.ag,if_pos (by rw[DO hw x.hr];omega),sG,Option.ag,Tf,if_pos (by omega),Option.ag,if_neg (by omega),Int.toNat_natCast,Nat.mul_one];rfl
  -- what is taken
  generalize hc:b.take (64-l.length % 64)=c;have Kb:c.length=min (64-l.length % 64) b.length:=by rw[←hc,List.length_take]
  have hbc:b=c++b.drop c.length:=by
   rw[Kb,←hc];rcases Nat.le_total (64-l.length % 64) b.length with q | q
   ·rw[Nat.min_eq_left q,List.take_append_drop]
   ·rw[Nat.min_eq_right q,List.take_of_length_le q,List.drop_of_length_le (Nat.le_refl _),List.append_nil]
  have cp:copyV base (.bW true k (8+l.length % 64) (64-l.length % 64) 1) (.sl o 1 (aP b)) (aC h k (.cells (hC w r l.length)))=some (.int .i64 (c.length:Int),aC h k (.cells (hC w (patch r (l.length % 64) c) l.length))):=by
   rw[kU,jP,Option.ag,gk,Option.ag,if_pos ⟨rfl,by rw[DO hw x.hr];omega,gJ _,fun _=>by rw[sN,mu]⟩,sN,hc,Rb hw x.hr (by omega),aM];show some (_,aC _ k (.cells _))=_;rw[fN,Kb,Nat.min_comm]
  obtain⟨o',ho',sc⟩:=slc (o:=o) b (lo:=some (.int .i64 (c.length:Int))) (hi:=none) (a:=c.length) (b:=b.length) (gQ b.length .i64 c.length (by omega)) rfl;have OD:(patch r (l.length % 64) c).length=64:=by rw[tS (by rw[x.hr];omega)];exact x.hr
  have l2:=ld w (patch r (l.length % 64) c) l.length hw OD;have ad:binOp .add (.int .i64 (l.length:Int)) (.int .i64 (c.length:Int))=some (.int .i64 ((l.length+c.length:Nat):Int)):=by
   show some (PV.int .i64 (IntKind.i64.wrap _))=_;rw[mI _ _ (by omega)]
  have ad2:binOp .add (.int .i64 ((l.length % 64:Nat):Int)) (.int .i64 (c.length:Int))=some (.int .i64 ((l.length % 64+c.length:Nat):Int)):=by
   show some (PV.int .i64 (IntKind.i64.wrap _))=_;rw[mI _ _ (by omega)]
  have st:aS base 1 (.ptr k 72) (.int .i64 ((l.length+c.length:Nat):Int)) (aC h k (.cells (hC w (patch r (l.length % 64) c) l.length)))=some (aC h k (.cells (hC w (patch r (l.length % 64) c) (l++c).length))):=by
   rw[dz,gk,Option.ag,if_pos ⟨rfl,by rw[DO hw OD];decide,rfl,fun _=>rfl⟩];have:(if k<base then aO (PV.int .i64 ((l.length+c.length:Nat):Int)).cells else(PV.int .i64 ((l.length+c.length:Nat):Int)).cells)=[.int .i64 ((l.length+c.length:Nat):Int)]:=by split<;>rfl
   rw[this,fY,rS,XN hw OD];show some (aC _ k (.cells _))=_;rw[fN,List.length_append]
  rw[GB];simp only[e0,e1,e2,e3,e4,l1,rm,tJ,sl1,cp,sc,l2,ad,ad2,st,Option.ag,az,aR];have hrest:(b.drop c.length).take (b.length-c.length)=b.drop c.length:=List.take_of_length_le (by rw[List.length_drop];omega);rw[hrest]
  by_cases hf:l.length % 64+c.length=64
  ·have eq:binOp .eql (.int .i64 ((l.length % 64+c.length:Nat):Int)) (.int .i64 64)=some (.bool true):=by rw[hf];rfl
   have x':=x.full hf;have ht:=J7 (h:=aC h k (.cells (hC w (patch r (l.length % 64) c) (l++c).length))) (b:=k) (w:=w) (r:=patch r (l.length % 64) c) (L:=[.int .i64 ((l++c).length:Int)]) base hw OD (gk _);rw[fN]at ht;rw[eq,Option.ag,aR,ht,az];obtain⟨w2,r2,x2,q2⟩:=ih _ _ (l++c) (b.drop c.length) o' ho' (by rw[List.length_drop];omega) x' (by rw[List.length_append,List.length_drop];omega);rw[List.append_assoc,←hbc]at x2 q2;exact⟨w2,r2,x2,q2⟩
  ·have eq:binOp .eql (.int .i64 ((l.length % 64+c.length:Nat):Int)) (.int .i64 64)=some (.bool false):=by
    show some (PV.bool (((l.length % 64+c.length:Nat):Int) == 64))=_;rw[show(((l.length % 64+c.length:Nat):Int) == 64)=false by simp;omega]
   have x':=x.part (b:=c) (by omega);rw[eq,Option.ag,aL];obtain⟨w2,r2,x2,q2⟩:=ih _ _ (l++c) (b.drop c.length) o' ho' (by rw[List.length_drop];omega) x' (by rw[List.length_append,List.length_drop];omega);rw[List.append_assoc,←hbc]at x2 q2;exact⟨w2,r2,x2,q2⟩
theorem GM (base:Nat) {k:Nat} (hk:k<size h) {w:List (BitVec 32)} {r l b:List UInt8} {o:Own} (ho:Nf o) (x:Hs w r l) (hl:l.length+b.length≤4611686018427387904) :
  ∃ w' r',Hs w' r' (l++b)∧ai T base 90 [.ptr k 0,.sl o 1 (aP b)] (aC h k (.cells (hC w r l.length)))=some (.cC [],aC h k (.cells (hC w' r' (l++b).length))):=by
 obtain⟨w2,r2,x2,q2⟩:=Ka (size h) hk b.length w r l b o ho (Nat.le_refl _) x hl;refine⟨w2,r2,x2,?_⟩;rw[S90,aJ];exact q2
end Go.Am.Qd
namespace Go.Am.Qd
variable {h:Hp}
theorem Kc (base:Nat):ai T base 89 [] h=some (.agg (aT eP),h):=by
 have hz:(rep 8 (PV.int .u32 0)).length=8:=rfl;have hb:dw (rep 8 (PV.int .u32 0)) [(0,1,(.int .u32 1779033703)),(1,1,(.int .u32 3144134277)),(2,1,(.int .u32 1013904242)),(3,1,(.int .u32 2773480762)),(4,1,(.int .u32 1359893119)),(5,1,(.int .u32 2600822924)),(6,1,(.int .u32 528734635)),(7,1,(.int .u32 1541459225))]=some (.agg (aT eP)):=rfl;rw[S89,eo,hb,Option.ag,jf aQ (Nat.le_refl _) hz (by rw[bY];rfl) (kN _),Option.ag,eF,AD aQ (by rw[bY];rfl),Option.ag,LI,cH]
def zero64:List UInt8:=List.replicate 64 0
theorem XO:Hs eP zero64 []:=⟨rfl,rfl,rfl⟩
theorem abq {w r n}:(hC w r n).all scalar=true:=by rw[hC,List.all_append,List.all_append,kN,gJ];rfl
theorem NY (base:Nat):ai T base 56 [] h=some (.ptr (size h) 0,ext h [.cells (hC eP zero64 0)]):=by
 have hb:dw (rep 8 (PV.int .u32 0)++rep 64 (PV.int .u8 0)++[PV.int .i64 0]) [(0,8,.agg (aT eP))]=some (.agg (hC eP zero64 0)):=rfl;have e:(PV.agg (hC eP zero64 0)).cells=hC eP zero64 0:=rfl;rw[S56,Kc,az,hb,Option.ag,qg,e,if_pos ⟨rfl,abq⟩,az,mZ];rfl
theorem adL {base k:Nat} {w r} {n:Nat} (hbs:base≤size h) (hw:w.length=8) (hr:r.length=64) (hg:ay h k=some (hC w r n)):ai T base 95 [.ptr k 0] h=some (.ptr (size h) 0,ext h [.cells (hC w r n)]):=by
 have e2:aF (.ptr k 0)=some (.ptr k 0):=rfl;have hz:(rep 8 (PV.int .u32 0)++rep 64 (PV.int .u8 0)++[PV.int .i64 0]).length=73:=rfl;rw[S95,e2,Option.ag,ry hg (DO hw hr),Option.ag,eo,jf aQ hbs hz (DO hw hr) abq,Option.ag,eF,mZ];rfl
/-! ### The padding -/
def rA (n:Nat):Nat:=if 64-n % 64<9 then 64-n % 64+64 else 64-n % 64
def oM (s:Nat):Nat→List UInt8
 | 0=>[]
 | i+1=>UInt8.ofNat (s >>> (8*i))::oM s i
theorem GN (s:Nat):∀ i,(oM s i).length=i
 | 0=>rfl
 | i+1=>by simp[oM,GN s i]
def TZ (n s i:Nat):List UInt8:=128::(List.replicate (n-1-i) 0++oM s i)
theorem Rf {n s i:Nat} (h:i+1≤n):(TZ n s i).length=n:=by simp[TZ,GN];omega
theorem aeZ {n s i:Nat} (h:i+2≤n):(TZ n s i).set (n-1-i) (UInt8.ofNat (s >>> (8*i)))=TZ n s (i+1):=by
 obtain⟨m,hm⟩ : ∃ m,n-1-i=m+1:=⟨n-2-i,by omega⟩;have h2:n-1-(i+1)=m:=by omega
 rw[TZ,TZ,hm,h2,List.set_cons_succ,List.replicate_succ',List.append_assoc,List.set_append_right _ _ (by rw[List.length_replicate];exact Nat.le_refl _),List.length_replicate,Nat.sub_self];rfl
def qM (n:Nat):List UInt8:=TZ (rA n) (8*n) 8
theorem adi (n:Nat):9≤rA n∧rA n≤72:=by unfold rA;split<;>omega
theorem FN (s i:Nat) (hi:i≤7):(binOp .shr (.int .u64 (s:Int)) (.int .i64 ((8*i:Nat):Int))).ah (fun x=>cu x .u8)=some (.int .u8 ((UInt8.ofNat (s >>> (8*i))).toNat:Int)):=by
 show(if(((8*i:Nat)):Int)<0 then none else some (PV.int .u64 ((s:Int).fdiv (2 ^ (min (((8*i:Nat)):Int).toNat 64))))).ah _=_;rw[if_neg (by omega),Option.ag,Int.toNat_natCast,Nat.min_eq_left (by omega)];show some (PV.int .u8 (IntKind.u8.wrap _))=some (PV.int .u8 _);congr 2;have h2:((s:Int).fdiv (2 ^ (8*i)))=((s >>> (8*i):Nat):Int):=by
  rw[Nat.shiftRight_eq_div_pow,Int.fdiv_eq_ediv_of_nonneg _ (Int.pow_nonneg (by omega))];simp
 rw[h2];simp only[IntKind.wrap,IntKind.signed,IntKind.bits,Bool.false_and,Bool.false_eq_true,if_false];simp
theorem acW (n s:Nat) (hn:9≤n) (hn2:n≤72):∀ (m i:Nat),i+m=8 →
  aeh (size h) (size h) (.int .i64 (i:Int)) (.int .u64 (s:Int)) (.int .i64 (n:Int)) (.bW true (size h) 0 n 1) (ext h [.cells (aP (TZ n s i))])=some (.sl .full 1 (aP (TZ n s 8)),h)
 | 0,i,hi=>by
  obtain rfl:i=8:=by omega
  rw[adF,show binOp .lss (.int .i64 ((8:Nat):Int)) (.int .i64 8)=some (.bool false) from rfl,Option.ag,aL,bZ];have hl:(aP (TZ n s 8)).length=n:=by rw[aM,Rf (by omega)]
  have hf:gW (size h) (ext h [.cells (aP (TZ n s 8))]) (.bW true (size h) 0 n 1)=some (.sl .full 1 (aP (TZ n s 8))):=by
   rw[xP,if_neg (by omega),aQ];show(rK 1 n ((aP (TZ n s 8)).drop 0)).ah _=_;have ht:(aP (TZ n s 8)).take n=aP (TZ n s 8):=List.take_of_length_le (by omega);have hq:n≤(aP (TZ n s 8)).length∧(aP (TZ n s 8)).all scalar=true:=⟨by omega,gJ _⟩;rw[List.drop_zero,lX,ht,nO,if_pos hq];rfl
  rw[ee,hf,Option.ag,jL,Option.ag,Option.ag,if_pos (by rw[iN,(vm (.inr rfl) _).below];rfl),cH];rfl
 | m+1,i,hi=>by
  have ih:=acW n s hn hn2 m (i+1) (by omega);have hk:binOp .lss (.int .i64 (i:Int)) (.int .i64 8)=some (.bool true):=by
   show some (PV.bool (decide ((i:Int)<8)))=_;rw[decide_eq_true (by omega)]
  have a1:binOp .sub (.int .i64 (n:Int)) (.int .i64 1)=some (.int .i64 ((n-1:Nat):Int)):=by
   show some (PV.int .i64 (IntKind.i64.wrap ((n:Int)-1)))=_;rw[wrap_small (by omega) (by omega)];congr 2;omega
  have a2:binOp .sub (.int .i64 ((n-1:Nat):Int)) (.int .i64 (i:Int))=some (.int .i64 ((n-1-i:Nat):Int)):=by
   show some (PV.int .i64 (IntKind.i64.wrap (((n-1:Nat):Int)-(i:Int))))=_;rw[wrap_small (by omega) (by omega)];congr 2;omega
  have a3:binOp .mul (.int .i64 8) (.int .i64 (i:Int))=some (.int .i64 ((8*i:Nat):Int)):=by
   show some (PV.int .i64 (IntKind.i64.wrap (8*(i:Int))))=_;rw[wrap_small (by omega) (by omega)];simp
  have w1:IntKind.i64.wrap ((i:Int)+1)=((i+1:Nat):Int):=fm i (by omega);have a4:binOp .add (.int .i64 (i:Int)) (.int .i64 1)=some (.int .i64 ((i+1:Nat):Int)):=by rw[←w1];rfl
  have sh:=FN s i (by omega);rw[Option.aa]at sh;obtain⟨y,y1,y2⟩:=sh;have ix:cX (.bW true (size h) 0 n 1) (.int .i64 ((n-1-i:Nat):Int)) 1=some (.ptr (size h) (n-1-i)):=by
   rw[tn,if_pos rfl,iZ .i64 (n-1-i) n (by omega),Option.ag,Nat.zero_add,Nat.mul_one]
  have st:aS (size h) 1 (.ptr (size h) (n-1-i)) (.int .u8 ((UInt8.ofNat (s >>> (8*i))).toNat:Int)) (ext h [.cells (aP (TZ n s i))])=some (ext h [.cells (aP (TZ n s (i+1)))]):=by
   rw[mK aQ (Nat.le_refl _) rfl rfl (by rw[aM,Rf (by omega)];omega),eF,←aeZ (by omega)];simp[aP,List.map_set]
  rw[adF];simp only[hk,a1,a2,a3,a4,y1,y2,ix,st,Option.ag,aR];exact ih
theorem api (N:Nat):List.flatten (List.replicate N [PV.int .u8 0])=aP (List.replicate N 0):=by
 rw[aP,List.map_replicate]
 induction N with
 | zero=>rfl
 | succ N ih=>rw[List.replicate_succ,List.flatten_cons,ih,List.replicate_succ];rfl
theorem aei (n:Nat) {k:Nat} {w r} (hn:n≤1152921504606846976) (N:Nat) (hN:N=rA n) (hw:w.length=8) (hr:r.length=64) (hg:ay h k=some (hC w r n)) :
  aeg (size h) (size h) (.int .i64 (N:Int)) (.ptr k 0) h=some (.sl .full 1 (aP (qM n)),h):=by
 have hp:=adi n;rw[←hN]at hp;have hb:=bw (bq hg);have mk:P5 5 [(.int .u8 0)] (.int .i64 (N:Int)) (.int .i64 (N:Int)) h=some (.bW true (size h) 0 N 1,ext h [.cells (aP (List.replicate N 0))]):=by
  rw[Qm,aeq _ _ _ (by unfold gy;omega),Option.ag,P3];have:List.flatten (List.replicate N [PV.int .u8 0])=aP (List.replicate N 0):=by
   exact api N
  rw[this];rfl
 have ix:cX (.bW true (size h) 0 N 1) (.int .i64 0) 1=some (.ptr (size h) 0):=by
  have:=iZ .i64 0 N (by omega);rw[tn,if_pos rfl,show(0:Int)=((0:Nat):Int) from rfl,this,Option.ag]
 have hx:(List.replicate N (0:UInt8)).set 0 128=TZ N (8*n) 0:=by
  obtain⟨m,rfl⟩ : ∃ m,N=m+1:=⟨N-1,by omega⟩;rw[TZ,List.replicate_succ,List.set_cons_zero];simp[oM]
 have st:aS (size h) 1 (.ptr (size h) 0) (.int .u8 128) (ext h [.cells (aP (List.replicate N 0))])=some (ext h [.cells (aP (TZ N (8*n) 0))]):=by
  rw[mK aQ (Nat.le_refl _) rfl rfl (by rw[aM,List.length_replicate];omega),eF,←hx];simp[aP,List.map_set]
 have e2:aF (.ptr k 0)=some (.ptr k 0):=rfl;have e3:aA (.ptr k 0) 72=some (.ptr k 72):=rfl;have ld:∀ X,ax 1 false (.ptr k 72) (ext h [.cells X])=some (.int .i64 (n:Int)):=fun X=>by
  rw[dL ((aX hb).trans hg),abp hw hr]
 have c1:cu (.int .i64 (n:Int)) .u64=some (.int .u64 (n:Int)):=by
  show some (PV.int .u64 (IntKind.u64.wrap (n:Int)))=_;congr 2;simp only[IntKind.wrap,IntKind.signed,IntKind.bits,Bool.false_and,Bool.false_eq_true,if_false];omega
 have c2:binOp .mul (.int .u64 (n:Int)) (.int .u64 8)=some (.int .u64 ((8*n:Nat):Int)):=by
  show some (PV.int .u64 (IntKind.u64.wrap ((n:Int)*8)))=_;congr 2;simp only[IntKind.wrap,IntKind.signed,IntKind.bits,Bool.false_and,Bool.false_eq_true,if_false];omega
 have hl:=acW (h:=h) N (8*n) hp.1 hp.2 8 0 rfl;simp only[show((0:Nat):Int)=0 from rfl]at hl;rw[aeX];simp only[mk,ix,st,e2,e3,ld,c1,c2,Option.ag,az];rw[hl,hN];rfl
theorem aez (base:Nat) (n:Nat) {k:Nat} {w r} (hn:n≤1152921504606846976) (hw:w.length=8) (hr:r.length=64) (hg:ay h k=some (hC w r n)) :
  ai T base 96 [.ptr k 0] h=some (.sl .full 1 (aP (qM n)),h):=by
 have e2:aF (.ptr k 0)=some (.ptr k 0):=rfl;have e3:aA (.ptr k 0) 72=some (.ptr k 72):=rfl;have ld:ax 1 false (.ptr k 72) h=some (.int .i64 (n:Int)):=by rw[dL hg,abp hw hr]
 have a1:binOp .sub (.int .i64 64) (.int .i64 ((n % 64:Nat):Int))=some (.int .i64 ((64-n % 64:Nat):Int)):=by
  show some (PV.int .i64 (IntKind.i64.wrap (64-((n % 64:Nat):Int))))=_;rw[wrap_small (by omega) (by omega)];congr 2;omega
 rw[S96];simp only[e2,e3,ld,Re,a1,Option.ag]
 by_cases hc:64-n % 64<9
 ·have b1:binOp .lss (.int .i64 ((64-n % 64:Nat):Int)) (.int .i64 9)=some (.bool true):=by
   show some (PV.bool (decide (((64-n % 64:Nat):Int)<9)))=_;rw[decide_eq_true (by omega)]
  have b2:binOp .add (.int .i64 ((64-n % 64:Nat):Int)) (.int .i64 64)=some (.int .i64 ((64-n % 64+64:Nat):Int)):=by
   show some (PV.int .i64 (IntKind.i64.wrap (((64-n % 64:Nat):Int)+64)))=_;rw[wrap_small (by omega) (by omega)];congr 2
  rw[b1,Option.ag,aR,b2,Option.ag];exact aei n hn _ (by unfold rA;rw[if_pos hc]) hw hr hg
 ·have b1:binOp .lss (.int .i64 ((64-n % 64:Nat):Int)) (.int .i64 9)=some (.bool false):=by
   show some (PV.bool (decide (((64-n % 64:Nat):Int)<9)))=_;rw[decide_eq_false (by omega)]
  rw[b1,Option.ag,aL];exact aei n hn _ (by unfold rA;rw[if_neg hc]) hw hr hg
end Go.Am.Qd
namespace Go.Am.Qd
variable {h:Hp}
def jB (w:List (BitVec 32)):List UInt8:=w.flatMap fun x=>[dK x 3,dK x 2,dK x 1,dK x 0]
def Rg (l:List UInt8):List UInt8:=jB (ws (l++qM l.length) ((l++qM l.length).length / 64))
theorem AE {w:List (BitVec 32)} (hw:w.length=8):(jB w).length=32:=by
 have:∀ l:List (BitVec 32),(jB l).length=4*l.length:=by
  intro l;induction l with
  | nil=>rfl
  | cons a l ih=>rw[jB,List.flatMap_cons,List.length_append,←jB,ih];simp;omega
 rw[this,hw]
theorem kP (l:List UInt8):(Rg l).length=32:=AE (J8 _ _)
theorem xV (l:List UInt8) (i:Nat) (x:UInt8):(aP l).set i (.int .u8 (x.toNat:Int))=aP (l.set i x):=by simp[aP,List.map_set]
theorem g3c {h:Hp} (X Y:gT) (Z:List PV):ay (ext h [X,Y,.cells Z]) (size h+2)=some Z:=by rw[eZ];rfl
theorem s3c {h:Hp} (X Y Z W:gT):aC (ext h [X,Y,Z]) (size h+2) W=ext h [X,Y,W]:=by rw[ez (by omega)];simp
theorem g3a {h:Hp} (X:List PV) (Y Z:gT):ay (ext h [.cells X,Y,Z]) (size h)=some X:=by rw[aQ];rfl
theorem s3a {h:Hp} (X Y Z W:gT):aC (ext h [X,Y,Z]) (size h) W=ext h [W,Y,Z]:=by rw[ez (Nat.le_refl _)];simp
def aeA (Z:List UInt8) (i:Nat) (x:BitVec 32):List UInt8:=(((Z.set (4*i) (dK x 3)).set (4*i+1) (dK x 2)).set (4*i+2) (dK x 1)).set (4*i+3) (dK x 0)
theorem abh (X Y:gT) {i j:Nat} (hi:i<8) (hj:j<4) (x:BitVec 32) (s:PV) {Z:List UInt8} (hz:Z.length=32) :
  acN (size h) (size h) (.int .i64 (j:Int)) (.ptr (size h+2) 0) (uV x) (.int .i64 (i:Int)) s (.ptr (size h) 0) (.int .i64 (i:Int)) (ext h [X,Y,.cells (aP Z)])
  = acN (size h) (size h) (.int .i64 ((j+1:Nat):Int)) (.ptr (size h+2) 0) (uV x) (.int .i64 (i:Int)) s (.ptr (size h) 0) (.int .i64 (i:Int)) (ext h [X,Y,.cells (aP (Z.set (4*i+j) (dK x (3-j))))]):=by
 have hk:binOp .lss (.int .i64 (j:Int)) (.int .i64 4)=some (.bool true):=by
  show some (PV.bool (decide ((j:Int)<4)))=_;rw[decide_eq_true (by omega)]
 have a1:binOp .mul (.int .i64 4) (.int .i64 (i:Int))=some (.int .i64 ((4*i:Nat):Int)):=by
  show some (PV.int .i64 (IntKind.i64.wrap (4*(i:Int))))=_;rw[wrap_small (by omega) (by omega)];simp
 have a2:binOp .add (.int .i64 ((4*i:Nat):Int)) (.int .i64 (j:Int))=some (.int .i64 ((4*i+j:Nat):Int)):=by
  show some (PV.int .i64 (IntKind.i64.wrap (((4*i:Nat):Int)+(j:Int))))=_;rw[wrap_small (by omega) (by omega)];simp
 have a3:binOp .mul (.int .i64 8) (.int .i64 (j:Int))=some (.int .i64 ((8*j:Nat):Int)):=by
  show some (PV.int .i64 (IntKind.i64.wrap (8*(j:Int))))=_;rw[wrap_small (by omega) (by omega)];simp
 have a4:binOp .sub (.int .i64 24) (.int .i64 ((8*j:Nat):Int))=some (.int .i64 ((8*(3-j):Nat):Int)):=by
  show some (PV.int .i64 (IntKind.i64.wrap (24-((8*j:Nat):Int))))=_;rw[wrap_small (by omega) (by omega)];congr 2;omega
 have w1:IntKind.i64.wrap ((j:Int)+1)=((j+1:Nat):Int):=fm j (by omega);have a5:binOp .add (.int .i64 (j:Int)) (.int .i64 1)=some (.int .i64 ((j+1:Nat):Int)):=by rw[←w1];rfl
 have a6:=vo .i64 x (8*(3-j)) (by omega);have a7:cu (uV (x >>> (8*(3-j)))) .u8=some (.int .u8 ((dK x (3-j)).toNat:Int)):=to8 _;have ix:=HM 1 (size h+2) 0 (4*i+j) 32 (by omega);rw[Nat.zero_add,Nat.mul_one]at ix;have st:=mK (base:=size h) (b:=size h+2) (off:=4*i+j) (x:=.int .u8 ((dK x (3-j)).toNat:Int)) (g3c (h:=h) X Y (aP Z)) (by omega) rfl rfl (by rw[aM];omega);rw[xV,s3c]at st;rw[adB];simp only[hk,a1,a2,a3,a4,a5,a6,a7,ix,st,Option.ag,aR]
theorem ae0 (X Y:gT) {i:Nat} (hi:i<8) (x:BitVec 32) (s:PV) {Z:List UInt8} (hz:Z.length=32) :
  acN (size h) (size h) (.int .i64 0) (.ptr (size h+2) 0) (uV x) (.int .i64 (i:Int)) s (.ptr (size h) 0) (.int .i64 (i:Int)) (ext h [X,Y,.cells (aP Z)])
  = adz (size h) (size h) (.ptr (size h+2) 0) (.int .i64 ((i+1:Nat):Int)) s (.ptr (size h) 0) (ext h [X,Y,.cells (aP (aeA Z i x))]):=by
 have w1:IntKind.i64.wrap ((i:Int)+1)=((i+1:Nat):Int):=fm i (by omega);have a5:binOp .add (.int .i64 (i:Int)) (.int .i64 1)=some (.int .i64 ((i+1:Nat):Int)):=by rw[←w1];rfl
 have q0:=abh (h:=h) X Y (j:=0) hi (by omega) x s hz;have q1:=abh (h:=h) X Y (j:=1) hi (by omega) x s (Z:=Z.set (4*i+0) (dK x (3-0))) (by simp[hz]);have q2:=abh (h:=h) X Y (j:=2) hi (by omega) x s (Z:=(Z.set (4*i+0) (dK x (3-0))).set (4*i+1) (dK x (3-1))) (by simp[hz]);have q3:=abh (h:=h) X Y (j:=3) hi (by omega) x s (Z:=((Z.set (4*i+0) (dK x (3-0))).set (4*i+1) (dK x (3-1))).set (4*i+2) (dK x (3-2))) (by simp[hz]);have:=q0.trans (q1.trans (q2.trans q3));refine this.trans ?_;rw[adB,show binOp .lss (.int .i64 ((3+1:Nat):Int)) (.int .i64 4)=some (.bool false) from rfl,Option.ag,aL,a5,Option.ag];rfl
def outs (w:List (BitVec 32)):Nat→Nat→List UInt8→List UInt8
 | 0,_,Z=>Z
 | n+1,i,Z=>outs w n (i+1) (aeA Z i (w.getD i 0))
theorem adM (X:List PV) (Y:gT) {w:List (BitVec 32)} (hw:w.length=8) (hX:X.length=32):∀ (n i:Nat) (Z:List UInt8),i+n=8→Z.length=32 →
  adz (size h) (size h) (.ptr (size h+2) 0) (.int .i64 (i:Int)) (.agg (aT w)) (.ptr (size h) 0) (ext h [.cells X,Y,.cells (aP Z)])=some (.agg (aP (outs w n i Z)),h)
 | 0,i,Z,hi,hz=>by
  obtain rfl:i=8:=by omega
  have hl:(aP Z).length=32:=by rw[aM,hz]
  have hf:gW (size h) (ext h [.cells (aP Z),Y,.cells (aP Z)]) (.agg (aP Z))=some (.agg (aP Z)):=by
   have:∀ (l:List UInt8) (n:Nat) (H:Hp),fM n H (aP l)=some (aP l):=by
    intro l n H;induction l with
    | nil=>rfl
    | cons a l ih=>show fM n H (.int .u8 a.toNat::aP l)=_;rw[fM,ih];rfl
   rw[C3,this];rfl
  rw[adA,show binOp .lss (.int .i64 ((8:Nat):Int)) (.int .i64 8)=some (.bool false) from rfl,Option.ag,aL,ry (g3c _ _ _) hl,Option.ag,jf (g3a _ _ _) (Nat.le_refl _) hX hl (gJ _),Option.ag,s3a,AD (g3a _ _ _) hl,Option.ag,bZ,ee,hf,Option.ag,jL,Option.ag,Option.ag,if_pos (by rw[iN];show(belows _ (aP Z)&&_)=true;rw[mu];rfl),cH];rfl
 | n+1,i,Z,hi,hz=>by
  have ih:=adM X Y hw hX n (i+1) (aeA Z i (w.getD i 0)) (by omega) (by simp[aeA,hz]);have hk:binOp .lss (.int .i64 (i:Int)) (.int .i64 8)=some (.bool true):=by
   show some (PV.bool (decide ((i:Int)<8)))=_;rw[decide_eq_true (by omega)]
  have ia:sx 1 false 8 (.agg (aT w)) (.int .i64 (i:Int))=some (uV (w.getD i 0)):=by
   rw[u9,iZ .i64 i 8 (by omega),Option.ag,yX,Nat.mul_one,je,List.getD_eq_getElem?_getD,List.getElem?_eq_getElem (by omega)];rfl
  rw[adA,hk,Option.ag,aR,ia,Option.ag,ae0 _ _ (by omega) _ _ hz];exact ih
theorem ae1 {P Q:List UInt8} {a b c d:UInt8} {i:Nat} (hP:P.length=4*i) (x:BitVec 32):aeA (P++a::b::c::d::Q) i x=(P++[dK x 3,dK x 2,dK x 1,dK x 0])++Q:=by
 unfold aeA;rw[←hP,List.set_append_right _ _ (Nat.le_refl _),Nat.sub_self,List.set_append_right _ _ (by omega),Nat.add_sub_cancel_left,List.set_append_right _ _ (by omega),Nat.add_sub_cancel_left,List.set_append_right _ _ (by omega),Nat.add_sub_cancel_left,List.append_assoc];rfl
theorem aej (w:List (BitVec 32)):∀ (n i:Nat) (P:List UInt8),i+n=w.length→P.length=4*i→outs w n i (P++List.replicate (4*n) 0)=P++jB (w.drop i)
 | 0,i,P,hi,_=>by
  rw[List.drop_of_length_le (by omega)];rfl
 | n+1,i,P,hi,hP=>by
  have e:List.replicate (4*(n+1)) (0:UInt8)=0::0::0::0::List.replicate (4*n) 0:=by
   rw[show 4*(n+1)=4*n+1+1+1+1 by omega,List.replicate_succ,List.replicate_succ,List.replicate_succ,List.replicate_succ]
  rw[outs,e,ae1 hP,aej w n (i+1) _ (by omega) (by simp[hP];omega),List.append_assoc,List.drop_eq_getElem_cons (show i<w.length by omega),jB,jB,List.flatMap_cons,List.getD_eq_getElem?_getD,List.getElem?_eq_getElem (show i<w.length by omega)];rfl
theorem ahk {w:List (BitVec 32)} (hw:w.length=8):outs w 8 0 (List.replicate 32 0)=jB w:=by
 have:=aej w 8 0 [] (by omega) rfl;rwa [List.nil_append,List.nil_append,List.drop_zero]at this
theorem acX (base:Nat) {k:Nat} {w:List (BitVec 32)} {r l:List UInt8} (x:Hs w r l) (hl:l.length≤1000000000) (hg:ay h k=some (hC w r l.length)) :
  ai T base 61 [.ptr k 0] h=some (.agg (aP (Rg l)),h):=by
 have hb:=bw (bq hg);have hz:(rep 32 (.int .u8 0))=aP (List.replicate 32 0):=XJ 32;have hc:=adL (h:=ext h [.cells (aP (List.replicate 32 0))]) (base:=size h) (by rw[aW];omega) x.wl x.hr ((aX hb).trans hg);rw[aW,fz]at hc;have ht:=aez (h:=ext h [.cells (aP (List.replicate 32 0)),.cells (hC w r l.length)]) (size h) l.length (by omega) x.wl x.hr ((aX hb).trans hg);have hp:=adi l.length;have htl:(qM l.length).length=rA l.length:=Rf (by omega);obtain⟨w2,r2,x2,q2⟩:=GM (h:=ext h [.cells (aP (List.replicate 32 0)),.cells (hC w r l.length)]) (size h) (k:=size h+1) (by rw[aW];show size h+1<size h+2;omega) (o:=.full) (.inr rfl) x (b:=qM l.length) (by omega);rw[Yz,Yz]at q2;have e2:aF (.ptr (size h+1) 0)=some (.ptr (size h+1) 0):=rfl;have e3:aA (.ptr (size h+1) 0) 0=some (.ptr (size h+1) 0):=rfl;have ld:∀ Z:List PV,ax 8 true (.ptr (size h+1) 0) (ext h [.cells (aP (List.replicate 32 0)),.cells (hC w2 r2 (l++qM l.length).length),.cells Z])=some (.agg (aT w2)):=fun Z=>by
  rw[ek,eZ];show(some (hC w2 r2 (l++qM l.length).length)).ah _=_;rw[Option.ag,ES,if_pos (by rw[DO x2.wl x2.hr];decide),List.drop_zero,hC,List.take_left' (by rw[bY,x2.wl])]
 have sz:size (ext h [.cells (aP (List.replicate 32 0)),.cells (hC w2 r2 (l++qM l.length).length)])=size h+2:=by rw[aW];rfl
 have ol:=adM (h:=h) (aP (List.replicate 32 0)) (.cells (hC w2 r2 (l++qM l.length).length)) x2.wl (by rw[aM];rfl) 8 0 (List.replicate 32 0) rfl rfl;simp only[show((0:Nat):Int)=0 from rfl]at ol;rw[ahk x2.wl,x2.hw]at ol;have lst:[gT.cells (aP (List.replicate 32 0))].length=1:=rfl;rw[lst]at hc;rw[S61,hz,eo,hc,az];simp only[List.cons_append,List.nil_append];rw[ht,az,q2,az,eo,sz,fz,e2,Option.ag,e3,Option.ag];simp only[List.cons_append,List.nil_append];rw[ld,Option.ag,x2.hw];exact ol
end Go.Am.Qd
namespace Go.Am.Qd
variable {h:Hp}
def e8:PV:=.sl .full 1 []
theorem ge8:gZ 1 e8:=.inr rfl
theorem Rh (k:Hp) (T:Nat) (es:List PV):∃ g,gH k T es=ext k g:=by
 unfold gH;split
 ·exact⟨[],by simp[ext]⟩
 ·exact⟨_,rfl⟩
theorem DP (c:UInt8):(cF 1 false [(.int .u8 0)] 1 [(0,strip (.int .u8 (c.toNat:Int)))])=some (.sl .full 1 [.int .u8 (c.toNat:Int)]):=rfl
theorem amG:(cF 1 false [(.int .u8 0)] 1 [(0,strip (.int .u8 0))])=some (.sl .full 1 [.int .u8 (((0:UInt8).toNat:Nat):Int)]):=rfl
theorem LL {k:Hp} (out:List UInt8) (c:UInt8) (hl:out.length+1≤1000000):qE 5 1 (gV k e8 1 (aP out)) (.sl .full 1 [.int .u8 (c.toNat:Int)]) (gH k 5 (aP out))=some (gV k e8 1 (aP (out++[c])),gH k 5 (aP (out++[c]))):=by
 rw[pE,jP,Option.ag,af6 ge8 out c (by unfold gy;omega)]
theorem len8 {k:Hp} (out:List UInt8):cG false (gV k e8 1 (aP out))=some (.int .i64 (out.length:Int)):=by rw[WH ge8,aM]
section
variable {v:PV} {l:List UInt8} (hv:∀ g,Rd (ext h g) v l) (hl:l.length≤900000) (x0:PV) (Z:gT)
include hv hl
theorem abr:∀ (m i:Nat),i+m=l.length→Lr (size h) (size h) (.int .i64 (i:Int)) v (gV (ext h [Z]) e8 1 (aP (l.take i))) x0 (gH (ext h [Z]) 5 (aP (l.take i)))
  = Gh (size h) (size h) (gV (ext h [Z]) e8 1 (aP (l++[128]))) x0 v (gH (ext h [Z]) 5 (aP (l++[128])))
 | 0,i,hi=>by
  obtain rfl:i=l.length:=by omega
  have hn:=(hv []).len;have hk:binOp .lss (.int .i64 (l.length:Int)) (.int .i64 (l.length:Int))=some (.bool false):=by
   show some (PV.bool (decide ((l.length:Int)<(l.length:Int))))=_;rw[decide_eq_false (by omega)]
  rw[Gk,hn,Option.ag,hk,Option.ag,aL,show(PV.int .u8 128)=.int .u8 (((128:UInt8).toNat:Nat):Int) from rfl,DP,Option.ag,List.take_length,LL _ _ (by omega),az]
 | m+1,i,hi=>by
  have ih:=abr m (i+1) (by omega);have hn:=(hv []).len;have hk:binOp .lss (.int .i64 (i:Int)) (.int .i64 (l.length:Int))=some (.bool true):=by
   show some (PV.bool (decide ((i:Int)<(l.length:Int))))=_;rw[decide_eq_true (by omega)]
  have hlt:i<l.length:=by omega
  obtain⟨g,hg⟩:=Rh (ext h [Z]) 5 (aP (l.take i));rw[fz]at hg;obtain⟨a,a1,a2⟩:=(hv ([Z]++g)).rd .i64 i l[i] (List.getElem?_eq_getElem hlt);rw[←hg]at a2;have w1:IntKind.i64.wrap ((i:Int)+1)=((i+1:Nat):Int):=fm i (by omega);have a5:binOp .add (.int .i64 (i:Int)) (.int .i64 1)=some (.int .i64 ((i+1:Nat):Int)):=by rw[←w1];rfl
  rw[Gk,hn,Option.ag,hk,Option.ag,aR,a1,Option.ag,a2,Option.ag,DP,Option.ag,LL _ _ (by rw[List.length_take];omega),az,a5,Option.ag,List.take_append_getElem hlt];exact ih
theorem abt:∀ (m:Nat) (X:List UInt8),m≤63→(X.length+m) % 64=56→X.length+m≤950000→Gh (size h) (size h) (gV (ext h [Z]) e8 1 (aP X)) x0 v (gH (ext h [Z]) 5 (aP X))
  = vj (size h) (size h) (.int .i64 7) (.int .u64 ((8*l.length:Nat):Int)) (gV (ext h [Z]) e8 1 (aP (X++List.replicate m 0))) x0 (gH (ext h [Z]) 5 (aP (X++List.replicate m 0)))
 | 0,X,_,hm,hX=>by
  have hk:binOp .neq (.int .i64 ((X.length % 64:Nat):Int)) (.int .i64 56)=some (.bool false):=by
   rw[show X.length % 64=56 by simpa using hm];rfl
  have c1:cu (.int .i64 (l.length:Int)) .u64=some (.int .u64 (l.length:Int)):=by
   show some (PV.int .u64 (IntKind.u64.wrap (l.length:Int)))=_;congr 2;simp only[IntKind.wrap,IntKind.signed,IntKind.bits,Bool.false_and,Bool.false_eq_true,if_false];omega
  have c2:binOp .mul (.int .u64 (l.length:Int)) (.int .u64 8)=some (.int .u64 ((8*l.length:Nat):Int)):=by
   show some (PV.int .u64 (IntKind.u64.wrap ((l.length:Int)*8)))=_;congr 2;simp only[IntKind.wrap,IntKind.signed,IntKind.bits,Bool.false_and,Bool.false_eq_true,if_false];omega
  rw[Gl,len8,Option.ag,Re,Option.ag,hk,Option.ag,aL,(hv []).len,Option.ag,c1,Option.ag,c2,Option.ag];simp only[List.replicate_zero,List.append_nil]
 | m+1,X,arP,hm,hX=>by
  have hk:binOp .neq (.int .i64 ((X.length % 64:Nat):Int)) (.int .i64 56)=some (.bool true):=by
   show some (PV.bool (!(((X.length % 64:Nat):Int) == 56)))=_;rw[show((((X.length % 64:Nat):Int)) == 56)=false by simp;omega];rfl
  have ih:=abt m (X++[0]) (by omega) (by simp;omega) (by simp;omega);rw[Gl,len8,Option.ag,Re,Option.ag,hk,Option.ag,aR,amG,Option.ag,LL _ _ (by omega),az,ih,List.append_assoc];rfl
omit hv hl
theorem abu (s:Nat):∀ (m:Nat) (X:List UInt8),m≤8→X.length+m≤960000→vj (size h) (size h) (.int .i64 ((m:Int)-1)) (.int .u64 (s:Int)) (gV (ext h [Z]) e8 1 (aP X)) x0 (gH (ext h [Z]) 5 (aP X))
  = vj (size h) (size h) (.int .i64 (-1)) (.int .u64 (s:Int)) (gV (ext h [Z]) e8 1 (aP (X++oM s m))) x0 (gH (ext h [Z]) 5 (aP (X++oM s m)))
 | 0,X,_,_=>by rw[oM,List.append_nil];rfl
 | m+1,X,hm,hX=>by
  have ih:=abu s m (X++[UInt8.ofNat (s >>> (8*m))]) (by omega) (by simp;omega);have e:(((m+1:Nat):Int)-1)=(m:Int):=by omega
  have hk:binOp .geq (.int .i64 (m:Int)) (.int .i64 0)=some (.bool true):=by
   show some (PV.bool (decide ((m:Int)≥0)))=_;rw[decide_eq_true (by omega)]
  have a3:binOp .mul (.int .i64 8) (.int .i64 (m:Int))=some (.int .i64 ((8*m:Nat):Int)):=by
   show some (PV.int .i64 (IntKind.i64.wrap (8*(m:Int))))=_;rw[wrap_small (by omega) (by omega)];simp
  have sh:=FN s m (by omega);rw[Option.aa]at sh;obtain⟨y,y1,y2⟩:=sh;have a4:binOp .sub (.int .i64 (m:Int)) (.int .i64 1)=some (.int .i64 ((m:Int)-1)):=by
   show some (PV.int .i64 (IntKind.i64.wrap ((m:Int)-1)))=_;rw[wrap_small (by omega) (by omega)]
  rw[e,Gm,hk,Option.ag,aR,a3,Option.ag,y1,Option.ag,y2,Option.ag,DP,Option.ag,LL _ _ (by omega),az,a4,Option.ag,ih,List.append_assoc];rfl
end
end Go.Am.Qd
namespace Go.Am.Qd
variable {h:Hp}
theorem Ri (a:BitVec 32) (n:Nat) (hn:n<4294967296):binOp .mul (uV a) (.int .u32 (n:Int))=some (uV (a*BitVec.ofNat 32 n)):=by
 show some (PV.int .u32 (IntKind.u32.wrap ((a.toNat:Int)*(n:Int))))=some (PV.int .u32 _);congr 2;rw[BitVec.toNat_mul,BitVec.toNat_ofNat,Nat.mod_eq_of_lt (show n<2 ^ 32 by omega)];simp only[IntKind.wrap,IntKind.signed,IntKind.bits,Bool.false_and,Bool.false_eq_true,if_false];simp
theorem Rj (a b c d:UInt8):((a.toBitVec.setWidth 32*BitVec.ofNat 32 16777216+b.toBitVec.setWidth 32*BitVec.ofNat 32 65536)+c.toBitVec.setWidth 32*BitVec.ofNat 32 256)+d.toBitVec.setWidth 32=Cm a b c d:=by
 apply BitVec.eq_of_toNat_eq;have la:=a.toNat_lt;have lb:=b.toNat_lt;have lc:=c.toNat_lt;have ld:=d.toNat_lt;have w:∀ x:UInt8,(x.toBitVec.setWidth 32).toNat=x.toNat:=fun x=>by
  rw[BitVec.toNat_setWidth];exact Nat.mod_eq_of_lt (by have:=x.toNat_lt;omega)
 have s:∀ (x:UInt8) (k:Nat),k≤24→(x.toBitVec.setWidth 32 <<< k).toNat=x.toNat*2 ^ k:=fun x k hk=>by
  have:=x.toNat_lt;have h2:2 ^ k≤2 ^ 24:=Nat.pow_le_pow_right (by omega) hk;rw[BitVec.toNat_shiftLeft,w,Nat.shiftLeft_eq,Nat.mod_eq_of_lt]
  calc x.toNat*2 ^ k≤255*2 ^ 24:=Nat.mul_le_mul (by omega) h2
   _<2 ^ 32:=by decide
 have o:∀ x y k:Nat,y<2 ^ k→(x*2 ^ k) ||| y=x*2 ^ k+y:=fun x y k hy=>by
  rw[←Nat.shiftLeft_eq,Nat.shiftLeft_add_eq_or_of_lt hy]
 unfold Cm;rw[BitVec.toNat_or,BitVec.toNat_or,BitVec.toNat_or,s a 24 (by omega),s b 16 (by omega),s c 8 (by omega),w,o a.toNat _ 24 (by omega),
  show a.toNat*2 ^ 24+b.toNat*2 ^ 16=(a.toNat*256+b.toNat)*2 ^ 16 by omega,o _ _ 16 (by omega),
  show(a.toNat*256+b.toNat)*2 ^ 16+c.toNat*2 ^ 8=((a.toNat*256+b.toNat)*256+c.toNat)*2 ^ 8 by omega,o _ _ 8 (by omega)]
 rw[BitVec.toNat_add,BitVec.toNat_add,BitVec.toNat_add,BitVec.toNat_mul,BitVec.toNat_mul,BitVec.toNat_mul,w,w,w,w];simp only[BitVec.toNat_ofNat];omega
theorem BD (base:Nat) (H:Hp) (x:BitVec 32) (n:Nat) (h1:1≤n) (h2:n≤31):gu (ai T base) 86 [uV x,.int .i64 (n:Int)] H=some (uV (ru x n),H):=by
 rw[gu,Q6 base x n h1 h2,Option.ag,forget,if_pos rfl]
section
variable {G:Hp} {base n0:Nat} (hbG:base≤size G) {all:List UInt8} (hall:all.length≤970000) {v3:PV} (DQ:∀ (i:Nat) (c:UInt8),all[i]?=some c→cX v3 (.int .i64 (i:Int)) 1=some (.ep [.int .u8 (c.toNat:Int)] 0))
 {fr:Nat} (hfr:fr+64≤all.length) (v7 v2:PV)
include hbG hall DQ hfr
theorem abv:∀ (n i:Nat),i+n=64→Ao base n0 (.int .i64 (i:Int)) (.ptr (size G) 0) (.int .i64 (fr:Int)) v3 v7 v2 (ext G [.cells (aT (wz ((all.drop fr).take 64) i))])
  = Ao base n0 (.int .i64 64) (.ptr (size G) 0) (.int .i64 (fr:Int)) v3 v7 v2 (ext G [.cells (aT (sched ((all.drop fr).take 64) 64))])
 | 0,i,hi=>by
  obtain rfl:i=64:=by omega
  rw[show wz ((all.drop fr).take 64) 64=sched ((all.drop fr).take 64) 64 by simp[wz]];rfl
 | n+1,i,hi=>by
  have hlt:i<64:=by omega
  have ih:=abv n (i+1) (by omega);generalize hblk:(all.drop fr).take 64=blk at *;have hk:binOp .lss (.int .i64 (i:Int)) (.int .i64 64)=some (.bool true):=by
   show some (PV.bool (decide ((i:Int)<64)))=_;rw[decide_eq_true (by omega)]
  have w1:IntKind.i64.wrap ((i:Int)+1)=((i+1:Nat):Int):=fm i (by omega);have a5:binOp .add (.int .i64 (i:Int)) (.int .i64 1)=some (.int .i64 ((i+1:Nat):Int)):=by rw[←w1];rfl
  have hw:=Q7 blk (i:=i) (by omega);have hst:=mK (base:=base) (b:=size G) (off:=i) (x:=uV (oo blk (sched blk i) i)) (aQ (h:=G) (x:=.cells (aT (wz blk i))) (l:=[])) hbG rfl rfl (by rw[bY];omega);rw[GH,Q9 blk hlt,eF]at hst;have XK:=HM 1 (size G) 0 i 64 hlt;rw[Nat.zero_add,Nat.mul_one]at XK
  by_cases HK:i<16
  ·have hk2:binOp .lss (.int .i64 (i:Int)) (.int .i64 16)=some (.bool true):=by
    show some (PV.bool (decide ((i:Int)<16)))=_;rw[decide_eq_true (by omega)]
   have m4:binOp .mul (.int .i64 4) (.int .i64 (i:Int))=some (.int .i64 ((4*i:Nat):Int)):=by
    show some (PV.int .i64 (IntKind.i64.wrap (4*(i:Int))))=_;rw[wrap_small (by omega) (by omega)];simp
   have af:binOp .add (.int .i64 (fr:Int)) (.int .i64 ((4*i:Nat):Int))=some (.int .i64 ((fr+4*i:Nat):Int)):=by
    show some (PV.int .i64 (IntKind.i64.wrap ((fr:Int)+((4*i:Nat):Int))))=_;rw[mI _ _ (by omega)]
   have ak:∀ k:Nat,k≤3→binOp .add (.int .i64 ((fr+4*i:Nat):Int)) (.int .i64 (k:Int))=some (.int .i64 ((fr+4*i+k:Nat):Int)):=fun k hk=>by
    show some (PV.int .i64 (IntKind.i64.wrap (((fr+4*i:Nat):Int)+(k:Int))))=_;rw[mI _ _ (by omega)]
   have a1:=ak 1 (by omega);have a2:=ak 2 (by omega);have a3:=ak 3 (by omega);simp only[show((1:Nat):Int)=1 from rfl,show((2:Nat):Int)=2 from rfl,show((3:Nat):Int)=3 from rfl]at a1 a2 a3;have GI:∀ k:Nat,k≤3→cX v3 (.int .i64 ((fr+4*i+k:Nat):Int)) 1=some (.ep [.int .u8 ((blk.getD (4*i+k) 0).toNat:Int)] 0):=fun k hk=>by
    have hg:all[fr+4*i+k]?=some (blk.getD (4*i+k) 0):=by
     rw[←hblk,List.getD_eq_getElem?_getD,List.getElem?_take_of_lt (by omega),List.getElem?_drop,←Nat.add_assoc,List.getElem?_eq_getElem (show fr+4*i+k<all.length by omega)];rfl
    exact DQ _ _ hg
   have i0:=GI 0 (by omega);have i1:=GI 1 (by omega);have i2:=GI 2 (by omega);have i3:=GI 3 (by omega);rw[Nat.add_zero,Nat.add_zero]at i0;have lep:∀ (x:PV) (H:Hp),ax 1 false (.ep [x] 0) H=some x:=fun _ _=>rfl
   have hn:oo blk (sched blk i) i=Cm (blk.getD (4*i) 0) (blk.getD (4*i+1) 0) (blk.getD (4*i+2) 0) (blk.getD (4*i+3) 0):=by unfold oo;rw[if_pos HK]
   rw[hn,←Rj]at hst;have m24:=fun a=>Ri a 16777216 (by omega);have m16:=fun a=>Ri a 65536 (by omega);have m8:=fun a=>Ri a 256 (by omega)
   simp only[show((16777216:Nat):Int)=16777216 from rfl,show((65536:Nat):Int)=65536 from rfl,show((256:Nat):Int)=256 from rfl]at m24 m16 m8;rw[Ap,hk,Option.ag,aR,hk2,Option.ag,aR];simp only[m4,af,a1,a2,a3,i0,i1,i2,i3,lep,Q3,m24,m16,m8,AB,XK,hst,a5,Option.ag];exact ih
  ·have hk2:binOp .lss (.int .i64 (i:Int)) (.int .i64 16)=some (.bool false):=by
    show some (PV.bool (decide ((i:Int)<16)))=_;rw[decide_eq_false (by omega)]
   have sk:∀ k:Nat,k≤16→binOp .sub (.int .i64 (i:Int)) (.int .i64 (k:Int))=some (.int .i64 ((i-k:Nat):Int)):=fun k hk=>by
    show some (PV.int .i64 (IntKind.i64.wrap ((i:Int)-(k:Int))))=_;rw[wrap_small (by omega) (by omega)];congr 2;omega
   have k15:=sk 15 (by omega);have k2:=sk 2 (by omega);have k16:=sk 16 (by omega);have k7:=sk 7 (by omega);simp only[show((15:Nat):Int)=15 from rfl,show((2:Nat):Int)=2 from rfl,show((16:Nat):Int)=16 from rfl,show((7:Nat):Int)=7 from rfl]at k15 k2 k16 k7;have GI:∀ k:Nat,aN 1 64 (.ptr (size G) 0) (.int .i64 ((i-k:Nat):Int))=some (.ptr (size G) (i-k)):=fun k=>by
    have:=HM 1 (size G) 0 (i-k) 64 (by omega);rwa [Nat.mul_one,Nat.zero_add]at this
   have LJ:∀ k:Nat,1≤k→k≤16→ax 1 false (.ptr (size G) (i-k)) (ext G [.cells (aT (wz blk i))])=some (uV ((sched blk i).getD (i-k) 0)):=fun k h1 h2=>by
    rw[dL aQ,Q8 blk (by omega)]
   have l15:=LJ 15 (by omega) (by omega);have l2:=LJ 2 (by omega) (by omega);have l16:=LJ 16 (by omega) (by omega);have l7:=LJ 7 (by omega) (by omega);have r7:=fun H x=>BD base H x 7 (by omega) (by omega);have r18:=fun H x=>BD base H x 18 (by omega) (by omega);have XF:=fun H x=>BD base H x 17 (by omega) (by omega);have r19:=fun H x=>BD base H x 19 (by omega) (by omega)
   simp only[show((7:Nat):Int)=7 from rfl,show((18:Nat):Int)=18 from rfl,show((17:Nat):Int)=17 from rfl,show((19:Nat):Int)=19 from rfl]at r7 r18 XF r19;have s3:=fun a=>vo .u64 a 3 (by omega);have s10:=fun a=>vo .u64 a 10 (by omega)
   simp only[show((3:Nat):Int)=3 from rfl,show((10:Nat):Int)=10 from rfl]at s3 s10;have hn:oo blk (sched blk i) i=(((sched blk i).getD (i-16) 0+sg0 ((sched blk i).getD (i-15) 0))+(sched blk i).getD (i-7) 0)+sg1 ((sched blk i).getD (i-2) 0):=by unfold oo;rw[if_neg HK]
   rw[hn]at hst;unfold sg0 sg1 at hst;rw[Ap,hk,Option.ag,aR,hk2,Option.ag,aL];simp only[k15,k2,k16,k7,GI,l15,l2,l16,l7,r7,r18,XF,r19,s3,s10,vn,AB,XK,hst,a5,Option.ag,az,if_true];exact ih
end
end Go.Am.Qd
namespace Go.Am.Qd
variable {h:Hp}
theorem abx {G:Hp} {base n0:Nat} (hbG:base≤size G) {W:List (BitVec 32)} (hW:W.length=64) (v7 v3 v2 v8:PV):∀ (n i:Nat) (s:List (BitVec 32)),i+n=64→s.length=8 →
  Gi base n0 (.int .i64 (i:Int)) (.ptr (size G+1) 0) (.ptr (size G) 0) v7 v3 v2 v8 (ext G [.cells (aT W),.cells (aT s)])
  = Gj base n0 (.int .i64 0) v7 (.ptr (size G+1) 0) v3 v2 v8 (ext G [.cells (aT W),.cells (aT (we W i n s))])
 | 0,i,s,hi,hs=>by
  obtain rfl:i=64:=by omega
  rw[Gq,show binOp .lss (.int .i64 ((64:Nat):Int)) (.int .i64 64)=some (.bool false) from rfl,Option.ag,aL];rfl
 | n+1,i,s,hi,hs=>by
  have hlt:i<64:=by omega
  obtain⟨a,b,c,d,e,f,g,k,rfl⟩ : ∃ a b c d e f g k,s=[a,b,c,d,e,f,g,k]:=by
   match s,hs with
   | [a,b,c,d,e,f,g,k],_=>exact⟨a,b,c,d,e,f,g,k,rfl⟩
  have ih:=abx (n0:=n0) hbG hW v7 v3 v2 v8 n (i+1) (rnd (ks.getD i 0) (W.getD i 0) [a,b,c,d,e,f,g,k]) (by omega) rfl;have hk:binOp .lss (.int .i64 (i:Int)) (.int .i64 64)=some (.bool true):=by
   show some (PV.bool (decide ((i:Int)<64)))=_;rw[decide_eq_true (by omega)]
  have w1:IntKind.i64.wrap ((i:Int)+1)=((i+1:Nat):Int):=fm i (by omega);have ad:binOp .add (.int .i64 (i:Int)) (.int .i64 1)=some (.int .i64 ((i+1:Nat):Int)):=by rw[←w1];rfl
  have lw:ax 1 false (.ptr (size G) i) (ext G [.cells (aT W),.cells (aT [a,b,c,d,e,f,g,k])])=some (uV (W.getD i 0)):=by
   rw[dL (g2a _ _),je,List.getD_eq_getElem?_getD,List.getElem?_eq_getElem (by rw[hW];exact hlt)];rfl
  have GI:=ixe KS i 64 hlt;have lk:=UU hlt (ext G [.cells (aT W),.cells (aT [a,b,c,d,e,f,g,k])]);have ixw:=HM 1 (size G) 0 i 64 hlt;rw[Nat.zero_add,Nat.mul_one]at ixw;have ixs:∀ j:Nat,j<8→aN 1 8 (.ptr (size G+1) 0) (.int .i64 (j:Int))=some (.ptr (size G+1) j):=fun j hj=>by
   have:=HM 1 (size G+1) 0 j 8 hj;rwa [Nat.mul_one,Nat.zero_add]at this
  have x0:=ixs 0 (by omega);have x1:=ixs 1 (by omega);have x2:=ixs 2 (by omega);have x3:=ixs 3 (by omega);have x4:=ixs 4 (by omega);have x5:=ixs 5 (by omega);have x6:=ixs 6 (by omega);have x7:=ixs 7 (by omega);simp only[show((0:Nat):Int)=0 from rfl,show((1:Nat):Int)=1 from rfl,show((2:Nat):Int)=2 from rfl,show((3:Nat):Int)=3 from rfl,show((4:Nat):Int)=4 from rfl,show((5:Nat):Int)=5 from rfl,show((6:Nat):Int)=6 from rfl,show((7:Nat):Int)=7 from rfl]at x0 x1 x2 x3 x4 x5 x6 x7;have ldj:∀ (j:Nat),ax 1 false (.ptr (size G+1) j) (ext G [.cells (aT W),.cells (aT [a,b,c,d,e,f,g,k])])=(aT [a,b,c,d,e,f,g,k])[j]?:=fun j=>dL (J6 _ _)
  have r2:=fun H x=>BD base H x 2 (by omega) (by omega);have r13:=fun H x=>BD base H x 13 (by omega) (by omega);have r22:=fun H x=>BD base H x 22 (by omega) (by omega)
  have r6:=fun H x=>BD base H x 6 (by omega) (by omega);have r11:=fun H x=>BD base H x 11 (by omega) (by omega);have r25:=fun H x=>BD base H x 25 (by omega) (by omega)
  simp only[show((2:Nat):Int)=2 from rfl,show((13:Nat):Int)=13 from rfl,show((22:Nat):Int)=22 from rfl,show((6:Nat):Int)=6 from rfl,show((11:Nat):Int)=11 from rfl,show((25:Nat):Int)=25 from rfl]at r2 r13 r22 r6 r11 r25;have e0:(aT [a,b,c,d,e,f,g,k])[0]?=some (uV a):=rfl;have e1:(aT [a,b,c,d,e,f,g,k])[1]?=some (uV b):=rfl;have e2:(aT [a,b,c,d,e,f,g,k])[2]?=some (uV c):=rfl;have e3:(aT [a,b,c,d,e,f,g,k])[3]?=some (uV d):=rfl;have e4:(aT [a,b,c,d,e,f,g,k])[4]?=some (uV e):=rfl;have e5:(aT [a,b,c,d,e,f,g,k])[5]?=some (uV f):=rfl;have e6:(aT [a,b,c,d,e,f,g,k])[6]?=some (uV g):=rfl;have e7:(aT [a,b,c,d,e,f,g,k])[7]?=some (uV k):=rfl;have bd:∀ y0 y1 y2 y3 y4 y5 y6 y7:BitVec 32,dw (rep 8 (.int .u32 0)) [(0,1,uV y0),(1,1,uV y1),(2,1,uV y2),(3,1,uV y3),(4,1,uV y4),(5,1,uV y5),(6,1,uV y6),(7,1,uV y7)]=some (.agg (aT [y0,y1,y2,y3,y4,y5,y6,y7])):=fun _ _ _ _ _ _ _ _=>rfl
  have sto:∀ y:List (BitVec 32),y.length=8→aS base 8 (.ptr (size G+1) 0) (.agg (aT y)) (ext G [.cells (aT W),.cells (aT [a,b,c,d,e,f,g,k])])=some (ext G [.cells (aT W),.cells (aT y)]):=fun y hy=>by
   rw[jf (J6 _ _) (by omega) (by rw[bY];rfl) (by rw[bY,hy]) (kN _),Yz]
  have amH:=fun y0 y1 y2 y3 y4 y5 y6 y7=>sto [y0,y1,y2,y3,y4,y5,y6,y7] rfl
  rw[Gq];simp only[hk,aR,x0,x1,x2,x3,x4,x5,x6,x7,ldj,e0,e1,e2,e3,e4,e5,e6,e7,r2,r13,r22,r6,r11,r25,vn,AB,LC,LD,GI,lk,ixw,lw,bd,amH,ad,Option.ag,az,if_true];exact ih
structure RI (h G:Hp) (k:Nat) (hs:List (BitVec 32)):Prop where
 ov:Ov h G
 res:ay G (size h)=some (aP (List.replicate 32 0))
 st:ay G k=some (aT hs)
 lt:size h<k
 l8:hs.length=8
theorem aby {G:Hp} {n0 base k:Nat} (hk:k<size G) (hbk:base≤k) {W s hs:List (BitVec 32)} (hs8:hs.length=8) (hsl:s.length=8) (v3 v2:PV) (fr:Nat) (hfr:fr≤970000):∀ (n i:Nat) (Z:List PV),i+n=8→(∀ j,i≤j→j<8→Z[j]?=some (uV (hs.getD j 0)))→Z.length=8 →
  Gj base n0 (.int .i64 (i:Int)) (.ptr k 0) (.ptr (size G+1) 0) v3 v2 (.int .i64 (fr:Int)) (ext (aC G k (.cells Z)) [.cells (aT W),.cells (aT s)])
  = qK base n0 (.int .i64 ((fr+64:Nat):Int)) v3 (.ptr k 0) v2 (ext (aC G k (.cells (TY hs s n i Z))) [.cells (aT W),.cells (aT s)])
 | 0,i,Z,hi,_,_=>by
  obtain rfl:i=8:=by omega
  have a:binOp .add (.int .i64 (fr:Int)) (.int .i64 64)=some (.int .i64 ((fr+64:Nat):Int)):=by
   show some (PV.int .i64 (IntKind.i64.wrap ((fr:Int)+64)))=_;rw[wrap_small (by omega) (by omega)];congr 2
  rw[Gr,show binOp .lss (.int .i64 ((8:Nat):Int)) (.int .i64 8)=some (.bool false) from rfl,Option.ag,aL,a,Option.ag];rfl
 | n+1,i,Z,hi,hz,hzl=>by
  have ih:=aby (n0:=n0) (W:=W) hk hbk hs8 hsl v3 v2 fr hfr n (i+1) (Z.set i (uV (hs.getD i 0+s.getD i 0))) (by omega) (fun j h1 h2=>by rw[List.getElem?_set_ne (by omega)];exact hz j (by omega) h2) (by rw[List.length_set,hzl]);have hk1:binOp .lss (.int .i64 (i:Int)) (.int .i64 8)=some (.bool true):=by
   show some (PV.bool (decide ((i:Int)<8)))=_;rw[decide_eq_true (by omega)]
  have w1:IntKind.i64.wrap ((i:Int)+1)=((i+1:Nat):Int):=fm i (by omega);have ad:binOp .add (.int .i64 (i:Int)) (.int .i64 1)=some (.int .i64 ((i+1:Nat):Int)):=by rw[←w1];rfl
  have ip:=HM 1 k 0 i 8 (by omega);have ip2:=HM 1 (size G+1) 0 i 8 (by omega);rw[Nat.zero_add,Nat.mul_one]at ip ip2;have gk:ay (ext (aC G k (.cells Z)) [.cells (aT W),.cells (aT s)]) k=some Z:=by
   rw[aX (by rw[aJ];exact hk),fV hk]
  have ld:ax 1 false (.ptr k i) (ext (aC G k (.cells Z)) [.cells (aT W),.cells (aT s)])=some (uV (hs.getD i 0)):=by rw[dL gk,hz i (Nat.le_refl _) (by omega)]
  have gs:ay (ext (aC G k (.cells Z)) [.cells (aT W),.cells (aT s)]) (size G+1)=some (aT s):=by
   have:=eZ (h:=aC G k (.cells Z)) (l:=[.cells (aT W),.cells (aT s)]) (n:=1);rw[aJ]at this;rw[this];rfl
  have lds:ax 1 false (.ptr (size G+1) i) (ext (aC G k (.cells Z)) [.cells (aT W),.cells (aT s)])=some (uV (s.getD i 0)):=by
   rw[dL gs,je,List.getD_eq_getElem?_getD,List.getElem?_eq_getElem (by omega)];rfl
  have st:=mK (base:=base) (x:=uV (hs.getD i 0+s.getD i 0)) gk hbk rfl rfl (show i<Z.length by omega);rw[aaD (by rw[aJ];exact hk),fN]at st;rw[Gr];simp only[hk1,aR,ip,ip2,ld,lds,st,ad,AB,Option.ag];exact ih
end Go.Am.Qd
namespace Go.Am.Qd
variable {h:Hp}
theorem GO:∀ (l:List (BitVec 32)) (q r:Nat),r<4→q<l.length→(jB l)[4*q+r]?=some (dK (l.getD q 0) (3-r))
 | [],q,_,_,hq=>by simp at hq
 | x::l,0,r,hr,_=>by
  rw[jB,List.flatMap_cons,List.getElem?_append_left (by simp;omega)]
  match r,hr with
  | 0,_=>rfl
  | 1,_=>rfl
  | 2,_=>rfl
  | 3,_=>rfl
 | x::l,q+1,r,hr,hq=>by
  rw[jB,List.flatMap_cons,List.getElem?_append_right (by simp;omega),show 4*(q+1)+r - [dK x 3,dK x 2,dK x 1,dK x 0].length=4*q+r by simp;omega];exact GO l q r hr (by simpa using hq)
section
variable {k:Nat} {all:List UInt8} (hall:all.length≤960000) {v3:PV} (hlen:cG false v3=some (.int .i64 (all.length:Int))) (DQ:∀ (i:Nat) (c:UInt8),all[i]?=some c→cX v3 (.int .i64 (i:Int)) 1=some (.ep [.int .u8 (c.toNat:Int)] 0)) (v2:PV)
include hall hlen DQ
theorem amI {G:Hp} {hs:List (BitVec 32)} (x:RI h G k hs) {fr:Nat} (hfr:fr+64≤all.length) :
  ∃ G',RI h G' k (sL (sched ((all.drop fr).take 64) 64) hs)∧qK (size h) (size h) (.int .i64 (fr:Int)) v3 (.ptr k 0) v2 G=qK (size h) (size h) (.int .i64 ((fr+64:Nat):Int)) v3 (.ptr k 0) v2 G':=by
 have hk:=bw (bq x.st);generalize hblk:(all.drop fr).take 64=blk;have hrl:=sK (sched blk 64) 64 0 hs x.l8;have gk:ay (ext (aC G k (.cells (aT (sL (sched blk 64) hs)))) [.cells (aT (sched blk 64)),.cells (aT (we (sched blk 64) 0 64 hs))]) k=some (aT (sL (sched blk 64) hs)):=by
  rw[aX (by rw[aJ];exact hk),fV hk]
 refine⟨_,⟨(x.ov.set (Nat.le_of_lt x.lt) _).ext _,?_,gk,x.lt,by simp[sL,hrl,x.l8]⟩,?_⟩
 ·rw[aX (by rw[aJ];exact bw (bq x.res)),bD (by have:=x.lt;omega)];exact x.res
 have hlt:binOp .lss (.int .i64 (fr:Int)) (.int .i64 (all.length:Int))=some (.bool true):=by
  show some (PV.bool (decide ((fr:Int)<(all.length:Int))))=_;rw[decide_eq_true (by omega)]
 have b64:dw (rep 64 (PV.int .u32 0)) []=some (.agg (rep 64 (.int .u32 0))):=rfl;have z64:rep 64 (PV.int .u32 0)=aT (List.replicate 64 0#32):=LH 64;have l64:(aT (List.replicate 64 0#32)).length=64:=by rw[bY];rfl
 have w0:aT (List.replicate 64 0#32)=aT (wz blk 0):=by simp[wz,sched]
 have Ba:aS (size h) 64 (.ptr (size G) 0) (.agg (aT (wz blk 0))) (ext G [.cells (aT (wz blk 0))])=some (ext G [.cells (aT (wz blk 0))]):=by
  rw[←w0,jf aQ x.ov.size l64 l64 (kN _),eF]
 have hD:=abv (G:=G) (base:=size h) (n0:=size h) x.ov.size (by omega) DQ hfr (.ptr k 0) v2 64 0 rfl;rw[hblk]at hD;simp only[show((0:Nat):Int)=0 from rfl]at hD;have ld8:ax 8 true (.ptr k 0) (ext G [.cells (aT (sched blk 64))])=some (.agg (aT hs)):=ry ((aX hk).trans x.st) (by rw[bY,x.l8]);have z8:(rep 8 (PV.int .u32 0)).length=8:=rfl;have sz:size (ext G [.cells (aT (sched blk 64))])=size G+1:=by rw[aW];rfl
 have UW:aS (size h) 8 (.ptr (size G+1) 0) (.agg (aT hs)) (ext G [.cells (aT (sched blk 64)),.cells (rep 8 (.int .u32 0))])=some (ext G [.cells (aT (sched blk 64)),.cells (aT hs)]):=by
  rw[jf (J6 _ _) (by have:=x.ov.size;omega) z8 (by rw[bY,x.l8]) (kN _),Yz]
 have hR:=abx (G:=G) (base:=size h) (n0:=size h) x.ov.size (gS blk 64) (.ptr k 0) v3 v2 (.int .i64 (fr:Int)) 64 0 hs rfl x.l8;simp only[show((0:Nat):Int)=0 from rfl]at hR;have hS:=aby (G:=G) (n0:=size h) (base:=size h) (W:=sched blk 64) (s:=we (sched blk 64) 0 64 hs) hk (Nat.le_of_lt x.lt) x.l8 hrl v3 v2 fr (by omega) 8 0 (aT hs) rfl (fun j _ hj=>by rw[je,List.getD_eq_getElem?_getD,List.getElem?_eq_getElem (by rw[x.l8];exact hj)];rfl) (by rw[bY,x.l8]);simp only[show((0:Nat):Int)=0 from rfl]at hS;rw[ju (bq x.st)]at hS;have ha:=LK (R:=[]) x.l8 hrl;rw[List.append_nil,List.append_nil]at ha;rw[ha]at hS;have e4:Ao (size h) (size h) (.int .i64 64) (.ptr (size G) 0) (.int .i64 (fr:Int)) v3 (.ptr k 0) v2 (ext G [.cells (aT (sched blk 64))])=Gi (size h) (size h) (.int .i64 0) (.ptr (size G+1) 0) (.ptr (size G) 0) (.ptr k 0) v3 v2 (.int .i64 (fr:Int)) (ext G [.cells (aT (sched blk 64)),.cells (aT hs)]):=by
  rw[Ap,show binOp .lss (.int .i64 64) (.int .i64 64)=some (.bool false) from rfl,Option.ag,aL,ld8,Option.ag,eo,sz,fz];simp only[List.cons_append,List.nil_append];rw[UW,Option.ag]
 rw[Gn,hlen,Option.ag,hlt,Option.ag,aR,b64,Option.ag,z64,eo,w0,Ba,Option.ag,hD,e4,hR,hS];rfl
theorem abB (HL:all.length % 64=0):∀ (n j:Nat) (G:Hp),j+n=all.length / 64→RI h G k (ws all j) →
  ∃ G',RI h G' k (ws all (all.length / 64))∧qK (size h) (size h) (.int .i64 ((64*j:Nat):Int)) v3 (.ptr k 0) v2 G=qK (size h) (size h) (.int .i64 (all.length:Int)) v3 (.ptr k 0) v2 G'
 | 0,j,G,hj,x=>by
  obtain rfl:j=all.length / 64:=by omega
  exact⟨G,x,by rw[show 64*(all.length / 64)=all.length by omega]⟩
 | n+1,j,G,hj,x=>by
  obtain⟨G1,x1,e1⟩:=amI hall hlen DQ v2 x (fr:=64*j) (by omega);obtain⟨G2,x2,e2⟩:=abB HL n (j+1) G1 (by omega) x1;exact⟨G2,x2,e1.trans e2⟩
omit hall hlen DQ
theorem abC {G:Hp} {hs:List (BitVec 32)} (x:RI h G k hs):∀ (n j:Nat),j+n=32 →
  Ls (size h) (size h) (.int .i64 (j:Int)) (.ptr (size G) 0) (.ptr k 0) (.ptr (size h) 0) (ext G [.cells (aP ((jB hs).take j++List.replicate (32-j) 0))])=some (.agg (aP (jB hs)),h)
 | 0,j,hj=>by
  obtain rfl:j=32:=by omega
  have hl:=AE x.l8;have hl2:(aP (jB hs)).length=32:=by rw[aM,hl]
  have e:(jB hs).take 32++List.replicate (32-32) 0=jB hs:=by rw[List.take_of_length_le (by omega)];simp
  have hlt:=bw (bq x.res);have g0:ay (ext G [.cells (aP (jB hs))]) (size h)=some (aP (List.replicate 32 0)):=(aX hlt).trans x.res;have st:=jf (base:=size h) (n:=32) g0 (Nat.le_refl _) (by rw[aM];rfl) hl2 (gJ _);rw[aaD hlt]at st;have g1:ay (ext (aC G (size h) (.cells (aP (jB hs)))) [.cells (aP (jB hs))]) (size h)=some (aP (jB hs)):=by
   rw[aX (by rw[aJ];exact hlt),fV hlt]
  have hf:∀ H,gW (size h) H (.agg (aP (jB hs)))=some (.agg (aP (jB hs))):=fun H=>by
   have:∀ (l:List UInt8) (n:Nat) (H:Hp),fM n H (aP l)=some (aP l):=by
    intro l n H;induction l with
    | nil=>rfl
    | cons a l ih=>show fM n H (.int .u8 a.toNat::aP l)=_;rw[fM,ih];rfl
   rw[C3,this];rfl
  have ov:Ov h (ext (aC G (size h) (.cells (aP (jB hs)))) [.cells (aP (jB hs))]):=(x.ov.set (Nat.le_refl _) _).ext _;rw[e,Gp,show binOp .lss (.int .i64 ((32:Nat):Int)) (.int .i64 32)=some (.bool false) from rfl,Option.ag,aL,ry aQ hl2,Option.ag,st,Option.ag,AD g1 hl2,Option.ag,bZ,ee,hf,Option.ag,jL,Option.ag,Option.ag,if_pos (by rw[iN];show(belows _ (aP _)&&_)=true;rw[mu];rfl),ov.bJ];rfl
 | n+1,j,hj=>by
  have ih:=abC x n (j+1) (by omega);have hl:=AE x.l8;have hk:=bw (bq x.st);have h1:binOp .lss (.int .i64 (j:Int)) (.int .i64 32)=some (.bool true):=by
   show some (PV.bool (decide ((j:Int)<32)))=_;rw[decide_eq_true (by omega)]
  have h2:binOp .quo (.int .i64 (j:Int)) (.int .i64 4)=some (.int .i64 ((j / 4:Nat):Int)):=by
   show some (PV.int .i64 (IntKind.i64.wrap ((j:Int).tdiv 4)))=_;rw[show(j:Int).tdiv 4=((j / 4:Nat):Int) by rw[Int.tdiv_eq_ediv_of_nonneg (by omega)];rfl,wrap_small (by omega) (by omega)]
  have h3:binOp .rem (.int .i64 (j:Int)) (.int .i64 4)=some (.int .i64 ((j % 4:Nat):Int)):=by
   show some (PV.int .i64 ((j:Int).tmod 4))=_;rw[Int.tmod_eq_emod_of_nonneg (by omega)];rfl
  have h4:binOp .mul (.int .i64 8) (.int .i64 ((j % 4:Nat):Int))=some (.int .i64 ((8*(j % 4):Nat):Int)):=by
   show some (PV.int .i64 (IntKind.i64.wrap (8*((j % 4:Nat):Int))))=_;rw[wrap_small (by omega) (by omega)];simp
  have h5:binOp .sub (.int .i64 24) (.int .i64 ((8*(j % 4):Nat):Int))=some (.int .i64 ((8*(3-j % 4):Nat):Int)):=by
   show some (PV.int .i64 (IntKind.i64.wrap (24-((8*(j % 4):Nat):Int))))=_;rw[wrap_small (by omega) (by omega)];congr 2;omega
  have w1:IntKind.i64.wrap ((j:Int)+1)=((j+1:Nat):Int):=fm j (by omega);have ad:binOp .add (.int .i64 (j:Int)) (.int .i64 1)=some (.int .i64 ((j+1:Nat):Int)):=by rw[←w1];rfl
  have ip:=HM 1 k 0 (j / 4) 8 (by omega);have ip2:=HM 1 (size G) 0 j 32 (by omega);rw[Nat.zero_add,Nat.mul_one]at ip ip2;have ld:∀ Z:List PV,ax 1 false (.ptr k (j / 4)) (ext G [.cells Z])=some (uV (hs.getD (j / 4) 0)):=fun Z=>by
   rw[dL ((aX hk).trans x.st),je,List.getD_eq_getElem?_getD,List.getElem?_eq_getElem (by rw[x.l8];omega)];rfl
  have a6:=vo .i64 (hs.getD (j / 4) 0) (8*(3-j % 4)) (by omega);have a7:cu (uV (hs.getD (j / 4) 0 >>> (8*(3-j % 4)))) .u8=some (.int .u8 ((dK (hs.getD (j / 4) 0) (3-j % 4)).toNat:Int)):=to8 _;have og:=GO hs (j / 4) (j % 4) (by omega) (by rw[x.l8];omega);rw[show 4*(j / 4)+j % 4=j by omega]at og;have hsx:((jB hs).take j++List.replicate (32-j) 0).set j (dK (hs.getD (j / 4) 0) (3-j % 4))=(jB hs).take (j+1)++List.replicate (32-(j+1)) 0:=by
   have hjl:j<(jB hs).length:=by omega
   rw[List.getElem?_eq_getElem hjl]at og;have og:=Option.some.inj og;rw[List.set_append_right _ _ (by rw[List.length_take];omega),List.length_take,Nat.min_eq_left (by omega),Nat.sub_self,show 32-j=(32-(j+1))+1 by omega,List.replicate_succ,List.set_cons_zero,←List.take_append_getElem hjl,og,List.append_assoc];rfl
  have st:=mK (base:=size h) (b:=size G) (off:=j) (x:=.int .u8 ((dK (hs.getD (j / 4) 0) (3-j % 4)).toNat:Int)) (aQ (h:=G) (x:=.cells (aP ((jB hs).take j++List.replicate (32-j) 0))) (l:=[])) x.ov.size rfl rfl (by rw[aM];simp;omega);rw[xV,hsx,eF]at st;rw[Gp];simp only[h1,h2,h3,h4,h5,ad,ip,ip2,ld,a6,a7,st,Option.ag,aR];exact ih
end
theorem NZ (base:Nat) {v:PV} {l:List UInt8} (hv:∀ g,Rd (ext h g) v l) (hl:l.length≤900000):ai T base 51 [v] h=some (.agg (aP (Rg l)),h):=by
 have hz:(rep 32 (.int .u8 0))=aP (List.replicate 32 0):=XJ 32;have hp:=adi l.length;have hA:=abr hv hl (.ptr (size h) 0) (.cells (aP (List.replicate 32 0))) l.length 0 (by omega);have hB:=abt hv hl (.ptr (size h) 0) (.cells (aP (List.replicate 32 0))) (rA l.length-9) (l++[128]) (by omega) (by unfold rA;simp;split<;>omega) (by simp;omega);have hC:=abu (h:=h) (.ptr (size h) 0) (.cells (aP (List.replicate 32 0))) (8*l.length) 8 (l++[128]++List.replicate (rA l.length-9) 0) (by omega) (by simp;omega);have hall:l++[128]++List.replicate (rA l.length-9) 0++oM (8*l.length) 8=l++qM l.length:=by
  rw[qM,TZ,show rA l.length-1-8=rA l.length-9 by omega];simp
 rw[hall]at hC;have htl:(qM l.length).length=rA l.length:=Rf (by omega);have hal:(l++qM l.length).length=l.length+rA l.length:=by rw[List.length_append,htl]
 have HL:(l++qM l.length).length % 64=0:=by rw[hal];unfold rA;split<;>omega
 have hd:Rg l=jB (ws (l++qM l.length) ((l++qM l.length).length / 64)):=rfl;rw[hd];generalize hX:l++qM l.length=all at *;have hne:all≠[]:=fun q=>by rw[q]at hal;simp at hal;omega
 have hv3:gV (ext h [.cells (aP (List.replicate 32 0))]) e8 1 (aP all)=.sl (.tok (size (ext h [.cells (aP (List.replicate 32 0))]))) 1 (aP all):=by
  unfold gV;cases all with
  | nil=>exact absurd rfl hne
  | cons a t=>rfl
 obtain⟨g,hg⟩:=Rh (ext h [.cells (aP (List.replicate 32 0))]) 5 (aP all);rw[fz,List.cons_append,List.nil_append]at hg;have hlen:cG false (gV (ext h [.cells (aP (List.replicate 32 0))]) e8 1 (aP all))=some (.int .i64 (all.length:Int)):=len8 all;have DQ:∀ (i:Nat) (c:UInt8),all[i]?=some c→cX (gV (ext h [.cells (aP (List.replicate 32 0))]) e8 1 (aP all)) (.int .i64 (i:Int)) 1=some (.ep [.int .u8 (c.toNat:Int)] 0):=fun i c hc=>by
  have hi:=(List.getElem?_eq_some_iff.1 hc).1;rw[hv3,k9,if_pos rfl,iZ .i64 i _ (by rw[aM];exact hi),Option.ag,pZ,hc];rfl
 generalize hV:gV (ext h [.cells (aP (List.replicate 32 0))]) e8 1 (aP all)=v3 at *
 -- the first words
 have x:RI h (ext (gH (ext h [.cells (aP (List.replicate 32 0))]) 5 (aP all)) [.cells (aT eP)]) (size (gH (ext h [.cells (aP (List.replicate 32 0))]) 5 (aP all))) (ws all 0):=by
  rw[hg];refine⟨(Ov.refl h).ext _ |>.ext _,?_,aQ,by rw[aW];simp,rfl⟩;rw[aX (by rw[aW];simp),aQ];rfl
 have szg:size h≤size (gH (ext h [.cells (aP (List.replicate 32 0))]) 5 (aP all)):=by rw[hg,aW];omega
 obtain⟨G2,x2,e2⟩:=abB (by omega) hlen DQ (.ptr (size h) 0) HL (all.length / 64) 0 _ (by omega) x;have b8:dw (rep 8 (PV.int .u32 0)) [(0,1,(.int .u32 1779033703)),(1,1,(.int .u32 3144134277)),(2,1,(.int .u32 1013904242)),(3,1,(.int .u32 2773480762)),(4,1,(.int .u32 1359893119)),(5,1,(.int .u32 2600822924)),(6,1,(.int .u32 528734635)),(7,1,(.int .u32 1541459225))]=some (.agg (aT eP)):=rfl;have st8:=jf (base:=size h) (n:=8) (ds:=aT eP) (aQ (h:=gH (ext h [.cells (aP (List.replicate 32 0))]) 5 (aP all)) (x:=.cells (rep 8 (.int .u32 0))) (l:=[])) szg rfl (by rw[bY];rfl) (kN _);rw[eF]at st8;have e3:vj (size h) (size h) (.int .i64 (-1)) (.int .u64 ((8*l.length:Nat):Int)) v3 (.ptr (size h) 0) (gH (ext h [.cells (aP (List.replicate 32 0))]) 5 (aP all))=qK (size h) (size h) (.int .i64 0) v3 (.ptr (size (gH (ext h [.cells (aP (List.replicate 32 0))]) 5 (aP all))) 0) (.ptr (size h) 0) (ext (gH (ext h [.cells (aP (List.replicate 32 0))]) 5 (aP all)) [.cells (aT eP)]):=by
  rw[Gm,show binOp .geq (.int .i64 (-1)) (.int .i64 0)=some (.bool false) from rfl,Option.ag,aL,b8,Option.ag,eo,st8,Option.ag]
 have XE:dw (rep 32 (PV.int .u8 0)) []=some (.agg (rep 32 (.int .u8 0))):=rfl;have l32:(aP (List.replicate 32 0)).length=32:=by rw[aM];rfl
 have abD:=jf (base:=size h) (n:=32) (ds:=aP (List.replicate 32 0)) (aQ (h:=G2) (x:=.cells (aP (List.replicate 32 0))) (l:=[])) x2.ov.size l32 l32 (gJ _);rw[eF]at abD;have hO:=abC x2 32 0 rfl;simp only[show((0:Nat):Int)=0 from rfl,List.take_zero,List.nil_append,Nat.sub_zero]at hO;have e5:qK (size h) (size h) (.int .i64 (all.length:Int)) v3 (.ptr (size (gH (ext h [.cells (aP (List.replicate 32 0))]) 5 (aP all))) 0) (.ptr (size h) 0) G2=some (.agg (aP (jB (ws all (all.length / 64)))),h):=by
  have hlt:binOp .lss (.int .i64 (all.length:Int)) (.int .i64 (all.length:Int))=some (.bool false):=by
   show some (PV.bool (decide ((all.length:Int)<(all.length:Int))))=_;rw[decide_eq_false (by omega)]
  rw[Gn,hlen,Option.ag,hlt,Option.ag,aL,XE,Option.ag,hz,eo,abD,Option.ag];exact hO
 have hbs:cF 1 false [(PV.int .u8 0)] 0 []=some e8:=rfl;simp only[show((0:Nat):Int)=0 from rfl,List.take_zero]at hA;have hC':vj (size h) (size h) (.int .i64 7) (.int .u64 ((8*l.length:Nat):Int)) (gV (ext h [.cells (aP (List.replicate 32 0))]) e8 1 (aP (l++[128]++List.replicate (rA l.length-9) 0))) (.ptr (size h) 0) (gH (ext h [.cells (aP (List.replicate 32 0))]) 5 (aP (l++[128]++List.replicate (rA l.length-9) 0)))=_:=hC;rw[S51,hz,eo,hbs,Option.ag];refine(show _=_ from hA).trans (hB.trans (hC'.trans ?_));rw[e3];exact e2.trans e5
end Go.Am.Qd
namespace Go.Am.Qd
variable {h:Hp}
def Rk (p:BitVec 32) (k:Nat) (r:BitVec 32):BitVec 32:=if(p >>> k) &&& 1#32≠r &&& 1#32 then(r >>> 1) ^^^ 3988292384#32 else r >>> 1
def ku (p:BitVec 32):Nat→BitVec 32→BitVec 32
 | 0,r=>r
 | k+1,r=>Rk p k (ku p k r)
theorem XP (x:BitVec 32):x &&& 1#32=if x.getLsbD 0 then 1#32 else 0#32:=by
 rw[BitVec.and_one_eq_setWidth_ofBool_getLsbD];cases x.getLsbD 0<;>rfl
theorem N1 (p r:BitVec 32) (k:Nat):round (r ^^^ p >>> k)=Rk p k r ^^^ p >>> (k+1):=by
 unfold round Rk;rw[XP (r ^^^ p >>> k),XP (p >>> k),XP r,BitVec.getLsbD_xor,BitVec.ushiftRight_xor_distrib,BitVec.shiftRight_add];cases r.getLsbD 0<;>cases (p >>> k).getLsbD 0<;>simp<;>ac_rfl
theorem vt (p r:BitVec 32):∀ (m k:Nat),rounds m (ku p k r ^^^ p >>> k)=ku p (k+m) r ^^^ p >>> (k+m)
 | 0,k=>rfl
 | m+1,k=>by
  rw[rounds,N1];have:=vt p r m (k+1);rw[show k+(m+1)=k+1+m by omega];exact this
theorem Ke (r:BitVec 32) (c:UInt8):Az r c=ku (c.toBitVec.setWidth 32) 8 r:=by
 have:=vt (c.toBitVec.setWidth 32) r 8 0;rw[Nat.zero_add]at this;have hz:(c.toBitVec.setWidth 32) >>> 8=0#32:=by
  apply BitVec.eq_of_toNat_eq;have hc:=c.toNat_lt;rw[BitVec.toNat_ushiftRight,BitVec.toNat_setWidth,Nat.shiftRight_eq_div_pow];have:c.toBitVec.toNat=c.toNat:=rfl;rw[this,Nat.mod_eq_of_lt (by omega)];show c.toNat / 256=0;omega
 unfold Az;rw[hz,BitVec.xor_zero]at this;exact this
theorem UX (a:BitVec 32) (k:Nat) (hk:k≤31):binOp .quo (uV a) (.int .u32 ((2 ^ k:Nat):Int))=some (uV (a >>> k)):=by
 have hp:0<2 ^ k:=Nat.pow_pos (by omega);show(if((2 ^ k:Nat):Int)=0 then none else some (PV.int .u32 (IntKind.u32.wrap ((a.toNat:Int).tdiv ((2 ^ k:Nat):Int)))))=_;rw[if_neg (by omega)];show some (PV.int .u32 _)=some (PV.int .u32 _);congr 2;have ha:=a.isLt;have hd:a.toNat / 2 ^ k≤a.toNat:=Nat.div_le_self _ _;rw[BitVec.toNat_ushiftRight,Nat.shiftRight_eq_div_pow,show(a.toNat:Int).tdiv ((2 ^ k:Nat):Int)=((a.toNat / 2 ^ k:Nat):Int) by rw[Int.tdiv_eq_ediv_of_nonneg (by omega)];rfl];generalize a.toNat / 2 ^ k=q at *;simp only[IntKind.wrap,IntKind.signed,IntKind.bits,Bool.false_and,Bool.false_eq_true,if_false];omega
theorem amK (c:UInt8) (k:Nat) (hk:k≤7):(binOp .shr (.int .u8 (c.toNat:Int)) (.int .i64 (k:Int))).ah (fun x=>cu x .u32)=some (uV ((c.toBitVec.setWidth 32) >>> k)):=by
 show(if((k:Nat):Int)<0 then none else some (PV.int .u8 ((c.toNat:Int).fdiv (2 ^ (min ((k:Int)).toNat 8))))).ah _=_;rw[if_neg (by omega),Option.ag,Int.toNat_natCast,Nat.min_eq_left (by omega)];show some (PV.int .u32 (IntKind.u32.wrap _))=some (PV.int .u32 _);congr 2;have hc:=c.toNat_lt;have h2:((c.toNat:Int).fdiv (2 ^ k))=((c.toNat / 2 ^ k:Nat):Int):=by
  rw[Int.fdiv_eq_ediv_of_nonneg _ (Int.pow_nonneg (by omega))];simp
 have hd:c.toNat / 2 ^ k≤c.toNat:=Nat.div_le_self _ _;have:c.toBitVec.toNat=c.toNat:=rfl;rw[h2,BitVec.toNat_ushiftRight,BitVec.toNat_setWidth,Nat.shiftRight_eq_div_pow,this,Nat.mod_eq_of_lt (by omega)];generalize c.toNat / 2 ^ k=q at *;simp only[IntKind.wrap,IntKind.signed,IntKind.bits,Bool.false_and,Bool.false_eq_true,if_false];omega
section
variable {v:PV} {l:List UInt8} (hv:Rd h v l) (hl:l.length≤1000000) (base:Nat)
include hv hl
theorem Rm {i:Nat} (hi:i<l.length):∀ (m k:Nat) (r:BitVec 32),k+m=8→As base (size h) (.int .i64 (k:Int)) (uV (ku (l[i].toBitVec.setWidth 32) k r)) (.int .i64 (i:Int)) v h
  = Aq base (size h) (uV (ku (l[i].toBitVec.setWidth 32) 8 r)) (.int .i64 ((i+1:Nat):Int)) v h
 | 0,k,r,hk=>by
  obtain rfl:k=8:=by omega
  have w1:IntKind.i64.wrap ((i:Int)+1)=((i+1:Nat):Int):=fm i (by omega);have ad:binOp .add (.int .i64 (i:Int)) (.int .i64 1)=some (.int .i64 ((i+1:Nat):Int)):=by rw[←w1];rfl
  rw[Ce,show binOp .lss (.int .i64 ((8:Nat):Int)) (.int .i64 8)=some (.bool false) from rfl,Option.ag,aL,ad,Option.ag]
 | m+1,k,r,hk=>by
  have ih:=Rm hi m (k+1) r (by omega);have hk1:binOp .lss (.int .i64 (k:Int)) (.int .i64 8)=some (.bool true):=by
   show some (PV.bool (decide ((k:Int)<8)))=_;rw[decide_eq_true (by omega)]
  have w1:IntKind.i64.wrap ((k:Int)+1)=((k+1:Nat):Int):=fm k (by omega);have ad:binOp .add (.int .i64 (k:Int)) (.int .i64 1)=some (.int .i64 ((k+1:Nat):Int)):=by rw[←w1];rfl
  obtain⟨a,a1,a2⟩:=hv.rd .i64 i l[i] (List.getElem?_eq_getElem hi);have sh:=amK l[i] k (by omega);rw[Option.aa]at sh;obtain⟨y,y1,y2⟩:=sh;have u1:(PV.int .u32 1)=uV 1#32:=rfl;have up:(PV.int .u32 3988292384)=uV 3988292384#32:=rfl;have q2:=fun x=>UX x 1 (by omega)
  simp only[show((2 ^ 1:Nat):Int)=2 from rfl]at q2;rw[Ce];simp only[hk1,aR,a1,a2,y1,y2,u1,LC,q2,LG,Option.ag]
  by_cases hb:((l[i].toBitVec.setWidth 32) >>> k) &&& 1#32=(ku (l[i].toBitVec.setWidth 32) k r) &&& 1#32
  ·have hd:((((l[i].toBitVec.setWidth 32) >>> k) &&& 1#32) != ((ku (l[i].toBitVec.setWidth 32) k r) &&& 1#32))=false:=by rw[hb];simp
   rw[hd,aL,ad,Option.ag];have e:ku (l[i].toBitVec.setWidth 32) (k+1) r=ku (l[i].toBitVec.setWidth 32) k r >>> 1:=by rw[ku,Rk,if_neg (fun q=>q hb)]
   rw[e]at ih;exact ih
  ·have hd:((((l[i].toBitVec.setWidth 32) >>> k) &&& 1#32) != ((ku (l[i].toBitVec.setWidth 32) k r) &&& 1#32))=true:=bne_iff_ne.2 hb
   rw[hd,aR,up,vn,Option.ag,ad,Option.ag];have e:ku (l[i].toBitVec.setWidth 32) (k+1) r=ku (l[i].toBitVec.setWidth 32) k r >>> 1 ^^^ 3988292384#32:=by rw[ku,Rk,if_pos hb]
   rw[e]at ih;exact ih
theorem LM:∀ (m i:Nat) (r:BitVec 32),i+m=l.length→Aq base (size h) (uV r) (.int .i64 (i:Int)) v h=some (uV (~~~ ((l.drop i).foldl Az r)),h)
 | 0,i,r,hi=>by
  obtain rfl:i=l.length:=by omega
  have hk:binOp .lss (.int .i64 (l.length:Int)) (.int .i64 (l.length:Int))=some (.bool false):=by
   show some (PV.bool (decide ((l.length:Int)<(l.length:Int))))=_;rw[decide_eq_false (by omega)]
  have um:(PV.int .u32 4294967295)=uV 4294967295#32:=rfl;rw[Cd,hv.len,Option.ag,hk,Option.ag,aL,um,vn,Option.ag,AA,bL,List.drop_length,List.foldl_nil];rw[show r ^^^ 4294967295#32 = ~~~ r from by rw[show 4294967295#32=BitVec.allOnes 32 from rfl,BitVec.xor_allOnes]]
 | m+1,i,r,hi=>by
  have hlt:i<l.length:=by omega
  have hk:binOp .lss (.int .i64 (i:Int)) (.int .i64 (l.length:Int))=some (.bool true):=by
   show some (PV.bool (decide ((i:Int)<(l.length:Int))))=_;rw[decide_eq_true (by omega)]
  have hin:=Rm hv hl base hlt 8 0 r rfl;simp only[show((0:Nat):Int)=0 from rfl]at hin;have h0:ku (l[i].toBitVec.setWidth 32) 0 r=r:=rfl;rw[h0,←Ke]at hin;rw[Cd,hv.len,Option.ag,hk,Option.ag,aR,hin,LM m (i+1) _ (by omega),List.drop_eq_getElem_cons hlt,List.foldl_cons]
end
theorem N2 {v:PV} {l:List UInt8} (hv:Rd h v l) (hl:l.length≤1000000) (base:Nat):ai T base 111 [v] h=some (uV (mJ l),h):=by
 have:=LM hv hl (size h) l.length 0 4294967295#32 (by omega);rw[amk];exact this
end Go.Am.Qd
namespace Go.Am.Qd
variable {h:Hp}
def GP (h:Hp) (l:List UInt8):PV:=if l=[] then .sl .full 1 [] else .bW false (size h) 0 l.length 1
def BE (h:Hp) (l:List UInt8):Hp:=if l=[] then h else ext h [.cells (aP l)]
theorem GK.own {h H:Hp} {v:PV} {l:List UInt8} (hk:GK h H v (aP l)) (hv:l=[]→v=.sl .full 1 []):bg false true (size h) [v] H=some (GP h l,BE h l):=by
 obtain⟨g,rfl,h1,h2,h3⟩:=hk;unfold GP BE
 by_cases hl:l=[]
 ·rw[if_pos hl,if_pos hl,hv hl,pF]
  show(((fM (size h) (ext h g) [.sl .full 1 []]).ah fun vs=>if belows (size h) vs=true then some (vs,bJ (ext h g) (size h)) else none)).ah _=_;rw[ee,IQ,Option.ag,jL,Option.ag,Option.ag,cH];rfl
 ·rw[if_neg hl,if_neg hl]
  rcases h3 with⟨h3,_⟩ | ⟨b,hb1,rfl,hb2⟩
  ·exact absurd (ql.1 h3) hl
  ·rw[pF,jt,if_neg (by omega),hb2,Option.ag,if_pos ⟨rfl,h2⟩,Option.ag,cH,aM];rfl
theorem GK.Kf {h H:Hp} {v:PV} {es:List PV} (hk:GK h H v es):∃ g,H=ext h g:=by
 obtain⟨g,hg,_⟩:=hk;exact⟨g,hg⟩
section
variable {v:PV} {l:List UInt8} (hv:∀ g,Rd (ext h g) v l) (hl:l.length≤900000)
include hv hl
theorem Cp:∀ (m i:Nat) {H:Hp} {u:PV},i+m=l.length→GK h H u (aP (l.take i))→(i=0→u=.sl .full 1 []) →
  Lw (size h) (size h) (.int .i64 (i:Int)) v u H=some (GP h l,BE h l)
 | 0,i,H,u,hi,hg,hu=>by
  obtain rfl:i=l.length:=by omega
  have hk:binOp .lss (.int .i64 (l.length:Int)) (.int .i64 (l.length:Int))=some (.bool false):=by
   show some (PV.bool (decide ((l.length:Int)<(l.length:Int))))=_;rw[decide_eq_false (by omega)]
  rw[List.take_length]at hg;rw[Gw,(hv []).len,Option.ag,hk,Option.ag,aL];exact GK.own hg fun q=>hu (by rw[q];rfl)
 | m+1,i,H,u,hi,hg,hu=>by
  have hlt:i<l.length:=by omega
  have hk:binOp .lss (.int .i64 (i:Int)) (.int .i64 (l.length:Int))=some (.bool true):=by
   show some (PV.bool (decide ((i:Int)<(l.length:Int))))=_;rw[decide_eq_true (by omega)]
  have w1:IntKind.i64.wrap ((i:Int)+1)=((i+1:Nat):Int):=fm i (by omega);have ad:binOp .add (.int .i64 (i:Int)) (.int .i64 1)=some (.int .i64 ((i+1:Nat):Int)):=by rw[←w1];rfl
  obtain⟨g,rfl⟩:=GK.Kf hg;obtain⟨a,a1,a2⟩:=(hv g).rd .i64 i l[i] (List.getElem?_eq_getElem hlt);obtain⟨u',H',e1,e2⟩:=hg.app (size h) (o:=.full) (xs:=[.int .u8 ((l[i].toNat:Nat):Int)]) rfl rfl (by rw[aM,List.length_take];simp;omega) (by simp);have e3:aP (l.take i)++[.int .u8 ((l[i].toNat:Nat):Int)]=aP (l.take (i+1)):=by
   unfold aP;rw[←List.take_append_getElem hlt,List.map_append];rfl
  rw[e3]at e2;rw[Gw,(hv []).len,Option.ag,hk,Option.ag,aR,a1,Option.ag,a2,Option.ag,DP,Option.ag,e1,az,ad,Option.ag];exact Cp m (i+1) (by omega) e2 (fun q=>absurd q (by omega))
theorem Kg (base:Nat):ai T base 76 [v] h=some (GP h l,BE h l):=by
 have:=Cp hv hl l.length 0 (by omega) (H:=h) (u:=.sl .full 1 []) (GK.nil (.inr rfl)) (fun _=>rfl);rw[S76];exact this
end
theorem abE (h:Hp) (l:List UInt8):GK h (BE h l) (GP h l) (aP l):=by
 unfold BE GP
 by_cases hl:l=[]
 ·rw[if_pos hl,if_pos hl,hl];exact GK.nil (.inr rfl)
 ·rw[if_neg hl,if_neg hl,←aM];exact GK.WJ (gJ _) (mu _ _)
theorem XQ (a:BitVec 32):(binOp .rem (uV a) (.int .u32 256)).ah (fun x=>cu x .u8)=some (.int .u8 ((UInt8.ofNat a.toNat).toNat:Int)):=by
 show some (PV.int .u8 (IntKind.u8.wrap ((a.toNat:Int).tmod 256)))=some (PV.int .u8 _);congr 2;rw[Int.tmod_eq_emod_of_nonneg (by omega)];simp only[IntKind.wrap,IntKind.signed,IntKind.bits,Bool.false_and,Bool.false_eq_true,if_false];simp
theorem Cq (n:BitVec 32):∀ (m k:Nat) {H:Hp} {u:PV} {l:List UInt8},k+m=4→GK h H u (aP l)→l.length+m≤900000→(k=4→l≠[]) →
  Lx (size h) (size h) (.int .i64 (k:Int)) (uV (n >>> (8*k))) u H=some (GP h (l++(List.range' k m).map (dK n)),BE h (l++(List.range' k m).map (dK n)))
 | 0,k,H,u,l,hk,hg,hl,hne=>by
  obtain rfl:k=4:=by omega
  rw[Gy,show binOp .lss (.int .i64 ((4:Nat):Int)) (.int .i64 4)=some (.bool false) from rfl,Option.ag,aL];have:=GK.own hg (fun q=>absurd q (hne rfl));rw[this];simp
 | m+1,k,H,u,l,hk,hg,hl,hne=>by
  have h1:binOp .lss (.int .i64 (k:Int)) (.int .i64 4)=some (.bool true):=by
   show some (PV.bool (decide ((k:Int)<4)))=_;rw[decide_eq_true (by omega)]
  have w1:IntKind.i64.wrap ((k:Int)+1)=((k+1:Nat):Int):=fm k (by omega);have ad:binOp .add (.int .i64 (k:Int)) (.int .i64 1)=some (.int .i64 ((k+1:Nat):Int)):=by rw[←w1];rfl
  have rm:=XQ (n >>> (8*k));rw[Option.aa]at rm;obtain⟨y,y1,y2⟩:=rm;have q8:=UX (n >>> (8*k)) 8 (by omega);simp only[show((2 ^ 8:Nat):Int)=256 from rfl]at q8;rw[←BitVec.shiftRight_add,show 8*k+8=8*(k+1) by omega]at q8;obtain⟨u',H',e1,e2⟩:=hg.app (size h) (o:=.full) (xs:=[.int .u8 (((dK n k).toNat:Nat):Int)]) rfl rfl (by rw[aM];simp;omega) (by simp);have e3:aP l++[.int .u8 (((dK n k).toNat:Nat):Int)]=aP (l++[dK n k]):=by simp[aP]
  rw[e3]at e2;have ih:=Cq n m (k+1) (by omega) e2 (by simp;omega) (fun _=>by simp);rw[Gy];have y2':cu y .u8=some (.int .u8 (((dK n k).toNat:Nat):Int)):=y2;simp only[h1,aR,y1,y2',DP,e1,q8,ad,Option.ag,az];rw[ih,List.append_assoc];rfl
theorem tT {v:PV} {l:List UInt8} (hv:∀ g,Rd (ext h g) v l) (hl:l.length≤800000) (base:Nat) (n:BitVec 32):ai T base 84 [v,uV n] h=some (GP h (l++br n),BE h (l++br n)):=by
 have hl2:=Cq n 4 0 rfl (abE h l) (by omega) (fun q=>absurd q (by omega));rw[S84,Kg hv (by omega),az];exact hl2
end Go.Am.Qd
namespace Go.Am.Qd
variable {h:Hp}
theorem XR (h:Hp) (l:List UInt8):gW (size h) (BE h l) (GP h l)=some (BC l):=by
 unfold GP BE BC
 by_cases hl:l=[]
 ·rw[if_pos hl,if_pos hl,if_pos hl];rfl
 ·rw[if_neg hl,if_neg hl,if_neg hl,xP,if_neg (by omega),aQ]
  have ht:(aP l).take l.length=aP l:=List.take_of_length_le (by rw[aM];omega);have hq:l.length≤(aP l).length∧(aP l).all scalar=true:=⟨by rw[aM];omega,gJ _⟩;show(rK 1 l.length ((aP l).drop 0)).ah _=_;rw[List.drop_zero,lX,ht,nO,if_pos hq];rfl
theorem Rn (h:Hp) (l:List UInt8):bJ (BE h l) (size h)=h:=by
 unfold BE;split
 ·exact bL
 ·exact cH
theorem Ro (n:Nat) (l:List UInt8):below n (BC l)=true:=by
 unfold BC;split
 ·exact(vm (.inr rfl) []).below n
 ·exact(vm (.inl rfl) l).below n
theorem abF (l:List UInt8):Rd h (BC l) l:=by
 unfold BC;split
 ·rename_i q;subst q;exact jQ (.inr rfl) []
 ·exact jQ (.inl rfl) l
theorem Kh {v:PV} {l:List UInt8} (hv:∀ g,Rd (ext h g) v l) (hl:l.length≤800000) (base:Nat):ai T base 85 [v] h=some (BC (l++br (mJ l)),h):=by
 have h0:ext h []=h:=by simp[ext]
 have hv0:=hv [];rw[h0]at hv0;rw[S85,N2 hv0 (by omega),az,tT hv hl,az,bZ,ee,XR,Option.ag,jL,Option.ag,Option.ag,if_pos (by rw[iN,Ro];rfl),Rn];rfl
end Go.Am.Qd
namespace Go.Am.Qd
variable {h:Hp}
end Go.Am.Qd
namespace Go.Am.Qd
variable {h:Hp}
section
variable {v0:PV} {ps:List (PV × List UInt8)} (hlen:cG false v0=some (.int .i64 (ps.length:Int)))
 (DQ:∀ (i:Nat) (p:PV × List UInt8),ps[i]?=some p→cX v0 (.int .i64 (i:Int)) 1=some (.ep [p.1] 0)) (hrd:∀ p∈ps,∀ g,Rd (ext h g) p.1 p.2) (hps:ps.length≤1000)
include hlen DQ hrd hps
theorem LN {i:Nat} {p:PV × List UInt8} (hp:ps[i]?=some p) {acc:List UInt8} (hl:acc.length+p.2.length≤900000):∀ (m j:Nat) {H:Hp} {u:PV},j+m=p.2.length→GK h H u (aP (acc++p.2.take j))→(acc++p.2.take j=[]→u=.sl .full 1 []) →
  ∃ H' u',GK h H' u' (aP (acc++p.2))∧(acc++p.2=[]→u'=.sl .full 1 [])∧Lt (size h) (size h) (.int .i64 (j:Int)) (.int .i64 (i:Int)) v0 u H=Gs (size h) (size h) (.int .i64 ((i+1:Nat):Int)) v0 u' H'
 | 0,j,H,u,hj,hg,hu=>by
  obtain rfl:j=p.2.length:=by omega
  rw[List.take_length]at hg hu;have hi:=(List.getElem?_eq_some_iff.1 hp).1;obtain⟨g,rfl⟩:=GK.Kf hg;have hr:=hrd p (List.mem_of_getElem? hp) g;have lep:∀ (x:PV) (H:Hp),ax 1 false (.ep [x] 0) H=some x:=fun _ _=>rfl
  have hk:binOp .lss (.int .i64 (p.2.length:Int)) (.int .i64 (p.2.length:Int))=some (.bool false):=by
   show some (PV.bool (decide ((p.2.length:Int)<(p.2.length:Int))))=_;rw[decide_eq_false (by omega)]
  have w1:IntKind.i64.wrap ((i:Int)+1)=((i+1:Nat):Int):=fm i (by omega);have ad:binOp .add (.int .i64 (i:Int)) (.int .i64 1)=some (.int .i64 ((i+1:Nat):Int)):=by rw[←w1];rfl
  refine⟨_,_,hg,hu,?_⟩;rw[Gu,DQ i p hp,Option.ag,lep,Option.ag,hr.len,Option.ag,hk,Option.ag,aL,ad,Option.ag]
 | m+1,j,H,u,hj,hg,hu=>by
  have hlt:j<p.2.length:=by omega
  obtain⟨g,rfl⟩:=GK.Kf hg;have hr:=hrd p (List.mem_of_getElem? hp) g;have lep:∀ (x:PV) (H:Hp),ax 1 false (.ep [x] 0) H=some x:=fun _ _=>rfl
  have hk:binOp .lss (.int .i64 (j:Int)) (.int .i64 (p.2.length:Int))=some (.bool true):=by
   show some (PV.bool (decide ((j:Int)<(p.2.length:Int))))=_;rw[decide_eq_true (by omega)]
  have w1:IntKind.i64.wrap ((j:Int)+1)=((j+1:Nat):Int):=fm j (by omega);have ad:binOp .add (.int .i64 (j:Int)) (.int .i64 1)=some (.int .i64 ((j+1:Nat):Int)):=by rw[←w1];rfl
  obtain⟨a,a1,a2⟩:=hr.rd .i64 j p.2[j] (List.getElem?_eq_getElem hlt);obtain⟨u',H',e1,e2⟩:=hg.app (size h) (o:=.full) (xs:=[.int .u8 ((p.2[j].toNat:Nat):Int)]) rfl rfl (by rw[aM,List.length_append,List.length_take];simp;omega) (by simp);have e3:aP (acc++p.2.take j)++[.int .u8 ((p.2[j].toNat:Nat):Int)]=aP (acc++p.2.take (j+1)):=by
   unfold aP;rw[←List.take_append_getElem hlt,←List.append_assoc,List.map_append (l₁:=acc++p.2.take j)];rfl
  rw[e3]at e2;obtain⟨H2,u2,g2,n2,q2⟩:=LN hp hl m (j+1) (by omega) e2 (fun q=>by
   have:=congrArg List.length q;rw[List.length_append,List.length_take,Nat.min_eq_left (by omega),List.length_nil]at this;omega)
  refine⟨H2,u2,g2,n2,?_⟩;rw[Gu];simp only[DQ i p hp,lep,hr.len,hk,aR,a1,a2,DP,e1,ad,Option.ag,az];exact q2
theorem GQ (hl:(ps.map (·.2)).flatten.length≤900000):∀ (m i:Nat) {H:Hp} {u:PV},i+m=ps.length→GK h H u (aP ((ps.take i).map (·.2)).flatten)→(((ps.take i).map (·.2)).flatten=[]→u=.sl .full 1 []) →
  Gs (size h) (size h) (.int .i64 (i:Int)) v0 u H=some (GP h (ps.map (·.2)).flatten,BE h (ps.map (·.2)).flatten)
 | 0,i,H,u,hi,hg,hu=>by
  obtain rfl:i=ps.length:=by omega
  rw[List.take_length]at hg hu;have hk:binOp .lss (.int .i64 (ps.length:Int)) (.int .i64 (ps.length:Int))=some (.bool false):=by
   show some (PV.bool (decide ((ps.length:Int)<(ps.length:Int))))=_;rw[decide_eq_false (by omega)]
  rw[Gt,hlen,Option.ag,hk,Option.ag,aL];exact GK.own hg hu
 | m+1,i,H,u,hi,hg,hu=>by
  have hlt:i<ps.length:=by omega
  have hk:binOp .lss (.int .i64 (i:Int)) (.int .i64 (ps.length:Int))=some (.bool true):=by
   show some (PV.bool (decide ((i:Int)<(ps.length:Int))))=_;rw[decide_eq_true (by omega)]
  have e:((ps.take (i+1)).map (·.2)).flatten=((ps.take i).map (·.2)).flatten++ps[i].2:=by
   rw[←List.take_append_getElem hlt,List.map_append,List.flatten_append];simp
  have hle:((ps.take i).map (·.2)).flatten.length+ps[i].2.length≤900000:=by
   rw[←List.length_append,←e];have e2:(ps.map (·.2)).flatten=((ps.take (i+1)).map (·.2)).flatten++((ps.drop (i+1)).map (·.2)).flatten:=by
    rw[←List.flatten_append,←List.map_append,List.take_append_drop]
   rw[e2,List.length_append]at hl;omega
  obtain⟨H2,u2,g2,n2,q2⟩:=LN hlen DQ hrd hps (List.getElem?_eq_getElem hlt) hle ps[i].2.length 0 (H:=H) (u:=u) (by omega) (by rw[List.take_zero,List.append_nil];exact hg) (by rw[List.take_zero,List.append_nil];exact hu);rw[←e]at g2 n2;simp only[show((0:Nat):Int)=0 from rfl]at q2;rw[Gt,hlen,Option.ag,hk,Option.ag,aR,q2];exact GQ hl m (i+1) (by omega) g2 n2
theorem N3 (base:Nat) (hl:(ps.map (·.2)).flatten.length≤900000):ai T base 52 [v0] h=some (GP h (ps.map (·.2)).flatten,BE h (ps.map (·.2)).flatten):=by
 have:=GQ hlen DQ hrd hps hl ps.length 0 (H:=h) (u:=.sl .full 1 []) (by omega) (by rw[List.take_zero];exact GK.nil (.inr rfl)) (fun _=>rfl);rw[S52];exact this
end
end Go.Am.Qd
namespace Go.Am.Qd
variable {h:Hp}
section
variable {v0:PV} {ps:List (Own × List UInt8)} (hlen:cG false v0=some (.int .i64 (ps.length:Int)))
 (DQ:∀ (i:Nat) (p:Own × List UInt8),ps[i]?=some p→cX v0 (.int .i64 (i:Int)) 1=some (.ep [.sl p.1 1 (aP p.2)] 0)) (hnf:∀ p∈ps,Nf p.1) (hps:ps.length≤1000) (hl:(ps.map (·.2)).flatten.length≤1000000000)
include hlen DQ hnf hps hl
theorem aco:∀ (m i:Nat) {w:List (BitVec 32)} {r:List UInt8},i+m=ps.length→Hs w r ((ps.take i).map (·.2)).flatten →
  aee (size h) (size h) (.int .i64 (i:Int)) (.ptr (size h+1) 0) v0 (.ptr (size h) 0) (.int .i64 (ps.length:Int)) (ext h [.cells (aP (List.replicate 32 0)),.cells (hC w r ((ps.take i).map (·.2)).flatten.length)])
  = some (.agg (aP (Rg (ps.map (·.2)).flatten)),h)
 | 0,i,w,r,hi,x=>by
  obtain rfl:i=ps.length:=by omega
  rw[List.take_length]at x ⊢;have hk:binOp .lss (.int .i64 (ps.length:Int)) (.int .i64 (ps.length:Int))=some (.bool false):=by
   show some (PV.bool (decide ((ps.length:Int)<(ps.length:Int))))=_;rw[decide_eq_false (by omega)]
  have hs:=acX (h:=ext h [.cells (aP (List.replicate 32 0)),.cells (hC w r (ps.map (·.2)).flatten.length)]) (size h) (k:=size h+1) x hl (J6 _ _);have hd:(aP (Rg (ps.map (·.2)).flatten)).length=32:=by rw[aM,kP]
  have st:=jf (base:=size h) (n:=32) (ds:=aP (Rg (ps.map (·.2)).flatten)) (g2a (h:=h) (aP (List.replicate 32 0)) (hC w r (ps.map (·.2)).flatten.length)) (Nat.le_refl _) (by rw[aM];rfl) hd (gJ _);rw[s2a]at st;have hf:∀ H,gW (size h) H (.agg (aP (Rg (ps.map (·.2)).flatten)))=some (.agg (aP (Rg (ps.map (·.2)).flatten))):=fun H=>by
   have:∀ (l:List UInt8) (n:Nat) (H:Hp),fM n H (aP l)=some (aP l):=by
    intro l n H;induction l with
    | nil=>rfl
    | cons a l ih=>show fM n H (.int .u8 a.toNat::aP l)=_;rw[fM,ih];rfl
   rw[C3,this];rfl
  rw[adC,hk,Option.ag,aL,hs,az,st,Option.ag,AD (g2a _ _) hd,Option.ag,bZ,ee,hf,Option.ag,jL,Option.ag,Option.ag,if_pos (by rw[iN];show(belows _ (aP _)&&_)=true;rw[mu];rfl),cH];rfl
 | m+1,i,w,r,hi,x=>by
  have hlt:i<ps.length:=by omega
  have hk:binOp .lss (.int .i64 (i:Int)) (.int .i64 (ps.length:Int))=some (.bool true):=by
   show some (PV.bool (decide ((i:Int)<(ps.length:Int))))=_;rw[decide_eq_true (by omega)]
  have w1:IntKind.i64.wrap ((i:Int)+1)=((i+1:Nat):Int):=fm i (by omega);have ad:binOp .add (.int .i64 (i:Int)) (.int .i64 1)=some (.int .i64 ((i+1:Nat):Int)):=by rw[←w1];rfl
  have e:((ps.take (i+1)).map (·.2)).flatten=((ps.take i).map (·.2)).flatten++ps[i].2:=by
   rw[←List.take_append_getElem hlt,List.map_append,List.flatten_append];simp
  have hle:((ps.take i).map (·.2)).flatten.length+ps[i].2.length≤1000000000:=by
   rw[←List.length_append,←e];have e2:(ps.map (·.2)).flatten=((ps.take (i+1)).map (·.2)).flatten++((ps.drop (i+1)).map (·.2)).flatten:=by
    rw[←List.flatten_append,←List.map_append,List.take_append_drop]
   rw[e2,List.length_append]at hl;omega
  obtain⟨w2,r2,x2,q2⟩:=GM (h:=ext h [.cells (aP (List.replicate 32 0)),.cells (hC w r ((ps.take i).map (·.2)).flatten.length)]) (size h) (k:=size h+1) (by rw[aW];show size h+1<size h+2;omega) (hnf _ (List.getElem_mem hlt)) x (b:=ps[i].2) (by omega);rw[Yz,Yz,←e]at q2;rw[←e]at x2;have lep:∀ (y:PV) (H:Hp),ax 1 false (.ep [y] 0) H=some y:=fun _ _=>rfl
  have ih:=aco m (i+1) (by omega) x2;rw[adC];simp only[hk,aR,DQ i _ (List.getElem?_eq_getElem hlt),lep,q2,ad,Option.ag,az];exact ih
theorem aeB (base:Nat):ai T base 69 [v0] h=some (.agg (aP (Rg (ps.map (·.2)).flatten)),h):=by
 have hz:(rep 32 (.int .u8 0))=aP (List.replicate 32 0):=XJ 32;have hn:=NY (h:=ext h [.cells (aP (List.replicate 32 0))]) (size h);rw[aW,fz]at hn;have lst:[gT.cells (aP (List.replicate 32 0))].length=1:=rfl;rw[lst]at hn;have hp:=aco (h:=h) hlen DQ hnf hps hl ps.length 0 (w:=eP) (r:=zero64) (by omega) XO;simp only[show((0:Nat):Int)=0 from rfl]at hp;rw[S69,hz,eo,hn,az,hlen,Option.ag];exact hp
end
end Go.Am.Qd
namespace Go.Am.Qd
variable {h:Hp}
def Ki (c:UInt8):Bool:=(decide (97≤c.toNat)&&decide (c.toNat≤122))||(decide (48≤c.toNat)&&decide (c.toNat≤57))||decide (c.toNat=46)||decide (c.toNat=45)||decide (c.toNat=95)
def cK (s:List UInt8):Bool:=decide (1≤s.length)&&decide (s.length≤16)&&s.all Ki
theorem abH (c:UInt8) (n:Nat):binOp .geq (.int .u8 (c.toNat:Int)) (.int .u8 (n:Int))=some (.bool (decide (n≤c.toNat))):=by
 show some (PV.bool (decide ((c.toNat:Int)≥(n:Int))))=_;rw[DF]
theorem le8 (c:UInt8) (n:Nat):binOp .leq (.int .u8 (c.toNat:Int)) (.int .u8 (n:Int))=some (.bool (decide (c.toNat≤n))):=by
 show some (PV.bool (decide ((c.toNat:Int)≤(n:Int))))=_;rw[Qq]
theorem eq8 (c:UInt8) (n:Nat):binOp .eql (.int .u8 (c.toNat:Int)) (.int .u8 (n:Int))=some (.bool (decide (c.toNat=n))):=by
 show some (PV.bool ((c.toNat:Int) == (n:Int)))=_;congr 2
 by_cases q:c.toNat=n
 ·rw[q];simp
 ·simp[q];omega
theorem vu {s:List UInt8} (hs:s.length≤16):∀ (m i:Nat),i+m=s.length→Ln (size h) (size h) (.int .i64 (i:Int)) (.str s) h=some (.bool ((s.drop i).all Ki),h)
 | 0,i,hi=>by
  obtain rfl:i=s.length:=by omega
  have hk:binOp .lss (.int .i64 (s.length:Int)) (.int .i64 (s.length:Int))=some (.bool false):=by
   show some (PV.bool (decide ((s.length:Int)<(s.length:Int))))=_;rw[decide_eq_false (by omega)]
  rw[Gc,kZ,Option.ag,hk,Option.ag,aL,List.drop_length,bZ];show some (PV.bool true,bJ h (size h))=_;rw[bL];rfl
 | m+1,i,hi=>by
  have hlt:i<s.length:=by omega
  have ih:=vu hs m (i+1) (by omega);have hk:binOp .lss (.int .i64 (i:Int)) (.int .i64 (s.length:Int))=some (.bool true):=by
   show some (PV.bool (decide ((i:Int)<(s.length:Int))))=_;rw[decide_eq_true (by omega)]
  have w1:IntKind.i64.wrap ((i:Int)+1)=((i+1:Nat):Int):=fm i (by omega);have ad:binOp .add (.int .i64 (i:Int)) (.int .i64 1)=some (.int .i64 ((i+1:Nat):Int)):=by rw[←w1];rfl
  have ix:lW (.str s) (.int .i64 (i:Int))=some (.int .u8 (s[i].toNat:Int)):=by
   rw[oI,iZ .i64 i _ hlt,Option.ag,List.getElem?_eq_getElem hlt];rfl
  have g1:=abH s[i] 97;have g2:=le8 s[i] 122;have g3:=abH s[i] 48;have g4:=le8 s[i] 57;have g5:=eq8 s[i] 46;have g6:=eq8 s[i] 45;have g7:=eq8 s[i] 95;simp only[show((97:Nat):Int)=97 from rfl,show((122:Nat):Int)=122 from rfl,show((48:Nat):Int)=48 from rfl,show((57:Nat):Int)=57 from rfl,show((46:Nat):Int)=46 from rfl,show((45:Nat):Int)=45 from rfl,show((95:Nat):Int)=95 from rfl]at g1 g2 g3 g4 g5 g6 g7;have hok:Ki s[i]=((decide (97≤s[i].toNat)&&decide (s[i].toNat≤122))||(decide (48≤s[i].toNat)&&decide (s[i].toNat≤57))||decide (s[i].toNat=46)||decide (s[i].toNat=45)||decide (s[i].toNat=95)):=rfl;have hall:(s.drop i).all Ki=(Ki s[i]&&(s.drop (i+1)).all Ki):=by rw[List.drop_eq_getElem_cons hlt,List.all_cons]
  rw[hall,hok,Gc,kZ,Option.ag,hk,Option.ag,aR,ix,Option.ag];have ff:bg false false (size h) [.bool false] h=some (.bool false,h):=by
   rw[bZ];show some (PV.bool false,bJ h (size h))=_;rw[bL]
  generalize decide (97≤s[i].toNat)=A at *;generalize decide (s[i].toNat≤122)=B at *;generalize decide (48≤s[i].toNat)=C at *;generalize decide (s[i].toNat≤57)=D at *;generalize decide (s[i].toNat=46)=E at *;generalize decide (s[i].toNat=45)=F at *;generalize decide (s[i].toNat=95)=G at *;clear hok hall hk ix w1;cases A<;>cases B<;>cases C<;>cases D<;>cases E<;>cases F<;>cases G<;>simp only[g1,g2,g3,g4,g5,g6,g7,ad,ih,ff,↓jV,jX,jY,jZ,simprocAttr,if_true,if_false,implies_true,forall_const,Bool.and_true,Bool.true_and,Bool.and_false,Bool.false_and,Bool.or_true,Bool.true_or,Bool.or_false,Bool.false_or]
theorem vv (base:Nat) (s:List UInt8):ai T base 45 [.str s] h=some (.bool (cK s),h):=by
 have ff:bg false false (size h) [.bool false] h=some (.bool false,h):=by
  rw[bZ];show some (PV.bool false,bJ h (size h))=_;rw[bL]
 have e1:binOp .lss (.int .i64 (s.length:Int)) (.int .i64 1)=some (.bool (decide (s.length<1))):=by
  show some (PV.bool (decide ((s.length:Int)<1)))=_;congr 2;exact decide_eq_decide.2 (by omega)
 have e2:binOp .gtr (.int .i64 (s.length:Int)) (.int .i64 16)=some (.bool (decide (s.length > 16))):=by
  show some (PV.bool (decide ((s.length:Int) > 16)))=_;congr 2;exact decide_eq_decide.2 (by omega)
 by_cases h1:s.length<1
 ·have hn:cK s=false:=by unfold cK;rw[decide_eq_false (show ¬ 1≤s.length by omega)];rfl
  rw[S45,hn];simp only[kZ,e1,decide_eq_true h1,ff,↓jV,jX,jY,jZ,simprocAttr,if_true,if_false,implies_true,forall_const]
 ·by_cases h2:s.length > 16
  ·have hn:cK s=false:=by unfold cK;rw[decide_eq_false (show ¬ s.length≤16 by omega)];simp
   rw[S45,hn];simp only[kZ,e1,e2,decide_eq_false h1,decide_eq_true h2,ff,↓jV,jX,jY,jZ,simprocAttr,if_true,if_false,implies_true,forall_const]
  ·have hn:cK s=s.all Ki:=by unfold cK;rw[decide_eq_true (show 1≤s.length by omega),decide_eq_true (show s.length≤16 by omega)];rfl
   have hq:=vu (h:=h) (s:=s) (by omega) s.length 0 (by omega);simp only[show((0:Nat):Int)=0 from rfl,List.drop_zero]at hq;rw[S45,hn];simp only[kZ,e1,e2,decide_eq_false h1,decide_eq_false h2,hq,↓jV,jX,jY,jZ,simprocAttr,if_true,if_false,implies_true,forall_const]
end Go.Am.Qd
namespace Go.Am.Qd
variable {h:Hp}
def okR (c:Nat):Bool:=(decide (97≤c)&&decide (c≤122))||(decide (48≤c)&&decide (c≤57))||decide (c=46)||decide (c=45)||decide (c=95)
theorem abJ (c n:Nat):binOp .geq (.int .i32 (c:Int)) (.int .i32 (n:Int))=some (.bool (decide (n≤c))):=by
 show some (PV.bool (decide ((c:Int)≥(n:Int))))=_;rw[DF]
theorem abK (c n:Nat):binOp .leq (.int .i32 (c:Int)) (.int .i32 (n:Int))=some (.bool (decide (c≤n))):=by
 show some (PV.bool (decide ((c:Int)≤(n:Int))))=_;rw[Qq]
theorem Rp (c n:Nat):binOp .eql (.int .i32 (c:Int)) (.int .i32 (n:Int))=some (.bool (decide (c=n))):=by
 show some (PV.bool ((c:Int) == (n:Int)))=_;congr 2
 by_cases q:c=n
 ·rw[q];simp
 ·simp[q];omega
theorem GR (base:Nat) (c:Nat):ai T base 135 [.int .i32 (c:Int)] h=some (.bool (okR c),h):=by
 have g1:=abJ c 97;have g2:=abK c 122;have g3:=abJ c 48;have g4:=abK c 57;have g5:=Rp c 46;have g6:=Rp c 45;have g7:=Rp c 95;simp only[show((97:Nat):Int)=97 from rfl,show((122:Nat):Int)=122 from rfl,show((48:Nat):Int)=48 from rfl,show((57:Nat):Int)=57 from rfl,show((46:Nat):Int)=46 from rfl,show((45:Nat):Int)=45 from rfl,show((95:Nat):Int)=95 from rfl]at g1 g2 g3 g4 g5 g6 g7;have ff:∀ b:Bool,bg false false (size h) [.bool b] h=some (.bool b,h):=fun b=>by
  rw[bZ];show some (PV.bool b,bJ h (size h))=_;rw[bL]
 unfold okR;rw[amt];generalize decide (97≤c)=A at *;generalize decide (c≤122)=B at *;generalize decide (48≤c)=C at *;generalize decide (c≤57)=D at *;generalize decide (c=46)=E at *;generalize decide (c=45)=F at *;generalize decide (c=95)=G at *;cases A<;>cases B<;>cases C<;>cases D<;>cases E<;>cases F<;>cases G<;>simp only[g1,g2,g3,g4,g5,g6,g7,ff,↓jV,jX,jY,jZ,simprocAttr,if_true,if_false,implies_true,forall_const,Bool.and_true,Bool.true_and,Bool.and_false,Bool.false_and,Bool.or_true,Bool.true_or,Bool.or_false,Bool.false_or]
end Go.Am.Qd
namespace Go.Am.Qd
variable {h:Hp}
theorem N4 (n b0 b1 b2 b3:Nat) (hb:128≤b0):128≤(Lib.decodeN n b0 b1 b2 b3).1:=by
 unfold Lib.decodeN;rw[if_neg (by omega)];split
 ·split<;>simp only<;>omega
 ·split
  ·split<;>simp only<;>omega
  ·split
   ·split<;>simp only<;>omega
   ·simp only;omega
theorem Kj {s:List UInt8} {p:Nat} (hp:p<s.length) (hc:s[p].toNat<128):iD s p=(s[p].toNat,1):=by
 have:iD s p=Lib.decodeL (s.drop p):=(Lib.decodeL_drop ⟨s.toArray⟩ p).symm;rw[this,List.drop_eq_getElem_cons hp,Lib.decodeL_ascii _ _ hc]
theorem GU {s:List UInt8} {p:Nat} (hp:p<s.length) (hc:128≤s[p].toNat):128≤(iD s p).1:=by
 have:iD s p=Lib.decodeL (s.drop p):=(Lib.decodeL_drop ⟨s.toArray⟩ p).symm;rw[this,Lib.decodeL_N];apply N4;rw[List.getD_eq_getElem?_getD,List.getElem?_drop,Nat.add_zero,List.getElem?_eq_getElem hp];exact hc
theorem GV {c:Nat} (hc:123≤c):okR c=false:=by
 unfold okR;rw[decide_eq_false (show ¬ c≤122 by omega),decide_eq_false (show ¬ c≤57 by omega),decide_eq_false (show ¬ c=46 by omega),decide_eq_false (show ¬ c=45 by omega),decide_eq_false (show ¬ c=95 by omega)];simp
theorem AF (s:List UInt8) (hs:s.length≤1000000):∀ (m p:Nat),p+m=s.length→DJ (size h) (size h) (.str s) (.it (size h)) (ext h [.iter s p])=some (.bool ((s.drop p).all Ki&&(decide (1≤s.length)&&decide (s.length≤16))),h)
 | 0,p,hp=>by
  obtain rfl:p=s.length:=by omega
  have nx:=Jq (h:=ext h [.iter s s.length]) (b:=size h) (s:=s) (p:=s.length) (by rw[mF];rfl) (by omega);have ff:∀ b:Bool,bg false false (size h) [.bool b] (ext h [.iter s s.length])=some (.bool b,h):=fun b=>by
   rw[bZ];show some (PV.bool b,bJ (ext h [.iter s s.length]) (size h))=_;rw[cH]
  have x0:aE (.cC [.bool false]) 0=some (.bool false):=rfl;have e1:binOp .neq (.str s) (.str [])=some (.bool (decide (1≤s.length))):=by
   cases s with
   | nil=>rfl
   | cons a t=>rfl
  have e2:binOp .leq (.int .i64 (s.length:Int)) (.int .i64 16)=some (.bool (decide (s.length≤16))):=by
   show some (PV.bool (decide ((s.length:Int)≤16)))=_;congr 2;exact decide_eq_decide.2 (by omega)
  rw[Ci,nx,az,x0,Option.ag,aL,List.drop_length];generalize decide (1≤s.length)=A at *;generalize decide (s.length≤16)=B at *;cases A<;>cases B<;>simp only[e1,e2,ff,kZ,↓jV,jX,jY,jZ,simprocAttr,if_true,if_false,implies_true,forall_const,List.all_nil,Bool.true_and,Bool.and_true,Bool.and_false,Bool.false_and]
 | m+1,p,hp=>by
  have hlt:p<s.length:=by omega
  have nx:=Jp (h:=ext h [.iter s p]) (b:=size h) (s:=s) (p:=p) (by rw[mF];rfl) hlt;rw[eF]at nx;have x0:∀ a b,aE (.cC [.bool true,a,b]) 0=some (.bool true):=fun _ _=>rfl
  have x2:∀ a b,aE (.cC [.bool true,a,b]) 2=some b:=fun _ _=>rfl
  have ff:∀ q:Nat,bg false false (size h) [.bool false] (ext h [.iter s q])=some (.bool false,h):=fun q=>by
   rw[bZ];show some (PV.bool false,bJ (ext h [.iter s q]) (size h))=_;rw[cH]
  have hall:(s.drop p).all Ki=(Ki s[p]&&(s.drop (p+1)).all Ki):=by rw[List.drop_eq_getElem_cons hlt,List.all_cons]
  have u0:unOp .not (.bool false)=some (.bool true):=rfl;have u1:unOp .not (.bool true)=some (.bool false):=rfl;rw[hall,Ci,nx,az,x0,Option.ag,aR,x2,Option.ag,GR,az];rcases Nat.lt_or_ge s[p].toNat 128 with hc | hc
  ·have ih:=AF s hs m (p+1) (by omega)
   rw[Kj hlt hc];have hok:okR s[p].toNat=Ki s[p]:=rfl;simp only[hok];cases Ki s[p] with
   | false=>rw[u0,Option.ag,aR,ff,Bool.false_and,Bool.false_and]
   | true=>rw[u1,Option.ag,aL,ih,Bool.true_and]
  ·rw[GV (by have:=GU hlt hc;omega),u0,Option.ag,aR,ff]
   have:Ki s[p]=false:=GV (c:=s[p].toNat) (by omega);rw[this,Bool.false_and,Bool.false_and]
theorem Kk (base:Nat) (s:List UInt8) (hs:s.length≤1000000):ai T base 115 [.str s] h=some (.bool (cK s),h):=by
 have hq:=AF (h:=h) s hs s.length 0 (by omega);rw[amn,zP,az,hq,List.drop_zero,Bool.and_comm];rfl
end Go.Am.Qd
namespace Go.Am.Qd
variable {h:Hp}
def jg (l:List UInt8):List UInt8:=Lib.trimRightB l 0
theorem N5 (base:Nat) (l:List UInt8) (hl:l.length≤1000000):ai T base 114 [.str l,.str [0]] h=some (.str (jg l),h):=by
 rw[yQ ZN];have:iK [.str l,.str [0]]=some (.str (jg l)):=by
  unfold iK;simp only;rw[if_pos ⟨by decide,by omega⟩];rfl
 simp only[this];rfl
theorem GW (o:Own) (l:List UInt8):fL h (.sl o 1 (aP l))=some (.str l):=by
 show(Go.Am.bytesOf (aP l)).ah _=_;rw[Bu.bytesOf];rfl
theorem N6 (base:Nat) (o:Own) (l:List UInt8) (hl:l.length≤1000000) (ht:(jg l).length≤1000000):ai T base 94 [.sl o 1 (aP l)] h=some (.cC [.str (jg l),.bool (cK (jg l))],h):=by
 have f2:bg false false (size h) [.str (jg l),.bool (cK (jg l))] h=some (.cC [.str (jg l),.bool (cK (jg l))],h):=by
  rw[bZ];show some (PV.cC [.str (jg l),.bool (cK (jg l))],bJ h (size h))=_;rw[bL]
 rw[S94,GW,Option.ag,N5 _ _ hl,az,Kk _ _ ht,az,f2]
end Go.Am.Qd
namespace Go.Am.Qd
variable {h:Hp}
structure Rec where
 key:UInt8
 val:List UInt8
 drop:Bool
 fin:Nat
def LO (b:List UInt8) (a:Nat) (key:UInt8) (dr:Bool) (n:Nat):Option Rec :=
 if 250<n then none else if b.length<a+7+n then none else if b.getD (a+7+n-1) 0≠0 then none else some ⟨key,(b.drop (a+2)).take n,dr,a+7+n⟩
def vw (b:List UInt8) (a:Nat):Option Rec :=
 if b.length<a+2 then none else if 32≤b.getD a 0 then none else
  LO b a (b.getD a 0) (b.getD (a+1) 0 == 254) (if b.getD (a+1) 0 == 254 then 0 else(b.getD (a+1) 0).toNat)
def ahq (r:Rec):PV:=.agg [.int .i64 (r.key.toNat:Int),.sl .full 1 (aP r.val),.bool r.drop,.int .i64 (r.fin:Int)]
def al4:PV:=.agg [.int .i64 0,.bn,.bool false,.int .i64 0]
def abI:Option Rec→PV
 | none=>.cC [al4,.bool false]
 | some r=>.cC [ahq r,.bool true]
theorem ae2 (c:UInt8):IntKind.i64.wrap (c.toNat:Int)=(c.toNat:Int):=by
 have:=c.toNat_lt;rw[wrap_small (by omega) (by omega)]
theorem apu (c:UInt8):decide ((c.toNat:Int)≥32)=decide (32≤c):=by
 have:(32≤c)↔32≤c.toNat:=UInt8.le_iff_toNat_le;simp only[this];congr 1;apply propext;constructor<;>intro h<;>omega
theorem geZ (c:UInt8):((c.toNat:Int) != 0)=decide (c≠0):=by
 rw[Bool.eq_iff_iff,bne_iff_ne,decide_eq_true_eq];constructor
 ·intro hq hc;subst hc;exact hq rfl
 ·intro hq hc;exact hq (UInt8.toNat_inj.1 (by have:((0:UInt8).toNat)=0:=rfl;omega))
theorem al5 {o:Own} (ho:Nf o) (b:List UInt8) (a n:Nat) (key:UInt8) (dr:Bool) (hb:b.length≤1000000) (hn:n≤255) (ha:a+2≤b.length) :
  ade (size h) (size h) (.ptr (size h) 0) (.ptr (size h+1) 0) (.int .i64 (n:Int)) (.int .i64 (a:Int)) (.sl o 1 (aP b))
   (ext h [.cells [.int .i64 0,.bn,.bool false,.int .i64 0],.cells [.int .i64 (key.toNat:Int),.bn,.bool dr,.int .i64 0]]) =
   some (abI (if b.length<a+7+n then none else if b.getD (a+7+n-1) 0≠0 then none else some ⟨key,(b.drop (a+2)).take n,dr,a+7+n⟩),h):=by
 have zr:abI none=.cC [.agg [.int .i64 0,.bn,.bool false,.int .i64 0],.bool false]:=rfl;rw[aew]
 by_cases h1:b.length<a+7+n
 ·have d1:decide (a+7+n > b.length)=true:=by simpa using h1
  rw[if_pos h1];simp (disch:=omega) only[aeQ,mI,fA,aM,aaL,d1,zr,↓jV,jX,jY,jZ,Nat.reduceAdd,Nat.reduceSub,Nat.reduceMul,Nat.reduceLeDiff,Nat.reduceLT,Nat.reduceEqDiff,Nat.reduceBEq,reduceIte,reduceCtorEq,Int.reduceBEq,Int.reduceEq,Int.reduceLT,Int.reduceLE,Int.reduceGT,Int.reduceGE,Int.reduceAdd,Int.reduceSub,Int.reduceNeg,Int.reduceBNe,ite_true,ite_false,if_true,if_false,implies_true,forall_const]
 ·have d1:decide (a+7+n > b.length)=false:=by simpa using h1
  have a0:=(vm ho b).ix .i64 (a+7+n-1) b[a+7+n-1] (List.getElem?_eq_getElem (by omega));have g0:b.getD (a+7+n-1) 0=b[a+7+n-1]:=by simp;rw[List.getElem?_eq_getElem (by omega)];rfl
  rw[if_neg h1,g0]
  by_cases h2:b[a+7+n-1]≠0
  ·have d2:decide (b[a+7+n-1]≠0)=true:=by simpa using h2
   rw[if_pos h2];simp (disch:=omega) only[aeQ,mI,aeR,fA,aM,aaL,d1,a0,geZ,d2,zr,↓jV,jX,jY,jZ,Nat.reduceAdd,Nat.reduceSub,Nat.reduceMul,Nat.reduceLeDiff,Nat.reduceLT,Nat.reduceEqDiff,Nat.reduceBEq,reduceIte,reduceCtorEq,Int.reduceBEq,Int.reduceEq,Int.reduceLT,Int.reduceLE,Int.reduceGT,Int.reduceGE,Int.reduceAdd,Int.reduceSub,Int.reduceNeg,Int.reduceBNe,ite_true,ite_false,if_true,if_false,implies_true,forall_const]
  ·have d2:decide (b[a+7+n-1]≠0)=false:=by simpa using h2
   have hs:=aul (o:=o) b (a:=a+2) (b:=a+2+n) (by omega) (by omega);have e1:a+2+n-(a+2)=n:=by omega
   rw[e1]at hs;rw[if_neg h2];simp (disch:=omega) only[aeQ,acM,mI,aeR,fA,aM,aaL,d1,a0,geZ,d2,hs,↓jV,jX,jY,jZ,Nat.reduceAdd,Nat.reduceSub,Nat.reduceMul,Nat.reduceLeDiff,Nat.reduceLT,Nat.reduceEqDiff,Nat.reduceBEq,reduceIte,reduceCtorEq,Int.reduceBEq,Int.reduceEq,Int.reduceLT,Int.reduceLE,Int.reduceGT,Int.reduceGE,Int.reduceAdd,Int.reduceSub,Int.reduceNeg,Int.reduceBNe,ite_true,ite_false,if_true,if_false,implies_true,forall_const];rw[if_pos (tR _ _)];rfl
theorem aeC (base:Nat) {o:Own} (ho:Nf o) (b:List UInt8) (a:Nat) (hb:b.length≤1000000) (ha:a≤b.length):ai T base 124 [.sl o 1 (aP b),.int .i64 (a:Int)] h=some (abI (vw b a),h):=by
 have hrd:∀ {H:Hp},Rd H (.sl o 1 (aP b)) b:=jQ ho b;rw[at4];unfold vw;have zr:abI none=.cC [.agg [.int .i64 0,.bn,.bool false,.int .i64 0],.bool false]:=rfl
 by_cases h1:b.length<a+2
 ·have d1:decide (a+2 > b.length)=true:=by simpa using h1
  rw[if_pos h1];simp (disch:=omega) only[acM,fA,aM,aaL,d1,zr,↓jV,jX,jY,jZ,Nat.reduceAdd,Nat.reduceSub,Nat.reduceMul,Nat.reduceLeDiff,Nat.reduceLT,Nat.reduceEqDiff,Nat.reduceBEq,reduceIte,reduceCtorEq,Int.reduceBEq,Int.reduceEq,Int.reduceLT,Int.reduceLE,Int.reduceGT,Int.reduceGE,Int.reduceAdd,Int.reduceSub,Int.reduceNeg,Int.reduceBNe,ite_true,ite_false,if_true,if_false,implies_true,forall_const]
 have d1:decide (a+2 > b.length)=false:=by simpa using h1
 rw[if_neg h1];have a0:=(vm ho b).ix .i64 a b[a] (List.getElem?_eq_getElem (by omega));have a1:=(vm ho b).ix .i64 (a+1) b[a+1] (List.getElem?_eq_getElem (by omega));have g0:b.getD a 0=b[a]:=by simp;rw[List.getElem?_eq_getElem (by omega)];rfl
 have g1:b.getD (a+1) 0=b[a+1]:=by simp;rw[List.getElem?_eq_getElem (by omega)];rfl
 rw[g0]
 by_cases h2:32≤b[a]
 ·have d2:decide ((b[a].toNat:Int)≥32)=true:=by rw[apu];simpa using h2
  rw[if_pos h2];simp (disch:=omega) only[acM,fA,aM,aaL,d1,a0,d2,zr,↓jV,jX,jY,jZ,Nat.reduceAdd,Nat.reduceSub,Nat.reduceMul,Nat.reduceLeDiff,Nat.reduceLT,Nat.reduceEqDiff,Nat.reduceBEq,reduceIte,reduceCtorEq,Int.reduceBEq,Int.reduceEq,Int.reduceLT,Int.reduceLE,Int.reduceGT,Int.reduceGE,Int.reduceAdd,Int.reduceSub,Int.reduceNeg,Int.reduceBNe,ite_true,ite_false,if_true,if_false,implies_true,forall_const]
 rw[if_neg h2,g1];unfold LO;have d2:decide ((b[a].toNat:Int)≥32)=false:=by rw[apu];simpa using h2
 by_cases h3:b[a+1]=254
 ·have d3:((b[a+1].toNat:Int) == 254)=true:=by rw[h3];rfl
  simp (disch:=omega) only[acM,fm,fA,aM,aaL,d1,a0,a1,d2,d3,ae2,zr,↓jV,jX,jY,jZ,Nat.reduceAdd,Nat.reduceSub,Nat.reduceMul,Nat.reduceLeDiff,Nat.reduceLT,Nat.reduceEqDiff,Nat.reduceBEq,reduceIte,reduceCtorEq,Int.reduceBEq,Int.reduceEq,Int.reduceLT,Int.reduceLE,Int.reduceGT,Int.reduceGE,Int.reduceAdd,Int.reduceSub,Int.reduceNeg,Int.reduceBNe,ite_true,ite_false,if_true,if_false,implies_true,forall_const];have e3:(b[a+1] == 254)=true:=by rw[h3];rfl
  have hf:=al5 (h:=h) ho b a 0 b[a] true hb (by omega) (by omega);simp only[show((0:Nat):Int)=0 from rfl]at hf;rw[hf,e3];rfl
 ·have d3:((b[a+1].toNat:Int) == 254)=false:=by
   rw[beq_eq_false_iff_ne];intro hq;exact h3 (UInt8.toNat_inj.1 (by have:((254:UInt8).toNat)=254:=rfl;omega))
  have e3:(b[a+1] == 254)=false:=by rw[beq_eq_false_iff_ne];exact h3
  simp only[e3,Bool.false_eq_true,if_false]
  by_cases h4:250<b[a+1].toNat
  ·have d4:decide ((b[a+1].toNat:Int) > 250)=true:=by simp;omega
   rw[if_pos h4];simp (disch:=omega) only[acM,fm,fA,aM,aaL,d1,a0,a1,d2,d3,d4,ae2,zr,↓jV,jX,jY,jZ,Nat.reduceAdd,Nat.reduceSub,Nat.reduceMul,Nat.reduceLeDiff,Nat.reduceLT,Nat.reduceEqDiff,Nat.reduceBEq,reduceIte,reduceCtorEq,Int.reduceBEq,Int.reduceEq,Int.reduceLT,Int.reduceLE,Int.reduceGT,Int.reduceGE,Int.reduceAdd,Int.reduceSub,Int.reduceNeg,Int.reduceBNe,ite_true,ite_false,if_true,if_false,implies_true,forall_const]
  ·have d4:decide ((b[a+1].toNat:Int) > 250)=false:=by simp;omega
   have hf:=al5 (h:=h) ho b a b[a+1].toNat b[a] false hb (by omega) (by omega);rw[if_neg h4];simp (disch:=omega) only[acM,fm,fA,aM,aaL,d1,a0,a1,d2,d3,d4,ae2,hf,↓jV,jX,jY,jZ,Nat.reduceAdd,Nat.reduceSub,Nat.reduceMul,Nat.reduceLeDiff,Nat.reduceLT,Nat.reduceEqDiff,Nat.reduceBEq,reduceIte,reduceCtorEq,Int.reduceBEq,Int.reduceEq,Int.reduceLT,Int.reduceLE,Int.reduceGT,Int.reduceGE,Int.reduceAdd,Int.reduceSub,Int.reduceNeg,Int.reduceBNe,ite_true,ite_false,if_true,if_false,implies_true,forall_const]
theorem acY {b:List UInt8} {a:Nat} {r:Rec} (hr:vw b a=some r):a+7≤r.fin∧r.fin≤b.length∧r.val.length+a+7=r.fin∧r.val.length≤250∧r.key.toNat<32∧(r.drop=true→r.val=[]):=by
 unfold vw at hr;split at hr
 ·cases hr
 split at hr
 ·cases hr
 rename_i h1 h2;generalize hn:(if(b.getD (a+1) 0 == 254)=true then 0 else(b.getD (a+1) 0).toNat)=n at hr;unfold LO at hr;split at hr
 ·cases hr
 split at hr
 ·cases hr
 split at hr
 ·cases hr
 rename_i h3 h4 h5;simp only[Option.some.injEq]at hr;subst hr;simp only;have hl:((b.drop (a+2)).take n).length=n:=by simp;omega
 refine⟨by omega,by omega,by rw[hl];omega,by rw[hl];omega,?_,fun hd=>?_⟩
 ·have:¬ (32≤(b.getD a 0).toNat):=fun hq=>h2 (UInt8.le_iff_toNat_le.2 hq)
  omega
 ·rw[hd]at hn
  simp only[if_true]at hn;rw[←hn];rfl
theorem ad8 (base:Nat) {o:Own} (ho:Nf o) (b:List UInt8) (a:Nat) (r:Rec) (hb:b.length≤1000000) (h1:a+1≤r.fin) (h2:r.fin≤b.length) :
  ai T base 125 [.sl o 1 (aP b),.int .i64 (a:Int),ahq r] h=some (.bool (lK ((b.drop a).take (r.fin-1-a))),h):=by
 have b1:oY b.length b.length (some (.int .i64 ((r.fin-1:Nat):Int)))=some (r.fin-1):=(jd _ _ _).trans (gQ _ .i64 _ (by omega));have b0:oY (r.fin-1) 0 (some (.int .i64 (a:Int)))=some a:=(jd _ _ _).trans (gQ _ .i64 _ (by omega));obtain⟨o1,p1,s1⟩:=slc (o:=o) b b0 b1;have hop:∀ (H:Hp) (base:Nat),∃ x,ai T base 92 [.sl o1 1 (aP ((b.drop a).take (r.fin-1-a)))] H=some (.cC [x,.bool (lK ((b.drop a).take (r.fin-1-a)))],H):=fun H base =>
  let ⟨x,h1,_⟩:=NX (h:=H) base p1 _ (by simp;omega);⟨x,h1⟩
 obtain⟨x,hx⟩:=hop (ext h [.cells [.int .i64 (r.key.toNat:Int),.sl .full 1 (aP r.val),.bool r.drop,.int .i64 (r.fin:Int)]]) (size h);rw[at5];generalize PV.sl o 1 (aP b)=v at s1 ⊢;simp (disch:=omega) only[ahq,aeR,s1,hx,↓jV,jX,jY,jZ,Nat.reduceAdd,Nat.reduceSub,Nat.reduceMul,Nat.reduceLeDiff,Nat.reduceLT,Nat.reduceEqDiff,Nat.reduceBEq,reduceIte,reduceCtorEq,Int.reduceBEq,Int.reduceEq,Int.reduceLT,Int.reduceLE,Int.reduceGT,Int.reduceGE,Int.reduceAdd,Int.reduceSub,Int.reduceNeg,Int.reduceBNe,ite_true,ite_false,if_true,if_false,implies_true,forall_const]
/-! ### The bytes of a record -/
def dD (key:UInt8) (l:List UInt8) (dr:Bool):List UInt8 :=
 (key::(if dr then 254 else UInt8.ofNat l.length)::l)++br (mJ (key::(if dr then 254 else UInt8.ofNat l.length)::l))
theorem eD (key:UInt8) (l:List UInt8) (dr:Bool):(dD key l dr).length=l.length+6:=by simp[dD,br]
theorem ae3 {o:Own} (l:List UInt8):Rd h (.sl o 1 (aP l)) l:=by
 refine⟨by rw[fA,aM],fun k i c hc=>?_,rfl,.inl rfl⟩;have hi:=(List.getElem?_eq_some_iff.1 hc).1;refine⟨.ep [.int .u8 c.toNat] 0,?_,rfl⟩;rw[k9,if_pos rfl,iZ k i _ (by rw[aM];exact hi),Option.ag,pZ,hc];rfl
theorem Rq (l:List UInt8):(aP l).all (fits 1)=true:=(tK (lJ l)).1
theorem ae4 {v:PV} {l:List UInt8} (hv:elems h v=some (aP l)) (hl:l.length≤700000) (x y:UInt8):qE 5 1 (.sl .full 1 [.int .u8 (x.toNat:Int),.int .u8 (y.toNat:Int)]) v h =
  some (if l=[] then(.sl .full 1 (aP [x,y]),h) else(.sl (.tok (size h)) 1 (aP (x::y::l)),ext h [.tok (2+l.length) 5])):=by
 rw[pE,hv,Option.ag];unfold aaI;rw[if_pos (Rq l)];simp only[List.length_cons,List.length_nil,aM,gy,true_and];rw[if_pos (by omega)]
 by_cases h0:l=[]
 ·subst h0;rfl
 ·have:(aP l).isEmpty=false:=by
   cases l with
   | nil=>exact(h0 rfl).elim
   | cons c l=>rfl
  rw[if_neg h0,this,nO];simp only[Bool.false_eq_true,if_false];rfl
theorem acZ (base:Nat) (k:Nat) {v:PV} {l:List UInt8} (hv:Rd h v l) (hl:l.length≤700000) (dr:Bool) :
  ai T base 119 [.int .i64 (k:Int),v,.bool dr] h=some (.sl .no 1 (aP (dD (UInt8.ofNat k) l dr)),h):=by
 have ha:=fun x y=>ae4 (h:=h) hv.el hl x y
 have hb:=(vm (.inl rfl) (dD (UInt8.ofNat k) l dr)).below;have hf:=(vm (.inl rfl) (dD (UInt8.ofNat k) l dr)).gW;have fin:∀ y:UInt8,dD (UInt8.ofNat k) l dr=(UInt8.ofNat k::y::l)++br (mJ (UInt8.ofNat k::y::l)) →
   (aG (some (if l=[] then(PV.sl Own.full 1 (aP [UInt8.ofNat k,y]),h) else(PV.sl (Own.tok (size h)) 1 (aP (UInt8.ofNat k::y::l)),ext h [gT.tok (2+l.length) 5]))) fun gG h13 =>
   aG (ai T (size h) 139 [gG] h13) fun mq Ql =>
    Option.ah (fun vs=>if belows (size h) vs=true then some (fS vs,bJ Ql (size h)) else none)
     (Option.ah (fun v=>some [v]) (gW (size h) Ql mq)))=some (PV.sl Own.no 1 (aP (dD (UInt8.ofNat k) l dr)),h):=by
  intro y hy
  by_cases h0:l=[]
  ·subst h0
   have hs:=acV (h:=h) (size h) (ae3 (h:=h) (o:=.full) [UInt8.ofNat k,y]) rfl (by simp);rw[←hy]at hs;simp only[if_true,hs,hf,hb,bL,↓jV,jX,jY,jZ,Nat.reduceAdd,Nat.reduceSub,Nat.reduceMul,Nat.reduceLeDiff,Nat.reduceLT,Nat.reduceEqDiff,Nat.reduceBEq,reduceIte,reduceCtorEq,Int.reduceBEq,Int.reduceEq,Int.reduceLT,Int.reduceLE,Int.reduceGT,Int.reduceGE,Int.reduceAdd,Int.reduceSub,Int.reduceNeg,Int.reduceBNe,ite_true,ite_false,if_true,if_false,implies_true,forall_const]
  ·have hs:=acV (h:=ext h [gT.tok (2+l.length) 5]) (size h) (ae3 (o:=.tok (size h)) (UInt8.ofNat k::y::l)) rfl (by simp;omega)
   rw[←hy]at hs;simp only[h0,if_false,hs,hf,hb,cH,↓jV,jX,jY,jZ,Nat.reduceAdd,Nat.reduceSub,Nat.reduceMul,Nat.reduceLeDiff,Nat.reduceLT,Nat.reduceEqDiff,Nat.reduceBEq,reduceIte,reduceCtorEq,Int.reduceBEq,Int.reduceEq,Int.reduceLT,Int.reduceLE,Int.reduceGT,Int.reduceGE,Int.reduceAdd,Int.reduceSub,Int.reduceNeg,Int.reduceBNe,ite_true,ite_false,if_true,if_false,implies_true,forall_const]
 rw[atY];cases dr with
 | true =>
  have h2:IntKind.u8.wrap 254=(((254:UInt8).toNat:Nat):Int):=rfl;simp (disch:=omega) only[hv.len,wr8,h2,ha,↓jV,jX,jY,jZ,Nat.reduceAdd,Nat.reduceSub,Nat.reduceMul,Nat.reduceLeDiff,Nat.reduceLT,Nat.reduceEqDiff,Nat.reduceBEq,reduceIte,reduceCtorEq,Int.reduceBEq,Int.reduceEq,Int.reduceLT,Int.reduceLE,Int.reduceGT,Int.reduceGE,Int.reduceAdd,Int.reduceSub,Int.reduceNeg,Int.reduceBNe,ite_true,ite_false,if_true,if_false,implies_true,forall_const];exact fin _ rfl
 | false =>
  simp (disch:=omega) only[hv.len,wr8,ha,↓jV,jX,jY,jZ,Nat.reduceAdd,Nat.reduceSub,Nat.reduceMul,Nat.reduceLeDiff,Nat.reduceLT,Nat.reduceEqDiff,Nat.reduceBEq,reduceIte,reduceCtorEq,Int.reduceBEq,Int.reduceEq,Int.reduceLT,Int.reduceLE,Int.reduceGT,Int.reduceGE,Int.reduceAdd,Int.reduceSub,Int.reduceNeg,Int.reduceBNe,ite_true,ite_false,if_true,if_false,implies_true,forall_const];exact fin _ rfl
end Go.Am.Qd
namespace Go.Am.Qd
variable {h:Hp}
abbrev Vs:=List (Nat × Option (List UInt8))
def vV:Option (List UInt8)→PV
 | none=>.bn
 | some l=>BC l
def vB:Option (List UInt8)→List UInt8
 | none=>[]
 | some l=>l
def pK (vs:Vs):List (PV × PV):=vs.map fun e=>(.int .i64 (e.1:Int),vV e.2)
theorem adN (v:Option (List UInt8)):Bv (vV v) (vB v):=by
 cases v with
 | none=>exact yf
 | some l=>exact J0 l
theorem apv (v:Option (List UInt8)):jj 1 (vV v)=some false∨vV v=.bn:=by
 cases v with
 | none=>exact .inr rfl
 | some l=>exact .inl (TP l)
theorem al6 (v:Option (List UInt8)):Rd h (vV v) (vB v):=(adN v).rd (apv v)
def idxOf:Vs→Int→Option Nat
 | [],_=>none
 | e::r,k=>if(e.1:Int)=k then some 0 else(idxOf r k).map (·+1)
def cO:Vs→Int→Option (Option (List UInt8))
 | [],_=>none
 | e::r,k=>if(e.1:Int)=k then some e.2 else cO r k
def gK:Vs→Nat→Option (List UInt8)→Vs
 | [],k,v=>[(k,v)]
 | e::r,k,v=>if e.1=k then(k,v)::r else e::gK r k v
def lS:Vs→Int→Vs
 | [],_=>[]
 | e::r,k=>if(e.1:Int)=k then r else e::lS r k
theorem Cr (key:Int):∀ (vs:Vs) (i:Nat),jK [1] false (.int .i64 key) (pK vs) i=some ((idxOf vs key).map (·+i))
 | [],i=>rfl
 | e::r,i=>by
  have ih:=Cr key r (i+1);unfold pK at ih ⊢;simp only[List.map_cons,jK,KO,List.headD_cons,fF,if_true,Option.ag,idxOf]
  by_cases hk:(e.1:Int)=key
  ·have:(key == (e.1:Int))=true:=by rw[hk];simp
   rw[this,if_pos hk];simp
  ·have:(key == (e.1:Int))=false:=by rw[beq_eq_false_iff_ne];exact fun q=>hk q.symm
   rw[this,if_neg hk,ih];cases idxOf r key<;>simp;omega
theorem LP (key:Int):∀ (vs:Vs),cO vs key=(idxOf vs key).bind fun i=>(vs[i]?).map (·.2)
 | []=>rfl
 | e::r=>by
  simp only[cO,idxOf]
  by_cases hk:(e.1:Int)=key
  ·rw[if_pos hk,if_pos hk];rfl
  ·rw[if_neg hk,if_neg hk,LP key r]
   cases idxOf r key<;>simp
theorem Rr (key:Int):∀ (vs:Vs) (i:Nat),idxOf vs key=some i→i<vs.length
 | [],i,h=>by simp[idxOf]at h
 | e::r,i,h=>by
  simp only[idxOf]at h;split at h
  ·cases h;simp
  ·simp only[Option.map_eq_some_iff]at h
   obtain⟨j,hj,rfl⟩:=h;have:=Rr key r j hj;simp;omega
theorem adO (k:Nat) (v:Option (List UInt8)):∀ (vs:Vs),ON (.int .i64 (k:Int)) (vV v) (pK vs) (idxOf vs k)=pK (gK vs k v)
 | []=>rfl
 | e::r=>by
  have ih:=adO k v r;simp only[idxOf,gK,Int.natCast_inj]
  by_cases hk:e.1=k
  ·rw[if_pos hk,if_pos hk];rfl
  ·rw[if_neg hk,if_neg hk]
   simp only[pK,List.map_cons]at ih ⊢;cases hq:idxOf r k with
   | none=>rw[hq]at ih;simp only[ON,Option.map_none]at ih ⊢;rw[List.cons_append,ih]
   | some j=>rw[hq]at ih;simp only[ON,Option.map_some]at ih ⊢;rw[List.set_cons_succ,ih]
theorem adQ (k:Int):∀ (vs:Vs),Vc (pK vs) (idxOf vs k)=pK (lS vs k)
 | []=>rfl
 | e::r=>by
  have ih:=adQ k r;simp only[idxOf,lS]
  by_cases hk:(e.1:Int)=k
  ·rw[if_pos hk,if_pos hk];rfl
  ·rw[if_neg hk,if_neg hk]
   simp only[pK,List.map_cons]at ih ⊢;cases hq:idxOf r k with
   | none=>rw[hq]at ih;simp only[Vc,Option.map_none]at ih ⊢;rw[ih]
   | some j=>rw[hq]at ih;simp only[Vc,Option.map_some]at ih ⊢;rw[List.eraseIdx_cons_succ,ih]
def lkR (ok:Bool) (r:Option (Option (List UInt8))):PV :=
 let v:=match r with | none=>PV.bn | some v=>vV v
 if ok then .cC [v,.bool r.isSome] else v
theorem GX (base:Nat) {m:Nat} {vs:Vs} (hm:bR h m=some (pK vs)) (ok:Bool) (key:Int):cU base h (.lookup [1] false .bn ok) [.eL m,.int .i64 key]=some (lkR ok (cO vs key),h):=by
 rw[vc,pG,hm,Option.ag,B9,if_pos (by decide),Cr,Option.ag,LP];cases hq:idxOf vs key with
 | none=>cases ok<;>rfl
 | some i =>
  have hi:=Rr key vs i hq;have hg:(pK vs)[i]?=some (.int .i64 ((vs[i]).1:Int),vV (vs[i]).2):=by simp[pK,hi]
  simp only[Option.map_some,Nat.add_zero,BF,hg,Option.ag,Option.bind_some,List.getElem?_eq_getElem hi];cases ok<;>rfl
theorem aeD (v:Option (List UInt8)):(vV v).cells.all scalar=true:=by
 cases v with
 | none=>rfl
 | some l=>simp only[vV,BC];split<;>rfl
theorem adR (base:Nat) {m:Nat} {vs:Vs} (hm:bR h m=some (pK vs)) (k:Nat) (v:Option (List UInt8)):cU base h (.CK [1] false) [.eL m,.int .i64 (k:Int),vV v]=some (.undef,aC h m (.map (pK (gK vs k v)))):=by
 rw[FJ,hm,Option.ag,B9];rw[if_pos ⟨rfl,rfl,aeD v,fun _=>⟨rfl,by rw[(adN v).strip];exact(adN v).below 0⟩⟩,Cr,Option.ag,(adN v).strip];have:(idxOf vs (k:Int)).map (·+0)=idxOf vs k:=by cases idxOf vs (k:Int)<;>rfl
 rw[this];have:=adO k v vs;simp only[strip];rw[this]
theorem ae6 (base:Nat) {m:Nat} {vs:Vs} (hm:bR h m=some (pK vs)) (k:Int):cU base h (.CM [1] false) [.eL m,.int .i64 k]=some (.cC [],aC h m (.map (pK (lS vs k)))):=by
 rw[FK,hm,Option.ag,B9,if_pos (by decide),Cr,Option.ag];have:(idxOf vs k).map (·+0)=idxOf vs k:=by cases idxOf vs k<;>rfl
 rw[this,adQ]
def cY (vs:Vs):Nat:=8+(vs.map fun e=>7+(vB e.2).length).sum
theorem ac1:∀ (vs:Vs),oX (pK vs)=some (vs.map fun e=>(vB e.2).length)
 | []=>rfl
 |(k,v)::r=>by
  have ih:=ac1 r;unfold pK at ih ⊢;rw[List.map_cons,List.map_cons];cases v with
  | none =>
   rw[show vV (none:Option (List UInt8))=.bn from rfl,oX,ih];rfl
  | some l =>
   rw[show vV (some l)=BC l from rfl];unfold BC;split
   ·rename_i h0;subst h0;rw[oX,ih];rfl
   ·rw[oX,ih,aM];rfl
def Small (vs:Vs):Prop:=vs.length≤32∧∀ e∈vs,e.1<32∧(vB e.2).length≤250
theorem ad9 {m:Nat} {vs:Vs} (hm:bR h m=some (pK vs)) (hs:Small vs):PU [.eL m] h=some (.int .i64 (cY vs:Nat),none):=by
 have hl:=hs.1;simp only[PU,hm,Option.ag];rw[if_pos (by simp[pK];omega),ac1,Option.ag,if_pos]
 ·simp only[cY,List.map_map]
  rfl
 ·rw[List.all_eq_true]
  intro n hn;obtain⟨e,he,rfl⟩:=List.mem_map.1 hn;have:=(hs.2 e he).2;simp;omega
end Go.Am.Qd
namespace Go.Am.Qd
variable {h:Hp} {p:FP} {F:Fl}
theorem gL.program (hF:gL F) (i:Nat) (l:List UInt8):gL (F.program i l).2∧(F.program i l).2.b.length=F.b.length∧(F.program i l).2.bN=F.bN∧(F.program i l).2.aj=F.aj:=by
 unfold Fl.program;split
 ·exact⟨hF,rfl,rfl,rfl⟩
 ·split
  ·exact gL.prog l hF i
  ·exact⟨hF,rfl,rfl,rfl⟩
def _root_.Go.Am.Fl.lay (F:Fl) (a:Nat) (l:List UInt8):Nat × Fl:=if(F.program a l).1=0 then(F.program a l).2.program (a+l.length) [0] else F.program a l
theorem gL.lay (hF:gL F) (i:Nat) (l:List UInt8):gL (F.lay i l).2∧(F.lay i l).2.b.length=F.b.length∧(F.lay i l).2.bN=F.bN∧(F.lay i l).2.aj=F.aj:=by
 obtain⟨h1,h2,h3,h4⟩:=hF.program i l;unfold Fl.lay;split
 ·obtain⟨g1,g2,g3,g4⟩:=h1.program (i+l.length) [0]
  exact⟨g1,g2.trans h2,g3.trans h3,g4.trans h4⟩
 ·exact⟨h1,h2,h3,h4⟩
theorem aek:Bv (.sl .full 1 [.int .u8 0]) [0]:=vm (.inr rfl) [0]
theorem adT (hp:pH h p) {q first count:Nat} (hq:gI h p q first count) (base:Nat) (a:Nat) (l:List UInt8) {v:PV} (hv:Bv v l) (hF:gL F) (hin:a+l.length+1≤count*F.aj) (hb:(first+count)*F.aj≤F.b.length) :
  ai T base 138 [.ptr q 0,.int .i64 a,v] (cw h p F)=some (.int .i64 ((F.lay (first*F.aj+a) l).1:Nat),cw h p (F.lay (first*F.aj+a) l).2):=by
 have hl:=hF.len;have hmul:=hb;rw[Nat.add_mul]at hmul;have h1:=fun b=>aaY (F:=F) hp hq b a l hv hF (by omega) hb
 obtain⟨t1,t2,t3,t4⟩:=hF.program (first*F.aj+a) l;have h2:=fun b=>aaY (F:=(F.program (first*F.aj+a) l).2) hp hq b (a+l.length) [0] aek t1 (by rw[t4];simp;omega) (by rw[t4,t2];exact hb)
 rw[t4]at h2;have hz:cF 1 false [(.int .u8 0)] 1 [(0,strip (.int .u8 0))]=some (.sl .full 1 [.int .u8 0]):=rfl;rw[at7];unfold Fl.lay
 by_cases hc:(F.program (first*F.aj+a) l).1=0
 ·rw[if_pos hc]
  have e0:(((F.program (first*F.aj+a) l).1:Int) != 0)=false:=by rw[hc];rfl
  simp (disch:=omega) only[bS,h1,e0,hv.len,mI,hz,h2,cR,←Nat.add_assoc,↓jV,jX,jY,jZ,simprocAttr,if_true,if_false,implies_true,forall_const]
 ·rw[if_neg hc]
  have e0:(((F.program (first*F.aj+a) l).1:Int) != 0)=true:=by simpa using hc
  simp (disch:=omega) only[bS,h1,e0,cR,↓jV,jX,jY,jZ,simprocAttr,if_true,if_false,implies_true,forall_const]
theorem aea (base:Nat) {v:PV} {l:List UInt8} (hv:Bv v l) (hl:l.length≤1000000):ai T base 140 [v] h=some (.int .i64 ((7+l.length:Nat):Int),h):=by
 rw[aub];simp (disch:=omega) only[hv.len,aou,bL,↓jV,jX,jY,jZ,simprocAttr,if_true,if_false,implies_true,forall_const]
def _root_.Go.Am.Fl.fill (F:Fl) (A:Nat) (a:Nat) (vs:Vs):List Nat→Nat × Nat × Fl
 | []=>(a,0,F)
 | k::r=>if(F.lay (A+a) (dD (UInt8.ofNat k) (vB ((cO vs k).getD none)) false)).1=0 then
   (F.lay (A+a) (dD (UInt8.ofNat k) (vB ((cO vs k).getD none)) false)).2.fill A (a+(7+(vB ((cO vs k).getD none)).length)) vs r
   else(0,(F.lay (A+a) (dD (UInt8.ofNat k) (vB ((cO vs k).getD none)) false)))
def j9 (vs:Vs) (ks:List Nat):Nat:=(ks.map fun(k:Nat)=>7+(vB ((cO vs k).getD none)).length).sum
theorem ac2 (hp:pH h p) {q first count:Nat} (hq:gI h p q first count) {m:Nat} {vs:Vs} (hm:bR h m=some (pK vs)) (nm:m≠p.f∧m≠p.bb∧m≠p.wb) {n0:Nat} {R:Fl→Hp} (hR:∀ F,bJ (cw h p F) n0=R F)
  (base:Nat) (ks:List Nat) (ae7:∀ k∈ks,k<32) (hlen:ks.length≤1000):∀ (n i a:Nat) {F:Fl},gL F→(first+count)*F.aj≤F.b.length→a+j9 vs (ks.drop i)≤count*F.aj→count*F.aj≤600000→i+n=ks.length →
  abZ base n0 (.int .i64 (i:Int)) (.eL m) (.int .i64 (a:Int)) (.ptr q 0) (.sl .no 1 (ks.map fun(k:Nat)=>.int .i64 (k:Int))) (.int .i64 (ks.length:Int)) (cw h p F) =
   some (.cC [.int .i64 ((F.fill (first*F.aj) a vs (ks.drop i)).1:Nat),.int .i64 ((F.fill (first*F.aj) a vs (ks.drop i)).2.1:Nat)],R (F.fill (first*F.aj) a vs (ks.drop i)).2.2)
 | 0,i,a,F,hF,hb,hsum,hcs,hi=>by
  have e0:¬ (i<ks.length):=by omega
  rw[abl,List.drop_of_length_le (by omega)];simp only[dec_lt,e0,decide_false,Fl.fill,hR,↓jV,jX,jY,jZ,simprocAttr,if_true,if_false,implies_true,forall_const]<;>rfl
 | n+1,i,a,F,hF,hb,hsum,hcs,hi=>by
  have e0:i<ks.length:=by omega
  have hd:ks.drop i=ks[i]::ks.drop (i+1):=List.drop_eq_getElem_cons e0;rw[hd]at hsum ⊢;simp only[j9,List.map_cons,List.sum_cons]at hsum;have hk:=ae7 ks[i] (List.getElem_mem e0);have hl:=hF.len;have hmul:=hb;rw[Nat.add_mul]at hmul;generalize hv:(cO vs ks[i]).getD none=v at hsum;have hidx:cX (.sl .no 1 (ks.map fun(k:Nat)=>PV.int .i64 (k:Int))) (.int .i64 (i:Int)) 1=some (.ep [.int .i64 (ks[i] : Int)] 0):=by
   rw[k9,if_pos rfl,iZ .i64 i _ (by simpa using e0),Option.ag];simp[e0];rfl
  have hlk:=GX (h:=cw h p F) base (m:=m) (vs:=vs) (by rw[FM hp nm.1 nm.2.1 nm.2.2];exact hm) false (ks[i] : Int);have apw:lkR false (cO vs ks[i])=vV v:=by
   rw[←hv];cases cO vs ks[i]<;>rfl
  rw[apw]at hlk;have hbd:=acZ (h:=cw h p F) base ks[i] (al6 v) (by omega) false;have hbl:(dD (UInt8.ofNat ks[i]) (vB v) false).length=(vB v).length+6:=eD _ _ _;have apx:=adT hp hq base a (dD (UInt8.ofNat ks[i]) (vB v) false) (vm (.inl rfl) _) hF (by rw[hbl];omega) hb;obtain⟨t1,t2,t3,t4⟩:=hF.lay (first*F.aj+a) (dD (UInt8.ofNat ks[i]) (vB v) false);have apy:=GX (h:=cw h p (F.lay (first*F.aj+a) (dD (UInt8.ofNat ks[i]) (vB v) false)).2) base (m:=m) (vs:=vs) (by rw[FM hp nm.1 nm.2.1 nm.2.2];exact hm) false (ks[i] : Int);rw[apw]at apy;have hrs:=aea (h:=cw h p (F.lay (first*F.aj+a) (dD (UInt8.ofNat ks[i]) (vB v) false)).2) base (adN v) (by omega);have ih:=ac2 hp hq hm nm hR base ks ae7 hlen n (i+1) (a+(7+(vB v).length)) t1 (by rw[t4,t2];exact hb) (by rw[t4];simp only[j9];omega) (by rw[t4];exact hcs) (by omega);rw[t4]at ih;rw[abl];simp only[Fl.fill,hv]
  by_cases hc:(F.lay (first*F.aj+a) (dD (UInt8.ofNat ks[i]) (vB v) false)).1=0
  ·rw[if_pos hc]
   have e1:(((F.lay (first*F.aj+a) (dD (UInt8.ofNat ks[i]) (vB v) false)).1:Int) != 0)=false:=by rw[hc];rfl
   simp (disch:=omega) only[dec_lt,e0,decide_true,hidx,hlk,hbd,apx,e1,apy,hrs,mI,fm,ih,↓jV,jX,jY,jZ,simprocAttr,if_true,if_false,implies_true,forall_const]
  ·rw[if_neg hc]
   have e1:(((F.lay (first*F.aj+a) (dD (UInt8.ofNat ks[i]) (vB v) false)).1:Int) != 0)=true:=by simpa using hc
   simp (disch:=omega) only[dec_lt,e0,decide_true,hidx,hlk,hbd,apx,e1,hR,↓jV,jX,jY,jZ,simprocAttr,if_true,if_false,implies_true,forall_const]<;>rfl
end Go.Am.Qd
namespace Go.Am.Qd
variable {h:Hp} {p:FP} {F:Fl}
def fy (vs:Vs):List Nat:=(vs.map (·.1)).mergeSort fun x y=>decide (x≤y)
theorem ac3:∀ (vs:Vs),(∀ e∈vs,e.1<32)→kT (pK vs)=some (vs.map fun e=>(e.1:Int))
 | [],_=>rfl
 | e::r,hk=>by
  have ih:=ac3 r fun e he=>hk e (by simp[he])
  have:=hk e (by simp);unfold pK at ih ⊢;simp only[List.map_cons,kT];rw[if_pos (by omega),ih];rfl
theorem adU (vs:Vs):sr (vs.map fun e=>(e.1:Int))=(fy vs).map fun(k:Nat)=>(k:Int):=by
 unfold sr fy;rw[List.map_mergeSort (s:=fun(x y:Int)=>decide (x≤y)) (f:=fun(k:Nat)=>(k:Int)) (by intro a _ b _;simp)];rw[List.map_map];rfl
theorem tU (vs:Vs) (k:Nat):k∈fy vs↔∃ e∈vs,e.1=k:=by
 unfold fy;rw[(List.mergeSort_perm _ _).mem_iff,List.mem_map]
theorem aeE (vs:Vs):(fy vs).length=vs.length:=by
 unfold fy;rw[(List.mergeSort_perm _ _).length_eq,List.length_map]
def ksV (ks:List Nat):PV:=if ks=[] then .bn else .sl .no 1 (ks.map fun(k:Nat)=>.int .i64 (k:Int))
theorem adj {m x:Nat} {vs:Vs} (hx:ay h x=some [.eL m]) (hm:bR h m=some (pK vs)) (hs:Small vs):xS 150 [.fn 150 [.ptr x 0]] h=some (ksV (fy vs),none):=by
 simp only[xS,if_true,hx,Option.ag,hm];have:=hs.1;rw[if_pos (by simp[pK];omega),ac3 vs fun e he=>(hs.2 e he).1,Option.ag,adU,UH,ksV];simp only[List.map_eq_nil_iff,List.map_map];rfl
theorem adV (base:Nat) {m:Nat} {vs:Vs} (hm:bR h m=some (pK vs)) (hs:Small vs) :
  ai T base 141 [.fn 150 [.ptr (size h) 0]] (ext h [.cells [.eL m]])=some (ksV (fy vs),ext h [.cells [.eL m]]):=by
 rw[yQ aoq,adj (m:=m) (vs:=vs) (by rw[aQ];rfl) (by rw[bR,dP (bw (kY hm))];exact hm) hs];rfl
theorem aeF (base n0:Nat) (a:Int) (q m:Nat):abZ base n0 (.int .i64 0) (.eL m) (.int .i64 a) (.ptr q 0) .bn (.int .i64 0) h=some (.cC [.int .i64 a,.int .i64 0],bJ h n0):=by
 rw[abl];simp only[↓jV,jX,jY,jZ,Nat.reduceAdd,Nat.reduceSub,Nat.reduceMul,Nat.reduceLeDiff,Nat.reduceLT,Nat.reduceEqDiff,Nat.reduceBEq,reduceIte,reduceCtorEq,Int.reduceBEq,Int.reduceEq,Int.reduceLT,Int.reduceLE,Int.reduceGT,Int.reduceGE,Int.reduceAdd,Int.reduceSub,Int.reduceNeg,Int.reduceBNe,ite_true,ite_false,if_true,if_false,implies_true,forall_const]
theorem gI.ext {q first count:Nat} (hq:gI h p q first count) (l:Hp):gI (Go.Am.ext h l) p q first count:=⟨by
 have:=hq.get;rw[aX (bw (bq this))];exact this,hq.n1,hq.n2,hq.n3⟩
theorem aeG (hp:pH h p) {q first count:Nat} (hq:gI h p q first count) {m:Nat} {vs:Vs} (hm:bR h m=some (pK vs)) (nm:m≠p.f∧m≠p.bb∧m≠p.wb) (hs:Small vs)
  (base:Nat) (hF:gL F) (hb:(first+count)*F.aj≤F.b.length) (hsum:8+j9 vs (fy vs)≤count*F.aj) (hcs:count*F.aj≤600000) :
  ai T base 122 [.ptr q 0,.eL m] (cw h p F)=some (.cC [.int .i64 ((F.fill (first*F.aj) 8 vs (fy vs)).1:Nat),.int .i64 ((F.fill (first*F.aj) 8 vs (fy vs)).2.1:Nat)],cw h p (F.fill (first*F.aj) 8 vs (fy vs)).2.2):=by
 have h4:∀ b,ai T b 142 [.eL m] (cw h p F)=some (.fn 150 [.ptr (size (cw h p F)) 0],ext (cw h p F) [.cells [.eL m]]):=fun b=>by
  rw[auc];simp only[↓jV,jX,jY,jZ,Nat.reduceAdd,Nat.reduceSub,Nat.reduceMul,Nat.reduceLeDiff,Nat.reduceLT,Nat.reduceEqDiff,Nat.reduceBEq,reduceIte,reduceCtorEq,Int.reduceBEq,Int.reduceEq,Int.reduceLT,Int.reduceLE,Int.reduceGT,Int.reduceGE,Int.reduceAdd,Int.reduceSub,Int.reduceNeg,Int.reduceBNe,ite_true,ite_false,if_true,if_false,implies_true,forall_const]
 have h5:=fun b=>adV (h:=cw h p F) b (m:=m) (vs:=vs) (by rw[FM hp nm.1 nm.2.1 nm.2.2];exact hm) hs
 rw[at0];simp only[bS]at h4 h5 ⊢;rw[h4,az,h5,az]
 by_cases hk:fy vs=[]
 ·rw[hk]
  simp only[ksV,if_true,Fl.fill,↓jV,jX,jY,jZ,Nat.reduceAdd,Nat.reduceSub,Nat.reduceMul,Nat.reduceLeDiff,Nat.reduceLT,Nat.reduceEqDiff,Nat.reduceBEq,reduceIte,reduceCtorEq,Int.reduceBEq,Int.reduceEq,Int.reduceLT,Int.reduceLE,Int.reduceGT,Int.reduceGE,Int.reduceAdd,Int.reduceSub,Int.reduceNeg,Int.reduceBNe,ite_true,ite_false,if_true,if_false,implies_true,forall_const];rw[aeF];have:=cH (h:=cw h p F) (l:=[.cells [.eL m]]);rw[bS]at this;rw[this];rfl
 ·have hl:=ac2 (h:=ext h [.cells [.eL m]]) (F:=F) (hp.ext _) (hq.ext _) (m:=m) (vs:=vs) (by rw[bR,dP (bw (kY hm))];exact hm) nm (n0:=size h) (R:=fun F=>cw h p F)
   (fun F=>ad4 hp) (size h) (fy vs) (fun k hk=>by obtain⟨e,he,rfl⟩:=(tU vs k).1 hk;exact(hs.2 e he).1) (by rw[aeE];have:=hs.1;omega) (fy vs).length 0 8 hF hb (by simpa using hsum) hcs (by omega)
  simp only[show((0:Nat):Int)=0 from rfl,show((8:Nat):Int)=8 from rfl,List.drop_zero]at hl;have hlen:cG false (ksV (fy vs))=some (.int .i64 ((fy vs).length:Int)):=by rw[ksV,if_neg hk,fA,List.length_map]
  rw[hlen,Option.ag,ksV,if_neg hk,Aa hp,hl]
def Keyed (vs:Vs):Prop:=(vs.map (·.1)).Nodup
theorem sO:∀ {vs:Vs},Keyed vs→∀ e∈vs,cO vs e.1=some e.2
 | [],_,e,he=>by simp at he
 | e0::r,hk,e,he=>by
  simp only[Keyed,List.map_cons,List.nodup_cons]at hk;simp only[cO];rcases List.mem_cons.1 he with rfl | he
  ·rw[if_pos rfl]
  ·rw[if_neg,sO hk.2 e he]
   intro hq;have:e0.1=e.1:=by omega
   exact hk.1 (by rw[this];exact List.mem_map.2 ⟨e,he,rfl⟩)
theorem kV {vs:Vs} (hk:Keyed vs):8+j9 vs (fy vs)=cY vs:=by
 unfold j9 cY fy;have hp:=(List.mergeSort_perm (vs.map (·.1)) fun x y=>decide (x≤y)).map fun(k:Nat)=>7+(vB ((cO vs k).getD none)).length
 rw[hp.sum_nat,List.map_map];congr 2;apply List.map_congr_left;intro e he;simp only[Function.comp,sO hk e he,Option.getD_some]
end Go.Am.Qd
