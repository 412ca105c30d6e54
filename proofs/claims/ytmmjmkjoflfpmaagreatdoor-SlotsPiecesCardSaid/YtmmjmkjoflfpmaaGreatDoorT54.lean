/- What the functions do from point to point, as equations. sK by X6/v2/DE.sh, Nl.py. | The DT functions, on the abstract machine. | The DT functions, on
   By the session's AI agent. -/
import Derived.Test.YtmmjmkjoflfpmaaGreatDoorT53
import Derived.KernelRfl
import Derived.Lib.TrimUEq
import Derived.Lib.TrimAscii
set_option linter.unusedSectionVars false
set_option linter.unusedSimpArgs false
set_option linter.unusedVariables false
set_option maxRecDepth 100000
namespace Go.Am.Qd
theorem S66 (base:Nat) (a0:PV) (h:Hp):ai T base 66 [a0] h =
 (aF a0).ah fun x3 =>
 (aA x3 2).ah fun x4 =>
 (ax 1 false x4 h).ah fun x5 =>
 aH (ai T (size h) 101 [x5,(.int .i64 0)] h) fun x6 h7 =>
 (aE x6 0).ah fun x9 =>
 (aE x6 1).ah fun jf =>
 (cB false x9).ah fun lU =>
 (binOp .neq lU (.int .i64 2)).ah fun mu =>
 (aq mu false).ah fun W4=>(au W4 (some x9) (some .undef)).ah fun pE =>
 (aq mu false).ah fun b22=>(au b22 ((cW pE (.int .i64 0) 1).ah some) (some .undef)).ah fun nP =>
 (aq mu false).ah fun b26=>(au b26 ((ax 1 false nP h7).ah some) (some .undef)).ah fun yj =>
 (aq mu false).ah fun b30=>(au b30 ((binOp .gtr yj (.int .u8 1)).ah some) (some .undef)).ah fun Aa =>
 (aD mu (some (.bool true)) (some Aa)).ah fun Ao =>
 (aq Ao false).ah fun b36=>(au b36 (some x9) (some .undef)).ah fun qj =>
 (aq Ao false).ah fun b40=>(au b40 ((cW qj (.int .i64 1) 1).ah some) (some .undef)).ah fun sM =>
 (aq Ao false).ah fun b44=>(au b44 ((ax 1 false sM h7).ah some) (some .undef)).ah fun HK =>
 (aq Ao false).ah fun b48=>(au b48 ((binOp .gtr HK (.int .u8 2)).ah some) (some .undef)).ah fun DN =>
 (aD Ao (some (.bool true)) (some DN)).ah fun Bf =>
 aD Bf (
 bk false false (size h) [(.int .i64 0),(.int .i64 0)] h7) (
 (cW x9 (.int .i64 0) 1).ah fun vk =>
 (ax 1 false vk h7).ah fun Sd =>
 (ct Sd .i64).ah fun HL =>
 (cW x9 (.int .i64 1) 1).ah fun Cj =>
 (ax 1 false Cj h7).ah fun OC =>
 (ct OC .i64).ah fun J1 =>
 bk false false (size h) [HL,J1] h7):=(aZ afk base _ h).trans (by kernel_rfl)
theorem S67 (base:Nat) (a0 a1:PV) (h:Hp):ai T base 67 [a0,a1] h =
 (fL h a0).ah fun x2 =>
 (fL h a1).ah fun x4 =>
 (binOp .eql x2 x4).ah fun x5 =>
 bk false false (size h) [x5] h:=(aZ afl base _ h).trans (by kernel_rfl)
noncomputable def adQ (base n0:Nat) (v9 v3 v7 v2 v8:PV) (h:Hp):Option (PV × Hp):=Pt T F69 [1,1,0,1,0,1] base n0 [(9,v9),(3,v3),(7,v7),(2,v2),(8,v8)] h
theorem adg (base n0:Nat) (v9 v3 v7 v2 v8:PV) (h:Hp):adQ base n0 v9 v3 v7 v2 v8 h =
 (binOp .lss v9 v8).ah fun x0 =>
 aD x0 (
 (cW v7 v9 1).ah fun x1 =>
 (ax 1 false x1 h).ah fun x2 =>
 aH (ai T base 90 [v3,x2] h) fun x6 h7 =>
 (binOp .add v9 (.int .i64 1)).ah fun x8 =>
 adQ base n0 x8 v3 v7 v2 v8 h7) (
 aH (ai T base 61 [v3] h) fun iS h12 =>
 (aS base 32 v2 iS h12).ah fun h13 =>
 (qS v2 h13 32 true).ah fun r14 =>
 bk false false n0 [r14] h13):=(ez T F69 [1,1,0,1,0,1] base n0 [(9,v9),(3,v3),(7,v7),(2,v2),(8,v8)] h).trans (by kernel_rfl)
theorem S69 (base:Nat) (a0:PV) (h:Hp):ai T base 69 [a0] h =
 eo (rep 32 (.int .u8 0)) h fun x0 h1 =>
 aH (ai T (size h) 56 [] h1) fun x2 h3 =>
 (cB false a0).ah fun x6 =>
 adQ (size h) (size h) (.int .i64 0) x2 a0 x0 x6 h3:=(aZ asa base _ h).trans (by kernel_rfl)
theorem S70 (base:Nat) (a0 a1 a2:PV) (h:Hp):ai T base 70 [a0,a1,a2] h =
 (aF a0).ah fun x2 =>
 (aA x2 0).ah fun x3 =>
 (ax 1 false x3 h).ah fun x4 =>
 aH (ai T (size h) 41 [x4] h) fun x5 h6 =>
 aD x5 (
 bk false false (size h) [(.int .i64 30)] h6) (
 aH (ai T (size h) 104 [a0,a1,a2] h6) fun gJ h13 =>
 (unOp .not gJ).ah fun lU =>
 aD lU (
 bk false false (size h) [(.int .i64 1)] h13) (
 bk false false (size h) [(.int .i64 0)] h13)):=(aZ asb base _ h).trans (by kernel_rfl)
noncomputable def adR (base n0:Nat) (v29 v1 v0 v27 v28:PV) (h:Hp):Option (PV × Hp):=Pt T F71 [1,1,0,1,0,1] base n0 [(29,v29),(1,v1),(0,v0),(27,v27),(28,v28)] h
theorem adh (base n0:Nat) (v29 v1 v0 v27 v28:PV) (h:Hp):adR base n0 v29 v1 v0 v27 v28 h =
 (binOp .lss v29 v28).ah fun x0 =>
 aD x0 (
 (cW v27 v29 1).ah fun x2 =>
 (ax 1 false x2 h).ah fun x3 =>
 (binOp .add v1 v29).ah fun x9 =>
 aH (ai T base 107 [v0,x9,x3] h) fun iS h12 =>
 (unOp .not iS).ah fun je =>
 aD je (
 bk false false n0 [(.int .i64 30)] h12) (
 (binOp .add v29 (.int .i64 1)).ah fun mu =>
 adR base n0 mu v1 v0 v27 v28 h12)) (
 bk false false n0 [(.int .i64 0)] h):=(ez T F71 [1,1,0,1,0,1] base n0 [(29,v29),(1,v1),(0,v0),(27,v27),(28,v28)] h).trans (by kernel_rfl)
theorem S71 (base:Nat) (a0 a1 a2:PV) (h:Hp):ai T base 71 [a0,a1,a2] h =
 (aF a0).ah fun x2 =>
 (aA x2 5).ah fun x3 =>
 (ax 1 false x3 h).ah fun x4 =>
 aD x4 (
 bk false false (size h) [(.int .i64 30)] h) (
 (cB false a2).ah fun jf =>
 aH (ai T (size h) 105 [a0,a1,jf] h) fun iS h12 =>
 (unOp .not iS).ah fun je =>
 aD je (
 bk false false (size h) [(.int .i64 1)] h12) (
 aH (ai T (size h) 106 [a0,a1,a2] h12) fun qi Yc =>
 (unOp .not qi).ah fun nP =>
 aD nP (
 bk false false (size h) [(.int .i64 31)] Yc) (
 (cB false a2).ah fun yj =>
 adR (size h) (size h) (.int .i64 0) a1 a0 a2 yj Yc))):=(aZ asc base _ h).trans (by kernel_rfl)
theorem S72 (base:Nat) (a0:PV) (h:Hp):ai T base 72 [a0] h =
 (aF a0).ah fun x2 =>
 (aA x2 1).ah fun x3 =>
 (ax 1 false x3 h).ah fun x4 =>
 (aF a0).ah fun x6 =>
 (aA x6 0).ah fun x7 =>
 (ax 1 false x7 h).ah fun x8 =>
 aH (gv (ai T (size h)) 82 [x8] h) fun x9 h10=>(fun y=>if h10=h then y else none) <|
 (binOp .mul x4 x9).ah fun iS =>
 bk false false (size h) [iS] h:=(aZ asd base _ h).trans (by kernel_rfl)
theorem S73 (base:Nat) (a0:PV) (h:Hp):ai T base 73 [a0] h =
 (gG 1 false a0).ah fun x2 =>
 aD x2 (
 bk false true (size h) [.bg] h) (
 (cH 1 false [(.int .u8 0)] 0 []).ah fun x4 =>
 aH (sF 1 x4 a0 h) fun x6 h7 =>
 bk false true (size h) [x6] h7):=(aZ afm base _ h).trans (by kernel_rfl)
noncomputable def Lw (base n0:Nat) (v4 v0 v3:PV) (h:Hp):Option (PV × Hp):=Pt T Y0 [1,1,0,1,0,1] base n0 [(4,v4),(0,v0),(3,v3)] h
theorem GB (base n0:Nat) (v4 v0 v3:PV) (h:Hp):Lw base n0 v4 v0 v3 h =
 (cB false v0).ah fun x2 =>
 (binOp .lss v4 x2).ah fun x3 =>
 aD x3 (
 (cW v0 v4 1).ah fun x7 =>
 (ax 1 false x7 h).ah fun x8 =>
 (cH 1 false [(.int .u8 0)] 1 [(0,strip x8)]).ah fun x9 =>
 aH (cV base h (.vJ 1) [v3,x9]) fun jf h11 =>
 (binOp .add v4 (.int .i64 1)).ah fun lU =>
 Lw base n0 lU v0 jf h11) (
 bk false true n0 [v3] h):=(ez T Y0 [1,1,0,1,0,1] base n0 [(4,v4),(0,v0),(3,v3)] h).trans (by kernel_rfl)
theorem S76 (base:Nat) (a0:PV) (h:Hp):ai T base 76 [a0] h =
 (cH 1 false [(.int .u8 0)] 0 []).ah fun x1 =>
 Lw (size h) (size h) (.int .i64 0) a0 x1 h:=(aZ afn base _ h).trans (by kernel_rfl)
theorem S79 (base:Nat) (a0 a1 a2:PV) (h:Hp):ai T base 79 [a0,a1,a2] h =
 aH (ai T (size h) 70 [a0,a1,a2] h) fun x5 h6 =>
 (binOp .neq x5 (.int .i64 0)).ah fun x9 =>
 aD x9 (
 bk false false (size h) [.bg,x5] h6) (
 (aF a0).ah fun lU =>
 (aA lU 0).ah fun mu =>
 (ax 1 false mu h6).ah fun oy =>
 aH (gv (ai T (size h)) 72 [a0] h6) fun pK OA=>(fun y=>if OA=h6 then y else none) <|
 (binOp .add pK a1).ah fun nP =>
 aH (ai T (size h) 108 [oy,nP,a2] h6) fun ru h24 =>
 (aE ru 0).ah fun yj =>
 (aE ru 1).ah fun sL =>
 bk false false (size h) [yj,sL] h24):=(aZ ase base _ h).trans (by kernel_rfl)
theorem S81 (base:Nat) (a0:PV) (h:Hp):ai T base 81 [a0] h =
 (aF a0).ah fun x2 =>
 (aA x2 0).ah fun x3 =>
 (ax 1 false x3 h).ah fun x4 =>
 (cB false x4).ah fun x5 =>
 bk false false (size h) [x5] h:=(aZ afo base _ h).trans (by kernel_rfl)
theorem S82 (base:Nat) (a0:PV) (h:Hp):ai T base 82 [a0] h =
 (aF a0).ah fun x2 =>
 (aA x2 1).ah fun x3 =>
 (ax 1 false x3 h).ah fun x4 =>
 bk false false (size h) [x4] h:=(aZ afp base _ h).trans (by kernel_rfl)
theorem S83 (base:Nat) (a0:PV) (h:Hp):ai T base 83 [a0] h =
 aH (tK 35 a0 h) fun x0 h1 =>
 (aA x0 2).ah fun x3 =>
 (ax 1 false x3 h1).ah fun x4 =>
 aH (ai T (size h) 45 [x4] h1) fun x5 h6 =>
 (aq x5 true).ah fun b9=>(au b9 ((aA x0 1).ah some) (some .undef)).ah fun x8 =>
 (aq x5 true).ah fun b13=>(au b13 ((ax 1 false x8 h6).ah some) (some .undef)).ah fun gJ =>
 (aq x5 true).ah fun b17=>(au b17 ((binOp .geq gJ (.int .i64 0)).ah some) (some .undef)).ah fun oy =>
 (aD x5 (some oy) (some (.bool false))).ah fun x20 =>
 (aq x20 true).ah fun b23=>(au b23 ((aA x0 1).ah some) (some .undef)).ah fun oz =>
 (aq x20 true).ah fun b27=>(au b27 ((ax 1 false oz h6).ah some) (some .undef)).ah fun sL =>
 (aq x20 true).ah fun b31=>(au b31 ((binOp .leq sL (.int .i64 1048576)).ah some) (some .undef)).ah fun wj =>
 (aD x20 (some wj) (some (.bool false))).ah fun vR =>
 bk false false (size h) [vR] h6:=(aZ afq base _ h).trans (by kernel_rfl)
noncomputable def Lx (base n0:Nat) (v6 v1 v5:PV) (h:Hp):Option (PV × Hp):=Pt T Y2 [1,1,0,1,0,1] base n0 [(6,v6),(1,v1),(5,v5)] h
theorem GC (base n0:Nat) (v6 v1 v5:PV) (h:Hp):Lx base n0 v6 v1 v5 h =
 (binOp .lss v6 (.int .i64 4)).ah fun x1 =>
 aD x1 (
 (binOp .rem v1 (.int .u32 256)).ah fun x4 =>
 (ct x4 .u8).ah fun x5 =>
 (cH 1 false [(.int .u8 0)] 1 [(0,strip x5)]).ah fun x6 =>
 aH (cV base h (.vJ 1) [v5,x6]) fun x7 h8 =>
 (binOp .quo v1 (.int .u32 256)).ah fun iS =>
 (binOp .add v6 (.int .i64 1)).ah fun lU =>
 Lx base n0 lU iS x7 h8) (
 bk false true n0 [v5] h):=(ez T Y2 [1,1,0,1,0,1] base n0 [(6,v6),(1,v1),(5,v5)] h).trans (by kernel_rfl)
theorem S84 (base:Nat) (a0 a1:PV) (h:Hp):ai T base 84 [a0,a1] h =
 aH (ai T (size h) 76 [a0] h) fun x2 h3 =>
 Lx (size h) (size h) (.int .i64 0) a1 x2 h3:=(aZ afr base _ h).trans (by kernel_rfl)
theorem S85 (base:Nat) (a0:PV) (h:Hp):ai T base 85 [a0] h =
 aH (ai T (size h) 111 [a0] h) fun x3 h4 =>
 aH (ai T (size h) 84 [a0,x3] h4) fun x5 h6 =>
 bk false false (size h) [x5] h6:=(aZ afs base _ h).trans (by kernel_rfl)
theorem S86 (base:Nat) (a0 a1:PV) (h:Hp):ai T base 86 [a0,a1] h =
 (binOp .shr a0 a1).ah fun x3 =>
 (binOp .sub (.int .i64 32) a1).ah fun x6 =>
 (binOp .shl a0 x6).ah fun x7 =>
 (binOp .or x3 x7).ah fun x8 =>
 bk false false (size h) [x8] h:=(aZ aft base _ h).trans (by kernel_rfl)
theorem S87 (base:Nat) (a0:PV) (h:Hp):ai T base 87 [a0] h =
 (aF a0).ah fun x2 =>
 (aA x2 0).ah fun x3 =>
 (ax 1 false x3 h).ah fun x4 =>
 bk false false (size h) [x4] h:=(aZ afu base _ h).trans (by kernel_rfl)
noncomputable def Lz (base n0:Nat) (Xo v0 v1 v41:PV) (h:Hp):Option (PV × Hp):=Pt T Y3 [1,1,1,0,1,0,1] base n0 [(42,Xo),(0,v0),(1,v1),(41,v41)] h
theorem GD (base n0:Nat) (Xo v0 v1 v41:PV) (h:Hp):Lz base n0 Xo v0 v1 v41 h =
 (binOp .lss Xo v41).ah fun x0 =>
 aD x0 (
 (aF v0).ah fun x6 =>
 (aA x6 1).ah fun x7 =>
 (ax 1 false x7 h).ah fun x8 =>
 (binOp .mul v1 x8).ah fun x9 =>
 (binOp .add x9 Xo).ah fun iS =>
 aH (ai T base 107 [v0,iS,(.int .u8 255)] h) fun gJ h13 =>
 (unOp .not gJ).ah fun lU =>
 aD lU (
 bk false false n0 [(.int .i64 30)] h13) (
 (binOp .add Xo (.int .i64 1)).ah fun oy =>
 Lz base n0 oy v0 v1 v41 h13)) (
 bk false false n0 [(.int .i64 0)] h):=(ez T Y3 [1,1,1,0,1,0,1] base n0 [(42,Xo),(0,v0),(1,v1),(41,v41)] h).trans (by kernel_rfl)
theorem S88 (base:Nat) (a0 a1:PV) (h:Hp):ai T base 88 [a0,a1] h =
 (aF a0).ah fun x2 =>
 (aA x2 5).ah fun x3 =>
 (ax 1 false x3 h).ah fun x4 =>
 aD x4 (
 bk false false (size h) [(.int .i64 30)] h) (
 (binOp .lss a1 (.int .i64 0)).ah fun x8 =>
 (aq x8 false).ah fun b11=>(au b11 (some a1) (some .undef)).ah fun jf =>
 (aq x8 false).ah fun b15=>(au b15 (some a0) (some .undef)).ah fun lU =>
 (aq x8 false).ah fun b19=>(au b19 ((aF lU).ah some) (some .undef)).ah fun pK =>
 (aq x8 false).ah fun b23=>(au b23 ((aA pK 2).ah some) (some .undef)).ah fun oz =>
 (aq x8 false).ah fun b27=>(au b27 ((ax 1 false oz h).ah some) (some .undef)).ah fun sL =>
 (aq x8 false).ah fun b31=>(au b31 ((cB false sL).ah some) (some .undef)).ah fun wj =>
 (aq x8 false).ah fun b35=>(au b35 ((binOp .geq jf wj).ah some) (some .undef)).ah fun vR =>
 (aD x8 (some (.bool true)) (some vR)).ah fun BH =>
 aD BH (
 bk false false (size h) [(.int .i64 1)] h) (
 (aF a0).ah fun NF =>
 (aA NF 2).ah fun HK =>
 (ax 1 false HK h).ah fun vS =>
 (aF a0).ah fun DN =>
 (aA DN 2).ah fun Ed =>
 (ax 1 false Ed h).ah fun Cm =>
 (cW Cm a1 1).ah fun Bf =>
 (ax 1 false Bf h).ah fun Sa =>
 (binOp .add Sa (.int .i64 1)).ah fun JM =>
 (jI false [JM,(.int .i64 1073741824)]).ah fun wk =>
 (cW vS a1 1).ah fun vk =>
 (aS (size h) 1 vk wk h).ah fun Sc =>
 (aF a0).ah fun yg =>
 (aA yg 1).ah fun Cj =>
 (ax 1 false Cj Sc).ah fun OC =>
 Lz (size h) (size h) (.int .i64 0) a0 a1 OC Sc)):=(aZ afv base _ h).trans (by kernel_rfl)
theorem S89 (base:Nat) (h:Hp):ai T base 89 [] h =
 eo (rep 8 (.int .u32 0)) h fun x0 h1 =>
 (dz (rep 8 (.int .u32 0)) [(0,1,(.int .u32 1779033703)),(1,1,(.int .u32 3144134277)),(2,1,(.int .u32 1013904242)),(3,1,(.int .u32 2773480762)),(4,1,(.int .u32 1359893119)),(5,1,(.int .u32 2600822924)),(6,1,(.int .u32 528734635)),(7,1,(.int .u32 1541459225))]).ah fun x2 =>
 (aS (size h) 8 x0 x2 h1).ah fun h3 =>
 (qS x0 h3 8 true).ah fun r4 =>
 bk false false (size h) [r4] h3:=(aZ afw base _ h).trans (by kernel_rfl)
noncomputable def GF (base n0:Nat) (v0 v1:PV) (h:Hp):Option (PV × Hp):=Pt T Y4 [0,1] base n0 [(0,v0),(1,v1)] h
theorem GG (base n0:Nat) (v0 v1:PV) (h:Hp):GF base n0 v0 v1 h =
 (cB false v1).ah fun x1 =>
 (binOp .gtr x1 (.int .i64 0)).ah fun x2 =>
 aD x2 (
 (aF v0).ah fun x4 =>
 (aA x4 72).ah fun x5 =>
 (ax 1 false x5 h).ah fun x6 =>
 (binOp .rem x6 (.int .i64 64)).ah fun x7 =>
 (aF v0).ah fun jf =>
 (aA jf 8).ah fun iS =>
 aH (cV base h (.jt 1 64 true false) [iS,x7]) fun je Lq =>
 aH (copyV base je v1 Lq) fun oy Ap =>
 (cO (some 1) (some oy) none none v1).ah fun nP =>
 (aF v0).ah fun sP =>
 (aA sP 72).ah fun yj =>
 (ax 1 false yj Ap).ah fun sL =>
 (binOp .add sL oy).ah fun Al =>
 (aF v0).ah fun Aa =>
 (aA Aa 72).ah fun wj =>
 (aS base 1 wj Al Ap).ah fun Qx =>
 (binOp .add x7 oy).ah fun vR =>
 (binOp .eql vR (.int .i64 64)).ah fun qj =>
 aD qj (
 aH (ai T base 112 [v0] Qx) fun rA QD =>
 GF base n0 v0 nP QD) (
 GF base n0 v0 nP Qx)) (
 bk false false n0 [] h):=(ez T Y4 [0,1] base n0 [(0,v0),(1,v1)] h).trans (by kernel_rfl)
theorem S90 (base:Nat) (a0 a1:PV) (h:Hp):ai T base 90 [a0,a1] h =
 GF (size h) (size h) a0 a1 h:=(aZ afx base _ h).trans (by kernel_rfl)
theorem S91 (base:Nat) (a0 a1:PV) (h:Hp):ai T base 91 [a0,a1] h =
 (cB false a0).ah fun x2 =>
 (cB false a1).ah fun x4 =>
 (binOp .geq x2 x4).ah fun x5 =>
 (aq x5 true).ah fun b8=>(au b8 (some a0) (some .undef)).ah fun x7 =>
 (aq x5 true).ah fun Tw=>(au Tw (some a1) (some .undef)).ah fun iS =>
 (aq x5 true).ah fun Qd=>(au Qd ((cB false iS).ah some) (some .undef)).ah fun mu =>
 (aq x5 true).ah fun Tf=>(au Tf ((cO (some 1) none (some mu) none x7).ah some) (some .undef)).ah fun qi =>
 (aq x5 true).ah fun QB=>(au QB (some a1) (some .undef)).ah fun ru =>
 (aq x5 true).ah fun QC=>aH (au QC (aH (ai T (size h) 67 [qi,ru] h) fun wj QY=>some (wj,QY)) (some (.undef,h))) fun Ak QY =>
 (aD x5 (some Ak) (some (.bool false))).ah fun rM =>
 bk false false (size h) [rM] QY:=(aZ afy base _ h).trans (by kernel_rfl)
theorem S92 (base:Nat) (a0:PV) (h:Hp):ai T base 92 [a0] h =
 (cB false a0).ah fun x3 =>
 (binOp .sub x3 (.int .i64 4)).ah fun x4 =>
 (binOp .lss x4 (.int .i64 0)).ah fun x7 =>
 aD x7 (
 bk false false (size h) [.bg,(.bool false)] h) (
 (cO (some 1) (some x4) none none a0).ah fun gJ =>
 aH (ai T (size h) 93 [gJ] h) fun je Lq =>
 (aE je 0).ah fun oy =>
 (aE je 1).ah fun pE =>
 (cO (some 1) none (some x4) none a0).ah fun ru =>
 aH (ai T (size h) 113 [ru] Lq) fun sP JO =>
 (binOp .neq oy sP).ah fun sL =>
 aD sL (
 bk false false (size h) [.bg,(.bool false)] JO) (
 (cO (some 1) none (some x4) none a0).ah fun rM =>
 aH (ai T (size h) 73 [rM] JO) fun JY JZ =>
 bk false false (size h) [JY,(.bool true)] JZ)):=(aZ afz base _ h).trans (by kernel_rfl)
noncomputable def LA (base n0:Nat) (v9 v0 v4:PV) (h:Hp):Option (PV × Hp):=Pt T Y5 [1,1,1,0,1,0,1] base n0 [(9,v9),(0,v0),(4,v4)] h
theorem GH (base n0:Nat) (v9 v0 v4:PV) (h:Hp):LA base n0 v9 v0 v4 h =
 (binOp .lss v9 (.int .i64 4)).ah fun x0 =>
 aD x0 (
 (cW v0 v9 1).ah fun x6 =>
 (ax 1 false x6 h).ah fun x7 =>
 (ct x7 .u32).ah fun x8 =>
 (binOp .mul (.int .i64 8) v9).ah fun jf =>
 (binOp .shl x8 jf).ah fun iS =>
 (binOp .or v4 iS).ah fun gJ =>
 (binOp .add v9 (.int .i64 1)).ah fun lU =>
 LA base n0 lU v0 gJ h) (
 bk false false n0 [v4,(.bool true)] h):=(ez T Y5 [1,1,1,0,1,0,1] base n0 [(9,v9),(0,v0),(4,v4)] h).trans (by kernel_rfl)
theorem S93 (base:Nat) (a0:PV) (h:Hp):ai T base 93 [a0] h =
 (cB false a0).ah fun x3 =>
 (binOp .lss x3 (.int .i64 4)).ah fun x4 =>
 aD x4 (
 bk false false (size h) [(.int .u32 0),(.bool false)] h) (
 LA (size h) (size h) (.int .i64 0) a0 (.int .u32 0) h):=(aZ afA base _ h).trans (by kernel_rfl)
theorem S94 (base:Nat) (a0:PV) (h:Hp):ai T base 94 [a0] h =
 (fL h a0).ah fun x3 =>
 aH (ai T (size h) 114 [x3,(.str [0])] h) fun x4 h5 =>
 aH (ai T (size h) 115 [x4] h5) fun x9 h10 =>
 bk false false (size h) [x4,x9] h10:=(aZ afB base _ h).trans (by kernel_rfl)
theorem S95 (base:Nat) (a0:PV) (h:Hp):ai T base 95 [a0] h =
 (aF a0).ah fun x2 =>
 (ax 73 true x2 h).ah fun x3 =>
 eo (rep 8 (.int .u32 0)++rep 64 (.int .u8 0)++[(.int .i64 0)]) h fun x4 h5 =>
 (aS base 73 x4 x3 h5).ah fun h6 =>
 bk true false (size h) [x4] h6:=(gT asf base _ h).trans (by kernel_rfl)
noncomputable def adS (base n0:Nat) (v3 v0:PV) (h:Hp):Option (PV × Hp):=Pt T F96 [1,1,1,1] base n0 [(3,v3),(0,v0)] h
noncomputable def adU (base n0:Nat) (v27 v5 v3 v4:PV) (h:Hp):Option (PV × Hp):=Pt T F96 [1,1,1,1,1,1,1,0,1,0,1] base n0 [(27,v27),(5,v5),(3,v3),(4,v4)] h
theorem aez (base n0:Nat) (v3 v0:PV) (h:Hp):adS base n0 v3 v0 h =
 aH (PZ 5 [(.int .u8 0)] v3 v3 h) fun x1 h2 =>
 (cW x1 (.int .i64 0) 1).ah fun x5 =>
 (aS base 1 x5 (.int .u8 128) h2).ah fun h6 =>
 (aF v0).ah fun x8 =>
 (aA x8 72).ah fun x9 =>
 (ax 1 false x9 h6).ah fun jf =>
 (ct jf .u64).ah fun iS =>
 (binOp .mul iS (.int .u64 8)).ah fun gJ =>
 adU base n0 (.int .i64 0) gJ v3 x1 h6:=(ez T F96 [1,1,1,1] base n0 [(3,v3),(0,v0)] h).trans (by kernel_rfl)
theorem adi (base n0:Nat) (v27 v5 v3 v4:PV) (h:Hp):adU base n0 v27 v5 v3 v4 h =
 (binOp .lss v27 (.int .i64 8)).ah fun x0 =>
 aD x0 (
 (binOp .sub v3 (.int .i64 1)).ah fun x5 =>
 (binOp .sub x5 v27).ah fun x7 =>
 (binOp .mul (.int .i64 8) v27).ah fun jf =>
 (binOp .shr v5 jf).ah fun iS =>
 (ct iS .u8).ah fun gJ =>
 (cW v4 x7 1).ah fun je =>
 (aS base 1 je gJ h).ah fun Lq =>
 (binOp .add v27 (.int .i64 1)).ah fun mu =>
 adU base n0 mu v5 v3 v4 Lq) (
 bk false false n0 [v4] h):=(ez T F96 [1,1,1,1,1,1,1,0,1,0,1] base n0 [(27,v27),(5,v5),(3,v3),(4,v4)] h).trans (by kernel_rfl)
theorem S96 (base:Nat) (a0:PV) (h:Hp):ai T base 96 [a0] h =
 (aF a0).ah fun x2 =>
 (aA x2 72).ah fun x3 =>
 (ax 1 false x3 h).ah fun x4 =>
 (binOp .rem x4 (.int .i64 64)).ah fun x5 =>
 (binOp .sub (.int .i64 64) x5).ah fun x6 =>
 (binOp .lss x6 (.int .i64 9)).ah fun x9 =>
 aD x9 (
 (binOp .add x6 (.int .i64 64)).ah fun iS =>
 adS (size h) (size h) iS a0 h) (
 adS (size h) (size h) x6 a0 h):=(aZ asg base _ h).trans (by kernel_rfl)
theorem S97 (base:Nat) (a0 a1 a2:PV) (h:Hp):ai T base 97 [a0,a1,a2] h =
 aH (ai T base 116 [a0,a1,a2] h) fun x4 h5 =>
 (binOp .neq x4 (.int .i64 0)).ah fun x8 =>
 aD x8 (
 bk true false (size h) [x4] h5) (
 (aF a0).ah fun gJ =>
 (aA gJ 6).ah fun je =>
 (ax 1 false je h5).ah fun lU =>
 aH (cV base h5 (.lookup [1] false .bg true) [lU,a1]) fun oy Ap =>
 (aE oy 0).ah fun qi =>
 (aE oy 1).ah fun x20 =>
 (aq x20 true).ah fun b26=>(au b26 (some qi) (some .undef)).ah fun yj =>
 (aq x20 true).ah fun b30=>(au b30 (some a2) (some .undef)).ah fun Aa =>
 (aq x20 true).ah fun b34=>aH (au b34 (aH (ai T base 67 [yj,Aa] Ap) fun ND h35=>some (ND,h35)) (some (.undef,Ap))) fun Ao h35 =>
 (aD x20 (some Ao) (some (.bool false))).ah fun rA =>
 aD rA (
 bk true false (size h) [(.int .i64 0)] h35) (
 (aF a0).ah fun BG =>
 (aA BG 6).ah fun Ab =>
 (ax 1 false Ab h35).ah fun NF =>
 aH (ai T base 117 [NF] h35) fun HK h44 =>
 aH (gv (ai T base) 73 [a2] h44) fun Cm h50=>(fun y=>if h50=h44 then y else none) <|
 aH (cV base h44 (.CS [1] false) [HK,a1,Cm]) fun _ h51 =>
 aH (gv (ai T base) 119 [a1,a2,(.bool false)] h51) fun vk Sc=>(fun y=>if Sc=h51 then y else none) <|
 aH (ai T base 118 [a0,vk,HK] h51) fun yg h59 =>
 bk true false (size h) [yg] h59)):=(gT ash base _ h).trans (by kernel_rfl)
noncomputable def acq (base n0:Nat) (v10 v0 v4:PV) (h:Hp):Option (PV × Hp):=Pt T F98 [1,1,0,1,0,1] base n0 [(10,v10),(0,v0),(4,v4)] h
theorem adj (base n0:Nat) (v10 v0 v4:PV) (h:Hp):acq base n0 v10 v0 v4 h =
 (binOp .lss v10 (.int .i64 2)).ah fun x0 =>
 aD x0 (
 aH (ai T base 120 [v0,v10] h) fun x5 h6 =>
 (aE x5 0).ah fun x8 =>
 (aE x5 1).ah fun x9 =>
 (binOp .neq x9 (.int .i64 0)).ah fun je =>
 aD je (
 bk false false n0 [(.bool false),x9] h6) (
 (cO (some 1) (some (.int .i64 1)) none none x8).ah fun pK =>
 aH (ai T base 93 [pK] h6) fun qi Yc =>
 (aE qi 0).ah fun oz =>
 (aE qi 1).ah fun ru =>
 (cW x8 (.int .i64 0) 1).ah fun Ak =>
 (ax 1 false Ak Yc).ah fun Al =>
 (binOp .eql Al (.int .u8 0)).ah fun Aa =>
 (aq Aa true).ah fun Tu=>(au Tu (some v4) (some .undef)).ah fun rM =>
 (aq Aa true).ah fun b36=>(au b36 ((unOp .not rM).ah some) (some .undef)).ah fun qj =>
 (aq Aa true).ah fun b40=>(au b40 (some qj) (some .undef)).ah fun sM =>
 (aq sM false).ah fun b44=>(au b44 (some oz) (some .undef)).ah fun HK =>
 (aq sM false).ah fun b48=>(au b48 (some v0) (some .undef)).ah fun DN =>
 (aq sM false).ah fun b52=>(au b52 ((aF DN).ah some) (some .undef)).ah fun Bf =>
 (aq sM false).ah fun b56=>(au b56 ((aA Bf 4).ah some) (some .undef)).ah fun vk =>
 (aq sM false).ah fun b60=>(au b60 ((ax 1 false vk Yc).ah some) (some .undef)).ah fun Cj =>
 (aq sM false).ah fun b64=>(au b64 ((binOp .gtr HK Cj).ah some) (some .undef)).ah fun Gb =>
 (aq Aa true).ah fun b68=>(au b68 ((aD sM (some (.bool true)) (some Gb)).ah some) (some .undef)).ah fun QW =>
 (aD Aa (some QW) (some (.bool false))).ah fun TB =>
 aD TB (
 (aF v0).ah fun W5 =>
 (aA W5 3).ah fun QE =>
 (aS base 1 QE v10 Yc).ah fun h78 =>
 (aF v0).ah fun x79 =>
 (aA x79 4).ah fun WK =>
 (aS base 1 WK oz h78).ah fun h81 =>
 (binOp .add v10 (.int .i64 1)).ah fun QF =>
 acq base n0 QF v0 (.bool true) h81) (
 (binOp .add v10 (.int .i64 1)).ah fun x85 =>
 acq base n0 x85 v0 v4 Yc))) (
 bk false false n0 [v4,(.int .i64 0)] h):=(ez T F98 [1,1,0,1,0,1] base n0 [(10,v10),(0,v0),(4,v4)] h).trans (by kernel_rfl)
theorem S98 (base:Nat) (a0:PV) (h:Hp):ai T base 98 [a0] h =
 acq (size h) (size h) (.int .i64 0) a0 (.bool false) h:=(aZ asi base _ h).trans (by kernel_rfl)
noncomputable def adk (base n0:Nat) (v0 v1 v8 v5 v6 v9:PV) (h:Hp):Option (PV × Hp):=Pt T F99 [1,1,1,1,1,1,1,1] base n0 [(0,v0),(1,v1),(8,v8),(5,v5),(6,v6),(9,v9)] h
theorem adl (base n0:Nat) (v0 v1 v8 v5 v6 v9:PV) (h:Hp):adk base n0 v0 v1 v8 v5 v6 v9 h =
 (binOp .eql v9 (.int .i64 0)).ah fun x1 =>
 aD x1 (
 (cH 1 false [(.int .u8 0)] 1 [(0,strip (.int .u8 0))]).ah fun x3 =>
 aH (ai T base 28 [v6,(.int .i64 0),x3] h) fun x4 h5 =>
 (binOp .neq x4 (.int .i64 0)).ah fun x8 =>
 aD x8 (
 bk true false n0 [x4] h5) (
 (aF v0).ah fun pE =>
 (aA pE 3).ah fun pK =>
 (aS base 1 pK v5 h5).ah fun OA =>
 (aF v0).ah fun x20 =>
 (aA x20 5).ah fun nP =>
 (aS base 1 nP v8 OA).ah fun OE =>
 (aF v0).ah fun ru =>
 (aA ru 6).ah fun sP =>
 (aS base 1 sP v1 OE).ah fun JO =>
 (aF v0).ah fun Ak =>
 (aA Ak 4).ah fun Al =>
 (ax 1 false Al JO).ah fun Aa =>
 (binOp .add Aa (.int .u32 1)).ah fun wj =>
 (aF v0).ah fun rM =>
 (aA rM 4).ah fun JY =>
 (aS base 1 JY wj JO).ah fun JZ =>
 bk true false n0 [(.int .i64 0)] JZ)) (
 (binOp .neq v9 (.int .i64 0)).ah fun ND =>
 aD ND (
 bk true false n0 [v9] h) (
 (aF v0).ah fun rN =>
 (aA rN 3).ah fun NG =>
 (aS base 1 NG v5 h).ah fun WJ =>
 (aF v0).ah fun Ed =>
 (aA Ed 5).ah fun Cm =>
 (aS base 1 Cm v8 WJ).ah fun h50 =>
 (aF v0).ah fun Bf =>
 (aA Bf 6).ah fun Sa =>
 (aS base 1 Sa v1 h50).ah fun h53 =>
 (aF v0).ah fun vk =>
 (aA vk 4).ah fun Sd =>
 (ax 1 false Sd h53).ah fun HL =>
 (binOp .add HL (.int .u32 1)).ah fun yg =>
 (aF v0).ah fun Cj =>
 (aA Cj 4).ah fun OC =>
 (aS base 1 OC yg h53).ah fun h61 =>
 bk true false n0 [(.int .i64 0)] h61)):=(ez T F99 [1,1,1,1,1,1,1,1] base n0 [(0,v0),(1,v1),(8,v8),(5,v5),(6,v6),(9,v9)] h).trans (by kernel_rfl)
theorem S99 (base:Nat) (a0 a1:PV) (h:Hp):ai T base 99 [a0,a1] h =
 aH (gv (ai T base) 121 [a1] h) fun x2 h3=>(fun y=>if h3=h then y else none) <|
 (aF a0).ah fun x5 =>
 (aA x5 2).ah fun x6 =>
 (ax 1 false x6 h).ah fun x7 =>
 (binOp .gtr x2 x7).ah fun x8 =>
 aD x8 (
 bk true false (size h) [(.int .i64 6)] h) (
 (aF a0).ah fun gJ =>
 (aA gJ 4).ah fun je =>
 (ax 1 false je h).ah fun lU =>
 (binOp .eql lU (.int .u32 4294967295)).ah fun mu =>
 aD mu (
 bk true false (size h) [(.int .i64 3)] h) (
 (aF a0).ah fun qi =>
 (aA qi 3).ah fun x20 =>
 (ax 1 false x20 h).ah fun nP =>
 (binOp .sub (.int .i64 1) nP).ah fun oz =>
 (aF a0).ah fun sL =>
 (aA sL 0).ah fun Ak =>
 (aN 1 2 Ak oz).ah fun Al =>
 (ax 1 false Al h).ah fun Aa =>
 aH (ai T base 55 [Aa] h) fun JY JZ =>
 (binOp .neq JY (.int .i64 0)).ah fun ND =>
 aD ND (
 bk true false (size h) [JY] JZ) (
 aH (ai T base 122 [Aa,a1] JZ) fun Ab h42 =>
 (aE Ab 0).ah fun vS =>
 (aE Ab 1).ah fun rN =>
 (binOp .eql rN (.int .i64 0)).ah fun Cm =>
 aD Cm (
 (aF a0).ah fun Sa =>
 (aA Sa 4).ah fun JM =>
 (ax 1 false JM h42).ah fun wk =>
 (binOp .add wk (.int .u32 1)).ah fun vk =>
 aH (ai T base 123 [.bg,vk] h42) fun Sd UH =>
 aH (ai T base 28 [Aa,(.int .i64 1),Sd] UH) fun yg h59 =>
 adk base (size h) a0 a1 vS oz Aa yg h59) (
 adk base (size h) a0 a1 vS oz Aa rN h42)))):=(gT asj base _ h).trans (by kernel_rfl)
noncomputable def abB (base n0:Nat) (v0 v4:PV) (h:Hp):Option (PV × Hp):=Pt T Y6 [1,1,1,1,0,0,1] base n0 [(0,v0),(4,v4)] h
noncomputable def acN (base n0:Nat) (v76 v74 v75:PV) (h:Hp):Option (PV × Hp):=Pt T Y6 [1,1,1,1,1,0,1,0,1] base n0 [(76,v76),(74,v74),(75,v75)] h
theorem ad8 (base n0:Nat) (v0 v4:PV) (h:Hp):abB base n0 v0 v4 h =
 (aF v0).ah fun x2 =>
 (aA x2 5).ah fun x3 =>
 (ax 1 false x3 h).ah fun x4 =>
 aH (ai T base 124 [v4,x4] h) fun x5 h6 =>
 (aE x5 0).ah fun x8 =>
 (aE x5 1).ah fun x9 =>
 eo [(.int .i64 0),.bg,(.bool false),(.int .i64 0)] h6 fun jf h11 =>
 (aS base 4 jf x8 h11).ah fun h12 =>
 (unOp .not x9).ah fun mu =>
 aD mu (
 (aF v0).ah fun pK =>
 (aA pK 5).ah fun qi =>
 (ax 1 false qi h12).ah fun x20 =>
 (cO (some 1) (some x20) none none v4).ah fun nP =>
 (cB false nP).ah fun oz =>
 acN base n0 (.int .i64 0) nP oz h12) (
 (aF v0).ah fun sL =>
 (aA sL 5).ah fun Ak =>
 (ax 1 false Ak h12).ah fun Al =>
 (ax 4 true jf h12).ah fun Aa =>
 aH (ai T base 125 [v4,Al,Aa] h12) fun wj Qx =>
 (unOp .not wj).ah fun JY =>
 aD JY (
 bk true false n0 [(.bool false),(.int .i64 40)] Qx) (
 (aA jf 2).ah fun qj =>
 (ax 1 false qj Qx).ah fun ND =>
 aD ND (
 (aF v0).ah fun BH =>
 (aA BH 6).ah fun sM =>
 (ax 1 false sM Qx).ah fun BG =>
 (aA jf 0).ah fun Ab =>
 (ax 1 false Ab Qx).ah fun NF =>
 aH (cV base Qx (.CT [1] false) [BG,NF]) fun _ h43 =>
 (aA jf 3).ah fun rN =>
 (ax 1 false rN h43).ah fun NG =>
 (aF v0).ah fun DN =>
 (aA DN 5).ah fun Ed =>
 (aS base 1 Ed NG h43).ah fun h49 =>
 abB base n0 v0 v4 h49) (
 (aF v0).ah fun Bf =>
 (aA Bf 6).ah fun Sa =>
 (ax 1 false Sa Qx).ah fun JM =>
 (aA jf 0).ah fun wk =>
 (ax 1 false wk Qx).ah fun vk =>
 (aA jf 1).ah fun Sd =>
 (ax 1 false Sd Qx).ah fun HL =>
 aH (gv (ai T base) 73 [HL] Qx) fun yg h59=>(fun y=>if h59=Qx then y else none) <|
 aH (cV base Qx (.CS [1] false) [JM,vk,yg]) fun _ h60 =>
 (aA jf 3).ah fun Xi =>
 (ax 1 false Xi h60).ah fun Gb =>
 (aF v0).ah fun OB =>
 (aA OB 5).ah fun TD =>
 (aS base 1 TD Gb h60).ah fun h66 =>
 abB base n0 v0 v4 h66))):=(ez T Y6 [1,1,1,1,0,0,1] base n0 [(0,v0),(4,v4)] h).trans (by kernel_rfl)
theorem acr (base n0:Nat) (v76 v74 v75:PV) (h:Hp):acN base n0 v76 v74 v75 h =
 (binOp .lss v76 v75).ah fun x0 =>
 aD x0 (
 (cW v74 v76 1).ah fun x1 =>
 (ax 1 false x1 h).ah fun x2 =>
 (binOp .neq x2 (.int .u8 255)).ah fun x5 =>
 aD x5 (
 bk true false n0 [(.bool true),(.int .i64 0)] h) (
 (binOp .add v76 (.int .i64 1)).ah fun x8 =>
 acN base n0 x8 v74 v75 h)) (
 bk true false n0 [(.bool false),(.int .i64 0)] h):=(ez T Y6 [1,1,1,1,1,0,1,0,1] base n0 [(76,v76),(74,v74),(75,v75)] h).trans (by kernel_rfl)
theorem asU (base:Nat) (a0:PV) (h:Hp):ai T base 100 [a0] h =
 (aF a0).ah fun x4 =>
 (aA x4 3).ah fun x5 =>
 (ax 1 false x5 h).ah fun x6 =>
 aH (ai T base 120 [a0,x6] h) fun x7 h8 =>
 (aE x7 0).ah fun jf =>
 (aE x7 1).ah fun iS =>
 (binOp .neq iS (.int .i64 0)).ah fun mu =>
 aD mu (
 bk true false (size h) [(.bool false),iS] h8) (
 aH (cV base h8 .makeMap []) fun nP OE =>
 (aF a0).ah fun ru =>
 (aA ru 6).ah fun sP =>
 (aS base 1 sP nP OE).ah fun JO =>
 (aF a0).ah fun sL =>
 (aA sL 5).ah fun Ak =>
 (aS base 1 Ak (.int .i64 8) JO).ah fun h28 =>
 abB base (size h) a0 jf h28):=(gT am8 base _ h).trans (by kernel_rfl)
theorem TG (base:Nat) (a0 a1:PV) (h:Hp):ai T base 101 [a0,a1] h =
 (aF a0).ah fun x3 =>
 (aA x3 6).ah fun x4 =>
 (ax 1 false x4 h).ah fun x5 =>
 aH (cV (size h) h (.lookup [1] false .bg true) [x5,a1]) fun x7 h8 =>
 (aE x7 0).ah fun jf =>
 (aE x7 1).ah fun iS =>
 aH (ai T (size h) 73 [jf] h8) fun mu HN =>
 bk false true (size h) [mu,iS] HN:=(aZ Zo base _ h).trans (by kernel_rfl)
theorem asV (base:Nat) (a0 a1 a2:PV) (h:Hp):ai T base 104 [a0,a1,a2] h =
 (binOp .geq a1 (.int .i64 0)).ah fun x2 =>
 (aq x2 true).ah fun b5=>(au b5 (some a2) (some .undef)).ah fun x4 =>
 (aq x2 true).ah fun b9=>(au b9 ((binOp .geq x4 (.int .i64 0)).ah some) (some .undef)).ah fun x8 =>
 (aD x2 (some x8) (some (.bool false))).ah fun gJ =>
 (aq gJ true).ah fun b15=>(au b15 (some a1) (some .undef)).ah fun lU =>
 (aq gJ true).ah fun b19=>(au b19 (some a0) (some .undef)).ah fun pK =>
 (aq gJ true).ah fun b23=>aH (au b23 (aH (ai T (size h) 54 [pK] h) fun yj h24=>some (yj,h24)) (some (.undef,h))) fun oz h24 =>
 (aq gJ true).ah fun b27=>(au b27 ((binOp .leq lU oz).ah some) (some .undef)).ah fun sL =>
 (aD gJ (some sL) (some (.bool false))).ah fun wj =>
 (aq wj true).ah fun b33=>(au b33 (some a2) (some .undef)).ah fun JY =>
 (aq wj true).ah fun b37=>(au b37 (some a0) (some .undef)).ah fun ND =>
 (aq wj true).ah fun b41=>aH (au b41 (aH (ai T (size h) 54 [ND] h24) fun HK h42=>some (HK,h42)) (some (.undef,h24))) fun BG h42 =>
 (aq wj true).ah fun b45=>(au b45 (some a1) (some .undef)).ah fun vS =>
 (aq wj true).ah fun b49=>(au b49 ((binOp .sub BG vS).ah some) (some .undef)).ah fun Ed =>
 (aq wj true).ah fun b53=>(au b53 ((binOp .leq JY Ed).ah some) (some .undef)).ah fun Sa =>
 (aD wj (some Sa) (some (.bool false))).ah fun Sd =>
 bk false false (size h) [Sd] h42:=(aZ ana base _ h).trans (by kernel_rfl)
theorem asW (base:Nat) (a0 a1 a2:PV) (h:Hp):ai T base 105 [a0,a1,a2] h =
 (binOp .geq a1 (.int .i64 0)).ah fun x2 =>
 (aq x2 true).ah fun b5=>(au b5 (some a2) (some .undef)).ah fun x4 =>
 (aq x2 true).ah fun b9=>(au b9 ((binOp .geq x4 (.int .i64 0)).ah some) (some .undef)).ah fun x8 =>
 (aD x2 (some x8) (some (.bool false))).ah fun gJ =>
 (aq gJ true).ah fun b15=>(au b15 (some a1) (some .undef)).ah fun lU =>
 (aq gJ true).ah fun b19=>(au b19 (some a0) (some .undef)).ah fun pK =>
 (aq gJ true).ah fun b23=>(au b23 ((aF pK).ah some) (some .undef)).ah fun oz =>
 (aq gJ true).ah fun b27=>(au b27 ((aA oz 0).ah some) (some .undef)).ah fun sL =>
 (aq gJ true).ah fun b31=>(au b31 ((ax 1 false sL h).ah some) (some .undef)).ah fun wj =>
 (aq gJ true).ah fun b35=>(au b35 ((cB false wj).ah some) (some .undef)).ah fun vR =>
 (aq gJ true).ah fun b39=>(au b39 ((binOp .leq lU vR).ah some) (some .undef)).ah fun BH =>
 (aD gJ (some BH) (some (.bool false))).ah fun NF =>
 (aq NF true).ah fun b45=>(au b45 (some a2) (some .undef)).ah fun vS =>
 (aq NF true).ah fun b49=>(au b49 (some a0) (some .undef)).ah fun Ed =>
 (aq NF true).ah fun b53=>(au b53 ((aF Ed).ah some) (some .undef)).ah fun Sa =>
 (aq NF true).ah fun b57=>(au b57 ((aA Sa 0).ah some) (some .undef)).ah fun Sd =>
 (aq NF true).ah fun b61=>(au b61 ((ax 1 false Sd h).ah some) (some .undef)).ah fun OC =>
 (aq NF true).ah fun b65=>(au b65 ((cB false OC).ah some) (some .undef)).ah fun OB =>
 (aq NF true).ah fun b69=>(au b69 (some a1) (some .undef)).ah fun Gd =>
 (aq NF true).ah fun b73=>(au b73 ((binOp .sub OB Gd).ah some) (some .undef)).ah fun Xj =>
 (aq NF true).ah fun b77=>(au b77 ((binOp .leq vS Xj).ah some) (some .undef)).ah fun W5 =>
 (aD NF (some W5) (some (.bool false))).ah fun WK =>
 bk false false (size h) [WK] h:=(aZ anb base _ h).trans (by kernel_rfl)
noncomputable def acO (base n0:Nat) (v11 v1 v0 v9 v10:PV) (h:Hp):Option (PV × Hp):=Pt T Y9 [1,0,1,0,1] base n0 [(11,v11),(1,v1),(0,v0),(9,v9),(10,v10)] h
theorem acu (base n0:Nat) (v11 v1 v0 v9 v10:PV) (h:Hp):acO base n0 v11 v1 v0 v9 v10 h =
 (binOp .lss v11 v10).ah fun x0 =>
 aD x0 (
 (cW v9 v11 1).ah fun x2 =>
 (ax 1 false x2 h).ah fun x3 =>
 (aF v0).ah fun x8 =>
 (aA x8 0).ah fun x9 =>
 (ax 1 false x9 h).ah fun jf =>
 (binOp .add v1 v11).ah fun je =>
 (cW jf je 1).ah fun lU =>
 (ax 1 false lU h).ah fun mu =>
 (binOp .andNot x3 mu).ah fun oy =>
 (binOp .neq oy (.int .u8 0)).ah fun pE =>
 aD pE (
 bk false false n0 [(.bool false)] h) (
 (binOp .add v11 (.int .i64 1)).ah fun qi =>
 acO base n0 qi v1 v0 v9 v10 h)) (
 bk false false n0 [(.bool true)] h):=(ez T Y9 [1,0,1,0,1] base n0 [(11,v11),(1,v1),(0,v0),(9,v9),(10,v10)] h).trans (by kernel_rfl)
theorem asX (base:Nat) (a0 a1 a2:PV) (h:Hp):ai T base 106 [a0,a1,a2] h =
 (cB false a2).ah fun x2 =>
 acO (size h) (size h) (.int .i64 0) a1 a0 a2 x2 h:=(aZ anf base _ h).trans (by kernel_rfl)
theorem alj (base:Nat) (a0 a1 a2:PV) (h:Hp):ai T base 107 [a0,a1,a2] h =
 (aF a0).ah fun x2 =>
 (aA x2 4).ah fun x3 =>
 (ax 1 false x3 h).ah fun x4 =>
 (binOp .eql x4 (.int .i64 0)).ah fun x5 =>
 aD x5 (
 (aF a0).ah fun x7 =>
 (aA x7 5).ah fun x8 =>
 (aS (size h) 1 x8 (.bool true) h).ah fun h9 =>
 bk false false (size h) [(.bool false)] h9) (
 (aF a0).ah fun gJ =>
 (aA gJ 4).ah fun je =>
 (ax 1 false je h).ah fun lU =>
 (binOp .gtr lU (.int .i64 0)).ah fun mu =>
 aD mu (
 (aF a0).ah fun pE =>
 (aA pE 4).ah fun pK =>
 (ax 1 false pK h).ah fun qi =>
 (binOp .sub qi (.int .i64 1)).ah fun x20 =>
 (aF a0).ah fun nP =>
 (aA nP 4).ah fun oz =>
 (aS (size h) 1 oz x20 h).ah fun h23 =>
 (aF a0).ah fun yj =>
 (aA yj 0).ah fun sL =>
 (ax 1 false sL h23).ah fun Ak =>
 (cW Ak a1 1).ah fun wj =>
 (aS (size h) 1 wj a2 h23).ah fun Qx =>
 (aF a0).ah fun vR =>
 (aA vR 3).ah fun qj =>
 (ax 1 false qj Qx).ah fun ND =>
 (binOp .add ND (.int .i64 1)).ah fun rA =>
 (jI false [rA,(.int .i64 1073741824)]).ah fun BH =>
 (aF a0).ah fun sM =>
 (aA sM 3).ah fun BG =>
 (aS (size h) 1 BG BH Qx).ah fun h41 =>
 bk false false (size h) [(.bool true)] h41) (
 (aF a0).ah fun vS =>
 (aA vS 0).ah fun rN =>
 (ax 1 false rN h).ah fun NG =>
 (cW NG a1 1).ah fun Cm =>
 (aS (size h) 1 Cm a2 h).ah fun h50 =>
 (aF a0).ah fun JM =>
 (aA JM 3).ah fun wk =>
 (ax 1 false wk h50).ah fun vk =>
 (binOp .add vk (.int .i64 1)).ah fun Sd =>
 (jI false [Sd,(.int .i64 1073741824)]).ah fun HL =>
 (aF a0).ah fun yg =>
 (aA yg 3).ah fun Cj =>
 (aS (size h) 1 Cj HL h50).ah fun h60 =>
 bk false false (size h) [(.bool true)] h60)):=(aZ Zp base _ h).trans (by kernel_rfl)
theorem asY (base:Nat) (a0 a1 a2:PV) (h:Hp):ai T base 108 [a0,a1,a2] h =
 (aF a0).ah fun x3 =>
 (aA x3 5).ah fun x4 =>
 (ax 1 false x4 h).ah fun x5 =>
 aD x5 (
 bk false false (size h) [.bg,(.int .i64 30)] h) (
 aH (ai T (size h) 105 [a0,a1,a2] h) fun gJ h13 =>
 (unOp .not gJ).ah fun lU =>
 aD lU (
 bk false false (size h) [.bg,(.int .i64 1)] h13) (
 (aF a0).ah fun qi =>
 (aA qi 0).ah fun x20 =>
 (ax 1 false x20 h13).ah fun nP =>
 (binOp .add a1 a2).ah fun yj =>
 (cO (some 1) (some a1) (some yj) none nP).ah fun sL =>
 aH (ai T (size h) 73 [sL] h13) fun Ak h28 =>
 bk false false (size h) [Ak,(.int .i64 0)] h28)):=(aZ ang base _ h).trans (by kernel_rfl)
noncomputable def Aw (base n0:Nat) (v3 v4 v0:PV) (h:Hp):Option (PV × Hp):=Pt T JC [1,1,0,1,0,1] base n0 [(3,v3),(4,v4),(0,v0)] h
noncomputable def Ax (base n0:Nat) (v5 v3 v4 v0:PV) (h:Hp):Option (PV × Hp):=Pt T JC [1,1,0,1,0,1,0,0,1,0,0,1,0,1] base n0 [(5,v5),(3,v3),(4,v4),(0,v0)] h
theorem Cn (base n0:Nat) (v3 v4 v0:PV) (h:Hp):Aw base n0 v3 v4 v0 h =
 (cB false v0).ah fun x2 =>
 (binOp .lss v4 x2).ah fun x3 =>
 aD x3 (
 Ax base n0 (.int .i64 0) v3 v4 v0 h) (
 (binOp .xor v3 (.int .u32 4294967295)).ah fun x6 =>
 bk false false n0 [x6] h):=(ez T JC [1,1,0,1,0,1] base n0 [(3,v3),(4,v4),(0,v0)] h).trans (by kernel_rfl)
theorem Co (base n0:Nat) (v5 v3 v4 v0:PV) (h:Hp):Ax base n0 v5 v3 v4 v0 h =
 (binOp .lss v5 (.int .i64 8)).ah fun x1 =>
 aD x1 (
 (cW v0 v4 1).ah fun x4 =>
 (ax 1 false x4 h).ah fun x5 =>
 (binOp .shr x5 v5).ah fun x7 =>
 (ct x7 .u32).ah fun x8 =>
 (binOp .and x8 (.int .u32 1)).ah fun x9 =>
 (binOp .and v3 (.int .u32 1)).ah fun gJ =>
 (binOp .quo v3 (.int .u32 2)).ah fun mu =>
 (binOp .neq x9 gJ).ah fun qi =>
 aD qi (
 (binOp .xor mu (.int .u32 3988292384)).ah fun nP =>
 (binOp .add v5 (.int .i64 1)).ah fun sP =>
 Ax base n0 sP nP v4 v0 h) (
 (binOp .add v5 (.int .i64 1)).ah fun Ak =>
 Ax base n0 Ak mu v4 v0 h)) (
 (binOp .add v4 (.int .i64 1)).ah fun wj =>
 Aw base n0 v3 wj v0 h):=(ez T JC [1,1,0,1,0,1,0,0,1,0,0,1,0,1] base n0 [(5,v5),(3,v3),(4,v4),(0,v0)] h).trans (by kernel_rfl)
theorem alk (base:Nat) (a0:PV) (h:Hp):ai T base 111 [a0] h =
 Aw (size h) (size h) (.int .u32 4294967295) (.int .i64 0) a0 h:=(aZ Zq base _ h).trans (by kernel_rfl)
noncomputable def tQ (base n0:Nat) (v23 v3 v2 v0:PV) (h:Hp):Option (PV × Hp):=Pt T JD [1,1,0,1,0,1] base n0 [(23,v23),(3,v3),(2,v2),(0,v0)] h
noncomputable def tR (base n0:Nat) (DP v0 Yf:PV) (h:Hp):Option (PV × Hp):=Pt T JD [1,1,1,1,0,1] base n0 [(100,DP),(0,v0),(99,Yf)] h
theorem Cp (base n0:Nat) (v23 v3 v2 v0:PV) (h:Hp):tQ base n0 v23 v3 v2 v0 h =
 (binOp .lss v23 (.int .i64 64)).ah fun x0 =>
 aD x0 (
 (aN 1 8 v3 (.int .i64 0)).ah fun x3 =>
 (ax 1 false x3 h).ah fun x4 =>
 (aN 1 8 v3 (.int .i64 1)).ah fun x5 =>
 (ax 1 false x5 h).ah fun x6 =>
 (aN 1 8 v3 (.int .i64 2)).ah fun x7 =>
 (ax 1 false x7 h).ah fun x8 =>
 (aN 1 8 v3 (.int .i64 4)).ah fun x9 =>
 (ax 1 false x9 h).ah fun jf =>
 (aN 1 8 v3 (.int .i64 5)).ah fun iS =>
 (ax 1 false iS h).ah fun gJ =>
 (aN 1 8 v3 (.int .i64 6)).ah fun je =>
 (ax 1 false je h).ah fun lU =>
 (aN 1 8 v3 (.int .i64 7)).ah fun nP =>
 (ax 1 false nP h).ah fun oz =>
 aH (gv (ai T base) 129 [jf,(.int .i64 6)] h) fun sP JO=>(fun y=>if JO=h then y else none) <|
 aH (gv (ai T base) 129 [jf,(.int .i64 11)] h) fun Ak h28=>(fun y=>if h28=h then y else none) <|
 (binOp .xor sP Ak).ah fun Aa =>
 aH (gv (ai T base) 129 [jf,(.int .i64 25)] h) fun rM Ye=>(fun y=>if Ye=h then y else none) <|
 (binOp .xor Aa rM).ah fun Ao =>
 (binOp .add oz Ao).ah fun vR =>
 (binOp .and jf gJ).ah fun rA =>
 (unOp .xor jf).ah fun sM =>
 (binOp .and sM lU).ah fun Ab =>
 (binOp .xor rA Ab).ah fun NF =>
 (binOp .add vR NF).ah fun HK =>
 (aN 1 64 (.ep KS 0) v23).ah fun rN =>
 (ax 1 false rN h).ah fun NG =>
 (binOp .add HK NG).ah fun DN =>
 (aN 1 64 v2 v23).ah fun Cm =>
 (ax 1 false Cm h).ah fun J0 =>
 (binOp .add DN J0).ah fun Bf =>
 aH (ai T base 129 [x4,(.int .i64 2)] h) fun wk h55 =>
 aH (ai T base 129 [x4,(.int .i64 13)] h55) fun HL h58 =>
 (binOp .xor wk HL).ah fun Cj =>
 aH (ai T base 129 [x4,(.int .i64 22)] h58) fun J1 h62 =>
 (binOp .xor Cj J1).ah fun Gb =>
 (binOp .and x4 x6).ah fun HM =>
 (binOp .and x4 x8).ah fun Tv =>
 (binOp .xor HM Tv).ah fun Sb =>
 (binOp .and x6 x8).ah fun NH =>
 (binOp .xor Sb NH).ah fun Qy =>
 (binOp .add Gb Qy).ah fun Xk =>
 aH (cV base h62 (.jt 1 8 true false) [v3,(.int .i64 1)]) fun QE h78 =>
 aH (cV base h78 (.jt 1 8 false true) [v3,(.int .i64 7)]) fun x79 h80 =>
 aH (copyV base QE x79 h80) fun Lm W6 =>
 (aN 1 8 v3 (.int .i64 4)).ah fun QF =>
 (ax 1 false QF W6).ah fun WL =>
 (binOp .add WL Bf).ah fun W7 =>
 (aN 1 8 v3 (.int .i64 4)).ah fun QX =>
 (aS base 1 QX W7 W6).ah fun h88 =>
 (binOp .add Bf Xk).ah fun x91 =>
 (aN 1 8 v3 (.int .i64 0)).ah fun Tt =>
 (aS base 1 Tt x91 h88).ah fun h93 =>
 (binOp .add v23 (.int .i64 1)).ah fun W9 =>
 tQ base n0 W9 v3 v2 v0 h93) (
 (ax 8 true v3 h).ah fun WM =>
 tR base n0 (.int .i64 0) v0 WM h):=(ez T JD [1,1,0,1,0,1] base n0 [(23,v23),(3,v3),(2,v2),(0,v0)] h).trans (by kernel_rfl)
theorem Cq (base n0:Nat) (DP v0 Yf:PV) (h:Hp):tR base n0 DP v0 Yf h =
 (binOp .lss DP (.int .i64 8)).ah fun x0 =>
 aD x0 (
 (sE 1 false 8 Yf DP).ah fun x2 =>
 (aF v0).ah fun x7 =>
 (aA x7 0).ah fun x8 =>
 (aN 1 8 x8 DP).ah fun x9 =>
 (ax 1 false x9 h).ah fun jf =>
 (binOp .add jf x2).ah fun gJ =>
 (aF v0).ah fun je =>
 (aA je 0).ah fun lU =>
 (aN 1 8 lU DP).ah fun mu =>
 (aS base 1 mu gJ h).ah fun HN =>
 (binOp .add DP (.int .i64 1)).ah fun pE =>
 tR base n0 pE v0 Yf HN) (
 bk false false n0 [] h):=(ez T JD [1,1,1,1,0,1] base n0 [(100,DP),(0,v0),(99,Yf)] h).trans (by kernel_rfl)
theorem alm (base:Nat) (a0:PV) (h:Hp):ai T base 112 [a0] h =
 (aF a0).ah fun x1 =>
 (aA x1 8).ah fun x2 =>
 aH (ai T (size h) 128 [x2] h) fun x3 h4 =>
 eo (rep 64 (.int .u32 0)) h4 fun x5 h6 =>
 (aS (size h) 64 x5 x3 h6).ah fun h7 =>
 (aF a0).ah fun x9 =>
 (aA x9 0).ah fun jf =>
 (ax 8 true jf h7).ah fun iS =>
 eo (rep 8 (.int .u32 0)) h7 fun gJ h13 =>
 (aS (size h) 8 gJ iS h13).ah fun Lq =>
 tQ (size h) (size h) (.int .i64 0) gJ x5 a0 Lq:=(aZ Zr base _ h).trans (by kernel_rfl)
theorem aln (base:Nat) (a0:PV) (h:Hp):ai T base 113 [a0] h =
 aH (ai T (size h) 130 [(.int .u32 0),a0] h) fun x2 h3 =>
 bk false false (size h) [x2] h3:=(aZ Zt base _ h).trans (by kernel_rfl)
noncomputable def DQ (base n0:Nat) (v0 v6:PV) (h:Hp):Option (PV × Hp):=Pt T P5 [1,0,1,0,1] base n0 [(0,v0),(6,v6)] h
theorem Cr (base n0:Nat) (v0 v6:PV) (h:Hp):DQ base n0 v0 v6 h =
 aH (uZ v6 h) fun x0 h1 =>
 (aE x0 0).ah fun x2 =>
 aD x2 (
 (aE x0 2).ah fun x3 =>
 aH (ai T base 135 [x3] h1) fun x6 h7 =>
 (unOp .not x6).ah fun x8 =>
 aD x8 (
 bk false false n0 [(.bool false)] h7) (
 DQ base n0 v0 v6 h7)) (
 (binOp .neq v0 (.str [])).ah fun iS =>
 (aq iS true).ah fun W3=>(au W3 (some v0) (some .undef)).ah fun je =>
 (aq iS true).ah fun W4=>(au W4 ((cB true je).ah some) (some .undef)).ah fun pE =>
 (aq iS true).ah fun b22=>(au b22 ((binOp .leq pE (.int .i64 16)).ah some) (some .undef)).ah fun nP =>
 (aD iS (some nP) (some (.bool false))).ah fun yj =>
 bk false false n0 [yj] h1):=(ez T P5 [1,0,1,0,1] base n0 [(0,v0),(6,v6)] h).trans (by kernel_rfl)
theorem alo (base:Nat) (a0:PV) (h:Hp):ai T base 115 [a0] h =
 aH (Jr a0 h) fun x2 h3 =>
 DQ (size h) (size h) a0 x2 h3:=(aZ Zv base _ h).trans (by kernel_rfl)
theorem asZ (base:Nat) (a0 a1 a2:PV) (h:Hp):ai T base 116 [a0,a1,a2] h =
 (aF a0).ah fun x2 =>
 (aA x2 0).ah fun x3 =>
 (aN 1 2 x3 (.int .i64 0)).ah fun x4 =>
 (ax 1 false x4 h).ah fun x5 =>
 aH (ai T (size h) 87 [x5] h) fun x6 h7 =>
 aH (ai T (size h) 41 [x6] h7) fun x8 h9 =>
 aD x8 (
 aD x8 (
 bk false false (size h) [(.int .i64 30)] h9) (
 (binOp .lss a1 (.int .i64 0)).ah fun je =>
 (aq je false).ah fun Qd=>(au Qd (some a1) (some .undef)).ah fun mu =>
 (aq je false).ah fun Tf=>(au Tf ((binOp .geq mu (.int .i64 32)).ah some) (some .undef)).ah fun qi =>
 (aD je (some (.bool true)) (some qi)).ah fun ru =>
 aD ru (
 bk false false (size h) [(.int .i64 1)] h9) (
 (cB false a2).ah fun Ak =>
 (binOp .gtr Ak (.int .i64 250)).ah fun Al =>
 aD Al (
 bk false false (size h) [(.int .i64 2)] h9) (
 bk false false (size h) [(.int .i64 0)] h9)))) (
 (aF a0).ah fun Ao =>
 (aA Ao 0).ah fun vR =>
 (aN 1 2 vR (.int .i64 1)).ah fun qj =>
 (ax 1 false qj h9).ah fun ND =>
 aH (ai T (size h) 87 [ND] h9) fun rA QD =>
 aH (ai T (size h) 41 [rA] QD) fun sM h40 =>
 aD sM (
 bk false false (size h) [(.int .i64 30)] h40) (
 (binOp .lss a1 (.int .i64 0)).ah fun vS =>
 (aq vS false).ah fun b47=>(au b47 (some a1) (some .undef)).ah fun NG =>
 (aq vS false).ah fun b51=>(au b51 ((binOp .geq NG (.int .i64 32)).ah some) (some .undef)).ah fun J0 =>
 (aD vS (some (.bool true)) (some J0)).ah fun wk =>
 aD wk (
 bk false false (size h) [(.int .i64 1)] h40) (
 (cB false a2).ah fun yg =>
 (binOp .gtr yg (.int .i64 250)).ah fun Cj =>
 aD Cj (
 bk false false (size h) [(.int .i64 2)] h40) (
 bk false false (size h) [(.int .i64 0)] h40)))):=(aZ anh base _ h).trans (by kernel_rfl)
theorem as1 (base:Nat) (a0 a1 a2:PV) (h:Hp):ai T base 118 [a0,a1,a2] h =
 (cB false a1).ah fun x2 =>
 (binOp .add x2 (.int .i64 1)).ah fun x3 =>
 aH (gv (ai T base) 121 [a2] h) fun x6 h7=>(fun y=>if h7=h then y else none) <|
 (aF a0).ah fun x9 =>
 (aA x9 2).ah fun jf =>
 (ax 1 false jf h).ah fun iS =>
 (binOp .gtr x6 iS).ah fun gJ =>
 aD gJ (
 bk true false (size h) [(.int .i64 6)] h) (
 aH (ai T base 137 [a0] h) fun pE h18 =>
 (binOp .gtr x3 pE).ah fun qi =>
 aD qi (
 aH (ai T base 99 [a0,a2] h18) fun ru h24 =>
 bk true false (size h) [ru] h24) (
 (aF a0).ah fun Al =>
 (aA Al 3).ah fun Aa =>
 (ax 1 false Aa h18).ah fun wj =>
 (aF a0).ah fun rM =>
 (aA rM 0).ah fun JY =>
 (aN 1 2 JY wj).ah fun Ao =>
 (ax 1 false Ao h18).ah fun vR =>
 (aF a0).ah fun ND =>
 (aA ND 5).ah fun rA =>
 (ax 1 false rA h18).ah fun BH =>
 aH (ai T base 138 [vR,BH,a1] h18) fun BG h41 =>
 (binOp .neq BG (.int .i64 0)).ah fun vS =>
 aD vS (
 bk true false (size h) [BG] h41) (
 (aF a0).ah fun Ed =>
 (aA Ed 5).ah fun Cm =>
 (ax 1 false Cm h41).ah fun J0 =>
 (binOp .add J0 x3).ah fun Sa =>
 (aF a0).ah fun JM =>
 (aA JM 5).ah fun wk =>
 (aS base 1 wk Sa h41).ah fun h55 =>
 (aF a0).ah fun yg =>
 (aA yg 6).ah fun Cj =>
 (aS base 1 Cj a2 h55).ah fun h60 =>
 bk true false (size h) [(.int .i64 0)] h60))):=(gT anj base _ h).trans (by kernel_rfl)
theorem as2 (base:Nat) (a0 a1 a2:PV) (h:Hp):ai T base 119 [a0,a1,a2] h =
 (cB false a1).ah fun x2 =>
 aD a2 (
 (ct a0 .u8).ah fun x7 =>
 (ct (.int .i64 254) .u8).ah fun x9 =>
 (cH 1 false [(.int .u8 0)] 2 [(0,strip x7),(1,strip x9)]).ah fun jf =>
 aH (qH 5 1 jf a1 h) fun gJ h13 =>
 aH (ai T (size h) 139 [gJ] h13) fun lU Qh =>
 bk false false (size h) [lU] Qh) (
 (ct a0 .u8).ah fun pK =>
 (ct x2 .u8).ah fun x20 =>
 (cH 1 false [(.int .u8 0)] 2 [(0,strip pK),(1,strip x20)]).ah fun nP =>
 aH (qH 5 1 nP a1 h) fun ru h24 =>
 aH (ai T (size h) 139 [ru] h24) fun yj h26 =>
 bk false false (size h) [yj] h26):=(aZ anl base _ h).trans (by kernel_rfl)
theorem as3 (base:Nat) (a0 a1:PV) (h:Hp):ai T base 120 [a0,a1] h =
 (aF a0).ah fun x4 =>
 (aA x4 0).ah fun x5 =>
 (aN 1 2 x5 a1).ah fun x6 =>
 (ax 1 false x6 h).ah fun x7 =>
 (aF a0).ah fun x9 =>
 (aA x9 2).ah fun jf =>
 (ax 1 false jf h).ah fun iS =>
 aH (ai T (size h) 79 [x7,(.int .i64 0),iS] h) fun gJ h13 =>
 (aE gJ 0).ah fun lU =>
 (aE gJ 1).ah fun mu =>
 bk false false (size h) [lU,mu] h13:=(aZ anm base _ h).trans (by kernel_rfl)
noncomputable def abC (base n0:Nat) (UK v1 v6 v0 v12 oh:PV) (h:Hp):Option (PV × Hp):=Pt T Zf [1,1,0,1,0,1] base n0 [(14,UK),(1,v1),(6,v6),(0,v0),(12,v12),(13,oh)] h
theorem aaZ (base n0:Nat) (UK v1 v6 v0 v12 oh:PV) (h:Hp):abC base n0 UK v1 v6 v0 v12 oh h =
 (binOp .lss UK oh).ah fun x0 =>
 aD x0 (
 (cW v12 UK 1).ah fun x1 =>
 (ax 1 false x1 h).ah fun x2 =>
 aH (cV base h (.lookup [1] false .bg false) [v1,x2]) fun x9 h10 =>
 aH (ai T base 119 [x2,x9,(.bool false)] h10) fun iS h12 =>
 aH (ai T base 138 [v0,v6,iS] h12) fun je Lq =>
 (binOp .neq je (.int .i64 0)).ah fun pE =>
 aD pE (
 bk false false n0 [(.int .i64 0),je] Lq) (
 aH (cV base Lq (.lookup [1] false .bg false) [v1,x2]) fun sP JO =>
 aH (ai T base 140 [sP] JO) fun sL h27 =>
 (binOp .add v6 sL).ah fun Al =>
 (binOp .add UK (.int .i64 1)).ah fun wj =>
 abC base n0 wj v1 Al v0 v12 oh h27)) (
 bk false false n0 [v6,(.int .i64 0)] h):=(ez T Zf [1,1,0,1,0,1] base n0 [(14,UK),(1,v1),(6,v6),(0,v0),(12,v12),(13,oh)] h).trans (by kernel_rfl)
theorem as4 (base:Nat) (a0 a1:PV) (h:Hp):ai T base 122 [a0,a1] h =
 aH (ai T (size h) 142 [a1] h) fun x4 h5 =>
 aH (ai T (size h) 141 [x4] h5) fun x6 h7 =>
 (cB false x6).ah fun x8 =>
 abC (size h) (size h) (.int .i64 0) a1 (.int .i64 8) a0 x6 x8 h7:=(aZ ano base _ h).trans (by kernel_rfl)
noncomputable def acP (base n0:Nat) (v9 v1 v5:PV) (h:Hp):Option (PV × Hp):=Pt T Zg [1,1,0,1,0,1] base n0 [(9,v9),(1,v1),(5,v5)] h
theorem acv (base n0:Nat) (v9 v1 v5:PV) (h:Hp):acP base n0 v9 v1 v5 h =
 (binOp .lss v9 (.int .i64 4)).ah fun x0 =>
 aD x0 (
 (binOp .mul (.int .i64 8) v9).ah fun x6 =>
 (binOp .shr v1 x6).ah fun x7 =>
 (ct x7 .u8).ah fun x8 =>
 (cH 1 false [(.int .u8 0)] 1 [(0,strip x8)]).ah fun x9 =>
 aH (cV base h (.vJ 1) [v5,x9]) fun jf h11 =>
 (binOp .add v9 (.int .i64 1)).ah fun je =>
 acP base n0 je v1 jf h11) (
 bk false false n0 [v5] h):=(ez T Zg [1,1,0,1,0,1] base n0 [(9,v9),(1,v1),(5,v5)] h).trans (by kernel_rfl)
theorem amh (base:Nat) (a0 a1:PV) (h:Hp):ai T base 123 [a0,a1] h =
 aH (ai T (size h) 73 [a0] h) fun x2 h3 =>
 acP (size h) (size h) (.int .i64 0) a1 x2 h3:=(aZ anp base _ h).trans (by kernel_rfl)
noncomputable def acR (base n0:Nat) (v4 v6 v7 v1 v0:PV) (h:Hp):Option (PV × Hp):=Pt T Zh [1,1,1,1,1,1] base n0 [(4,v4),(6,v6),(7,v7),(1,v1),(0,v0)] h
theorem ad9 (base n0:Nat) (v4 v6 v7 v1 v0:PV) (h:Hp):acR base n0 v4 v6 v7 v1 v0 h =
 (binOp .add v1 (.int .i64 7)).ah fun x1 =>
 (binOp .add x1 v7).ah fun x3 =>
 (aA v6 3).ah fun x4 =>
 (aS base 1 x4 x3 h).ah fun h5 =>
 (aA v6 3).ah fun x6 =>
 (ax 1 false x6 h5).ah fun x7 =>
 (cB false v0).ah fun x9 =>
 (binOp .gtr x7 x9).ah fun jf =>
 (aq jf false).ah fun b13=>(au b13 (some v0) (some .undef)).ah fun gJ =>
 (aq jf false).ah fun b17=>(au b17 ((aA v6 3).ah some) (some .undef)).ah fun oy =>
 (aq jf false).ah fun b21=>(au b21 ((ax 1 false oy h5).ah some) (some .undef)).ah fun x20 =>
 (aq jf false).ah fun b25=>(au b25 ((binOp .sub x20 (.int .i64 1)).ah some) (some .undef)).ah fun sP =>
 (aq jf false).ah fun b29=>(au b29 ((cW gJ sP 1).ah some) (some .undef)).ah fun Al =>
 (aq jf false).ah fun b33=>(au b33 ((ax 1 false Al h5).ah some) (some .undef)).ah fun JY =>
 (aq jf false).ah fun b37=>(au b37 ((binOp .neq JY (.int .u8 0)).ah some) (some .undef)).ah fun ND =>
 (aD jf (some (.bool true)) (some ND)).ah fun BG =>
 aD BG (
 (dz [(.int .i64 0),.bg,(.bool false),(.int .i64 0)] []).ah fun Ab =>
 (aS base 4 v4 Ab h5).ah fun h42 =>
 (qS v4 h42 4 true).ah fun r44 =>
 bk false false n0 [r44,(.bool false)] h42) (
 (binOp .add v1 (.int .i64 2)).ah fun DN =>
 (binOp .add v1 (.int .i64 2)).ah fun Cm =>
 (binOp .add Cm v7).ah fun Bf =>
 (binOp .add v1 (.int .i64 2)).ah fun JM =>
 (binOp .add JM v7).ah fun vk =>
 (cO (some 1) (some DN) (some Bf) (some vk) v0).ah fun Sd =>
 (aA v6 1).ah fun HL =>
 (aS base 1 HL Sd h5).ah fun h58 =>
 (ax 4 true v6 h58).ah fun Cj =>
 (aS base 4 v4 Cj h58).ah fun h60 =>
 (qS v4 h60 4 true).ah fun r62 =>
 bk false false n0 [r62,(.bool true)] h60):=(ez T Zh [1,1,1,1,1,1] base n0 [(4,v4),(6,v6),(7,v7),(1,v1),(0,v0)] h).trans (by kernel_rfl)
theorem as5 (base:Nat) (a0 a1:PV) (h:Hp):ai T base 124 [a0,a1] h =
 eo [(.int .i64 0),.bg,(.bool false),(.int .i64 0)] h fun x0 h1 =>
 (binOp .add a1 (.int .i64 2)).ah fun x4 =>
 (cB false a0).ah fun x6 =>
 (binOp .gtr x4 x6).ah fun x7 =>
 (aq x7 false).ah fun b10=>(au b10 (some a0) (some .undef)).ah fun x9 =>
 (aq x7 false).ah fun W3=>(au W3 (some a1) (some .undef)).ah fun je =>
 (aq x7 false).ah fun W4=>(au W4 ((cW x9 je 1).ah some) (some .undef)).ah fun pE =>
 (aq x7 false).ah fun b22=>(au b22 ((ax 1 false pE h1).ah some) (some .undef)).ah fun nP =>
 (aq x7 false).ah fun b26=>(au b26 ((binOp .geq nP (.int .u8 32)).ah some) (some .undef)).ah fun yj =>
 (aD x7 (some (.bool true)) (some yj)).ah fun Aa =>
 aD Aa (
 (dz [(.int .i64 0),.bg,(.bool false),(.int .i64 0)] []).ah fun wj =>
 (aS (size h) 4 x0 wj h1).ah fun Qx =>
 (qS x0 Qx 4 true).ah fun r33 =>
 bk false false (size h) [r33,(.bool false)] Qx) (
 (cW a0 a1 1).ah fun ND =>
 (ax 1 false ND h1).ah fun rA =>
 (ct rA .i64).ah fun BH =>
 (binOp .add a1 (.int .i64 1)).ah fun Ab =>
 (cW a0 Ab 1).ah fun NF =>
 (ax 1 false NF h1).ah fun HK =>
 (binOp .eql HK (.int .u8 254)).ah fun vS =>
 (dz [(.int .i64 0),.bg,(.bool false),(.int .i64 0)] [(0,1,BH),(2,1,vS)]).ah fun rN =>
 eo [(.int .i64 0),.bg,(.bool false),(.int .i64 0)] h1 fun NG WJ =>
 (aS (size h) 4 NG rN WJ).ah fun h48 =>
 (binOp .add a1 (.int .i64 1)).ah fun Bf =>
 (cW a0 Bf 1).ah fun Sa =>
 (ax 1 false Sa h48).ah fun JM =>
 (ct JM .i64).ah fun wk =>
 (aA NG 2).ah fun Sd =>
 (ax 1 false Sd h48).ah fun HL =>
 aD HL (
 acR (size h) (size h) x0 NG (.int .i64 0) a1 a0 h48) (
 (binOp .gtr wk (.int .i64 250)).ah fun J1 =>
 aD J1 (
 (dz [(.int .i64 0),.bg,(.bool false),(.int .i64 0)] []).ah fun Gb =>
 (aS (size h) 4 x0 Gb h48).ah fun HO =>
 (qS x0 HO 4 true).ah fun r66 =>
 bk false false (size h) [r66,(.bool false)] HO) (
 acR (size h) (size h) x0 NG wk a1 a0 h48))):=(aZ anq base _ h).trans (by kernel_rfl)
theorem as6 (base:Nat) (a0 a1 a2:PV) (h:Hp):ai T base 125 [a0,a1,a2] h =
 aH (tK 4 a2 h) fun x0 h1 =>
 (aA x0 3).ah fun x5 =>
 (ax 1 false x5 h1).ah fun x6 =>
 (binOp .sub x6 (.int .i64 1)).ah fun x7 =>
 (cO (some 1) (some a1) (some x7) none a0).ah fun x8 =>
 aH (ai T (size h) 92 [x8] h1) fun x9 h10 =>
 (aE x9 0).ah fun gJ =>
 (aE x9 1).ah fun je =>
 bk false false (size h) [je] h10:=(aZ anr base _ h).trans (by kernel_rfl)
noncomputable def Ay (base n0:Nat) (v9 v3 v0 v2:PV) (h:Hp):Option (PV × Hp):=Pt T P6 [1,1,0,1,0,1] base n0 [(9,v9),(3,v3),(0,v0),(2,v2)] h
theorem tS (base n0:Nat) (v9 v3 v0 v2:PV) (h:Hp):Ay base n0 v9 v3 v0 v2 h =
 (binOp .lss v9 (.int .i64 64)).ah fun x0 =>
 aD x0 (
 (binOp .lss v9 (.int .i64 16)).ah fun x4 =>
 aD x4 (
 (binOp .mul (.int .i64 4) v9).ah fun x8 =>
 (aF v0).ah fun x9 =>
 (aN 1 64 x9 x8).ah fun jf =>
 (ax 1 false jf h).ah fun iS =>
 (ct iS .u32).ah fun gJ =>
 (binOp .shl gJ (.int .u64 24)).ah fun je =>
 (binOp .mul (.int .i64 4) v9).ah fun oy =>
 (binOp .add oy (.int .i64 1)).ah fun pE =>
 (aF v0).ah fun pK =>
 (aN 1 64 pK pE).ah fun qi =>
 (ax 1 false qi h).ah fun x20 =>
 (ct x20 .u32).ah fun nP =>
 (binOp .shl nP (.int .u64 16)).ah fun oz =>
 (binOp .or je oz).ah fun ru =>
 (binOp .mul (.int .i64 4) v9).ah fun sL =>
 (binOp .add sL (.int .i64 2)).ah fun Ak =>
 (aF v0).ah fun Al =>
 (aN 1 64 Al Ak).ah fun Aa =>
 (ax 1 false Aa h).ah fun wj =>
 (ct wj .u32).ah fun rM =>
 (binOp .shl rM (.int .u64 8)).ah fun JY =>
 (binOp .or ru JY).ah fun Ao =>
 (binOp .mul (.int .i64 4) v9).ah fun ND =>
 (binOp .add ND (.int .i64 3)).ah fun rA =>
 (aF v0).ah fun BH =>
 (aN 1 64 BH rA).ah fun sM =>
 (ax 1 false sM h).ah fun BG =>
 (ct BG .u32).ah fun Ab =>
 (binOp .or Ao Ab).ah fun NF =>
 (aN 1 64 v3 v9).ah fun HK =>
 (aS base 1 HK NF h).ah fun h44 =>
 (binOp .add v9 (.int .i64 1)).ah fun rN =>
 Ay base n0 rN v3 v0 v2 h44) (
 (binOp .sub v9 (.int .i64 15)).ah fun Ed =>
 (aN 1 64 v3 Ed).ah fun Cm =>
 (ax 1 false Cm h).ah fun J0 =>
 (binOp .sub v9 (.int .i64 2)).ah fun Sa =>
 (aN 1 64 v3 Sa).ah fun JM =>
 (ax 1 false JM h).ah fun wk =>
 aH (ai T base 129 [J0,(.int .i64 7)] h) fun yg h59 =>
 aH (ai T base 129 [J0,(.int .i64 18)] h59) fun J1 h62 =>
 (binOp .xor yg J1).ah fun Gb =>
 (binOp .shr J0 (.int .u64 3)).ah fun TD =>
 (binOp .xor Gb TD).ah fun HM =>
 aH (ai T base 129 [wk,(.int .i64 17)] h62) fun Tv h70 =>
 aH (ai T base 129 [wk,(.int .i64 19)] h70) fun Xj h73 =>
 (binOp .xor Tv Xj).ah fun Qy =>
 (binOp .shr wk (.int .u64 10)).ah fun W5 =>
 (binOp .xor Qy W5).ah fun QE =>
 (binOp .sub v9 (.int .i64 16)).ah fun Lm =>
 (aN 1 64 v3 Lm).ah fun UI =>
 (ax 1 false UI h73).ah fun QF =>
 (binOp .add QF HM).ah fun x85 =>
 (binOp .sub v9 (.int .i64 7)).ah fun QX =>
 (aN 1 64 v3 QX).ah fun Qz =>
 (ax 1 false Qz h73).ah fun TC =>
 (binOp .add x85 TC).ah fun OD =>
 (binOp .add OD QE).ah fun Tt =>
 (aN 1 64 v3 v9).ah fun Xn =>
 (aS base 1 Xn Tt h73).ah fun h94 =>
 (binOp .add v9 (.int .i64 1)).ah fun x95 =>
 Ay base n0 x95 v3 v0 v2 h94)) (
 (ax 64 true v3 h).ah fun W8 =>
 (aS base 64 v2 W8 h).ah fun h98 =>
 (qS v2 h98 64 true).ah fun r99 =>
 bk false false n0 [r99] h98):=(ez T P6 [1,1,0,1,0,1] base n0 [(9,v9),(3,v3),(0,v0),(2,v2)] h).trans (by kernel_rfl)
theorem alq (base:Nat) (a0:PV) (h:Hp):ai T base 128 [a0] h =
 eo (rep 64 (.int .u32 0)) h fun x0 h1 =>
 eo (rep 64 (.int .u32 0)) h1 fun x2 h3 =>
 Ay (size h) (size h) (.int .i64 0) x2 a0 x0 h3:=(aZ Zw base _ h).trans (by kernel_rfl)
theorem alr (base:Nat) (a0 a1:PV) (h:Hp):ai T base 129 [a0,a1] h =
 (unOp .neg a1).ah fun x3 =>
 aH (ai T (size h) 143 [a0,x3] h) fun x4 h5 =>
 bk false false (size h) [x4] h5:=(aZ Zx base _ h).trans (by kernel_rfl)
noncomputable def DR (base n0:Nat) (v12 v5 v10 v11:PV) (h:Hp):Option (PV × Hp):=Pt T P7 [1,1,0,1,0,1] base n0 [(12,v12),(5,v5),(10,v10),(11,v11)] h
theorem Cs (base n0:Nat) (v12 v5 v10 v11:PV) (h:Hp):DR base n0 v12 v5 v10 v11 h =
 (binOp .lss v12 v11).ah fun x0 =>
 aD x0 (
 (cW v10 v12 1).ah fun x1 =>
 (ax 1 false x1 h).ah fun x2 =>
 aH (ai T base 144 [v5,x2] h) fun x6 h7 =>
 (binOp .add v12 (.int .i64 1)).ah fun x9 =>
 DR base n0 x9 x6 v10 v11 h7) (
 (unOp .xor v5).ah fun gJ =>
 bk false false n0 [gJ] h):=(ez T P7 [1,1,0,1,0,1] base n0 [(12,v12),(5,v5),(10,v10),(11,v11)] h).trans (by kernel_rfl)
theorem als (base:Nat) (a0 a1:PV) (h:Hp):ai T base 130 [a0,a1] h =
 (unOp .xor a0).ah fun x2 =>
 (cB false a1).ah fun x5 =>
 DR (size h) (size h) (.int .i64 0) x2 a1 x5 h:=(aZ Zy base _ h).trans (by kernel_rfl)
theorem alu (base:Nat) (a0:PV) (h:Hp):ai T base 135 [a0] h =
 (binOp .geq a0 (.int .i32 97)).ah fun x2 =>
 (aq x2 true).ah fun b5=>(au b5 (some a0) (some .undef)).ah fun x4 =>
 (aq x2 true).ah fun b9=>(au b9 ((binOp .leq x4 (.int .i32 122)).ah some) (some .undef)).ah fun x8 =>
 (aD x2 (some x8) (some (.bool false))).ah fun gJ =>
 (aq gJ false).ah fun b15=>(au b15 (some a0) (some .undef)).ah fun lU =>
 (aq gJ false).ah fun b19=>(au b19 ((binOp .geq lU (.int .i32 48)).ah some) (some .undef)).ah fun pK =>
 (aq gJ false).ah fun b23=>(au b23 (some pK) (some .undef)).ah fun oz =>
 (aq oz true).ah fun b27=>(au b27 (some a0) (some .undef)).ah fun sL =>
 (aq oz true).ah fun b31=>(au b31 ((binOp .leq sL (.int .i32 57)).ah some) (some .undef)).ah fun wj =>
 (aq gJ false).ah fun b35=>(au b35 ((aD oz (some wj) (some (.bool false))).ah some) (some .undef)).ah fun vR =>
 (aD gJ (some (.bool true)) (some vR)).ah fun BH =>
 (aq BH false).ah fun b41=>(au b41 (some a0) (some .undef)).ah fun BG =>
 (aq BH false).ah fun b45=>(au b45 ((binOp .eql BG (.int .i32 46)).ah some) (some .undef)).ah fun vS =>
 (aD BH (some (.bool true)) (some vS)).ah fun Ed =>
 (aq Ed false).ah fun b51=>(au b51 (some a0) (some .undef)).ah fun J0 =>
 (aq Ed false).ah fun b55=>(au b55 ((binOp .eql J0 (.int .i32 45)).ah some) (some .undef)).ah fun wk =>
 (aD Ed (some (.bool true)) (some wk)).ah fun yg =>
 (aq yg false).ah fun b61=>(au b61 (some a0) (some .undef)).ah fun OC =>
 (aq yg false).ah fun b65=>(au b65 ((binOp .eql OC (.int .i32 95)).ah some) (some .undef)).ah fun OB =>
 (aD yg (some (.bool true)) (some OB)).ah fun Gd =>
 bk false false (size h) [Gd] h:=(aZ Zz base _ h).trans (by kernel_rfl)
theorem as7 (base:Nat) (a0:PV) (h:Hp):ai T base 137 [a0] h =
 (aF a0).ah fun x2 =>
 (aA x2 2).ah fun x3 =>
 (ax 1 false x3 h).ah fun x4 =>
 (aF a0).ah fun x6 =>
 (aA x6 5).ah fun x7 =>
 (ax 1 false x7 h).ah fun x8 =>
 (binOp .sub x4 x8).ah fun x9 =>
 bk false false (size h) [x9] h:=(aZ ans base _ h).trans (by kernel_rfl)
theorem as8 (base:Nat) (a0 a1 a2:PV) (h:Hp):ai T base 138 [a0,a1,a2] h =
 aH (ai T (size h) 28 [a0,a1,a2] h) fun x4 h5 =>
 (binOp .neq x4 (.int .i64 0)).ah fun x8 =>
 aD x8 (
 bk false false (size h) [x4] h5) (
 (cB false a2).ah fun lU =>
 (binOp .add a1 lU).ah fun mu =>
 (cH 1 false [(.int .u8 0)] 1 [(0,strip (.int .u8 0))]).ah fun oy =>
 aH (ai T (size h) 28 [a0,mu,oy] h5) fun pE h18 =>
 bk false false (size h) [pE] h18):=(aZ ant base _ h).trans (by kernel_rfl)
theorem as9 (base:Nat) (a0:PV) (h:Hp):ai T base 139 [a0] h =
 aH (ai T (size h) 113 [a0] h) fun x3 h4 =>
 aH (ai T (size h) 123 [a0,x3] h4) fun x5 h6 =>
 bk false false (size h) [x5] h6:=(aZ anu base _ h).trans (by kernel_rfl)
theorem ata (base:Nat) (a0:PV) (h:Hp):ai T base 140 [a0] h =
 (cB false a0).ah fun x2 =>
 (binOp .add (.int .i64 7) x2).ah fun x3 =>
 bk false false (size h) [x3] h:=(aZ anv base _ h).trans (by kernel_rfl)
theorem atb (base:Nat) (a0:PV) (h:Hp):ai T base 142 [a0] h =
 aH (tK 1 a0 h) fun x0 h1 =>
 bk true false (size h) [(.fn 150 [x0])] h1:=(gT anx base _ h).trans (by kernel_rfl)
theorem alv (base:Nat) (a0 a1:PV) (h:Hp):ai T base 143 [a0,a1] h =
 (ct a1 .u64).ah fun x2 =>
 (binOp .and x2 (.int .u64 31)).ah fun x3 =>
 (binOp .shl a0 x3).ah fun x7 =>
 (binOp .sub (.int .u64 32) x3).ah fun jf =>
 (binOp .shr a0 jf).ah fun iS =>
 (binOp .or x7 iS).ah fun gJ =>
 bk false false (size h) [gJ] h:=(aZ ZA base _ h).trans (by kernel_rfl)
noncomputable def Az (base n0:Nat) (v10 v0:PV) (h:Hp):Option (PV × Hp):=Pt T P8 [1,1,0,1,0,1] base n0 [(10,v10),(0,v0)] h
theorem Ct (base n0:Nat) (v10 v0:PV) (h:Hp):Az base n0 v10 v0 h =
 (binOp .lss v10 (.int .i64 8)).ah fun x0 =>
 aD x0 (
 (binOp .and v0 (.int .u32 1)).ah fun x2 =>
 (binOp .shr v0 (.int .u64 1)).ah fun x5 =>
 (binOp .eql x2 (.int .u32 1)).ah fun x8 =>
 aD x8 (
 (binOp .xor x5 (.int .u32 3988292384)).ah fun jf =>
 (binOp .add v10 (.int .i64 1)).ah fun gJ =>
 Az base n0 gJ jf h) (
 (binOp .add v10 (.int .i64 1)).ah fun lU =>
 Az base n0 lU x5 h)) (
 bk false false n0 [v0] h):=(ez T P8 [1,1,0,1,0,1] base n0 [(10,v10),(0,v0)] h).trans (by kernel_rfl)
theorem alw (base:Nat) (a0 a1:PV) (h:Hp):ai T base 144 [a0,a1] h =
 (ct a1 .u32).ah fun x3 =>
 (binOp .xor a0 x3).ah fun x4 =>
 Az (size h) (size h) (.int .i64 0) x4 h:=(aZ ZB base _ h).trans (by kernel_rfl)
end Go.Am.Qd
namespace Go.Am.Qd
variable {h:Hp} {p:FP} {F:Fl}
theorem NK (hp:pI h p) (base:Nat):ai T base 41 [.ptr p.f 0] (cv h p F)=some (.bool F.down,cv h p F):=by
 rw[S41];simp only[bS,ld5 hp,cT,↓jY,jZ,j4,j5,simprocAttr,if_true,if_false,implies_true,forall_const]
theorem vn (hp:pI h p) (base:Nat):ai T base 82 [.ptr p.f 0] (cv h p F)=some (.int .i64 F.aj,cv h p F):=by
 rw[S82];simp only[bS,X8 hp,cT,↓jY,jZ,j4,j5,simprocAttr,if_true,if_false,implies_true,forall_const]
theorem NL (hp:pI h p) (base:Nat):ai T base 81 [.ptr p.f 0] (cv h p F)=some (.int .i64 F.b.length,cv h p F):=by
 rw[S81];simp only[bS,ld0 hp,cT,↓jY,jZ,j4,j5,simprocAttr,if_true,if_false,implies_true,forall_const]
theorem NM (hp:pI h p) (base:Nat) {i:Nat} {c:UInt8} (hi:i<F.b.length) (ht:F.di≤1073741824) (hl:-1≤F.left∧F.left≤9223372036854775807) :
  ai T base 107 [.ptr p.f 0,.int .i64 i,.int .u8 c.toNat] (cv h p F)=some (.bool (F.cD i c).1,cv h p (F.cD i c).2):=by
 rw[alj];unfold Fl.cD;have hm:(if((1073741824:Int)<((F.di+1:Nat):Int)) then(1073741824:Int) else((F.di+1:Nat):Int))=((min (F.di+1) 1073741824:Nat):Int):=by split<;>omega
 by_cases h0:F.left=0
 ·simp only[bS,ld4 hp,st5 hp,h0,cT,↓jY,jZ,j4,j5,simprocAttr,if_true,if_false,implies_true,forall_const]
 ·have e0:(F.left == 0)=false:=by simpa using h0
  by_cases h1:F.left > 0
  ·have ew:IntKind.i64.wrap (F.left-1)=F.left-1:=wrap_small (by omega) (by omega)
   simp (disch:=omega) only[bS,ld4 hp,ld0 hp,ld3 hp,X9 hp,h0,e0,h1,ew,decide_true,cT,iN,hi,stb hp,st3 hp,Ch hp,kN,fy,hm,List.length_set,↓jY,jZ,j4,j5,simprocAttr,if_true,if_false,implies_true,forall_const]
  ·simp (disch:=omega) only[bS,ld4 hp,ld0 hp,ld3 hp,X9 hp,h0,e0,h1,decide_false,cT,iN,hi,stb hp,st3 hp,Ch hp,kN,fy,hm,List.length_set,↓jY,jZ,j4,j5,simprocAttr,if_true,if_false,implies_true,forall_const]
end Go.Am.Qd
namespace Go.Am.Qd
variable {h:Hp} {p:FP} {F:Fl}
theorem aa2 (hp:pI h p) (base:Nat) (a n:Nat) (hb:F.b.length≤1000000) :
  ai T base 105 [.ptr p.f 0,.int .i64 a,.int .i64 n] (cv h p F)=some (.bool (decide (a+n≤F.b.length)),cv h p F):=by
 rw[asW]
 by_cases h1:a≤F.b.length
 ·by_cases h2:n≤F.b.length-a
  ·have e3:a+n≤F.b.length:=by omega
   simp (disch:=omega) only[bS,ld0 hp,aaD,Qm,h1,h2,e3,decide_true,aaN,cT,↓jY,jZ,j4,j5,simprocAttr,if_true,if_false,implies_true,forall_const]
  ·have e3:¬ (a+n≤F.b.length):=by omega
   simp (disch:=omega) only[bS,ld0 hp,aaD,Qm,h1,h2,e3,decide_true,decide_false,aaN,cT,↓jY,jZ,j4,j5,simprocAttr,if_true,if_false,implies_true,forall_const]
 ·have e3:¬ (a+n≤F.b.length):=by omega
  simp (disch:=omega) only[bS,ld0 hp,aaD,Qm,h1,e3,decide_true,decide_false,aaN,cT,↓jY,jZ,j4,j5,simprocAttr,if_true,if_false,implies_true,forall_const]
structure Bv (v:PV) (l:List UInt8):Prop where
 len:cB false v=some (.int .i64 l.length)
 ix:∀ (k:IntKind) (i:Nat) (c:UInt8),l[i]?=some c→cW v (.int k i) 1=some (.ep [.int .u8 c.toNat] 0)
 el:∀ h,elems h v=some (aP l)
 below:∀ n,below n v=true
 gY:∀ n h,gY n h v=some v
 strip:strip v=v
theorem pL {o:Own} (ho:o=.no∨o=.full) (l:List UInt8):Bv (.sl o 1 (aP l)) l:=by
 have hs:∀ n,belows n (aP l)=true:=by
  intro n;induction l with
  | nil=>rfl
  | cons c l ih=>simp only[aP,List.map_cons,belows,Bool.and_eq_true]at *;exact⟨rfl,ih⟩
 refine⟨by rw[fe,aM],fun k i c hc=>?_,fun _=>rfl,fun n=>?_,fun n h=>?_,?_⟩
 ·have hi:=(List.getElem?_eq_some_iff.1 hc).1
  rw[jM,if_pos rfl,iN k i _ (by rw[aM];exact hi),Option.ag,qg,hc];rfl
 ·rcases ho with rfl | rfl<;>simp[below,Own.below,hs]
 ·rcases ho with rfl | rfl<;>rfl
 ·rcases ho with rfl | rfl<;>rfl
theorem yp:Bv .bg []:=⟨rfl,fun k i c hc=>by simp at hc,fun _=>rfl,fun _=>rfl,fun _ _=>rfl,rfl⟩
theorem acw (c d:UInt8):kz .andNot .u8 (c.toNat:Int) (d.toNat:Int)=some (.int .u8 ((c &&& ~~~ d).toNat:Nat)):=by
 have h1:∀ c:UInt8,BitVec.ofInt 8 (c.toNat:Int)=c.toBitVec:=by intro c;apply BitVec.eq_of_toNat_eq;simp
 show some (PV.int .u8 (IntKind.u8.wrap ((BitVec.ofInt 8 (c.toNat:Int) &&& ~~~ (BitVec.ofInt 8 (d.toNat:Int))).toNat:Int)))=_;rw[h1,h1,show(c.toBitVec &&& ~~~ d.toBitVec)=(c &&& ~~~ d).toBitVec from rfl];have h2:(c &&& ~~~ d).toBitVec.toNat<256:=(c &&& ~~~ d).toBitVec.isLt;have h3:∀ n:Nat,n<256→IntKind.u8.wrap (n:Int)=n:=by
  intro n hn;simp only[IntKind.wrap,IntKind.signed,IntKind.bits,Bool.false_and,Bool.false_eq_true,if_false];omega
 rw[h3 _ h2];rfl
theorem aba (hp:pI h p) (base:Nat) (a:Nat) (l:List UInt8) {v:PV} (hv:Bv v l) (hb:a+l.length≤F.b.length) (hs:F.b.length≤1000000):∀ (m k:Nat),k+m=l.length →
  acO base (size h) (.int .i64 k) (.int .i64 a) (.ptr p.f 0) v (.int .i64 l.length) (cv h p F)=some (.bool ((l.drop k).zipIdx k |>.all fun q=>q.1 &&& ~~~ (F.b.getD (a+q.2) 0) == 0),cv h p F)
 | 0,k,hk=>by
  have e0:¬ (k<l.length):=by omega
  rw[acu];simp only[dec_lt,e0,decide_false,cT,List.drop_of_length_le (show l.length≤k by omega),List.zipIdx_nil,List.all_nil,↓jY,jZ,j4,j5,simprocAttr,if_true,if_false,implies_true,forall_const]
 | m+1,k,hk=>by
  have e0:k<l.length:=by omega
  have hc:l[k]?=some l[k]:=List.getElem?_eq_getElem e0;have hi:=hv.ix .i64 k _ hc;have hd:F.b[a+k]?=some F.b[a+k]:=List.getElem?_eq_getElem (by omega);have ihx:=aba hp base a l hv hb hs m (k+1) (by omega);rw[acu];have anZ:(l.drop k).zipIdx k=(l[k],k)::(l.drop (k+1)).zipIdx (k+1):=by rw[List.drop_eq_getElem_cons e0,List.zipIdx_cons]
  have hgd:F.b.getD (a+k) 0=F.b[a+k]:=by rw[List.getD_eq_getElem?_getD,hd];rfl
  have hbe:((((l[k] &&& ~~~ F.b[a+k]).toNat:Nat):Int) != 0)=!(l[k] &&& ~~~ F.b[a+k] == 0):=by
   rw[bne,Bool.not_inj_iff,Bool.eq_iff_iff,beq_iff_eq,beq_iff_eq];constructor
   ·intro hq;apply UInt8.toNat_inj.1;have:(l[k] &&& ~~~ F.b[a+k]).toNat=0:=by omega
    simpa using this
   ·intro hq;rw[hq];rfl
  have hlt:a+k<F.b.length:=by omega
  rw[anZ,List.all_cons,hgd];cases hz:(l[k] &&& ~~~ F.b[a+k] == 0) with
  | true =>
   rw[hz]at hbe;simp (disch:=omega) only[dec_lt,e0,decide_true,hi,ld0 hp,mJ,iN,hlt,ldb hp hd,acw,hbe,fy,ihx,Bool.not_true,Bool.true_and,↓jY,jZ,j4,j5,simprocAttr,if_true,if_false,implies_true,forall_const]
  | false =>
   rw[hz]at hbe;simp (disch:=omega) only[dec_lt,e0,decide_true,hi,ld0 hp,mJ,iN,hlt,ldb hp hd,acw,hbe,cT,Bool.not_false,Bool.false_and,↓jY,jZ,j4,j5,simprocAttr,if_true,if_false,implies_true,forall_const]
theorem adm (hp:pI h p) (base:Nat) (a:Nat) (l:List UInt8) {v:PV} (hv:Bv v l) (hb:a+l.length≤F.b.length) (hs:F.b.length≤1000000) :
  ai T base 106 [.ptr p.f 0,.int .i64 a,v] (cv h p F)=some (.bool (F.clears a l),cv h p F):=by
 rw[asX];have:=aba (h:=h) hp (size h) a l hv hb hs l.length 0 (by omega);simp only[hv.len,bS,↓jY,jZ,j4,j5,simprocAttr,if_true,if_false,implies_true,forall_const];rw[show((0:Nat):Int)=0 from rfl]at this;rw[this];rfl
structure gO (F:Fl):Prop where
 di:F.di≤1073741824
 left:-1≤F.left∧F.left≤9223372036854775807
 len:F.b.length≤1000000
 bN:∀ n∈F.bN,n≤1073741824
theorem gO.cD (hF:gO F) (i:Nat) (c:UInt8):gO (F.cD i c).2∧(F.cD i c).2.b.length=F.b.length∧(F.cD i c).2.bN=F.bN∧(F.cD i c).2.aj=F.aj:=by
 unfold Fl.cD;split
 ·exact⟨⟨hF.di,hF.left,hF.len,hF.bN⟩,rfl,rfl,rfl⟩
 ·refine⟨⟨Nat.min_le_right _ _,?_,by simpa using hF.len,hF.bN⟩,by simp,rfl,rfl⟩
  have:=hF.left
  dsimp only
  split<;>omega
theorem gO.prog:∀ (l:List UInt8) {F:Fl} (hF:gO F) (i:Nat),gO (F.prog i l).2∧(F.prog i l).2.b.length=F.b.length∧(F.prog i l).2.bN=F.bN∧(F.prog i l).2.aj=F.aj
 | [],F,hF,i=>⟨hF,rfl,rfl,rfl⟩
 | c::l,F,hF,i=>by
  obtain⟨h1,h2,h3,h4⟩:=hF.cD i c;simp only[Fl.prog];split
  ·obtain⟨q1,q2,q3,q4⟩:=gO.prog l h1 (i+1)
   exact⟨q1,q2.trans h2,q3.trans h3,q4.trans h4⟩
  ·exact⟨h1,h2,h3,h4⟩
theorem acy (hp:pI h p) (base:Nat) (a:Nat) (l:List UInt8) {v:PV} (hv:Bv v l):∀ (m k:Nat) {F:Fl},gO F→a+l.length≤F.b.length→k+m=l.length →
  adR base (size h) (.int .i64 k) (.int .i64 a) (.ptr p.f 0) v (.int .i64 l.length) (cv h p F)=some (.int .i64 ((F.prog (a+k) (l.drop k)).1:Nat),cv h p (F.prog (a+k) (l.drop k)).2)
 | 0,k,F,hF,hb,hk=>by
  have e0:¬ (k<l.length):=by omega
  rw[adh];simp only[dec_lt,e0,decide_false,cT,List.drop_of_length_le (show l.length≤k by omega),Fl.prog,↓jY,jZ,j4,j5,simprocAttr,if_true,if_false,implies_true,forall_const]<;>rfl
 | m+1,k,F,hF,hb,hk=>by
  have e0:k<l.length:=by omega
  have hc:l[k]?=some l[k]:=List.getElem?_eq_getElem e0;have hi:=hv.ix .i64 k _ hc;obtain⟨t1,t2,t3,t4⟩:=hF.cD (a+k) l[k];have hl:=hF.len;have ht:=fun b=>NM (h:=h) (F:=F) hp b (i:=a+k) (c:=l[k]) (by omega) hF.di hF.left
  have ihx:=acy hp base a l hv m (k+1) t1 (by omega) (by omega);rw[adh,List.drop_eq_getElem_cons e0];simp only[Fl.prog];cases hz:(F.cD (a+k) l[k]).1 with
  | true =>
   simp (disch:=omega) only[dec_lt,e0,decide_true,hi,mJ,ht,hz,fy,ihx,↓jY,jZ,j4,j5,simprocAttr,if_true,if_false,implies_true,forall_const];rw[Nat.add_assoc]
  | false =>
   simp (disch:=omega) only[dec_lt,e0,decide_true,hi,mJ,ht,hz,cT,↓jY,jZ,j4,j5,simprocAttr,if_true,if_false,implies_true,forall_const]<;>rfl
theorem acW (hp:pI h p) (base:Nat) (a:Nat) (l:List UInt8) {v:PV} (hv:Bv v l) (hF:gO F) (hb:a+l.length≤F.b.length) :
  ai T base 71 [.ptr p.f 0,.int .i64 a,v] (cv h p F)=some (.int .i64 ((F.program a l).1:Nat),cv h p (F.program a l).2):=by
 rw[S71];have hw:=fun b=>aa2 (h:=h) (F:=F) hp b a l.length hF.len
 have Kf:=fun b=>adm (h:=h) (F:=F) hp b a l hv hb hF.len
 have hlp:=fun b=>acy (h:=h) hp b a l hv l.length 0 hF hb (by omega)
 simp only[show((0:Nat):Int)=0 from rfl,Nat.add_zero,List.drop_zero]at hlp;unfold Fl.program;cases hd:F.down with
 | true=>simp only[bS,ld5 hp,hd,cT,↓jY,jZ,j4,j5,simprocAttr,if_true,if_false,implies_true,forall_const]<;>rfl
 | false =>
  cases hz:F.clears a l with
  | false=>simp only[bS,ld5 hp,hd,hv.len,hw,hb,decide_true,Kf,hz,cT,↓jY,jZ,j4,j5,simprocAttr,if_true,if_false,implies_true,forall_const]<;>rfl
  | true=>simp only[bS,ld5 hp,hd,hv.len,hw,hb,decide_true,Kf,hz,hlp,cT,↓jY,jZ,j4,j5,simprocAttr,if_true,if_false,implies_true,forall_const]
end Go.Am.Qd
namespace Go.Am.Qd
variable {h:Hp} {p:FP} {F:Fl}
theorem AA (hp:pI h p) (base:Nat) (s:Nat):∀ (m k:Nat) {F:Fl},gO F→s*F.aj+F.aj≤F.b.length→k+m=F.aj →
  Lz base (size h) (.int .i64 k) (.ptr p.f 0) (.int .i64 s) (.int .i64 F.aj) (cv h p F)=some (.int .i64 ((F.prog (s*F.aj+k) (List.replicate m 255)).1:Nat),cv h p (F.prog (s*F.aj+k) (List.replicate m 255)).2)
 | 0,k,F,hF,hb,hk=>by
  have e0:¬ (k<F.aj):=by omega
  rw[GD];simp only[dec_lt,e0,decide_false,cT,List.replicate_zero,Fl.prog,↓jY,jZ,j4,j5,Nat.reduceAdd,Nat.reduceSub,Nat.reduceMul,Nat.reduceLeDiff,Nat.reduceLT,Nat.reduceEqDiff,Nat.reduceBEq,reduceIte,reduceCtorEq,Int.reduceBEq,Int.reduceEq,Int.reduceLT,Int.reduceLE,Int.reduceGT,Int.reduceGE,Int.reduceAdd,Int.reduceSub,Int.reduceNeg,Int.reduceBNe,ite_true,ite_false,if_true,if_false,implies_true,forall_const]<;>rfl
 | m+1,k,F,hF,hb,hk=>by
  have e0:k<F.aj:=by omega
  have hl:=hF.len;obtain⟨t1,t2,t3,t4⟩:=hF.cD (s*F.aj+k) 255;have ht:=fun b=>NM (h:=h) (F:=F) hp b (i:=s*F.aj+k) (c:=255) (by omega) hF.di hF.left
  simp only[show(((255:UInt8).toNat:Nat):Int)=255 from rfl]at ht;have ihx:=AA hp base s m (k+1) t1 (by rw[t4,t2];omega) (by rw[t4];omega);rw[t4]at ihx;rw[GD,List.replicate_succ];simp only[Fl.prog];cases hz:(F.cD (s*F.aj+k) 255).1 with
  | true =>
   simp (disch:=omega) only[dec_lt,e0,decide_true,X8 hp,DL,mJ,ht,hz,fy,ihx,↓jY,jZ,j4,j5,Nat.reduceAdd,Nat.reduceSub,Nat.reduceMul,Nat.reduceLeDiff,Nat.reduceLT,Nat.reduceEqDiff,Nat.reduceBEq,reduceIte,reduceCtorEq,Int.reduceBEq,Int.reduceEq,Int.reduceLT,Int.reduceLE,Int.reduceGT,Int.reduceGE,Int.reduceAdd,Int.reduceSub,Int.reduceNeg,Int.reduceBNe,ite_true,ite_false,if_true,if_false,implies_true,forall_const];rw[Nat.add_assoc]
  | false =>
   simp (disch:=omega) only[dec_lt,e0,decide_true,X8 hp,DL,mJ,ht,hz,cT,↓jY,jZ,j4,j5,Nat.reduceAdd,Nat.reduceSub,Nat.reduceMul,Nat.reduceLeDiff,Nat.reduceLT,Nat.reduceEqDiff,Nat.reduceBEq,reduceIte,reduceCtorEq,Int.reduceBEq,Int.reduceEq,Int.reduceLT,Int.reduceLE,Int.reduceGT,Int.reduceGE,Int.reduceAdd,Int.reduceSub,Int.reduceNeg,Int.reduceBNe,ite_true,ite_false,if_true,if_false,implies_true,forall_const]<;>rfl
theorem J3 (hp:pI h p) (base:Nat) (s:Nat) (hF:gO F) (hs:s<F.bN.length) (hb:s*F.aj+F.aj≤F.b.length) (hs2:s≤1000000) (Yg:F.bN.length≤1000000) :
  ai T base 88 [.ptr p.f 0,.int .i64 s] (cv h p F)=some (.int .i64 ((F.erase s).1:Nat),cv h p (F.erase s).2):=by
 rw[S88];unfold Fl.erase;cases hd:F.down with
 | true=>simp only[bS,ld5 hp,hd,cT,↓jY,jZ,j4,j5,Nat.reduceAdd,Nat.reduceSub,Nat.reduceMul,Nat.reduceLeDiff,Nat.reduceLT,Nat.reduceEqDiff,Nat.reduceBEq,reduceIte,reduceCtorEq,Int.reduceBEq,Int.reduceEq,Int.reduceLT,Int.reduceLE,Int.reduceGT,Int.reduceGE,Int.reduceAdd,Int.reduceSub,Int.reduceNeg,Int.reduceBNe,ite_true,ite_false,if_true,if_false,implies_true,forall_const];rfl
 | false =>
  have hg:F.bN[s]?=some F.bN[s]:=List.getElem?_eq_getElem hs;have hgd:F.bN.getD s 0=F.bN[s]:=by rw[List.getD_eq_getElem?_getD,hg];rfl
  have hwb:=hF.bN _ (List.mem_of_getElem? hg);have hm:(if((1073741824:Int)<((F.bN[s]+1:Nat):Int)) then(1073741824:Int) else((F.bN[s]+1:Nat):Int))=((min (F.bN[s]+1) 1073741824:Nat):Int):=by split<;>omega
  have HI:gO { F with bN:=F.bN.set s (min (F.bN[s]+1) 1073741824) }:=⟨hF.di,hF.left,hF.len,fun n hn=>by
   rcases List.mem_or_eq_of_mem_set hn with h1 | rfl
   ·exact hF.bN n h1
   ·exact Nat.min_le_right _ _⟩
  have hlp:=fun b=>AA (h:=h) hp b s F.aj 0 HI (by exact hb) (Nat.zero_add _)
  simp only[show((0:Nat):Int)=0 from rfl,Nat.add_zero,hd]at hlp;have hns:¬ (s≥F.bN.length):=by omega
  rw[hgd];simp (disch:=omega) only[bS,ld5 hp,ld2 hp,X8 hp,hd,Tj,DM,hns,decide_false,hs,iN,ldw hp hg,fy,kN,hm,stw hp,hlp,↓jY,jZ,j4,j5,Nat.reduceAdd,Nat.reduceSub,Nat.reduceMul,Nat.reduceLeDiff,Nat.reduceLT,Nat.reduceEqDiff,Nat.reduceBEq,reduceIte,reduceCtorEq,Int.reduceBEq,Int.reduceEq,Int.reduceLT,Int.reduceLE,Int.reduceGT,Int.reduceGE,Int.reduceAdd,Int.reduceSub,Int.reduceNeg,Int.reduceBNe,ite_true,ite_false,if_true,if_false,implies_true,forall_const]
def BI (l:List UInt8):PV:=if l=[] then .sl .full 1 [] else .sl .no 1 (aP l)
theorem J4 (l:List UInt8):Bv (BI l) l:=by
 unfold BI;split
 ·rename_i hq;subst hq;exact pL (.inr rfl) []
 ·exact pL (.inl rfl) l
theorem TH (l:List UInt8):jk 1 (BI l)=some false:=by unfold BI;split<;>rfl
theorem lN (l:List UInt8):(aP l).all scalar=true:=by induction l<;>simp_all [aP,scalar]
theorem TI (l:List UInt8):(aP l).all (fun x=>x.cells.length == 1)=true:=by induction l<;>simp_all [aP,PV.cells]
theorem tT (l:List UInt8) (n:Nat):belows n (aP l)=true:=by
 induction l with
 | nil=>rfl
 | cons c l ih=>simp only[aP,List.map_cons,belows,Bool.and_eq_true]at *;exact⟨rfl,ih⟩
theorem nQ (l:List UInt8):aO (aP l)=aP l:=by
 induction l with
 | nil=>rfl
 | cons c l ih=>simp only[aP,List.map_cons,aO]at *;rw[ih];rfl
theorem qo {l:List UInt8}:aP l=[]↔l=[]:=by cases l<;>simp[aP]
theorem AB (base:Nat) {v:PV} {l:List UInt8} (hn:jk 1 v=some false) (he:elems h v=some (aP l)) (hl:l.length≤1000000) :
  ai T base 73 [v] h=some (if l=[] then(.sl .full 1 [],h) else(.bX false (size h) 0 l.length 1,ext h [.cells (aP l)])):=by
 rw[S73];have ha:sF 1 (.sl .full 1 []) v h=some (if l=[] then(.sl .full 1 [],h) else(.bX false (size h) 0 l.length 1,ext h [.cells (aP l)])):=by
  unfold sF;rw[he,Option.ag];simp only[tu,Option.ag]
  by_cases h0:l=[]
  ·rw[if_pos (qo.2 h0),if_pos h0]
  ·simp only[qo,h0,if_false,TI,lN,List.all_nil,List.length_nil,Nat.zero_add,aM,List.nil_append,and_true,true_and,gA]
   rw[if_pos (by omega)]
 by_cases h0:l=[]
 ·rw[if_pos h0]at ha ⊢
  simp only[qm,hn,ha,↓jY,jZ,j4,j5,Nat.reduceAdd,Nat.reduceSub,Nat.reduceMul,Nat.reduceLeDiff,Nat.reduceLT,Nat.reduceEqDiff,Nat.reduceBEq,reduceIte,reduceCtorEq,Int.reduceBEq,Int.reduceEq,Int.reduceLT,Int.reduceLE,Int.reduceGT,Int.reduceGE,Int.reduceAdd,Int.reduceSub,Int.reduceNeg,Int.reduceBNe,ite_true,ite_false,if_true,if_false,implies_true,forall_const]
 ·rw[if_neg h0]at ha ⊢
  simp only[qm,hn,ha,tT,↓jY,jZ,j4,j5,Nat.reduceAdd,Nat.reduceSub,Nat.reduceMul,Nat.reduceLeDiff,Nat.reduceLT,Nat.reduceEqDiff,Nat.reduceBEq,reduceIte,reduceCtorEq,Int.reduceBEq,Int.reduceEq,Int.reduceLT,Int.reduceLE,Int.reduceGT,Int.reduceGE,Int.reduceAdd,Int.reduceSub,Int.reduceNeg,Int.reduceBNe,ite_true,ite_false,if_true,if_false,implies_true,forall_const]
theorem J5 (base:Nat):ai T base 73 [.bg] h=some (.bg,h):=by
 rw[S73];simp only[qm,↓jY,jZ,j4,j5,Nat.reduceAdd,Nat.reduceSub,Nat.reduceMul,Nat.reduceLeDiff,Nat.reduceLT,Nat.reduceEqDiff,Nat.reduceBEq,reduceIte,reduceCtorEq,Int.reduceBEq,Int.reduceEq,Int.reduceLT,Int.reduceLE,Int.reduceGT,Int.reduceGE,Int.reduceAdd,Int.reduceSub,Int.reduceNeg,Int.reduceBNe,ite_true,ite_false,if_true,if_false,implies_true,forall_const]
theorem LB (k:Nat) (l:List UInt8) (hk:size h≤k) {g:Hp} (hg:ay g k=some (aP l)):gY (size h) g (.bX false k 0 l.length 1)=some (.sl .no 1 (aP l)):=by
 have ht:(aP l).take l.length=aP l:=by rw[←aM l,List.take_length]
 simp only[xV,if_neg (show ¬ k<size h by omega),hg,Option.ag,List.drop_zero,lZ,Bool.false_eq_true,if_false,ht];rw[if_pos ⟨by rw[aM];exact Nat.le_refl _,lN l⟩,Option.ag,nQ]
theorem adn (base:Nat) {v:PV} {l:List UInt8} (hn:jk 1 v=some false) (he:elems h v=some (aP l)) (hl:l.length≤1000000):gv (ai T base) 73 [v] h=some (BI l,h):=by
 rw[DG,AB base hn he hl,Option.ag];unfold BI
 by_cases h0:l=[]
 ·rw[if_pos h0,if_pos h0,iT]
 ·rw[if_neg h0,if_neg h0]
  unfold forget;have hne:(ext h [gW.cells (aP l)])≠h:=by
   intro hq;have:=congrArg size hq;rw[aW]at this;simp at this
  rw[if_neg hne];simp only;rw[LB (h:=h) (size h) l (Nat.le_refl _) (by rw[aQ];rfl),Option.ag,if_pos ⟨by simp[below,Own.below,tT],by rw[aW];omega,cI⟩]
theorem aeA (hp:pI h p) (f:Bool) (a n:Nat) (hb:a+n≤F.b.length):elems (cv h p F) (.bX f p.bb a n 1)=some (aP ((F.b.drop a).take n)):=by
 rw[mV,ZI hp,Option.ag];have:((aP F.b).drop a).take n=aP ((F.b.drop a).take n):=by simp[aP]
 rw[this,if_pos ⟨by rw[aM];exact hb,lN _⟩]
theorem aea (hp:pI h p) (base:Nat) (a n:Nat) (hF:gO F) (hb:a+n≤F.b.length) :
  ai T base 108 [.ptr p.f 0,.int .i64 a,.int .i64 n] (cv h p F)=some (if F.down then .cF [.bg,.int .i64 30] else .cF [BI ((F.b.drop a).take n),.int .i64 0],cv h p F):=by
 rw[asY];cases hd:F.down with
 | true=>simp only[bS,ld5 hp,hd,cT,↓jY,jZ,j4,j5,Nat.reduceAdd,Nat.reduceSub,Nat.reduceMul,Nat.reduceLeDiff,Nat.reduceLT,Nat.reduceEqDiff,Nat.reduceBEq,reduceIte,reduceCtorEq,Int.reduceBEq,Int.reduceEq,Int.reduceLT,Int.reduceLE,Int.reduceGT,Int.reduceGE,Int.reduceAdd,Int.reduceSub,Int.reduceNeg,Int.reduceBNe,ite_true,ite_false,if_true,if_false,implies_true,forall_const]
 | false =>
  have hw:=fun b=>aa2 (h:=h) (F:=F) hp b a n hF.len
  have hl:=hF.len;have ami:YS F.b.length (.int .i64 ((a+n:Nat):Int))=some (a+n):=fV _ _ _ hb;have amj:YS (a+n) (.int .i64 (a:Int))=some a:=fV _ _ _ (by omega)
  by_cases h0:n=0
  ·subst h0
   have Kf:=fun b=>AB (h:=cv h p F) b (v:=.sl .no 1 []) (l:=[]) rfl rfl (by simp)
   simp only[if_true]at Kf;have hz:a-a=0:=by omega
   simp only[Nat.add_zero]at hb ami amj hw;have hw0:IntKind.i64.wrap ((a:Int)+((0:Nat):Int))=a:=by rw[mJ _ _ (by omega)];simp
   simp (disch:=omega) only[hw0,bS,ld5 hp,ld0 hp,hd,hw,hb,decide_true,mJ,ry,gK,ami,amj,hz,Kf,BI,List.take_zero,cT,↓jY,jZ,j4,j5,Nat.reduceAdd,Nat.reduceSub,Nat.reduceMul,Nat.reduceLeDiff,Nat.reduceLT,Nat.reduceEqDiff,Nat.reduceBEq,reduceIte,reduceCtorEq,Int.reduceBEq,Int.reduceEq,Int.reduceLT,Int.reduceLE,Int.reduceGT,Int.reduceGE,Int.reduceAdd,Int.reduceSub,Int.reduceNeg,Int.reduceBNe,ite_true,ite_false,if_true,if_false,implies_true,forall_const]
   first | rfl | skip
  ·have hne:¬ ((F.b.drop a).take n=[]):=by
    intro hq;have:=congrArg List.length hq;simp at this;omega
   have hln:((F.b.drop a).take n).length=n:=by simp;omega
   have hz:a+n-a=n:=by omega
   have Kf:=fun(b:Nat) (f:Bool)=>AB (h:=cv h p F) b (v:=.bX f p.bb a n 1) rfl (aeA hp f a n hb) (by omega)
   simp only[if_neg hne,hln]at Kf;have hfz:=LB (h:=cv h p F) (size (cv h p F)) ((F.b.drop a).take n) (Nat.le_refl _) (g:=ext (cv h p F) [.cells (aP ((F.b.drop a).take n))]) (by rw[aQ];rfl);rw[bS,hln]at hfz;have hcv:BI ((F.b.drop a).take n)=.sl .no 1 (aP ((F.b.drop a).take n)):=by unfold BI;rw[if_neg hne]
   have htr:bJ (ext (cv h p F) [.cells (aP ((F.b.drop a).take n))]) (size h)=cv h p F:=by
    have:=cI (h:=cv h p F) (l:=[.cells (aP ((F.b.drop a).take n))]);rwa [bS]at this
   rw[hcv];simp (disch:=omega) only[bS,ld5 hp,ld0 hp,hd,hw,hb,decide_true,mJ,ry,gK,ami,amj,hz,h0,Nat.zero_add,Nat.mul_one,Kf,hfz,tT,htr,↓jY,jZ,j4,j5,Nat.reduceAdd,Nat.reduceSub,Nat.reduceMul,Nat.reduceLeDiff,Nat.reduceLT,Nat.reduceEqDiff,Nat.reduceBEq,reduceIte,reduceCtorEq,Int.reduceBEq,Int.reduceEq,Int.reduceLT,Int.reduceLE,Int.reduceGT,Int.reduceGE,Int.reduceAdd,Int.reduceSub,Int.reduceNeg,Int.reduceBNe,ite_true,ite_false,if_true,if_false,implies_true,forall_const]
end Go.Am.Qd
namespace Go.Am.Qd
variable {h:Hp} {p:FP} {F:Fl}
theorem pM:∀ (l t:List UInt8) (k:Nat),k+l.length≤t.length→bE (aP t) k (aP l)=aP (t.take k++l++t.drop (k+l.length))
 | [],t,k,hk=>by simp[aP,bE]
 | c::l,t,k,hk=>by
  simp only[List.length_cons]at hk;have e1:(aP t).set k (.int .u8 c.toNat)=aP (t.set k c):=ya t k c;have e2:aP (c::l)=.int .u8 c.toNat::aP l:=rfl;rw[e2,bE,e1,pM l (t.set k c) (k+1) (by simp;omega)];congr 1;rw[List.drop_set_of_lt (by omega)];have:(t.set k c).take (k+1)=t.take k++[c]:=by
   rw[List.take_set,List.take_succ_eq_append_getElem (by omega),List.set_append];simp[Nat.min_eq_left (show k≤t.length by omega)]
  rw[this];simp[Nat.add_assoc,Nat.add_comm,Nat.add_left_comm]
def _root_.Go.Am.Fl.load (F:Fl) (l:List UInt8):Fl:={ F with b:=l.take F.b.length++F.b.drop (min l.length F.b.length),left:=-1,down:=false }
structure gL (h:Hp) (p:FP) (q:Nat) (first count:Nat):Prop where
 get:ay h q=some [.ptr p.f 0,.int .i64 first,.int .i64 count]
 n1:q≠p.f
 n2:q≠p.bb
 n3:q≠p.wb
section
variable {q first count:Nat} (hp:pI h p) (hq:gL h p q first count)
include hp hq
theorem QZ:ay (cv h p F) q=some [.ptr p.f 0,.int .i64 first,.int .i64 count]:=by rw[iU hp hq.n1 hq.n2 hq.n3];exact hq.get
theorem GI (base:Nat):ai T base 87 [.ptr q 0] (cv h p F)=some (.ptr p.f 0,cv h p F):=by
 rw[S87];simp only[bS,QZ hp hq,hp.lf,decide_true,cT,↓jY,jZ,j4,j5,simprocAttr,if_true,if_false,implies_true,forall_const]
theorem J6 (base:Nat) (hb:count*F.aj≤1000000):ai T base 54 [.ptr q 0] (cv h p F)=some (.int .i64 (count*F.aj:Nat),cv h p F):=by
 rw[S54];have hs:=fun(b:Nat)=>vn (h:=h) (F:=F) hp b
 simp (disch:=omega) only[bS,QZ hp hq,DG,hs,Option.ag,iT,Lh,DL,cT,↓jY,jZ,j4,j5,simprocAttr,if_true,if_false,implies_true,forall_const]
theorem abE (base:Nat) (hb:first*F.aj≤1000000):ai T base 72 [.ptr q 0] (cv h p F)=some (.int .i64 (first*F.aj:Nat),cv h p F):=by
 rw[S72];have hs:=fun(b:Nat)=>vn (h:=h) (F:=F) hp b
 simp (disch:=omega) only[bS,QZ hp hq,DG,hs,Option.ag,iT,Lh,DL,cT,↓jY,jZ,j4,j5,simprocAttr,if_true,if_false,implies_true,forall_const]
theorem acY (base:Nat) (a n:Nat) (hb:count*F.aj≤1000000) :
  ai T base 104 [.ptr q 0,.int .i64 a,.int .i64 n] (cv h p F)=some (.bool (decide (a+n≤count*F.aj)),cv h p F):=by
 rw[asV];have hs:=fun(b:Nat)=>J6 (F:=F) hp hq b hb
 by_cases h1:a≤count*F.aj
 ·by_cases h2:n≤count*F.aj-a
  ·have e3:a+n≤count*F.aj:=by omega
   simp (disch:=omega) only[bS,aaD,Qm,h1,h2,e3,hs,decide_true,aaN,cT,↓jY,jZ,j4,j5,simprocAttr,if_true,if_false,implies_true,forall_const]
  ·have e3:¬ (a+n≤count*F.aj):=by omega
   simp (disch:=omega) only[bS,aaD,Qm,h1,h2,e3,hs,decide_true,decide_false,aaN,cT,↓jY,jZ,j4,j5,simprocAttr,if_true,if_false,implies_true,forall_const]
 ·have e3:¬ (a+n≤count*F.aj):=by omega
  simp (disch:=omega) only[bS,aaD,Qm,h1,e3,hs,decide_true,decide_false,aaN,cT,↓jY,jZ,j4,j5,simprocAttr,if_true,if_false,implies_true,forall_const]
theorem abd (base:Nat) (a n:Nat) (hb:count*F.aj≤1000000) :
  ai T base 70 [.ptr q 0,.int .i64 a,.int .i64 n] (cv h p F)=some (.int .i64 (if F.down then 30 else if a+n≤count*F.aj then 0 else 1:Nat),cv h p F):=by
 rw[S70];have hs:=fun(b:Nat)=>acY (F:=F) hp hq b a n hb
 have hd:=fun(b:Nat)=>NK (h:=h) (F:=F) hp b
 cases hdn:F.down with
 | true=>simp only[bS,QZ hp hq,hd,hdn,cT,↓jY,jZ,j4,j5,simprocAttr,if_true,if_false,implies_true,forall_const]<;>rfl
 | false =>
  by_cases h1:a+n≤count*F.aj
  ·simp only[bS,QZ hp hq,hd,hdn,hs,h1,decide_true,cT,↓jY,jZ,j4,j5,simprocAttr,if_true,if_false,implies_true,forall_const]<;>rfl
  ·simp only[bS,QZ hp hq,hd,hdn,hs,h1,decide_false,cT,↓jY,jZ,j4,j5,simprocAttr,if_true,if_false,implies_true,forall_const]<;>rfl
theorem abW (base:Nat) (a n:Nat) (hF:gO F) (hin:a+n≤count*F.aj) (hb:(first+count)*F.aj≤F.b.length) :
  ai T base 79 [.ptr q 0,.int .i64 a,.int .i64 n] (cv h p F)=some (if F.down then .cF [.bg,.int .i64 30] else .cF [BI ((F.b.drop (first*F.aj+a)).take n),.int .i64 0],cv h p F):=by
 rw[S79];have hl:=hF.len;rw[Nat.add_mul]at hb;have hf:=fun(b:Nat)=>abd (F:=F) hp hq b a n (by omega)
 have hbs:=fun(b:Nat)=>abE (F:=F) hp hq b (by omega)
 have hr:=fun(b:Nat)=>aea (h:=h) (F:=F) hp b (first*F.aj+a) n hF (by omega)
 have hcb:=(J4 ((F.b.drop (first*F.aj+a)).take n)).below (size h);have M8:=(J4 ((F.b.drop (first*F.aj+a)).take n)).gY;cases hdn:F.down with
 | true =>
  rw[hdn]at hf;simp only[if_true,show((30:Nat):Int)=30 from rfl]at hf;simp only[bS,hf,cT,↓jY,jZ,j4,j5,simprocAttr,if_true,if_false,implies_true,forall_const]
 | false =>
  rw[hdn]at hf hr;simp only[Bool.false_eq_true,if_false,if_pos hin,show((0:Nat):Int)=0 from rfl]at hf hr;simp (disch:=omega) only[bS,hf,QZ hp hq,DG,hbs,Option.ag,iT,Lh,mJ,hr,hcb,M8,cT,↓jY,jZ,j4,j5,simprocAttr,if_true,if_false,implies_true,forall_const]
theorem aaE (base:Nat) (a:Nat) (l:List UInt8) {v:PV} (hv:Bv v l) (hF:gO F) (hin:a+l.length≤count*F.aj) (hb:(first+count)*F.aj≤F.b.length) :
  ai T base 28 [.ptr q 0,.int .i64 a,v] (cv h p F)=some (.int .i64 ((F.program (first*F.aj+a) l).1:Nat),cv h p (F.program (first*F.aj+a) l).2):=by
 rw[S28];have hl:=hF.len;rw[Nat.add_mul]at hb;have hf:=fun(b:Nat)=>abd (F:=F) hp hq b a l.length (by omega)
 have hbs:=fun(b:Nat)=>abE (F:=F) hp hq b (by omega)
 have hr:=fun(b:Nat)=>acW (h:=h) (F:=F) hp b (first*F.aj+a) l hv hF (by omega)
 cases hdn:F.down with
 | true =>
  rw[hdn]at hf;simp only[if_true,show((30:Nat):Int)=30 from rfl]at hf;have hpr:F.program (first*F.aj+a) l=(30,F):=by unfold Fl.program;rw[if_pos hdn]
  rw[hpr];simp only[bS,hv.len,hf,cT,↓jY,jZ,j4,j5,simprocAttr,if_true,if_false,implies_true,forall_const]<;>rfl
 | false =>
  rw[hdn]at hf;simp only[Bool.false_eq_true,if_false,if_pos hin,show((0:Nat):Int)=0 from rfl]at hf;simp (disch:=omega) only[bS,hv.len,hf,QZ hp hq,DG,hbs,Option.ag,iT,Lh,mJ,hr,cT,↓jY,jZ,j4,j5,simprocAttr,if_true,if_false,implies_true,forall_const]
end
def _root_.Go.Am.Fl.clear (F:Fl) (s:Nat):Nat→Nat × Fl
 | 0=>(0,F)
 | n+1=>if(F.erase s).1=0 then(F.erase s).2.clear (s+1) n else F.erase s
theorem gO.erase (hF:gO F) (s:Nat) (hs:s<F.bN.length):gO (F.erase s).2∧(F.erase s).2.b.length=F.b.length∧(F.erase s).2.bN.length=F.bN.length∧(F.erase s).2.aj=F.aj:=by
 unfold Fl.erase;split
 ·exact⟨hF,rfl,rfl,rfl⟩
 ·have HI:gO { F with bN:=F.bN.set s (min (F.bN.getD s 0+1) 1073741824) }:=⟨hF.di,hF.left,hF.len,fun n hn=>by
   rcases List.mem_or_eq_of_mem_set hn with h1 | rfl
   ·exact hF.bN n h1
   ·exact Nat.min_le_right _ _⟩
  obtain⟨h1,h2,h3,h4⟩:=gO.prog (List.replicate F.aj 255) HI (s*F.aj);exact⟨h1,h2,by rw[h3];simp,h4⟩
theorem AD (hp:pI h p) {q first count:Nat} (hq:gL h p q first count) (base:Nat):∀ (m k:Nat) {F:Fl},gO F→(first+count)*F.aj≤F.b.length→first+count≤F.bN.length→F.bN.length≤1000000→k+m=count →
  Lu base (size h) (.int .i64 k) (.ptr q 0) (.int .i64 count) (cv h p F)=some (.int .i64 ((F.clear (first+k) m).1:Nat),cv h p (F.clear (first+k) m).2)
 | 0,k,F,hF,hb,hw,Yg,hk=>by
  have e0:¬ (k<count):=by omega
  rw[GA];simp only[dec_lt,e0,decide_false,cT,Fl.clear,↓jY,jZ,j4,j5,simprocAttr,if_true,if_false,implies_true,forall_const]<;>rfl
 | m+1,k,F,hF,hb,hw,Yg,hk=>by
  have e0:k<count:=by omega
  obtain⟨t1,t2,t3,t4⟩:=hF.erase (first+k) (by omega);have aqE:(first+k)*F.aj+F.aj≤(first+count)*F.aj:=by
   have:=Nat.mul_le_mul_right F.aj (show first+k+1≤first+count by omega);rwa [Nat.succ_mul]at this
  have ht:=fun b=>J3 (h:=h) (F:=F) hp b (first+k) hF (by omega) (by omega) (by omega) Yg
  have ihx:=AD hp hq base m (k+1) t1 (by rw[t4,t2];exact hb) (by rw[t3];exact hw) (by rw[t3];exact Yg) (by omega);rw[GA];simp only[Fl.clear]
  by_cases hz:(F.erase (first+k)).1=0
  ·rw[if_pos hz]
   have Uu:(((F.erase (first+k)).1:Int) != 0)=false:=by rw[hz];rfl
   simp (disch:=omega) only[dec_lt,e0,decide_true,QZ hp hq,mJ,ht,Uu,fy,ihx,↓jY,jZ,j4,j5,simprocAttr,if_true,if_false,implies_true,forall_const];rw[Nat.add_assoc]
  ·rw[if_neg hz]
   have Uu:(((F.erase (first+k)).1:Int) != 0)=true:=by simpa using hz
   simp (disch:=omega) only[dec_lt,e0,decide_true,QZ hp hq,mJ,ht,Uu,cT,↓jY,jZ,j4,j5,simprocAttr,if_true,if_false,implies_true,forall_const]
theorem GJ (hp:pI h p) {q first count:Nat} (hq:gL h p q first count) (base:Nat) (hF:gO F) (hb:(first+count)*F.aj≤F.b.length) (hw:first+count≤F.bN.length) (Yg:F.bN.length≤1000000) :
  ai T base 55 [.ptr q 0] (cv h p F)=some (.int .i64 ((F.clear first count).1:Nat),cv h p (F.clear first count).2):=by
 rw[S55];have hl:=fun b=>AD hp hq b count 0 hF hb hw Yg (by omega)
 simp only[show((0:Nat):Int)=0 from rfl,Nat.add_zero]at hl;simp only[bS,QZ hp hq,hl,↓jY,jZ,j4,j5,simprocAttr,if_true,if_false,implies_true,forall_const]
end Go.Am.Qd
namespace Go.Am.Qd
variable {h:Hp}
def uV (a:BitVec 32):PV:=.int .u32 (a.toNat:Int)
theorem J7 (a:BitVec 32):BitVec.ofInt 32 (a.toNat:Int)=a:=by apply BitVec.eq_of_toNat_eq;simp
theorem TK (a:BitVec 32):IntKind.u32.wrap (a.toNat:Int)=(a.toNat:Int):=by
 have:=a.isLt;simp[IntKind.wrap,IntKind.signed,IntKind.bits];omega
theorem wr8 (m:Nat):IntKind.u8.wrap (m:Int)=((UInt8.ofNat m).toNat:Int):=by
 simp[IntKind.wrap,IntKind.signed,IntKind.bits]
theorem vo (a b:BitVec 32):binOp .xor (uV a) (uV b)=some (uV (a ^^^ b)):=by
 show some (PV.int .u32 (IntKind.u32.wrap ((BitVec.ofInt 32 (a.toNat:Int) ^^^ BitVec.ofInt 32 (b.toNat:Int)).toNat:Int)))=_;rw[J7,J7,TK];rfl
theorem LC (a b:BitVec 32):binOp .and (uV a) (uV b)=some (uV (a &&& b)):=by
 show some (PV.int .u32 (IntKind.u32.wrap ((BitVec.ofInt 32 (a.toNat:Int) &&& BitVec.ofInt 32 (b.toNat:Int)).toNat:Int)))=_;rw[J7,J7,TK];rfl
theorem TL (a b:BitVec 32):binOp .or (uV a) (uV b)=some (uV (a ||| b)):=by
 show some (PV.int .u32 (IntKind.u32.wrap ((BitVec.ofInt 32 (a.toNat:Int) ||| BitVec.ofInt 32 (b.toNat:Int)).toNat:Int)))=_;rw[J7,J7,TK];rfl
theorem LD (a:BitVec 32):unOp .xor (uV a)=some (uV (~~~ a)):=by
 show some (PV.int .u32 (IntKind.u32.wrap ((BitVec.ofInt 32 IntKind.u32.max ^^^ BitVec.ofInt 32 (a.toNat:Int)).toNat:Int)))=_;rw[J7,TK];congr 2
theorem vp (k:IntKind) (a:BitVec 32) (n:Nat) (hn:n≤32):binOp .shr (uV a) (.int k (n:Int))=some (uV (a >>> n)):=by
 show(if((n:Nat):Int)<0 then none else some (PV.int .u32 ((a.toNat:Int).fdiv (2 ^ (min ((n:Int)).toNat 32)))))=_;rw[if_neg (by omega)];have:min ((n:Int)).toNat 32=n:=by simp;omega
 rw[this];show some (PV.int .u32 _)=some (PV.int .u32 _);congr 2;rw[BitVec.toNat_ushiftRight,Nat.shiftRight_eq_div_pow];rw[Int.fdiv_eq_ediv_of_nonneg _ (Int.pow_nonneg (by decide))];simp
theorem LF (k:IntKind) (a:BitVec 32) (n:Nat) (hn:n≤32):binOp .shl (uV a) (.int k (n:Int))=some (uV (a <<< n)):=by
 show(if((n:Nat):Int)<0 then none else some (PV.int .u32 (IntKind.u32.wrap ((a.toNat:Int)*(2 ^ (min ((n:Int)).toNat 32))))))=_;rw[if_neg (by omega)];have:min ((n:Int)).toNat 32=n:=by simp;omega
 rw[this];show some (PV.int .u32 _)=some (PV.int .u32 _);congr 2;rw[BitVec.toNat_shiftLeft,Nat.shiftLeft_eq];simp[IntKind.wrap,IntKind.signed,IntKind.bits]
theorem aaM (a b:BitVec 32):binOp .eql (uV a) (uV b)=some (.bool (a == b)):=by
 show some (PV.bool ((a.toNat:Int) == (b.toNat:Int)))=_;congr 2;rw[Bool.eq_iff_iff,beq_iff_eq,beq_iff_eq,Int.natCast_inj,BitVec.toNat_inj]
theorem LG (a b:BitVec 32):binOp .neq (uV a) (uV b)=some (.bool (a != b)):=by
 show some (PV.bool ((a.toNat:Int) != (b.toNat:Int)))=_;congr 2;rw[bne,bne];congr 1;rw[Bool.eq_iff_iff,beq_iff_eq,beq_iff_eq,Int.natCast_inj,BitVec.toNat_inj]
theorem Q0 (c:UInt8):ct (.int .u8 (c.toNat:Int)) .u32=some (uV (c.toBitVec.setWidth 32)):=by
 show some (PV.int .u32 (IntKind.u32.wrap (c.toNat:Int)))=_;congr 2;have:=c.toNat_lt;simp[IntKind.wrap,IntKind.signed,IntKind.bits];omega
theorem to8 (a:BitVec 32):ct (uV a) .u8=some (.int .u8 ((UInt8.ofNat a.toNat).toNat:Int)):=by
 show some (PV.int .u8 (IntKind.u8.wrap (a.toNat:Int)))=_;rw[wr8]
/-! ### The sum -/
def round (x:BitVec 32):BitVec 32:=if(x &&& 1#32) == 1#32 then(x >>> 1) ^^^ 3988292384#32 else x >>> 1
def rounds:Nat→BitVec 32→BitVec 32
 | 0,x=>x
 | n+1,x=>rounds n (round x)
def AE (r:BitVec 32) (c:UInt8):BitVec 32:=rounds 8 (r ^^^ c.toBitVec.setWidth 32)
def Xp (s:BitVec 32) (l:List UInt8):BitVec 32 := ~~~ (l.foldl AE (~~~ s))
def mK (l:List UInt8):BitVec 32:=Xp 0#32 l
theorem AF (n0:Nat) (a:BitVec 32):bk false false n0 [uV a] h=some (uV a,bJ h n0):=rfl
theorem step_loop (base:Nat):∀ (m k:Nat) (r:BitVec 32),k+m=8→Az base (size h) (.int .i64 k) (uV r) h=some (uV (rounds m r),h)
 | 0,k,r,hk=>by
  have e0:¬ (k<8):=by omega
  have hd:decide ((k:Int)<8)=false:=by simp;omega
  rw[Ct];simp only[hd,AF,bL,rounds,↓jY,jZ,j4,j5,simprocAttr,if_true,if_false,implies_true,forall_const]<;>rfl
 | m+1,k,r,hk=>by
  have hd:decide ((k:Int)<8)=true:=by simp;omega
  have ih:=fun r=>step_loop base m (k+1) r (by omega)
  have h1:binOp .and (uV r) (.int .u32 1)=some (uV (r &&& 1#32)):=LC r 1#32;have h2:binOp .shr (uV r) (.int .u64 1)=some (uV (r >>> 1)):=vp .u64 r 1 (by decide);have h3:binOp .eql (uV (r &&& 1#32)) (.int .u32 1)=some (.bool ((r &&& 1#32) == 1#32)):=aaM _ 1#32;have h4:binOp .xor (uV (r >>> 1)) (.int .u32 3988292384)=some (uV ((r >>> 1) ^^^ 3988292384#32)):=vo _ 3988292384#32;rw[Ct];simp only[rounds,round];cases hq:((r &&& 1#32) == 1#32) with
  | true =>
   rw[hq]at h3;simp (disch:=omega) only[hd,h1,h2,h3,h4,fy,ih,if_true,↓jY,jZ,j4,j5,simprocAttr,if_true,if_false,implies_true,forall_const]
  | false =>
   rw[hq]at h3;simp (disch:=omega) only[hd,h1,h2,h3,h4,fy,ih,if_false,Bool.false_eq_true,↓jY,jZ,j4,j5,simprocAttr,if_true,if_false,implies_true,forall_const]
theorem NO (base:Nat) (r:BitVec 32) (c:UInt8):ai T base 144 [uV r,.int .u8 (c.toNat:Int)] h=some (uV (AE r c),h):=by
 have hl:=step_loop (h:=h) (size h) 8 0 (r ^^^ c.toBitVec.setWidth 32) rfl;simp only[show((0:Nat):Int)=0 from rfl]at hl;rw[alw];simp only[Q0,vo,hl,Option.ag,AE]
structure Rd (h:Hp) (v:PV) (l:List UInt8):Prop where
 len:cB false v=some (.int .i64 l.length)
 rd:∀ (k:IntKind) (i:Nat) (c:UInt8),l[i]?=some c→∃ a,cW v (.int k i) 1=some a∧ax 1 false a h=some (.int .u8 c.toNat)
 el:elems h v=some (aP l)
 nn:jk 1 v=some false∨v=.bg
theorem Bv.rd {v:PV} {l:List UInt8} (hv:Bv v l) (hn:jk 1 v=some false∨v=.bg):Rd h v l :=
 ⟨hv.len,fun k i c hc=>⟨_,hv.ix k i c hc,rfl⟩,hv.el h,hn⟩
theorem vq (base:Nat) {v:PV} {l:List UInt8} (hv:Rd h v l) (hl:l.length≤1000000):∀ (m k:Nat) (r:BitVec 32),k+m=l.length →
  DR base (size h) (.int .i64 k) (uV r) v (.int .i64 l.length) h=some (uV (~~~ ((l.drop k).foldl AE r)),h)
 | 0,k,r,hk=>by
  have e0:¬ (k<l.length):=by omega
  rw[Cs];simp only[dec_lt,e0,decide_false,LD,AF,bL,↓jY,jZ,j4,j5,simprocAttr,if_true,if_false,implies_true,forall_const];rw[List.drop_of_length_le (by omega)];rfl
 | m+1,k,r,hk=>by
  have e0:k<l.length:=by omega
  obtain⟨a,a1,a2⟩:=hv.rd .i64 k l[k] (List.getElem?_eq_getElem e0);have ih:=fun r=>vq base hv hl m (k+1) r (by omega)
  rw[Cs];simp (disch:=omega) only[dec_lt,e0,decide_true,a1,a2,NO,fy,ih,↓jY,jZ,j4,j5,simprocAttr,if_true,if_false,implies_true,forall_const];rw[List.drop_eq_getElem_cons e0];rfl
theorem GL (base:Nat) (s:BitVec 32) {v:PV} {l:List UInt8} (hv:Rd h v l) (hl:l.length≤1000000):ai T base 130 [uV s,v] h=some (uV (Xp s l),h):=by
 have hq:=vq (size h) hv hl l.length 0 (~~~ s) (by omega);simp only[show((0:Nat):Int)=0 from rfl,List.drop_zero]at hq;rw[als];simp only[LD,hv.len,hq,Option.ag,Xp]
theorem Q1 (base:Nat) {v:PV} {l:List UInt8} (hv:Rd h v l) (hl:l.length≤1000000):ai T base 113 [v] h=some (uV (mK l),h):=by
 have:=fun b=>GL b 0#32 hv hl
 have h0:uV 0#32=.int .u32 0:=rfl;rw[h0]at this;rw[aln];simp only[this,AF,bL,↓jY,jZ,j4,j5,simprocAttr,if_true,if_false,implies_true,forall_const]<;>rfl
/-! ### DK as bytes -/
def dK (n:BitVec 32) (i:Nat):UInt8:=UInt8.ofNat (n >>> (8*i)).toNat
def br (n:BitVec 32):List UInt8:=[dK n 0,dK n 1,dK n 2,dK n 3]
theorem aaU {h:Hp} (base:Nat) (n:BitVec 32):∀ (m k:Nat) {H:Hp} {v:PV} {l:List UInt8},GK h H v (aP l)→l.length+m≤900000→k+m=4→(k=4→l≠[]) →
  acP base (size h) (.int .i64 k) (uV n) v H=some (.sl .no 1 (aP (l++(List.range' k m).map (dK n))),h)
 | 0,k,H,v,l,hg,hl,hk,hne=>by
  have hd:decide ((k:Int)<4)=false:=by simp;omega
  rw[acv];have:=hg.fin (nQ l) (fun hq=>hne (by omega) (qo.1 hq));simp only[hd,this,↓jY,jZ,j4,j5,simprocAttr,if_true,if_false,implies_true,forall_const];simp
 | m+1,k,H,v,l,hg,hl,hk,hne=>by
  have hd:decide ((k:Int)<4)=true:=by simp;omega
  have h1:=vp .i64 n (8*k) (by omega);have h2:=to8 (n >>> (8*k));have e1:((8:Nat):Int)=8:=rfl;have hw:=DL 8 k (by omega);rw[e1]at hw;obtain⟨v',H',g1,g2⟩:=hg.app base (o:=.full) (xs:=[.int .u8 (((dK n k).toNat:Nat):Int)]) rfl rfl (by rw[aM];simp;omega) (by simp);have e2:aP l++[.int .u8 (((dK n k).toNat:Nat):Int)]=aP (l++[dK n k]):=by simp[aP]
  rw[e2]at g2;have ih:=aaU base n m (k+1) g2 (by simp;omega) (by omega) (by simp);rw[acv];have h3:cH 1 false [(.int .u8 0)] 1 [(0,strip (.int .u8 (((dK n k).toNat:Nat):Int)))]=some (.sl .full 1 [.int .u8 (((dK n k).toNat:Nat):Int)]):=rfl;simp only[dK]at h3 g1;simp (disch:=omega) only[hd,hw,h1,h2,h3,g1,fy,ih,↓jY,jZ,j4,j5,simprocAttr,if_true,if_false,implies_true,forall_const];rw[List.range'_succ,List.map_cons,List.append_assoc];rfl
theorem aeb (base:Nat) (n:BitVec 32):ai T base 123 [.bg,uV n] h=some (.sl .no 1 (aP (br n)),h):=by
 have hq:=aaU (h:=h) (l:=[]) (size h) n 4 0 (show GK h h .bg (aP []) from GK.nil (.inl rfl)) (by simp) rfl (by simp);simp only[show((0:Nat):Int)=0 from rfl]at hq;rw[amh,J5,az,hq];rfl
theorem adJ (base:Nat) {v:PV} {l:List UInt8} (hv:Rd h v l) (hn:jk 1 v=some false) (hl:l.length≤800000) (n:BitVec 32):ai T base 123 [v,uV n] h=some (.sl .no 1 (aP (l++br n)),h):=by
 have hc:=AB (size h) hn hv.el (by omega)
 by_cases h0:l=[]
 ·subst h0
  rw[if_pos rfl]at hc;have hq:=aaU (h:=h) (l:=[]) (size h) n 4 0 (show GK h h (.sl .full 1 []) (aP []) from GK.nil (.inr rfl)) (by simp) rfl (by simp);simp only[show((0:Nat):Int)=0 from rfl]at hq;rw[amh,hc,az,hq];rfl
 ·rw[if_neg h0]at hc
  have hg:GK h (ext h [.cells (aP l)]) (.bX false (size h) 0 (aP l).length 1) (aP l):=GK.Wy (lN l) (tT l _);rw[aM]at hg;have hq:=aaU (h:=h) (size h) n 4 0 hg (by omega) rfl (by simp);simp only[show((0:Nat):Int)=0 from rfl]at hq;rw[amh,hc,az,hq];rfl
theorem acz (base:Nat) {v:PV} {l:List UInt8} (hv:Rd h v l) (hn:jk 1 v=some false) (hl:l.length≤800000):ai T base 139 [v] h=some (.sl .no 1 (aP (l++br (mK l))),h):=by
 have h1:=fun b=>Q1 b hv (by omega)
 have h2:=fun b=>adJ b hv hn hl (mK l)
 have h3:=(pL (.inl rfl) (l++br (mK l))).gY;have h4:=(pL (.inl rfl) (l++br (mK l))).below;rw[as9];simp only[h1,h2,h3,h4,bL,↓jY,jZ,j4,j5,simprocAttr,if_true,if_false,implies_true,forall_const]
end Go.Am.Qd
namespace Go.Am.Qd
variable {h:Hp}
theorem AG (a b:BitVec 32):binOp .add (uV a) (uV b)=some (uV (a+b)):=by
 show some (PV.int .u32 (IntKind.u32.wrap ((a.toNat:Int)+(b.toNat:Int))))=some (PV.int .u32 _);congr 2
def rB (x:BitVec 32) (n:Nat):BitVec 32:=x <<< (32-n) ||| x >>> n
theorem TM (n:Nat) (h1:1≤n) (h2:n≤31):(ct (.int .i64 (-(n:Int))) .u64).ah (fun x=>binOp .and x (.int .u64 31))=some (.int .u64 ((32-n:Nat):Int)):=by
 have e1:ct (.int .i64 (-(n:Int))) .u64=some (.int .u64 ((18446744073709551616-n:Nat):Int)):=by
  show some (PV.int .u64 (IntKind.u64.wrap (-(n:Int))))=some (PV.int .u64 _);congr 2;simp only[IntKind.wrap,IntKind.signed,IntKind.bits,Bool.false_and,Bool.false_eq_true,if_false];omega
 rw[e1,Option.ag];show some (PV.int .u64 (IntKind.u64.wrap ((BitVec.ofInt 64 ((18446744073709551616-n:Nat):Int) &&& BitVec.ofInt 64 31).toNat:Int)))=some (PV.int .u64 _);congr 2;have e2:(BitVec.ofInt 64 ((18446744073709551616-n:Nat):Int)).toNat=18446744073709551616-n:=by simp;omega
 have e3:(BitVec.ofInt 64 31).toNat=2 ^ 5-1:=by decide
 rw[BitVec.toNat_and,e2,e3,Nat.and_two_pow_sub_one_eq_mod];simp only[IntKind.wrap,IntKind.signed,IntKind.bits,Bool.false_and,Bool.false_eq_true,if_false];omega
theorem Q2 (base:Nat) (x:BitVec 32) (n:Nat) (h1:1≤n) (h2:n≤31):ai T base 143 [uV x,.int .i64 (-(n:Int))] h=some (uV (rB x n),h):=by
 have e1:=TM n h1 h2;rw[Option.aa]at e1;obtain⟨y,y1,y2⟩:=e1;have e3:binOp .sub (.int .u64 32) (.int .u64 ((32-n:Nat):Int))=some (.int .u64 (n:Int)):=by
  show some (PV.int .u64 (IntKind.u64.wrap (32-((32-n:Nat):Int))))=some (PV.int .u64 _);congr 2;simp only[IntKind.wrap,IntKind.signed,IntKind.bits,Bool.false_and,Bool.false_eq_true,if_false];omega
 rw[alv,y1,Option.ag,y2,Option.ag,LF _ _ _ (by omega),Option.ag,e3,Option.ag,vp _ _ _ (by omega),Option.ag,TL,Option.ag,AF,bL];rfl
theorem sQ (base:Nat) (x:BitVec 32) (n:Nat) (h1:1≤n) (h2:n≤31):ai T base 129 [uV x,.int .i64 (n:Int)] h=some (uV (rB x n),h):=by
 have e1:unOp .neg (.int .i64 (n:Int))=some (.int .i64 (-(n:Int))):=by
  show some (PV.int .i64 (IntKind.i64.wrap (0-(n:Int))))=_;rw[wrap_small (by omega) (by omega)];simp
 rw[alr,e1,Option.ag,Q2 (size h) x n h1 h2,az,AF,bL]
theorem Q3 (base:Nat) (x:BitVec 32) (n:Nat) (h1:1≤n) (h2:n≤31):ai T base 86 [uV x,.int .i64 (n:Int)] h=some (uV (rB x n),h):=by
 have e3:binOp .sub (.int .i64 32) (.int .i64 (n:Int))=some (.int .i64 ((32-n:Nat):Int)):=by
  show some (PV.int .i64 (IntKind.i64.wrap (32-(n:Int))))=_;rw[wrap_small (by omega) (by omega)];congr 2;omega
 rw[S86,vp _ _ _ (by omega),Option.ag,e3,Option.ag,LF _ _ _ (by omega),Option.ag,TL,Option.ag,AF,bL];unfold rB;rw[BitVec.or_comm]
/-! ### Rows of words -/
def aT (l:List (BitVec 32)):List PV:=l.map uV
theorem jg (l:List (BitVec 32)) (i:Nat):(aT l)[i]?=(l[i]?).map uV:=by simp[aT]
theorem bZ (l:List (BitVec 32)):(aT l).length=l.length:=by simp[aT]
theorem GM (l:List (BitVec 32)) (i:Nat) (x:BitVec 32):(aT l).set i (uV x)=aT (l.set i x):=by simp[aT,List.map_set]
theorem kQ (l:List (BitVec 32)):(aT l).all scalar=true:=by
 induction l with
 | nil=>rfl
 | cons a l ih=>show(scalar (uV a)&&(aT l).all scalar)=true;rw[ih];rfl
theorem J8 (n:Nat) (l:List (BitVec 32)):belows n (aT l)=true:=by
 induction l with
 | nil=>rfl
 | cons a l ih=>show belows n (uV a::aT l)=true;rw[iQ,ih];rfl
theorem LH (n:Nat):rep n (.int .u32 0)=aT (List.replicate n 0#32):=by rw[rep,aT,List.map_replicate];rfl
theorem Xq (n:Nat):rep n (.int .u8 0)=aP (List.replicate n 0):=by simp[rep,aP]
def Cu (a b c d:UInt8):BitVec 32:=((a.toBitVec.setWidth 32 <<< 24 ||| b.toBitVec.setWidth 32 <<< 16) ||| c.toBitVec.setWidth 32 <<< 8) ||| d.toBitVec.setWidth 32
def sg0 (x:BitVec 32):BitVec 32:=(rB x 7 ^^^ rB x 18) ^^^ x >>> 3
def sg1 (x:BitVec 32):BitVec 32:=(rB x 17 ^^^ rB x 19) ^^^ x >>> 10
def om (b:List UInt8) (w:List (BitVec 32)) (i:Nat):BitVec 32 :=
 if i<16 then Cu (b.getD (4*i) 0) (b.getD (4*i+1) 0) (b.getD (4*i+2) 0) (b.getD (4*i+3) 0)
 else((w.getD (i-16) 0+sg0 (w.getD (i-15) 0))+w.getD (i-7) 0)+sg1 (w.getD (i-2) 0)
def sched (b:List UInt8):Nat→List (BitVec 32)
 | 0=>[]
 | n+1=>sched b n++[om b (sched b n) n]
theorem gU (b:List UInt8):∀ n,(sched b n).length=n
 | 0=>rfl
 | n+1=>by simp[sched,gU b n]
def rnd (k w:BitVec 32) (s:List (BitVec 32)):List (BitVec 32) :=
 let a:=s.getD 0 0;let b:=s.getD 1 0;let c:=s.getD 2 0;let d:=s.getD 3 0;let e:=s.getD 4 0;let f:=s.getD 5 0;let g:=s.getD 6 0;let i:=s.getD 7 0
 let t1:=(((i+((rB e 6 ^^^ rB e 11) ^^^ rB e 25))+((e &&& f) ^^^ (~~~ e &&& g)))+k)+w
 let t2:=((rB a 2 ^^^ rB a 13) ^^^ rB a 22)+(((a &&& b) ^^^ (a &&& c)) ^^^ (b &&& c))
 [t1+t2,a,b,c,d+t1,e,f,g]
end Go.Am.Qd
namespace Go.Am.Qd
variable {h:Hp}
theorem g2a (X Y:List PV):ay (ext h [.cells X,.cells Y]) (size h)=some X:=by rw[aQ];rfl
theorem J9 (X Y:List PV):ay (ext h [.cells X,.cells Y]) (size h+1)=some Y:=by rw[eZ];rfl
theorem s2a (X Y Z:gW):aC (ext h [X,Y]) (size h) Z=ext h [Z,Y]:=by rw[eu (Nat.le_refl _)];simp
theorem Yh (X Y Z:gW):aC (ext h [X,Y]) (size h+1) Z=ext h [X,Z]:=by rw[eu (by omega)];simp
def wz (b:List UInt8) (i:Nat):List (BitVec 32):=sched b i++List.replicate (64-i) 0#32
theorem Q4 (b:List UInt8) {i:Nat} (hi:i≤64):(wz b i).length=64:=by simp[wz,gU];omega
theorem Q5 (b:List UInt8) {i j:Nat} (hj:j<i):(aT (wz b i))[j]?=some (uV ((sched b i).getD j 0)):=by
 have:j<(sched b i).length:=by rw[gU];exact hj
 rw[jg,wz,List.getElem?_append_left this,List.getD_eq_getElem?_getD,List.getElem?_eq_getElem this];rfl
theorem Q6 (b:List UInt8) {i:Nat} (hi:i<64):(wz b i).set i (om b (sched b i) i)=wz b (i+1):=by
 unfold wz;rw[List.set_append_right _ _ (by rw[gU];exact Nat.le_refl _),gU,Nat.sub_self,show 64-i=(64-(i+1))+1 by omega,List.replicate_succ,List.set_cons_zero];simp[sched]
theorem mL {base b off:Nat} {H:Hp} {cs:List PV} {x:PV} (hg:ay H b=some cs) (hb:base≤b) (hs:scalar x=true) (hc:x.cells=[x]) (ho:off<cs.length):aS base 1 (.ptr b off) x H=some (aC H b (.cells (cs.set off x))):=by
 rw[dA,hg,Option.ag,hc,if_pos ⟨rfl,by omega,by simp[hs],fun q=>absurd q (by omega)⟩,if_neg (by omega)];rfl
theorem dL {b off:Nat} {H:Hp} {cs:List PV} (hg:ay H b=some cs):ax 1 false (.ptr b off) H=cs[off]?:=by
 rw[ej,hg,Option.ag,part,if_neg (by simp)]
theorem HQ (sz b o i n:Nat) (hi:i<n):aN sz n (.ptr b o) (.int .i64 (i:Int))=some (.ptr b (o+i*sz)):=by
 rw[ve,iN .i64 i n hi,Option.ag]
theorem DV {vs cs:List PV} (hl:vs.length=cs.length):bE cs 0 vs=vs:=by
 obtain⟨h1,h2⟩:=nJ vs cs 0;apply List.ext_getElem?;intro i;rw[h2 i];split
 ·simp
 ·rw[List.getElem?_eq_none (by omega),List.getElem?_eq_none (by omega)]
theorem rC {b n:Nat} {H:Hp} {cs:List PV} (hg:ay H b=some cs) (hn:cs.length=n):ax n true (.ptr b 0) H=some (.agg cs):=by
 rw[ej,hg,Option.ag,part,if_pos rfl,if_pos (by omega),List.drop_zero,List.take_of_length_le (by omega)]
theorem AH {b n:Nat} {H:Hp} {cs:List PV} (hg:ay H b=some cs) (hn:cs.length=n):qS (.ptr b 0) H n true=some (.agg cs):=by
 rw[E8,hg,Option.ag,part,if_pos rfl,if_pos (by omega),List.drop_zero,List.take_of_length_le (by omega)]
theorem jh {base b n:Nat} {H:Hp} {cs ds:List PV} (hg:ay H b=some cs) (hb:base≤b) (hc:cs.length=n) (hd:ds.length=n) (hs:ds.all scalar=true):aS base n (.ptr b 0) (.agg ds) H=some (aC H b (.cells ds)):=by
 have e:(PV.agg ds).cells=ds:=rfl;rw[dA,hg,Option.ag,e,if_pos ⟨hd,by omega,hs,fun q=>absurd q (by omega)⟩,if_neg (by omega),DV (by omega)];rfl
theorem LI (ws:List (BitVec 32)) (H:Hp) (n:Nat):bk false false n [.agg (aT ws)] H=some (.agg (aT ws),bJ H n):=by
 have hf:gY n H (.agg (aT ws))=some (.agg (aT ws)):=by
  have:fN n H (aT ws)=some (aT ws):=by
   induction ws with
   | nil=>rfl
   | cons a l ih=>show fN n H (uV a::aT l)=_;rw[fN,ih];rfl
  rw[gY,this];rfl
 rw[cc];simp only[fN,hf,Option.ag];rw[if_pos (by simp[belows,below,J8])];rfl
section
variable {b off:Nat} {cs:List PV} {blk:List UInt8} (hb:ay h b=some cs) (hcs:∀ i,i<64→cs[off+i]?=some (.int .u8 ((blk.getD i 0).toNat:Int)))
include hb hcs
theorem vt:∀ (n i:Nat),i+n=64→Ay (size h) (size h) (.int .i64 (i:Int)) (.ptr (size h+1) 0) (.ptr b off) (.ptr (size h) 0) (ext h [.cells (aT (List.replicate 64 0#32)),.cells (aT (wz blk i))])=some (.agg (aT (sched blk 64)),h)
 | 0,i,hi=>by
  obtain rfl:i=64:=by omega
  have e:wz blk 64=sched blk 64:=by simp[wz]
  have hl:(aT (sched blk 64)).length=64:=by rw[bZ,gU]
  have hz:(aT (List.replicate 64 0#32)).length=64:=by rw[bZ];simp
  have hld:=rC (n:=64) (J9 (h:=h) (aT (List.replicate 64 0#32)) (aT (sched blk 64))) hl;have hst:=jh (base:=size h) (n:=64) (g2a (h:=h) (aT (List.replicate 64 0#32)) (aT (sched blk 64))) (Nat.le_refl _) hz hl (kQ _);rw[s2a]at hst;have hrs:=AH (n:=64) (g2a (h:=h) (aT (sched blk 64)) (aT (sched blk 64))) hl;have hk:binOp .lss (.int .i64 ((64:Nat):Int)) (.int .i64 64)=some (.bool false):=rfl;rw[tS,hk,Option.ag,aL,e,hld,Option.ag,hst,Option.ag,hrs,Option.ag,LI,cI]
 | n+1,i,hi=>by
  have hlt:i<64:=by omega
  have hbl:=bw (bq hb);have ih:=vt n (i+1) (by omega);have hk:binOp .lss (.int .i64 (i:Int)) (.int .i64 64)=some (.bool true):=by
   show some (PV.bool (decide ((i:Int)<64)))=_;rw[decide_eq_true (by omega)]
  have w1:IntKind.i64.wrap ((i:Int)+1)=((i+1:Nat):Int):=fy i (by omega);have gb:=fun X Y=>(aX (l:=[.cells X,.cells Y]) hbl).trans hb
  have hw:=Q4 blk (i:=i) (by omega);have hst:=mL (base:=size h) (b:=size h+1) (off:=i) (x:=uV (om blk (sched blk i) i)) (J9 (h:=h) (aT (List.replicate 64 0#32)) (aT (wz blk i))) (by omega) rfl rfl (by rw[bZ];omega);rw[GM,Q6 blk hlt,Yh]at hst;have Xr:=HQ 1 (size h+1) 0 i 64 hlt;rw[Nat.zero_add,Nat.mul_one]at Xr
  by_cases HN:i<16
  ·have hk2:binOp .lss (.int .i64 (i:Int)) (.int .i64 16)=some (.bool true):=by
    show some (PV.bool (decide ((i:Int)<16)))=_;rw[decide_eq_true (by omega)]
   have m4:binOp .mul (.int .i64 4) (.int .i64 (i:Int))=some (.int .i64 ((4*i:Nat):Int)):=by
    show some (PV.int .i64 (IntKind.i64.wrap (4*(i:Int))))=_;rw[wrap_small (by omega) (by omega)];simp
   have ak:∀ k:Nat,k≤3→binOp .add (.int .i64 ((4*i:Nat):Int)) (.int .i64 (k:Int))=some (.int .i64 ((4*i+k:Nat):Int)):=fun k hk=>by
    show some (PV.int .i64 (IntKind.i64.wrap (((4*i:Nat):Int)+(k:Int))))=_;rw[wrap_small (by omega) (by omega)];simp
   have a1:=ak 1 (by omega);have a2:=ak 2 (by omega);have a3:=ak 3 (by omega);simp only[show((1:Nat):Int)=1 from rfl,show((2:Nat):Int)=2 from rfl,show((3:Nat):Int)=3 from rfl]at a1 a2 a3;have GN:∀ k:Nat,k≤3→aN 1 64 (.ptr b off) (.int .i64 ((4*i+k:Nat):Int))=some (.ptr b (off+(4*i+k))):=fun k hk=>by
    have:=HQ 1 b off (4*i+k) 64 (by omega);rwa [Nat.mul_one]at this
   have i0:=GN 0 (by omega);have i1:=GN 1 (by omega);have i2:=GN 2 (by omega);have i3:=GN 3 (by omega);rw[Nat.add_zero]at i0;have LJ:∀ k:Nat,k≤3→∀ X Y,ax 1 false (.ptr b (off+(4*i+k))) (ext h [.cells X,.cells Y])=some (.int .u8 ((blk.getD (4*i+k) 0).toNat:Int)):=fun k hk X Y=>by
    rw[dL (gb X Y),hcs _ (by omega)]
   have l0:=LJ 0 (by omega);have l1:=LJ 1 (by omega);have l2:=LJ 2 (by omega);have l3:=LJ 3 (by omega);rw[Nat.add_zero]at l0;have nk:aF (.ptr b off)=some (.ptr b off):=rfl;have hn:om blk (sched blk i) i=Cu (blk.getD (4*i) 0) (blk.getD (4*i+1) 0) (blk.getD (4*i+2) 0) (blk.getD (4*i+3) 0):=by unfold om;rw[if_pos HN]
   rw[hn]at hst;unfold Cu at hst;have sh:=fun(a:BitVec 32) (n:Nat) (hn:n≤32)=>LF .u64 a n hn
   have aaQ:=fun a=>sh a 24 (by omega);have aaR:=fun a=>sh a 16 (by omega);have sh8:=fun a=>sh a 8 (by omega)
   simp only[show((24:Nat):Int)=24 from rfl,show((16:Nat):Int)=16 from rfl,show((8:Nat):Int)=8 from rfl]at aaQ aaR sh8;rw[tS,hk,Option.ag,aR,hk2,Option.ag,aR];simp only[m4,a1,a2,a3,nk,i0,i1,i2,i3,l0,l1,l2,l3,Q0,aaQ,aaR,sh8,TL,Xr,hst,Option.ag];rw[show binOp .add (.int .i64 (i:Int)) (.int .i64 1)=some (.int .i64 ((i+1:Nat):Int)) by rw[←w1];rfl,Option.ag];exact ih
  ·have hk2:binOp .lss (.int .i64 (i:Int)) (.int .i64 16)=some (.bool false):=by
    show some (PV.bool (decide ((i:Int)<16)))=_;rw[decide_eq_false (by omega)]
   have sk:∀ k:Nat,k≤16→binOp .sub (.int .i64 (i:Int)) (.int .i64 (k:Int))=some (.int .i64 ((i-k:Nat):Int)):=fun k hk=>by
    show some (PV.int .i64 (IntKind.i64.wrap ((i:Int)-(k:Int))))=_;rw[wrap_small (by omega) (by omega)];congr 2;omega
   have k15:=sk 15 (by omega);have k2:=sk 2 (by omega);have k16:=sk 16 (by omega);have k7:=sk 7 (by omega);simp only[show((15:Nat):Int)=15 from rfl,show((2:Nat):Int)=2 from rfl,show((16:Nat):Int)=16 from rfl,show((7:Nat):Int)=7 from rfl]at k15 k2 k16 k7;have GN:∀ k:Nat,aN 1 64 (.ptr (size h+1) 0) (.int .i64 ((i-k:Nat):Int))=some (.ptr (size h+1) (i-k)):=fun k=>by
    have:=HQ 1 (size h+1) 0 (i-k) 64 (by omega);rwa [Nat.mul_one,Nat.zero_add]at this
   have LJ:∀ k:Nat,1≤k→k≤16→ax 1 false (.ptr (size h+1) (i-k)) (ext h [.cells (aT (List.replicate 64 0#32)),.cells (aT (wz blk i))])=some (uV ((sched blk i).getD (i-k) 0)):=fun k h1 h2=>by
    rw[dL (J9 _ _),Q5 blk (by omega)]
   have l15:=LJ 15 (by omega) (by omega);have l2:=LJ 2 (by omega) (by omega);have l16:=LJ 16 (by omega) (by omega);have l7:=LJ 7 (by omega) (by omega);have rt:=fun(H:Hp) (x:BitVec 32) (n:Nat) (h1:1≤n) (h2:n≤31)=>sQ (h:=H) (size h) x n h1 h2
   have r7:=fun H x=>rt H x 7 (by omega) (by omega);have r18:=fun H x=>rt H x 18 (by omega) (by omega);have Xl:=fun H x=>rt H x 17 (by omega) (by omega);have r19:=fun H x=>rt H x 19 (by omega) (by omega)
   simp only[show((7:Nat):Int)=7 from rfl,show((18:Nat):Int)=18 from rfl,show((17:Nat):Int)=17 from rfl,show((19:Nat):Int)=19 from rfl]at r7 r18 Xl r19;have s3:=fun a=>vp .u64 a 3 (by omega);have s10:=fun a=>vp .u64 a 10 (by omega)
   simp only[show((3:Nat):Int)=3 from rfl,show((10:Nat):Int)=10 from rfl]at s3 s10;have hn:om blk (sched blk i) i=(((sched blk i).getD (i-16) 0+sg0 ((sched blk i).getD (i-15) 0))+(sched blk i).getD (i-7) 0)+sg1 ((sched blk i).getD (i-2) 0):=by unfold om;rw[if_neg HN]
   rw[hn]at hst;unfold sg0 sg1 at hst;rw[tS,hk,Option.ag,aR,hk2,Option.ag,aL];simp only[k15,k2,k16,k7,GN,l15,l2,l16,l7,r7,r18,Xl,r19,s3,s10,vo,AG,Xr,hst,Option.ag,az];rw[show binOp .add (.int .i64 (i:Int)) (.int .i64 1)=some (.int .i64 ((i+1:Nat):Int)) by rw[←w1];rfl,Option.ag];exact ih
theorem GO (base:Nat):ai T base 128 [.ptr b off] h=some (.agg (aT (sched blk 64)),h):=by
 have hl:=vt hb hcs 64 0 (by omega);have e:wz blk 0=List.replicate 64 0#32:=by simp[wz,sched]
 rw[e]at hl;simp only[show((0:Nat):Int)=0 from rfl]at hl;rw[alq,LH,ek,ek,aW,fA];exact hl
end
end Go.Am.Qd
namespace Go.Am.Qd
variable {h:Hp}
def ks:List (BitVec 32):=KS.map fun v=>match v with | .int _ i=>BitVec.ofInt 32 i | _=>0#32
theorem aaX:KS=aT ks:=by rfl
theorem Xs:ks.length=64:=by rfl
theorem UL {i:Nat} (hi:i<64) (H:Hp):ax 1 false (.ep KS i) H=some (uV (ks.getD i 0)):=by
 rw[FM,y9,aaX,jg,List.getD_eq_getElem?_getD,List.getElem?_eq_getElem (by rw[Xs];exact hi)];rfl
theorem ixe (cs:List PV) (i n:Nat) (hi:i<n):aN 1 n (.ep cs 0) (.int .i64 (i:Int))=some (.ep cs i):=by
 rw[Ac,iN .i64 i n hi,Option.ag,Nat.zero_add,Nat.mul_one]
def wq (W:List (BitVec 32)):Nat→Nat→List (BitVec 32)→List (BitVec 32)
 | _,0,s=>s
 | i,n+1,s=>wq W (i+1) n (rnd (ks.getD i 0) (W.getD i 0) s)
theorem sS (W:List (BitVec 32)):∀ (n i:Nat) (s:List (BitVec 32)),s.length=8→(wq W i n s).length=8
 | 0,_,s,hs=>hs
 | n+1,i,s,_=>sS W n (i+1) _ rfl
theorem Cv {W:List (BitVec 32)} (hW:W.length=64) (a0:PV):∀ (n i:Nat) (s:List (BitVec 32)),i+n=64→s.length=8 →
  tQ (size h) (size h) (.int .i64 (i:Int)) (.ptr (size h+1) 0) (.ptr (size h) 0) a0 (ext h [.cells (aT W),.cells (aT s)])
  = tQ (size h) (size h) (.int .i64 64) (.ptr (size h+1) 0) (.ptr (size h) 0) a0 (ext h [.cells (aT W),.cells (aT (wq W i n s))])
 | 0,i,s,hi,hs=>by
  obtain rfl:i=64:=by omega
  rfl
 | n+1,i,s,hi,hs=>by
  have hlt:i<64:=by omega
  obtain⟨a,b,c,d,e,f,g,k,rfl⟩ : ∃ a b c d e f g k,s=[a,b,c,d,e,f,g,k]:=by
   match s,hs with
   | [a,b,c,d,e,f,g,k],_=>exact⟨a,b,c,d,e,f,g,k,rfl⟩
  have ih:=Cv hW a0 n (i+1) (rnd (ks.getD i 0) (W.getD i 0) [a,b,c,d,e,f,g,k]) (by omega) rfl;have hk:binOp .lss (.int .i64 (i:Int)) (.int .i64 64)=some (.bool true):=by
   show some (PV.bool (decide ((i:Int)<64)))=_;rw[decide_eq_true (by omega)]
  have w1:IntKind.i64.wrap ((i:Int)+1)=((i+1:Nat):Int):=fy i (by omega);have lw:ax 1 false (.ptr (size h) i) (ext h [.cells (aT W),.cells (aT [a,b,c,d,e,f,g,k])])=some (uV (W.getD i 0)):=by
   rw[dL (g2a _ _),jg,List.getD_eq_getElem?_getD,List.getElem?_eq_getElem (by rw[hW];exact hlt)];rfl
  have GN:=ixe KS i 64 hlt;have lk:=UL hlt (ext h [.cells (aT W),.cells (aT [a,b,c,d,e,f,g,k])]);have ixw:=HQ 1 (size h) 0 i 64 hlt;rw[Nat.zero_add,Nat.mul_one]at ixw;have ixs:∀ j:Nat,j<8→aN 1 8 (.ptr (size h+1) 0) (.int .i64 (j:Int))=some (.ptr (size h+1) j):=fun j hj=>by
   have:=HQ 1 (size h+1) 0 j 8 hj;rwa [Nat.mul_one,Nat.zero_add]at this
  have x0:=ixs 0 (by omega);have x1:=ixs 1 (by omega);have x2:=ixs 2 (by omega);have x4:=ixs 4 (by omega);have x5:=ixs 5 (by omega);have x6:=ixs 6 (by omega);have x7:=ixs 7 (by omega);simp only[show((0:Nat):Int)=0 from rfl,show((1:Nat):Int)=1 from rfl,show((2:Nat):Int)=2 from rfl,show((4:Nat):Int)=4 from rfl,show((5:Nat):Int)=5 from rfl,show((6:Nat):Int)=6 from rfl,show((7:Nat):Int)=7 from rfl]at x0 x1 x2 x4 x5 x6 x7;have ldj:∀ (Z:List PV) (j:Nat),ax 1 false (.ptr (size h+1) j) (ext h [.cells (aT W),.cells Z])=Z[j]?:=fun Z j=>dL (J9 _ _)
  have stj:∀ (Z:List PV) (j:Nat) (x:BitVec 32),j<Z.length→aS (size h) 1 (.ptr (size h+1) j) (uV x) (ext h [.cells (aT W),.cells Z])=some (ext h [.cells (aT W),.cells (Z.set j (uV x))]):=fun Z j x hj=>by
   rw[mL (base:=size h) (J9 _ _) (by omega) rfl rfl hj,Yh]
  have rt:=fun(H:Hp) (x:BitVec 32) (n:Nat) (h1:1≤n) (h2:n≤31)=>sQ (h:=H) (size h) x n h1 h2
  have r2:=fun H x=>rt H x 2 (by omega) (by omega);have r13:=fun H x=>rt H x 13 (by omega) (by omega);have r22:=fun H x=>rt H x 22 (by omega) (by omega)
  have r6:=fun H x=>rt H x 6 (by omega) (by omega);have r11:=fun H x=>rt H x 11 (by omega) (by omega);have r25:=fun H x=>rt H x 25 (by omega) (by omega)
  simp only[show((2:Nat):Int)=2 from rfl,show((13:Nat):Int)=13 from rfl,show((22:Nat):Int)=22 from rfl,show((6:Nat):Int)=6 from rfl,show((11:Nat):Int)=11 from rfl,show((25:Nat):Int)=25 from rfl]at r2 r13 r22 r6 r11 r25;have oq:∀ (H:Hp) (x:BitVec 32) (n:Int) (y:BitVec 32),ai T (size h) 129 [uV x,.int .i64 n] H=some (uV y,H)→gv (ai T (size h)) 129 [uV x,.int .i64 n] H=some (uV y,H):=fun H x n y hy=>by
   rw[gv,hy,Option.ag,forget,if_pos rfl]
  have o6:=fun H x=>oq H x 6 _ (r6 H x);have o11:=fun H x=>oq H x 11 _ (r11 H x);have o25:=fun H x=>oq H x 25 _ (r25 H x)
  have u:∀ (x y z v p q r t:BitVec 32),aT [x,y,z,v,p,q,r,t]=[uV x,uV y,uV z,uV v,uV p,uV q,uV r,uV t]:=fun _ _ _ _ _ _ _ _=>rfl
  have sl1:∀ (Z:List PV),Z.length=8→HH 1 8 (.ptr (size h+1) 0) (some (.int .i64 1)) none (ext h [.cells (aT W),.cells Z])=some (.bX true (size h+1) 1 7 1,ext h [.cells (aT W),.cells Z]):=fun Z hZ=>by
   rw[xZ,J9,Option.ag,if_pos (by omega)];rfl
  have sl2:∀ (Z:List PV),Z.length=8→HH 1 8 (.ptr (size h+1) 0) none (some (.int .i64 7)) (ext h [.cells (aT W),.cells Z])=some (.bX false (size h+1) 0 7 1,ext h [.cells (aT W),.cells Z]):=fun Z hZ=>by
   rw[xZ,J9,Option.ag,if_pos (by omega)];rfl
  have cp:copyV (size h) (.bX true (size h+1) 1 7 1) (.bX false (size h+1) 0 7 1) (ext h [.cells (aT W),.cells (aT [a,b,c,d,e,f,g,k])])=some (.int .i64 7,ext h [.cells (aT W),.cells (aT [a,a,b,c,d,e,f,g])]):=by
   rw[kX,mV,J9,Option.ag,if_pos ⟨by simp[bZ],by rfl⟩,Option.ag,Option.ag,if_pos ⟨rfl,by simp[bZ],by rfl,fun q=>absurd q (by omega)⟩];show some (_,aC _ (size h+1) (.cells _))=_;rw[Yh];rfl
  have s1':=sl1 (aT [a,b,c,d,e,f,g,k]) rfl;have s2':=sl2 (aT [a,b,c,d,e,f,g,k]) rfl;have e0:(aT [a,b,c,d,e,f,g,k])[0]?=some (uV a):=rfl;have e1:(aT [a,b,c,d,e,f,g,k])[1]?=some (uV b):=rfl;have e2:(aT [a,b,c,d,e,f,g,k])[2]?=some (uV c):=rfl;have e4:(aT [a,b,c,d,e,f,g,k])[4]?=some (uV e):=rfl;have e5:(aT [a,b,c,d,e,f,g,k])[5]?=some (uV f):=rfl;have e6:(aT [a,b,c,d,e,f,g,k])[6]?=some (uV g):=rfl;have e7:(aT [a,b,c,d,e,f,g,k])[7]?=some (uV k):=rfl;have e4':(aT [a,a,b,c,d,e,f,g])[4]?=some (uV d):=rfl;have X9:∀ x,aS (size h) 1 (.ptr (size h+1) 4) (uV x) (ext h [.cells (aT W),.cells (aT [a,a,b,c,d,e,f,g])])=some (ext h [.cells (aT W),.cells (aT [a,a,b,c,x,e,f,g])]):=fun x=>stj _ 4 x (by rw[bZ];show 4<8;decide)
  have st0:∀ x y,aS (size h) 1 (.ptr (size h+1) 0) (uV x) (ext h [.cells (aT W),.cells (aT [a,a,b,c,y,e,f,g])])=some (ext h [.cells (aT W),.cells (aT [x,a,b,c,y,e,f,g])]):=fun x y=>stj _ 0 x (by rw[bZ];show 0<8;decide)
  have ad:binOp .add (.int .i64 (i:Int)) (.int .i64 1)=some (.int .i64 ((i+1:Nat):Int)):=by rw[←w1];rfl
  rw[Cp];simp only[hk,aR,x0,x1,x2,x4,x5,x6,x7,ldj,e0,e1,e2,e4,e5,e6,e7,e4',o6,o11,o25,r2,r13,r22,vo,AG,LC,LD,GN,lk,ixw,lw,tM,Cd,s1',s2',cp,X9,st0,ad,Option.ag,az,if_true];exact ih
def sU (W s:List (BitVec 32)):List (BitVec 32):=List.zipWith (·+·) s (wq W 0 64 s)
theorem NP {b i:Nat} {H:Hp} {Z:List PV} {x y:BitVec 32} {s:List (BitVec 32)} (hi:i<8) (base n0:Nat) (hg:ay H b=some Z) (hz:Z[i]?=some (uV x)) (hs:s[i]?=some y) (hl:s.length=8) :
  tR base n0 (.int .i64 (i:Int)) (.ptr b 0) (.agg (aT s)) H=tR base n0 (.int .i64 ((i+1:Nat):Int)) (.ptr b 0) (.agg (aT s)) (aC H b (.cells (Z.set i (uV (x+y))))):=by
 have hk:binOp .lss (.int .i64 (i:Int)) (.int .i64 8)=some (.bool true):=by
  show some (PV.bool (decide ((i:Int)<8)))=_;rw[decide_eq_true (by omega)]
 have w1:IntKind.i64.wrap ((i:Int)+1)=((i+1:Nat):Int):=fy i (by omega);have ad:binOp .add (.int .i64 (i:Int)) (.int .i64 1)=some (.int .i64 ((i+1:Nat):Int)):=by rw[←w1];rfl
 have ia:sE 1 false 8 (.agg (aT s)) (.int .i64 (i:Int))=some (uV y):=by
  rw[vg,iN .i64 i 8 hi,Option.ag,y9,Nat.mul_one,jg,hs];rfl
 have nk:aF (.ptr b 0)=some (.ptr b 0):=rfl;have fb:aA (.ptr b 0) 0=some (.ptr b 0):=rfl;have ip:=HQ 1 b 0 i 8 hi;rw[Nat.zero_add,Nat.mul_one]at ip;have ld:ax 1 false (.ptr b i) H=some (uV x):=by rw[dL hg,hz]
 have st:aS base 1 (.ptr b i) (uV (x+y)) H=some (aC H b (.cells (Z.set i (uV (x+y))))):=by
  have hlt:i<Z.length:=by
   rcases Nat.lt_or_ge i Z.length with q | q
   ·exact q
   ·rw[List.getElem?_eq_none q]at hz;cases hz
  rw[dA,hg,Option.ag,if_pos ⟨rfl,by omega,rfl,fun _=>rfl⟩];have:(if b<base then aO (uV (x+y)).cells else(uV (x+y)).cells)=[uV (x+y)]:=by split<;>rfl
  rw[this];rfl
 rw[Cq];simp only[hk,aR,ia,nk,fb,ip,ld,st,ad,AG,Option.ag]
def TQ (w s:List (BitVec 32)):Nat→Nat→List PV→List PV
 | 0,_,Z=>Z
 | n+1,i,Z=>TQ w s n (i+1) (Z.set i (uV (w.getD i 0+s.getD i 0)))
theorem Cw {b:Nat} {H:Hp} {w s:List (BitVec 32)} (hb:b<size H) (hs:s.length=8) (base n0:Nat):∀ (n i:Nat) (Z:List PV),i+n=8→(∀ j,i≤j→j<8→Z[j]?=some (uV (w.getD j 0))) →
  tR base n0 (.int .i64 (i:Int)) (.ptr b 0) (.agg (aT s)) (aC H b (.cells Z))=bk false false n0 [] (aC H b (.cells (TQ w s n i Z)))
 | 0,i,Z,hi,_=>by
  obtain rfl:i=8:=by omega
  rw[Cq,show binOp .lss (.int .i64 ((8:Nat):Int)) (.int .i64 8)=some (.bool false) from rfl,Option.ag,aL];rfl
 | n+1,i,Z,hi,hz=>by
  have hsi:s[i]?=some (s.getD i 0):=by rw[List.getD_eq_getElem?_getD,List.getElem?_eq_getElem (by omega)];rfl
  rw[NP (by omega) base n0 (fW hb) (hz i (Nat.le_refl _) (by omega)) hsi hs,fO];exact Cw hb hs base n0 n (i+1) _ (by omega) fun j h1 h2=>by rw[List.getElem?_set_ne (by omega)];exact hz j (by omega) h2
theorem LK {w s:List (BitVec 32)} {R:List PV} (hw:w.length=8) (hs:s.length=8):TQ w s 8 0 (aT w++R)=aT (List.zipWith (·+·) w s)++R:=by
 obtain⟨a,c,d,e,f,g,i,k,rfl⟩ : ∃ a b c d e f g k,w=[a,b,c,d,e,f,g,k]:=by
  match w,hw with
  | [a,b,c,d,e,f,g,k],_=>exact⟨a,b,c,d,e,f,g,k,rfl⟩
 obtain⟨a',c',d',e',f',g',i',k',rfl⟩ : ∃ a b c d e f g k,s=[a,b,c,d,e,f,g,k]:=by
  match s,hs with
  | [a,b,c,d,e,f,g,k],_=>exact⟨a,b,c,d,e,f,g,k,rfl⟩
 rfl
theorem Q7 {w:List (BitVec 32)} {R:List PV} {j:Nat} (hj:j<w.length):(aT w++R)[j]?=some (uV (w.getD j 0)):=by
 rw[List.getElem?_append_left (by rw[bZ];exact hj),jg,List.getD_eq_getElem?_getD,List.getElem?_eq_getElem hj];rfl
theorem Ka {b:Nat} {w:List (BitVec 32)} {r:List UInt8} {L:List PV} (base:Nat) (hw:w.length=8) (hr:r.length=64) (hg:ay h b=some (aT w++(aP r++L))) :
  ai T base 112 [.ptr b 0] h=some (.cF [],aC h b (.cells (aT (sU (sched r 64) w)++(aP r++L)))):=by
 have hb:=bw (bq hg);have hsp:=GO (h:=h) (b:=b) (off:=8) (blk:=r) hg (fun i hi=>by
  rw[List.getElem?_append_right (by rw[bZ];omega),bZ,hw,Nat.add_sub_cancel_left,List.getElem?_append_left (by rw[aM];omega),qg,List.getD_eq_getElem?_getD,List.getElem?_eq_getElem (by omega)];rfl) (size h)
 have hl:(aT (sched r 64)).length=64:=by rw[bZ,gU]
 have z64:(rep 64 (.int .u32 0)).length=64:=by simp[rep]
 have z8:(rep 8 (.int .u32 0)).length=8:=by simp[rep]
 have hld:ax 8 true (.ptr b 0) (ext h [.cells (aT (sched r 64))])=some (.agg (aT w)):=by
  rw[ej,aX hb,hg,Option.ag,EZ,if_pos (by simp[bZ];omega),List.drop_zero,List.take_left' (by rw[bZ,hw])]
 have h1:aS (size h) 64 (.ptr (size h) 0) (.agg (aT (sched r 64))) (ext h [.cells (rep 64 (.int .u32 0))])=some (ext h [.cells (aT (sched r 64))]):=by
  rw[jh aQ (Nat.le_refl _) z64 hl (kQ _),eE]
 have h2:aS (size h) 8 (.ptr (size h+1) 0) (.agg (aT w)) (ext h [.cells (aT (sched r 64)),.cells (rep 8 (.int .u32 0))])=some (ext h [.cells (aT (sched r 64)),.cells (aT w)]):=by
  rw[jh (J9 _ _) (by omega) z8 (by rw[bZ,hw]) (kQ _),Yh]
 have hlp:=Cv (h:=h) (W:=sched r 64) (gU _ _) (.ptr b 0) 64 0 w rfl hw;have hend:tQ (size h) (size h) (.int .i64 64) (.ptr (size h+1) 0) (.ptr (size h) 0) (.ptr b 0) (ext h [.cells (aT (sched r 64)),.cells (aT (wq (sched r 64) 0 64 w))])=some (.cF [],aC h b (.cells (aT (sU (sched r 64) w)++(aP r++L)))):=by
  have hrl:=sS (sched r 64) 64 0 w hw;rw[Cp,show binOp .lss (.int .i64 64) (.int .i64 64)=some (.bool false) from rfl,Option.ag,aL,rC (J9 _ _) (by rw[bZ,hrl]),Option.ag];have aa3:ext h [.cells (aT (sched r 64)),.cells (aT (wq (sched r 64) 0 64 w))]=aC (ext h [.cells (aT (sched r 64)),.cells (aT (wq (sched r 64) 0 64 w))]) b (.cells (aT w++(aP r++L))):=by
   rw[aak hb,jv (bq hg)]
  rw[aa3];have:=Cw (b:=b) (H:=ext h [.cells (aT (sched r 64)),.cells (aT (wq (sched r 64) 0 64 w))]) (w:=w) (s:=wq (sched r 64) 0 64 w) (by rw[aW];omega) hrl (size h) (size h) 8 0 (aT w++(aP r++L)) rfl (fun j _ hj=>Q7 (by omega));rw[LK hw hrl]at this;refine this.trans ?_;rw[aak hb,cc];simp only[fN,Option.ag];rw[yX];rfl
 rw[alm];have n1:aF (.ptr b 0)=some (.ptr b 0):=rfl;have f8:aA (.ptr b 0) 8=some (.ptr b 8):=rfl;have f0:aA (.ptr b 0) 0=some (.ptr b 0):=rfl;have sz:size (ext h [.cells (aT (sched r 64))])=size h+1:=by rw[aW];rfl
 simp only[n1,f8,f0,Option.ag,hsp,az,ek,h1,hld,sz,fA,List.cons_append,List.nil_append,h2];exact hlp.trans hend
end Go.Am.Qd
namespace Go.Am.Qd
variable {h:Hp}
def Nf (o:Own):Prop:=o=.no∨o=.full
theorem sV (l:List UInt8) (a n:Nat):((aP l).drop a).take n=aP ((l.drop a).take n):=by simp[aP]
theorem slc {o:Own} (l:List UInt8) {lo hi:Option PV} {a b:Nat} (ha:oZ b 0 lo=some a) (hb:oZ l.length l.length hi=some b):∃ o',Nf o'∧cO (some 1) lo hi none (.sl o 1 (aP l))=some (.sl o' 1 (aP ((l.drop a).take (b-a)))):=by
 rw[Cb];simp only[aM,hb,ha,Option.ag,sV];exact⟨_,by unfold Nf;split<;>simp,rfl⟩
theorem atk {o:Own} (l:List UInt8) {a b:Nat} (ha:a≤b) (hb:b≤l.length):cO (some 1) (some (.int .i64 (a:Int))) (some (.int .i64 (b:Int))) (some (.int .i64 (b:Int))) (.sl o 1 (aP l))=some (.sl .full 1 (aP ((l.drop a).take (b-a)))):=by
 simp only[cO,if_true,gK,aM];rw[fV _ _ _ hb,Option.ag,fV _ _ _ (Nat.le_refl b),Option.ag,fV _ _ _ ha,Option.ag];simp only[Option.isSome_some,beq_self_eq_true,Bool.and_self,if_true,sV]
theorem jS {o:Own} (ho:Nf o) (l:List UInt8):Rd h (.sl o 1 (aP l)) l:=(pL ho l).rd (.inl rfl)
/-! ### DK out of bytes -/
def NQ:List UInt8→Nat→Nat→BitVec 32→BitVec 32
 | l,k,0,x=>x
 | l,k,m+1,x=>NQ l (k+1) m (x ||| ((l.getD k 0).toBitVec.setWidth 32) <<< (8*k))
def jl (l:List UInt8):BitVec 32:=NQ l 0 4 0#32
theorem alE (c:UInt8):PV.int .u32 (IntKind.u32.wrap (c.toNat:Int))=uV (c.toBitVec.setWidth 32):=by
 have:=Q0 c;rw[nF]at this;exact Option.some.inj this
theorem GP (base:Nat) {v:PV} {l:List UInt8} (hv:Rd h v l) (hl:4≤l.length):∀ (m k:Nat) (x:BitVec 32),k+m=4 →
  LA base (size h) (.int .i64 k) v (uV x) h=some (.cF [uV (NQ l k m x),.bool true],h)
 | 0,k,x,hk=>by
  have hd:decide ((k:Int)<4)=false:=by simp;omega
  rw[GH];simp only[hd,NQ,↓jY,jZ,j4,j5,simprocAttr,if_true,if_false,implies_true,forall_const];rw[show gY (size h) h (uV x)=some (uV x) from rfl];simp only[↓jY,jZ,j4,j5,simprocAttr,if_true,if_false,implies_true,forall_const]<;>rfl
 | m+1,k,x,hk=>by
  have hd:decide ((k:Int)<4)=true:=by simp;omega
  have hkl:k<l.length:=by omega
  obtain⟨a,a1,a2⟩:=hv.rd .i64 k l[k] (List.getElem?_eq_getElem hkl);have e1:((8:Nat):Int)=8:=rfl;have hw:=DL 8 k (by omega);rw[e1]at hw;have h1:=LF .i64 (l[k].toBitVec.setWidth 32) (8*k) (by omega);have ih:=GP base hv hl m (k+1) (x ||| (l[k].toBitVec.setWidth 32) <<< (8*k)) (by omega);have hg:l.getD k 0=l[k]:=by simp[hkl]
  rw[GH];simp (disch:=omega) only[hd,a1,a2,Q0,hw,alE,h1,TL,fy,ih,NQ,hg,↓jY,jZ,j4,j5,simprocAttr,if_true,if_false,implies_true,forall_const]
theorem aaJ (base:Nat) {v:PV} {l:List UInt8} (hv:Rd h v l) (hl:4≤l.length):ai T base 93 [v] h=some (.cF [uV (jl l),.bool true],h):=by
 have hq:=GP (size h) hv hl 4 0 0#32 rfl;simp only[show((0:Nat):Int)=0 from rfl,show uV 0#32=.int .u32 0 from rfl]at hq;have hd:decide (((l.length:Nat):Int)<4)=false:=by simp;omega
 rw[S93];simp only[hv.len,hd,hq,jl,↓jY,jZ,j4,j5,simprocAttr,if_true,if_false,implies_true,forall_const]
def lP (l:List UInt8):Bool:=decide (4≤l.length)&&jl (l.drop (l.length-4)) == mK (l.take (l.length-4))
theorem NR (base:Nat) {o:Own} (ho:Nf o) (l:List UInt8) (hl:l.length≤1000000):∃ x,ai T base 92 [.sl o 1 (aP l)] h=some (.cF [x,.bool (lP l)],h)∧(lP l=true→x=.sl (if l.length-4=0 then .full else .no) 1 (aP (l.take (l.length-4)))):=by
 by_cases h4:4≤l.length
 ·have hd:decide (((l.length-4:Nat):Int)<0)=false:=by simp
  have b0:oZ l.length l.length none=some l.length:=rfl;have b1:oZ l.length 0 (some (.int .i64 ((l.length-4:Nat):Int)))=some (l.length-4):=(gK _ _ _).trans (fV _ .i64 _ (by omega));have b2:oZ l.length l.length (some (.int .i64 ((l.length-4:Nat):Int)))=some (l.length-4):=(gK _ _ _).trans (fV _ .i64 _ (by omega));have b3:oZ (l.length-4) 0 none=some 0:=rfl;obtain⟨o1,p1,s1⟩:=slc (o:=o) l b1 b0;obtain⟨o2,p2,s2⟩:=slc (o:=o) l b3 b2;have e1:(l.drop (l.length-4)).take (l.length-(l.length-4))=l.drop (l.length-4):=by rw[List.take_of_length_le (by simp)]
  have e2:(l.drop 0).take (l.length-4-0)=l.take (l.length-4):=by simp
  rw[e1]at s1;rw[e2]at s2;have hg:=fun b=>aaJ (h:=h) b (jS p1 (l.drop (l.length-4))) (by simp;omega)
  have hs:=fun b=>Q1 (h:=h) b (jS p2 (l.take (l.length-4))) (by simp;omega)
  have hc:=fun b=>AB (h:=h) (v:=.sl o2 1 (aP (l.take (l.length-4)))) b rfl (jS p2 _).el (by simp;omega)
  have Yi:lP l=(jl (l.drop (l.length-4)) == mK (l.take (l.length-4))):=by simp[lP,h4]
  cases hq:(jl (l.drop (l.length-4)) == mK (l.take (l.length-4))) with
  | false =>
   have hn:(jl (l.drop (l.length-4)) != mK (l.take (l.length-4)))=true:=by rw[bne,hq];rfl
   refine⟨.bg,?_,by rw[Yi,hq];simp⟩;rw[Yi,hq,S92];simp (disch:=omega) only[fe,aM,Ql,hd,s1,s2,hg,hs,LG,hn,bL,↓jY,jZ,j4,j5,simprocAttr,if_true,if_false,implies_true,forall_const]
  | true =>
   have hn:(jl (l.drop (l.length-4)) != mK (l.take (l.length-4)))=false:=by rw[bne,hq];rfl
   refine⟨_,?_,fun _=>rfl⟩;rw[Yi,hq,S92]
   by_cases h0:l.length-4=0
   ·have ht:l.take (l.length-4)=[]:=by rw[h0];rfl
    simp only[ht,if_true]at hc;rw[if_pos h0,ht];rw[ht]at s2 hs hn;simp (disch:=omega) only[fe,aM,Ql,hd,s1,s2,hg,hs,LG,hn,hc,bL,↓jY,jZ,j4,j5,simprocAttr,if_true,if_false,implies_true,forall_const]<;>rfl
   ·have ht:¬ l.take (l.length-4)=[]:=by
     intro hq2;have:=congrArg List.length hq2;simp at this;omega
    simp only[ht,if_false]at hc;rw[if_neg h0];have hfz:=LB (h:=h) (g:=ext h [.cells (aP (l.take (l.length-4)))]) (size h) (l.take (l.length-4)) (Nat.le_refl _) (by rw[aQ];rfl);have hbl:=(pL (.inl rfl) (l.take (l.length-4))).below;simp (disch:=omega) only[fe,aM,Ql,hd,s1,s2,hg,hs,LG,hn,hc,cc,fN,hfz,hbl,bL,cI,↓jY,jZ,j4,j5,simprocAttr,if_true,if_false,implies_true,forall_const]
 ·have hlt:IntKind.i64.wrap ((l.length:Int)-4)=(l.length:Int)-4:=wrap_small (by omega) (by omega)
  have hd:decide (((l.length:Nat):Int)-4<0)=true:=by simp;omega
  have Yi:lP l=false:=by simp[lP,h4]
  refine⟨.bg,?_,by rw[Yi];simp⟩;rw[Yi,S92];simp only[fe,aM,hlt,hd,↓jY,jZ,j4,j5,simprocAttr,if_true,if_false,implies_true,forall_const]
end Go.Am.Qd
namespace Go.Am.Qd
variable {h:Hp}
/-! ### The plain jB -/
def eP:List (BitVec 32):=[1779033703,3144134277,1013904242,2773480762,1359893119,2600822924,528734635,1541459225]
def ws (l:List UInt8):Nat→List (BitVec 32)
 | 0=>eP
 | k+1=>sU (sched ((l.drop (64*k)).take 64) 64) (ws l k)
theorem Kb (l:List UInt8):∀ k,(ws l k).length=8
 | 0=>rfl
 | k+1=>by
  have h1:=Kb l k;simp[ws,sU,sS _ 64 0 _ h1,h1]
theorem Kc (l m:List UInt8):∀ k,64*k≤l.length→ws (l++m) k=ws l k
 | 0,_=>rfl
 | k+1,hk=>by
  rw[ws,ws,Kc l m k (by omega),List.drop_append_of_le_length (by omega),List.take_append_of_le_length (by rw[List.length_drop];omega)]
structure Hs (w:List (BitVec 32)) (r:List UInt8) (l:List UInt8):Prop where
 hw:w=ws l (l.length / 64)
 hr:r.length=64
 he:r.take (l.length % 64)=l.drop (64*(l.length / 64))
theorem Hs.wl {w r l} (x:Hs w r l):w.length=8:=by rw[x.hw];exact Kb _ _
def patch (r:List UInt8) (a:Nat) (x:List UInt8):List UInt8:=r.take a++x++r.drop (a+x.length)
theorem tU {r:List UInt8} {a:Nat} {x:List UInt8} (hr:a+x.length≤r.length):(patch r a x).length=r.length:=by simp[patch];omega
theorem Hs.part {w r l} (x:Hs w r l) {b:List UInt8} (hb:l.length % 64+b.length<64):Hs w (patch r (l.length % 64) b) (l++b):=by
 have hd:(l++b).length / 64=l.length / 64:=by rw[List.length_append];omega
 have hm:(l++b).length % 64=l.length % 64+b.length:=by rw[List.length_append];omega
 refine⟨by rw[hd,Kc _ _ _ (by omega)];exact x.hw,by rw[tU (by rw[x.hr];omega)];exact x.hr,?_⟩;rw[hd,hm,patch,List.drop_append_of_le_length (by omega),←x.he,List.take_left' (by simp[x.hr];omega)]
theorem Hs.full {w r l} (x:Hs w r l) {b:List UInt8} (hb:l.length % 64+b.length=64):Hs (sU (sched (patch r (l.length % 64) b) 64) w) (patch r (l.length % 64) b) (l++b):=by
 have hd:(l++b).length / 64=l.length / 64+1:=by rw[List.length_append];omega
 have hm:(l++b).length % 64=0:=by rw[List.length_append];omega
 have hp:patch r (l.length % 64) b=((l++b).drop (64*(l.length / 64))).take 64:=by
  rw[List.drop_append_of_le_length (by omega),←x.he,patch,hb,List.drop_of_length_le (by rw[x.hr];exact Nat.le_refl _),List.append_nil];exact(List.take_of_length_le (by rw[List.length_append,List.length_take,x.hr];omega)).symm
 refine⟨?_,by rw[tU (by rw[x.hr];omega)];exact x.hr,?_⟩
 ·rw[hd,ws,Kc _ _ _ (by omega),←x.hw,←hp]
 ·rw[hm,hd,List.take_zero,List.drop_of_length_le (by rw[List.length_append];omega)]
/-! ### The struct in its box -/
def hC (w:List (BitVec 32)) (r:List UInt8) (n:Nat):List PV:=aT w++(aP r++[.int .i64 (n:Int)])
theorem DW {w r n} (hw:w.length=8) (hr:r.length=64):(hC w r n).length=73:=by simp[hC,bZ,aM,hw,hr]
theorem aa4 {w r n} (hw:w.length=8) (hr:r.length=64):(hC w r n)[72]?=some (.int .i64 (n:Int)):=by
 rw[hC,List.getElem?_append_right (by rw[bZ];omega),bZ,hw,List.getElem?_append_right (by rw[aM];omega),aM,hr];rfl
theorem Xu {w r n} {m:Nat} (hw:w.length=8) (hr:r.length=64):(hC w r n).set 72 (.int .i64 (m:Int))=hC w r m:=by
 rw[hC,List.set_append_right _ _ (by rw[bZ];omega),bZ,hw,List.set_append_right _ _ (by rw[aM];omega),aM,hr];rfl
theorem nR:∀ (v a c:List PV) (k:Nat),bE (a++c) (a.length+k) v=a++bE c k v
 | [],_,_,_=>rfl
 | x::v,a,c,k=>by
  rw[fZ,fZ,List.set_append_right _ _ (by omega),Nat.add_sub_cancel_left,Nat.add_assoc];exact nR v a _ (k+1)
theorem qN:∀ (v a c:List PV) (k:Nat),k+v.length≤a.length→bE (a++c) k v=bE a k v++c
 | [],_,_,_,_=>rfl
 | x::v,a,c,k,hk=>by
  have hk':k+(v.length+1)≤a.length:=hk;rw[fZ,fZ,List.set_append_left _ _ (by omega)];exact qN v _ c (k+1) (by rw[List.length_set];omega)
theorem Q8 {w r n a} {x:List UInt8} (hw:w.length=8) (hr:r.length=64) (ha:a+x.length≤64):bE (hC w r n) (8+a) (aP x)=hC w (patch r a x) n:=by
 have:8=(aT w).length:=by rw[bZ,hw]
 rw[hC,this,nR,qN _ _ _ _ (by rw[aM,aM];omega),pM _ _ _ (by omega)];rfl
theorem gM (l:List UInt8):(aP l).all scalar=true:=by
 induction l with
 | nil=>rfl
 | cons a l ih=>show(scalar (.int .u8 a.toNat)&&(aP l).all scalar)=true;rw[ih];rfl
theorem sW (l:List UInt8) (n:Nat):(aP l).take n=aP (l.take n):=by simp[aP]
theorem mw (n:Nat) (l:List UInt8):belows n (aP l)=true:=by
 induction l with
 | nil=>rfl
 | cons a l ih=>show belows n (.int .u8 a.toNat::aP l)=true;rw[iQ,ih];rfl
theorem Q9 (n:Nat):binOp .rem (.int .i64 (n:Int)) (.int .i64 64)=some (.int .i64 ((n % 64:Nat):Int)):=by
 show some (PV.int .i64 ((n:Int).tmod 64))=_;rw[Int.tmod_eq_emod_of_nonneg (by omega)];rfl
theorem Ke (base:Nat) {k:Nat} (hk:k<size h):∀ (m:Nat) (w:List (BitVec 32)) (r l b:List UInt8) (o:Own),Nf o→b.length≤m→Hs w r l→l.length+b.length≤4611686018427387904 →
  ∃ w' r',Hs w' r' (l++b)∧GF base (size h) (.ptr k 0) (.sl o 1 (aP b)) (aC h k (.cells (hC w r l.length)))=some (.cF [],aC h k (.cells (hC w' r' (l++b).length))):=by
 intro m
 induction m with
 | zero =>
  intro w r l b o ho hm x hl;obtain rfl:b=[]:=List.eq_nil_of_length_eq_zero (by omega);refine⟨w,r,by rw[List.append_nil];exact x,?_⟩;rw[GG,fe,Option.ag,show binOp .gtr (.int .i64 ((aP []).length:Int)) (.int .i64 0)=some (.bool false) from rfl,Option.ag,aL,cc];simp only[fN,Option.ag,List.append_nil];rw[BQ];rfl
 | succ m ih =>
  intro w r l b o ho hm x hl
  by_cases hb:b=[]
  ·subst hb
   exact ih w r l [] o ho (by simp) x hl
  have hpos:0<b.length:=List.length_pos_iff.2 hb;have e0:cB false (.sl o 1 (aP b))=some (.int .i64 (b.length:Int)):=by rw[fe,aM]
  have e1:binOp .gtr (.int .i64 (b.length:Int)) (.int .i64 0)=some (.bool true):=by
   show some (PV.bool (decide ((b.length:Int) > 0)))=_;rw[decide_eq_true (by omega)]
  have e2:aF (.ptr k 0)=some (.ptr k 0):=rfl;have e3:aA (.ptr k 0) 72=some (.ptr k 72):=rfl;have e4:aA (.ptr k 0) 8=some (.ptr k 8):=rfl;have hw:=x.wl;have gk:∀ X:List PV,ay (aC h k (.cells X)) k=some X:=fun X=>fW hk
  have ld:∀ (w':List (BitVec 32)) (r':List UInt8) (n:Nat),w'.length=8→r'.length=64→ax 1 false (.ptr k 72) (aC h k (.cells (hC w' r' n)))=some (.int .i64 (n:Int)):=fun w' r' n h1 h2=>by
   rw[dL (gk _),aa4 h1 h2]
  have l1:=ld w r l.length hw x.hr;have rm:=Q9 l.length;have sl1:HH 1 64 (.ptr k 8) (some (.int .i64 ((l.length % 64:Nat):Int))) none (aC h k (.cells (hC w r l.length)))=some (.bX true k (8+l.length % 64) (64-l.length % 64) 1,aC h k (.cells (hC w r l.length))):=by
   rw[xZ,gk,Option.ag,if_pos (by rw[DW hw x.hr];omega),sN,Option.ag,Tg,if_pos (by omega),Option.ag,if_neg (by omega),Int.toNat_natCast,Nat.mul_one];rfl
  -- what is taken
  generalize hc:b.take (64-l.length % 64)=c;have Kf:c.length=min (64-l.length % 64) b.length:=by rw[←hc,List.length_take]
  have hbc:b=c++b.drop c.length:=by
   rw[Kf,←hc];rcases Nat.le_total (64-l.length % 64) b.length with q | q
   ·rw[Nat.min_eq_left q,List.take_append_drop]
   ·rw[Nat.min_eq_right q,List.take_of_length_le q,List.drop_of_length_le (Nat.le_refl _),List.append_nil]
  have cp:copyV base (.bX true k (8+l.length % 64) (64-l.length % 64) 1) (.sl o 1 (aP b)) (aC h k (.cells (hC w r l.length)))=some (.int .i64 (c.length:Int),aC h k (.cells (hC w (patch r (l.length % 64) c) l.length))):=by
   rw[kX,jR,Option.ag,gk,Option.ag,if_pos ⟨rfl,by rw[DW hw x.hr];omega,gM _,fun _=>by rw[sW,mw]⟩,sW,hc,Q8 hw x.hr (by omega),aM];show some (_,aC _ k (.cells _))=_;rw[fO,Kf,Nat.min_comm]
  obtain⟨o',ho',sc⟩:=slc (o:=o) b (lo:=some (.int .i64 (c.length:Int))) (hi:=none) (a:=c.length) (b:=b.length) (fV b.length .i64 c.length (by omega)) rfl;have Oy:(patch r (l.length % 64) c).length=64:=by rw[tU (by rw[x.hr];omega)];exact x.hr
  have l2:=ld w (patch r (l.length % 64) c) l.length hw Oy;have ad:binOp .add (.int .i64 (l.length:Int)) (.int .i64 (c.length:Int))=some (.int .i64 ((l.length+c.length:Nat):Int)):=by
   show some (PV.int .i64 (IntKind.i64.wrap _))=_;rw[mJ _ _ (by omega)]
  have ad2:binOp .add (.int .i64 ((l.length % 64:Nat):Int)) (.int .i64 (c.length:Int))=some (.int .i64 ((l.length % 64+c.length:Nat):Int)):=by
   show some (PV.int .i64 (IntKind.i64.wrap _))=_;rw[mJ _ _ (by omega)]
  have st:aS base 1 (.ptr k 72) (.int .i64 ((l.length+c.length:Nat):Int)) (aC h k (.cells (hC w (patch r (l.length % 64) c) l.length)))=some (aC h k (.cells (hC w (patch r (l.length % 64) c) (l++c).length))):=by
   rw[dA,gk,Option.ag,if_pos ⟨rfl,by rw[DW hw Oy];decide,rfl,fun _=>rfl⟩];have:(if k<base then aO (PV.int .i64 ((l.length+c.length:Nat):Int)).cells else(PV.int .i64 ((l.length+c.length:Nat):Int)).cells)=[.int .i64 ((l.length+c.length:Nat):Int)]:=by split<;>rfl
   rw[this,fZ,rX,Xu hw Oy];show some (aC _ k (.cells _))=_;rw[fO,List.length_append]
  rw[GG];simp only[e0,e1,e2,e3,e4,l1,rm,tM,sl1,cp,sc,l2,ad,ad2,st,Option.ag,az,aR];have hrest:(b.drop c.length).take (b.length-c.length)=b.drop c.length:=List.take_of_length_le (by rw[List.length_drop];omega);rw[hrest]
  by_cases hf:l.length % 64+c.length=64
  ·have eq:binOp .eql (.int .i64 ((l.length % 64+c.length:Nat):Int)) (.int .i64 64)=some (.bool true):=by rw[hf];rfl
   have x':=x.full hf;have ht:=Ka (h:=aC h k (.cells (hC w (patch r (l.length % 64) c) (l++c).length))) (b:=k) (w:=w) (r:=patch r (l.length % 64) c) (L:=[.int .i64 ((l++c).length:Int)]) base hw Oy (gk _);rw[fO]at ht;rw[eq,Option.ag,aR,ht,az];obtain⟨w2,r2,x2,q2⟩:=ih _ _ (l++c) (b.drop c.length) o' ho' (by rw[List.length_drop];omega) x' (by rw[List.length_append,List.length_drop];omega);rw[List.append_assoc,←hbc]at x2 q2;exact⟨w2,r2,x2,q2⟩
  ·have eq:binOp .eql (.int .i64 ((l.length % 64+c.length:Nat):Int)) (.int .i64 64)=some (.bool false):=by
    show some (PV.bool (((l.length % 64+c.length:Nat):Int) == 64))=_;rw[show(((l.length % 64+c.length:Nat):Int) == 64)=false by simp;omega]
   have x':=x.part (b:=c) (by omega);rw[eq,Option.ag,aL];obtain⟨w2,r2,x2,q2⟩:=ih _ _ (l++c) (b.drop c.length) o' ho' (by rw[List.length_drop];omega) x' (by rw[List.length_append,List.length_drop];omega);rw[List.append_assoc,←hbc]at x2 q2;exact⟨w2,r2,x2,q2⟩
theorem GQ (base:Nat) {k:Nat} (hk:k<size h) {w:List (BitVec 32)} {r l b:List UInt8} {o:Own} (ho:Nf o) (x:Hs w r l) (hl:l.length+b.length≤4611686018427387904) :
  ∃ w' r',Hs w' r' (l++b)∧ai T base 90 [.ptr k 0,.sl o 1 (aP b)] (aC h k (.cells (hC w r l.length)))=some (.cF [],aC h k (.cells (hC w' r' (l++b).length))):=by
 obtain⟨w2,r2,x2,q2⟩:=Ke (size h) hk b.length w r l b o ho (Nat.le_refl _) x hl;refine⟨w2,r2,x2,?_⟩;rw[S90,aJ];exact q2
end Go.Am.Qd
namespace Go.Am.Qd
variable {h:Hp}
theorem Kg (base:Nat):ai T base 89 [] h=some (.agg (aT eP),h):=by
 have hz:(rep 8 (PV.int .u32 0)).length=8:=rfl;have hb:dz (rep 8 (PV.int .u32 0)) [(0,1,(.int .u32 1779033703)),(1,1,(.int .u32 3144134277)),(2,1,(.int .u32 1013904242)),(3,1,(.int .u32 2773480762)),(4,1,(.int .u32 1359893119)),(5,1,(.int .u32 2600822924)),(6,1,(.int .u32 528734635)),(7,1,(.int .u32 1541459225))]=some (.agg (aT eP)):=rfl;rw[S89,ek,hb,Option.ag,jh aQ (Nat.le_refl _) hz (by rw[bZ];rfl) (kQ _),Option.ag,eE,AH aQ (by rw[bZ];rfl),Option.ag,LI,cI]
def zero64:List UInt8:=List.replicate 64 0
theorem Xv:Hs eP zero64 []:=⟨rfl,rfl,rfl⟩
theorem aa5 {w r n}:(hC w r n).all scalar=true:=by rw[hC,List.all_append,List.all_append,kQ,gM];rfl
theorem NS (base:Nat):ai T base 56 [] h=some (.ptr (size h) 0,ext h [.cells (hC eP zero64 0)]):=by
 have hb:dz (rep 8 (PV.int .u32 0)++rep 64 (PV.int .u8 0)++[PV.int .i64 0]) [(0,8,.agg (aT eP))]=some (.agg (hC eP zero64 0)):=rfl;have e:(PV.agg (hC eP zero64 0)).cells=hC eP zero64 0:=rfl;rw[S56,Kg,az,hb,Option.ag,ql,e,if_pos ⟨rfl,aa5⟩,az,m6];rfl
theorem adp {base k:Nat} {w r} {n:Nat} (hbs:base≤size h) (hw:w.length=8) (hr:r.length=64) (hg:ay h k=some (hC w r n)):ai T base 95 [.ptr k 0] h=some (.ptr (size h) 0,ext h [.cells (hC w r n)]):=by
 have e2:aF (.ptr k 0)=some (.ptr k 0):=rfl;have hz:(rep 8 (PV.int .u32 0)++rep 64 (PV.int .u8 0)++[PV.int .i64 0]).length=73:=rfl;rw[S95,e2,Option.ag,rC hg (DW hw hr),Option.ag,ek,jh aQ hbs hz (DW hw hr) aa5,Option.ag,eE,m6];rfl
/-! ### The padding -/
def rE (n:Nat):Nat:=if 64-n % 64<9 then 64-n % 64+64 else 64-n % 64
def oN (s:Nat):Nat→List UInt8
 | 0=>[]
 | i+1=>UInt8.ofNat (s >>> (8*i))::oN s i
theorem GR (s:Nat):∀ i,(oN s i).length=i
 | 0=>rfl
 | i+1=>by simp[oN,GR s i]
def TR (n s i:Nat):List UInt8:=128::(List.replicate (n-1-i) 0++oN s i)
theorem Ra {n s i:Nat} (h:i+1≤n):(TR n s i).length=n:=by simp[TR,GR];omega
theorem aeB {n s i:Nat} (h:i+2≤n):(TR n s i).set (n-1-i) (UInt8.ofNat (s >>> (8*i)))=TR n s (i+1):=by
 obtain⟨m,hm⟩ : ∃ m,n-1-i=m+1:=⟨n-2-i,by omega⟩;have h2:n-1-(i+1)=m:=by omega
 rw[TR,TR,hm,h2,List.set_cons_succ,List.replicate_succ',List.append_assoc,List.set_append_right _ _ (by rw[List.length_replicate];exact Nat.le_refl _),List.length_replicate,Nat.sub_self];rfl
def qO (n:Nat):List UInt8:=TR (rE n) (8*n) 8
theorem TS (n:Nat):9≤rE n∧rE n≤72:=by unfold rE;split<;>omega
theorem FW (s i:Nat) (hi:i≤7):(binOp .shr (.int .u64 (s:Int)) (.int .i64 ((8*i:Nat):Int))).ah (fun x=>ct x .u8)=some (.int .u8 ((UInt8.ofNat (s >>> (8*i))).toNat:Int)):=by
 show(if(((8*i:Nat)):Int)<0 then none else some (PV.int .u64 ((s:Int).fdiv (2 ^ (min (((8*i:Nat)):Int).toNat 64))))).ah _=_;rw[if_neg (by omega),Option.ag,Int.toNat_natCast,Nat.min_eq_left (by omega)];show some (PV.int .u8 (IntKind.u8.wrap _))=some (PV.int .u8 _);congr 2;have h2:((s:Int).fdiv (2 ^ (8*i)))=((s >>> (8*i):Nat):Int):=by
  rw[Nat.shiftRight_eq_div_pow,Int.fdiv_eq_ediv_of_nonneg _ (Int.pow_nonneg (by omega))];simp
 rw[h2];simp only[IntKind.wrap,IntKind.signed,IntKind.bits,Bool.false_and,Bool.false_eq_true,if_false];simp
theorem acA (n s:Nat) (hn:9≤n) (hn2:n≤72):∀ (m i:Nat),i+m=8 →
  adU (size h) (size h) (.int .i64 (i:Int)) (.int .u64 (s:Int)) (.int .i64 (n:Int)) (.bX true (size h) 0 n 1) (ext h [.cells (aP (TR n s i))])=some (.sl .full 1 (aP (TR n s 8)),h)
 | 0,i,hi=>by
  obtain rfl:i=8:=by omega
  rw[adi,show binOp .lss (.int .i64 ((8:Nat):Int)) (.int .i64 8)=some (.bool false) from rfl,Option.ag,aL,cc];have hl:(aP (TR n s 8)).length=n:=by rw[aM,Ra (by omega)]
  have hf:gY (size h) (ext h [.cells (aP (TR n s 8))]) (.bX true (size h) 0 n 1)=some (.sl .full 1 (aP (TR n s 8))):=by
   rw[xV,if_neg (by omega),aQ];show(rP 1 n ((aP (TR n s 8)).drop 0)).ah _=_;have ht:(aP (TR n s 8)).take n=aP (TR n s 8):=List.take_of_length_le (by omega);have hq:n≤(aP (TR n s 8)).length∧(aP (TR n s 8)).all scalar=true:=⟨by omega,gM _⟩;rw[List.drop_zero,lZ,ht,nQ,if_pos hq];rfl
  rw[ee,hf,Option.ag,jN,Option.ag,Option.ag,if_pos (by rw[iQ,(pL (.inr rfl) _).below];rfl),cI];rfl
 | m+1,i,hi=>by
  have ih:=acA n s hn hn2 m (i+1) (by omega);have hk:binOp .lss (.int .i64 (i:Int)) (.int .i64 8)=some (.bool true):=by
   show some (PV.bool (decide ((i:Int)<8)))=_;rw[decide_eq_true (by omega)]
  have a1:binOp .sub (.int .i64 (n:Int)) (.int .i64 1)=some (.int .i64 ((n-1:Nat):Int)):=by
   show some (PV.int .i64 (IntKind.i64.wrap ((n:Int)-1)))=_;rw[wrap_small (by omega) (by omega)];congr 2;omega
  have a2:binOp .sub (.int .i64 ((n-1:Nat):Int)) (.int .i64 (i:Int))=some (.int .i64 ((n-1-i:Nat):Int)):=by
   show some (PV.int .i64 (IntKind.i64.wrap (((n-1:Nat):Int)-(i:Int))))=_;rw[wrap_small (by omega) (by omega)];congr 2;omega
  have a3:binOp .mul (.int .i64 8) (.int .i64 (i:Int))=some (.int .i64 ((8*i:Nat):Int)):=by
   show some (PV.int .i64 (IntKind.i64.wrap (8*(i:Int))))=_;rw[wrap_small (by omega) (by omega)];simp
  have w1:IntKind.i64.wrap ((i:Int)+1)=((i+1:Nat):Int):=fy i (by omega);have a4:binOp .add (.int .i64 (i:Int)) (.int .i64 1)=some (.int .i64 ((i+1:Nat):Int)):=by rw[←w1];rfl
  have sh:=FW s i (by omega);rw[Option.aa]at sh;obtain⟨y,y1,y2⟩:=sh;have ix:cW (.bX true (size h) 0 n 1) (.int .i64 ((n-1-i:Nat):Int)) 1=some (.ptr (size h) (n-1-i)):=by
   rw[tA,if_pos rfl,iN .i64 (n-1-i) n (by omega),Option.ag,Nat.zero_add,Nat.mul_one]
  have st:aS (size h) 1 (.ptr (size h) (n-1-i)) (.int .u8 ((UInt8.ofNat (s >>> (8*i))).toNat:Int)) (ext h [.cells (aP (TR n s i))])=some (ext h [.cells (aP (TR n s (i+1)))]):=by
   rw[mL aQ (Nat.le_refl _) rfl rfl (by rw[aM,Ra (by omega)];omega),eE,←aeB (by omega)];simp[aP,List.map_set]
  rw[adi];simp only[hk,a1,a2,a3,a4,y1,y2,ix,st,Option.ag,aR];exact ih
theorem aom (N:Nat):List.flatten (List.replicate N [PV.int .u8 0])=aP (List.replicate N 0):=by
 rw[aP,List.map_replicate]
 induction N with
 | zero=>rfl
 | succ N ih=>rw[List.replicate_succ,List.flatten_cons,ih,List.replicate_succ];rfl
theorem adV (n:Nat) {k:Nat} {w r} (hn:n≤1152921504606846976) (N:Nat) (hN:N=rE n) (hw:w.length=8) (hr:r.length=64) (hg:ay h k=some (hC w r n)) :
  adS (size h) (size h) (.int .i64 (N:Int)) (.ptr k 0) h=some (.sl .full 1 (aP (qO n)),h):=by
 have hp:=TS n;rw[←hN]at hp;have hb:=bw (bq hg);have mk:PZ 5 [(.int .u8 0)] (.int .i64 (N:Int)) (.int .i64 (N:Int)) h=some (.bX true (size h) 0 N 1,ext h [.cells (aP (List.replicate N 0))]):=by
  rw[Qi,ad4 _ _ _ (by unfold gA;omega),Option.ag,PX];have:List.flatten (List.replicate N [PV.int .u8 0])=aP (List.replicate N 0):=by
   exact aom N
  rw[this];rfl
 have ix:cW (.bX true (size h) 0 N 1) (.int .i64 0) 1=some (.ptr (size h) 0):=by
  have:=iN .i64 0 N (by omega);rw[tA,if_pos rfl,show(0:Int)=((0:Nat):Int) from rfl,this,Option.ag]
 have hx:(List.replicate N (0:UInt8)).set 0 128=TR N (8*n) 0:=by
  obtain⟨m,rfl⟩ : ∃ m,N=m+1:=⟨N-1,by omega⟩;rw[TR,List.replicate_succ,List.set_cons_zero];simp[oN]
 have st:aS (size h) 1 (.ptr (size h) 0) (.int .u8 128) (ext h [.cells (aP (List.replicate N 0))])=some (ext h [.cells (aP (TR N (8*n) 0))]):=by
  rw[mL aQ (Nat.le_refl _) rfl rfl (by rw[aM,List.length_replicate];omega),eE,←hx];simp[aP,List.map_set]
 have e2:aF (.ptr k 0)=some (.ptr k 0):=rfl;have e3:aA (.ptr k 0) 72=some (.ptr k 72):=rfl;have ld:∀ X,ax 1 false (.ptr k 72) (ext h [.cells X])=some (.int .i64 (n:Int)):=fun X=>by
  rw[dL ((aX hb).trans hg),aa4 hw hr]
 have c1:ct (.int .i64 (n:Int)) .u64=some (.int .u64 (n:Int)):=by
  show some (PV.int .u64 (IntKind.u64.wrap (n:Int)))=_;congr 2;simp only[IntKind.wrap,IntKind.signed,IntKind.bits,Bool.false_and,Bool.false_eq_true,if_false];omega
 have c2:binOp .mul (.int .u64 (n:Int)) (.int .u64 8)=some (.int .u64 ((8*n:Nat):Int)):=by
  show some (PV.int .u64 (IntKind.u64.wrap ((n:Int)*8)))=_;congr 2;simp only[IntKind.wrap,IntKind.signed,IntKind.bits,Bool.false_and,Bool.false_eq_true,if_false];omega
 have hl:=acA (h:=h) N (8*n) hp.1 hp.2 8 0 rfl;simp only[show((0:Nat):Int)=0 from rfl]at hl;rw[aez];simp only[mk,ix,st,e2,e3,ld,c1,c2,Option.ag,az];rw[hl,hN];rfl
theorem aec (base:Nat) (n:Nat) {k:Nat} {w r} (hn:n≤1152921504606846976) (hw:w.length=8) (hr:r.length=64) (hg:ay h k=some (hC w r n)) :
  ai T base 96 [.ptr k 0] h=some (.sl .full 1 (aP (qO n)),h):=by
 have e2:aF (.ptr k 0)=some (.ptr k 0):=rfl;have e3:aA (.ptr k 0) 72=some (.ptr k 72):=rfl;have ld:ax 1 false (.ptr k 72) h=some (.int .i64 (n:Int)):=by rw[dL hg,aa4 hw hr]
 have a1:binOp .sub (.int .i64 64) (.int .i64 ((n % 64:Nat):Int))=some (.int .i64 ((64-n % 64:Nat):Int)):=by
  show some (PV.int .i64 (IntKind.i64.wrap (64-((n % 64:Nat):Int))))=_;rw[wrap_small (by omega) (by omega)];congr 2;omega
 rw[S96];simp only[e2,e3,ld,Q9,a1,Option.ag]
 by_cases hc:64-n % 64<9
 ·have b1:binOp .lss (.int .i64 ((64-n % 64:Nat):Int)) (.int .i64 9)=some (.bool true):=by
   show some (PV.bool (decide (((64-n % 64:Nat):Int)<9)))=_;rw[decide_eq_true (by omega)]
  have b2:binOp .add (.int .i64 ((64-n % 64:Nat):Int)) (.int .i64 64)=some (.int .i64 ((64-n % 64+64:Nat):Int)):=by
   show some (PV.int .i64 (IntKind.i64.wrap (((64-n % 64:Nat):Int)+64)))=_;rw[wrap_small (by omega) (by omega)];congr 2
  rw[b1,Option.ag,aR,b2,Option.ag];exact adV n hn _ (by unfold rE;rw[if_pos hc]) hw hr hg
 ·have b1:binOp .lss (.int .i64 ((64-n % 64:Nat):Int)) (.int .i64 9)=some (.bool false):=by
   show some (PV.bool (decide (((64-n % 64:Nat):Int)<9)))=_;rw[decide_eq_false (by omega)]
  rw[b1,Option.ag,aL];exact adV n hn _ (by unfold rE;rw[if_neg hc]) hw hr hg
end Go.Am.Qd
namespace Go.Am.Qd
variable {h:Hp}
def jD (w:List (BitVec 32)):List UInt8:=w.flatMap fun x=>[dK x 3,dK x 2,dK x 1,dK x 0]
def Rb (l:List UInt8):List UInt8:=jD (ws (l++qO l.length) ((l++qO l.length).length / 64))
theorem AJ {w:List (BitVec 32)} (hw:w.length=8):(jD w).length=32:=by
 have:∀ l:List (BitVec 32),(jD l).length=4*l.length:=by
  intro l;induction l with
  | nil=>rfl
  | cons a l ih=>rw[jD,List.flatMap_cons,List.length_append,←jD,ih];simp;omega
 rw[this,hw]
theorem kS (l:List UInt8):(Rb l).length=32:=AJ (Kb _ _)
theorem ya (l:List UInt8) (i:Nat) (x:UInt8):(aP l).set i (.int .u8 (x.toNat:Int))=aP (l.set i x):=by simp[aP,List.map_set]
theorem g3c {h:Hp} (X Y:gW) (Z:List PV):ay (ext h [X,Y,.cells Z]) (size h+2)=some Z:=by rw[eZ];rfl
theorem s3c {h:Hp} (X Y Z W:gW):aC (ext h [X,Y,Z]) (size h+2) W=ext h [X,Y,W]:=by rw[eu (by omega)];simp
theorem g3a {h:Hp} (X:List PV) (Y Z:gW):ay (ext h [.cells X,Y,Z]) (size h)=some X:=by rw[aQ];rfl
theorem s3a {h:Hp} (X Y Z W:gW):aC (ext h [X,Y,Z]) (size h) W=ext h [W,Y,Z]:=by rw[eu (Nat.le_refl _)];simp
def aed (Z:List UInt8) (i:Nat) (x:BitVec 32):List UInt8:=(((Z.set (4*i) (dK x 3)).set (4*i+1) (dK x 2)).set (4*i+2) (dK x 1)).set (4*i+3) (dK x 0)
theorem aaV (X Y:gW) {i j:Nat} (hi:i<8) (hj:j<4) (x:BitVec 32) (s:PV) {Z:List UInt8} (hz:Z.length=32) :
  acp (size h) (size h) (.int .i64 (j:Int)) (.ptr (size h+2) 0) (uV x) (.int .i64 (i:Int)) s (.ptr (size h) 0) (.int .i64 (i:Int)) (ext h [X,Y,.cells (aP Z)])
  = acp (size h) (size h) (.int .i64 ((j+1:Nat):Int)) (.ptr (size h+2) 0) (uV x) (.int .i64 (i:Int)) s (.ptr (size h) 0) (.int .i64 (i:Int)) (ext h [X,Y,.cells (aP (Z.set (4*i+j) (dK x (3-j))))]):=by
 have hk:binOp .lss (.int .i64 (j:Int)) (.int .i64 4)=some (.bool true):=by
  show some (PV.bool (decide ((j:Int)<4)))=_;rw[decide_eq_true (by omega)]
 have a1:binOp .mul (.int .i64 4) (.int .i64 (i:Int))=some (.int .i64 ((4*i:Nat):Int)):=by
  show some (PV.int .i64 (IntKind.i64.wrap (4*(i:Int))))=_;rw[wrap_small (by omega) (by omega)];simp
 have a2:binOp .add (.int .i64 ((4*i:Nat):Int)) (.int .i64 (j:Int))=some (.int .i64 ((4*i+j:Nat):Int)):=by
  show some (PV.int .i64 (IntKind.i64.wrap (((4*i:Nat):Int)+(j:Int))))=_;rw[wrap_small (by omega) (by omega)];simp
 have a3:binOp .mul (.int .i64 8) (.int .i64 (j:Int))=some (.int .i64 ((8*j:Nat):Int)):=by
  show some (PV.int .i64 (IntKind.i64.wrap (8*(j:Int))))=_;rw[wrap_small (by omega) (by omega)];simp
 have a4:binOp .sub (.int .i64 24) (.int .i64 ((8*j:Nat):Int))=some (.int .i64 ((8*(3-j):Nat):Int)):=by
  show some (PV.int .i64 (IntKind.i64.wrap (24-((8*j:Nat):Int))))=_;rw[wrap_small (by omega) (by omega)];congr 2;omega
 have w1:IntKind.i64.wrap ((j:Int)+1)=((j+1:Nat):Int):=fy j (by omega);have a5:binOp .add (.int .i64 (j:Int)) (.int .i64 1)=some (.int .i64 ((j+1:Nat):Int)):=by rw[←w1];rfl
 have a6:=vp .i64 x (8*(3-j)) (by omega);have a7:ct (uV (x >>> (8*(3-j)))) .u8=some (.int .u8 ((dK x (3-j)).toNat:Int)):=to8 _;have ix:=HQ 1 (size h+2) 0 (4*i+j) 32 (by omega);rw[Nat.zero_add,Nat.mul_one]at ix;have st:=mL (base:=size h) (b:=size h+2) (off:=4*i+j) (x:=.int .u8 ((dK x (3-j)).toNat:Int)) (g3c (h:=h) X Y (aP Z)) (by omega) rfl rfl (by rw[aM];omega);rw[ya,s3c]at st;rw[adf];simp only[hk,a1,a2,a3,a4,a5,a6,a7,ix,st,Option.ag,aR]
theorem aeC (X Y:gW) {i:Nat} (hi:i<8) (x:BitVec 32) (s:PV) {Z:List UInt8} (hz:Z.length=32) :
  acp (size h) (size h) (.int .i64 0) (.ptr (size h+2) 0) (uV x) (.int .i64 (i:Int)) s (.ptr (size h) 0) (.int .i64 (i:Int)) (ext h [X,Y,.cells (aP Z)])
  = ada (size h) (size h) (.ptr (size h+2) 0) (.int .i64 ((i+1:Nat):Int)) s (.ptr (size h) 0) (ext h [X,Y,.cells (aP (aed Z i x))]):=by
 have w1:IntKind.i64.wrap ((i:Int)+1)=((i+1:Nat):Int):=fy i (by omega);have a5:binOp .add (.int .i64 (i:Int)) (.int .i64 1)=some (.int .i64 ((i+1:Nat):Int)):=by rw[←w1];rfl
 have q0:=aaV (h:=h) X Y (j:=0) hi (by omega) x s hz;have q1:=aaV (h:=h) X Y (j:=1) hi (by omega) x s (Z:=Z.set (4*i+0) (dK x (3-0))) (by simp[hz]);have q2:=aaV (h:=h) X Y (j:=2) hi (by omega) x s (Z:=(Z.set (4*i+0) (dK x (3-0))).set (4*i+1) (dK x (3-1))) (by simp[hz]);have q3:=aaV (h:=h) X Y (j:=3) hi (by omega) x s (Z:=((Z.set (4*i+0) (dK x (3-0))).set (4*i+1) (dK x (3-1))).set (4*i+2) (dK x (3-2))) (by simp[hz]);have:=q0.trans (q1.trans (q2.trans q3));refine this.trans ?_;rw[adf,show binOp .lss (.int .i64 ((3+1:Nat):Int)) (.int .i64 4)=some (.bool false) from rfl,Option.ag,aL,a5,Option.ag];rfl
def outs (w:List (BitVec 32)):Nat→Nat→List UInt8→List UInt8
 | 0,_,Z=>Z
 | n+1,i,Z=>outs w n (i+1) (aed Z i (w.getD i 0))
theorem adq (X:List PV) (Y:gW) {w:List (BitVec 32)} (hw:w.length=8) (hX:X.length=32):∀ (n i:Nat) (Z:List UInt8),i+n=8→Z.length=32 →
  ada (size h) (size h) (.ptr (size h+2) 0) (.int .i64 (i:Int)) (.agg (aT w)) (.ptr (size h) 0) (ext h [.cells X,Y,.cells (aP Z)])=some (.agg (aP (outs w n i Z)),h)
 | 0,i,Z,hi,hz=>by
  obtain rfl:i=8:=by omega
  have hl:(aP Z).length=32:=by rw[aM,hz]
  have hf:gY (size h) (ext h [.cells (aP Z),Y,.cells (aP Z)]) (.agg (aP Z))=some (.agg (aP Z)):=by
   have:∀ (l:List UInt8) (n:Nat) (H:Hp),fN n H (aP l)=some (aP l):=by
    intro l n H;induction l with
    | nil=>rfl
    | cons a l ih=>show fN n H (.int .u8 a.toNat::aP l)=_;rw[fN,ih];rfl
   rw[Da,this];rfl
  rw[ade,show binOp .lss (.int .i64 ((8:Nat):Int)) (.int .i64 8)=some (.bool false) from rfl,Option.ag,aL,rC (g3c _ _ _) hl,Option.ag,jh (g3a _ _ _) (Nat.le_refl _) hX hl (gM _),Option.ag,s3a,AH (g3a _ _ _) hl,Option.ag,cc,ee,hf,Option.ag,jN,Option.ag,Option.ag,if_pos (by rw[iQ];show(belows _ (aP Z)&&_)=true;rw[mw];rfl),cI];rfl
 | n+1,i,Z,hi,hz=>by
  have ih:=adq X Y hw hX n (i+1) (aed Z i (w.getD i 0)) (by omega) (by simp[aed,hz]);have hk:binOp .lss (.int .i64 (i:Int)) (.int .i64 8)=some (.bool true):=by
   show some (PV.bool (decide ((i:Int)<8)))=_;rw[decide_eq_true (by omega)]
  have ia:sE 1 false 8 (.agg (aT w)) (.int .i64 (i:Int))=some (uV (w.getD i 0)):=by
   rw[vg,iN .i64 i 8 (by omega),Option.ag,y9,Nat.mul_one,jg,List.getD_eq_getElem?_getD,List.getElem?_eq_getElem (by omega)];rfl
  rw[ade,hk,Option.ag,aR,ia,Option.ag,aeC _ _ (by omega) _ _ hz];exact ih
theorem aeD {P Q:List UInt8} {a b c d:UInt8} {i:Nat} (hP:P.length=4*i) (x:BitVec 32):aed (P++a::b::c::d::Q) i x=(P++[dK x 3,dK x 2,dK x 1,dK x 0])++Q:=by
 unfold aed;rw[←hP,List.set_append_right _ _ (Nat.le_refl _),Nat.sub_self,List.set_append_right _ _ (by omega),Nat.add_sub_cancel_left,List.set_append_right _ _ (by omega),Nat.add_sub_cancel_left,List.set_append_right _ _ (by omega),Nat.add_sub_cancel_left,List.append_assoc];rfl
theorem adW (w:List (BitVec 32)):∀ (n i:Nat) (P:List UInt8),i+n=w.length→P.length=4*i→outs w n i (P++List.replicate (4*n) 0)=P++jD (w.drop i)
 | 0,i,P,hi,_=>by
  rw[List.drop_of_length_le (by omega)];rfl
 | n+1,i,P,hi,hP=>by
  have e:List.replicate (4*(n+1)) (0:UInt8)=0::0::0::0::List.replicate (4*n) 0:=by
   rw[show 4*(n+1)=4*n+1+1+1+1 by omega,List.replicate_succ,List.replicate_succ,List.replicate_succ,List.replicate_succ]
  rw[outs,e,aeD hP,adW w n (i+1) _ (by omega) (by simp[hP];omega),List.append_assoc,List.drop_eq_getElem_cons (show i<w.length by omega),jD,jD,List.flatMap_cons,List.getD_eq_getElem?_getD,List.getElem?_eq_getElem (show i<w.length by omega)];rfl
theorem agU {w:List (BitVec 32)} (hw:w.length=8):outs w 8 0 (List.replicate 32 0)=jD w:=by
 have:=adW w 8 0 [] (by omega) rfl;rwa [List.nil_append,List.nil_append,List.drop_zero]at this
theorem acB (base:Nat) {k:Nat} {w:List (BitVec 32)} {r l:List UInt8} (x:Hs w r l) (hl:l.length≤1000000000) (hg:ay h k=some (hC w r l.length)) :
  ai T base 61 [.ptr k 0] h=some (.agg (aP (Rb l)),h):=by
 have hb:=bw (bq hg);have hz:(rep 32 (.int .u8 0))=aP (List.replicate 32 0):=Xq 32;have hc:=adp (h:=ext h [.cells (aP (List.replicate 32 0))]) (base:=size h) (by rw[aW];omega) x.wl x.hr ((aX hb).trans hg);rw[aW,fA]at hc;have ht:=aec (h:=ext h [.cells (aP (List.replicate 32 0)),.cells (hC w r l.length)]) (size h) l.length (by omega) x.wl x.hr ((aX hb).trans hg);have hp:=TS l.length;have htl:(qO l.length).length=rE l.length:=Ra (by omega);obtain⟨w2,r2,x2,q2⟩:=GQ (h:=ext h [.cells (aP (List.replicate 32 0)),.cells (hC w r l.length)]) (size h) (k:=size h+1) (by rw[aW];show size h+1<size h+2;omega) (o:=.full) (.inr rfl) x (b:=qO l.length) (by omega);rw[Yh,Yh]at q2;have e2:aF (.ptr (size h+1) 0)=some (.ptr (size h+1) 0):=rfl;have e3:aA (.ptr (size h+1) 0) 0=some (.ptr (size h+1) 0):=rfl;have ld:∀ Z:List PV,ax 8 true (.ptr (size h+1) 0) (ext h [.cells (aP (List.replicate 32 0)),.cells (hC w2 r2 (l++qO l.length).length),.cells Z])=some (.agg (aT w2)):=fun Z=>by
  rw[ej,eZ];show(some (hC w2 r2 (l++qO l.length).length)).ah _=_;rw[Option.ag,EZ,if_pos (by rw[DW x2.wl x2.hr];decide),List.drop_zero,hC,List.take_left' (by rw[bZ,x2.wl])]
 have sz:size (ext h [.cells (aP (List.replicate 32 0)),.cells (hC w2 r2 (l++qO l.length).length)])=size h+2:=by rw[aW];rfl
 have ol:=adq (h:=h) (aP (List.replicate 32 0)) (.cells (hC w2 r2 (l++qO l.length).length)) x2.wl (by rw[aM];rfl) 8 0 (List.replicate 32 0) rfl rfl;simp only[show((0:Nat):Int)=0 from rfl]at ol;rw[agU x2.wl,x2.hw]at ol;have lst:[gW.cells (aP (List.replicate 32 0))].length=1:=rfl;rw[lst]at hc;rw[S61,hz,ek,hc,az];simp only[List.cons_append,List.nil_append];rw[ht,az,q2,az,ek,sz,fA,e2,Option.ag,e3,Option.ag];simp only[List.cons_append,List.nil_append];rw[ld,Option.ag,x2.hw];exact ol
end Go.Am.Qd
namespace Go.Am.Qd
variable {h:Hp}
def e8:PV:=.sl .full 1 []
theorem ge8:gZ 1 e8:=.inr rfl
theorem Re (k:Hp) (T:Nat) (es:List PV):∃ g,gH k T es=ext k g:=by
 unfold gH;split
 ·exact⟨[],by simp[ext]⟩
 ·exact⟨_,rfl⟩
theorem DX (c:UInt8):(cH 1 false [(.int .u8 0)] 1 [(0,strip (.int .u8 (c.toNat:Int)))])=some (.sl .full 1 [.int .u8 (c.toNat:Int)]):=rfl
theorem alI:(cH 1 false [(.int .u8 0)] 1 [(0,strip (.int .u8 0))])=some (.sl .full 1 [.int .u8 (((0:UInt8).toNat:Nat):Int)]):=rfl
theorem LL {k:Hp} (out:List UInt8) (c:UInt8) (hl:out.length+1≤1000000):qH 5 1 (gV k e8 1 (aP out)) (.sl .full 1 [.int .u8 (c.toNat:Int)]) (gH k 5 (aP out))=some (gV k e8 1 (aP (out++[c])),gH k 5 (aP (out++[c]))):=by
 rw[pF,jR,Option.ag,afF ge8 out c (by unfold gA;omega)]
theorem len8 {k:Hp} (out:List UInt8):cB false (gV k e8 1 (aP out))=some (.int .i64 (out.length:Int)):=by rw[Ww ge8,aM]
section
variable {v:PV} {l:List UInt8} (hv:∀ g,Rd (ext h g) v l) (hl:l.length≤900000) (x0:PV) (Z:gW)
include hv hl
theorem aa6:∀ (m i:Nat),i+m=l.length→Lr (size h) (size h) (.int .i64 (i:Int)) v (gV (ext h [Z]) e8 1 (aP (l.take i))) x0 (gH (ext h [Z]) 5 (aP (l.take i)))
  = Gl (size h) (size h) (gV (ext h [Z]) e8 1 (aP (l++[128]))) x0 v (gH (ext h [Z]) 5 (aP (l++[128])))
 | 0,i,hi=>by
  obtain rfl:i=l.length:=by omega
  have hn:=(hv []).len;have hk:binOp .lss (.int .i64 (l.length:Int)) (.int .i64 (l.length:Int))=some (.bool false):=by
   show some (PV.bool (decide ((l.length:Int)<(l.length:Int))))=_;rw[decide_eq_false (by omega)]
  rw[Gp,hn,Option.ag,hk,Option.ag,aL,show(PV.int .u8 128)=.int .u8 (((128:UInt8).toNat:Nat):Int) from rfl,DX,Option.ag,List.take_length,LL _ _ (by omega),az]
 | m+1,i,hi=>by
  have ih:=aa6 m (i+1) (by omega);have hn:=(hv []).len;have hk:binOp .lss (.int .i64 (i:Int)) (.int .i64 (l.length:Int))=some (.bool true):=by
   show some (PV.bool (decide ((i:Int)<(l.length:Int))))=_;rw[decide_eq_true (by omega)]
  have hlt:i<l.length:=by omega
  obtain⟨g,hg⟩:=Re (ext h [Z]) 5 (aP (l.take i));rw[fA]at hg;obtain⟨a,a1,a2⟩:=(hv ([Z]++g)).rd .i64 i l[i] (List.getElem?_eq_getElem hlt);rw[←hg]at a2;have w1:IntKind.i64.wrap ((i:Int)+1)=((i+1:Nat):Int):=fy i (by omega);have a5:binOp .add (.int .i64 (i:Int)) (.int .i64 1)=some (.int .i64 ((i+1:Nat):Int)):=by rw[←w1];rfl
  rw[Gp,hn,Option.ag,hk,Option.ag,aR,a1,Option.ag,a2,Option.ag,DX,Option.ag,LL _ _ (by rw[List.length_take];omega),az,a5,Option.ag,List.take_append_getElem hlt];exact ih
theorem aa7:∀ (m:Nat) (X:List UInt8),m≤63→(X.length+m) % 64=56→X.length+m≤950000→Gl (size h) (size h) (gV (ext h [Z]) e8 1 (aP X)) x0 v (gH (ext h [Z]) 5 (aP X))
  = vm (size h) (size h) (.int .i64 7) (.int .u64 ((8*l.length:Nat):Int)) (gV (ext h [Z]) e8 1 (aP (X++List.replicate m 0))) x0 (gH (ext h [Z]) 5 (aP (X++List.replicate m 0)))
 | 0,X,_,hm,hX=>by
  have hk:binOp .neq (.int .i64 ((X.length % 64:Nat):Int)) (.int .i64 56)=some (.bool false):=by
   rw[show X.length % 64=56 by simpa using hm];rfl
  have c1:ct (.int .i64 (l.length:Int)) .u64=some (.int .u64 (l.length:Int)):=by
   show some (PV.int .u64 (IntKind.u64.wrap (l.length:Int)))=_;congr 2;simp only[IntKind.wrap,IntKind.signed,IntKind.bits,Bool.false_and,Bool.false_eq_true,if_false];omega
  have c2:binOp .mul (.int .u64 (l.length:Int)) (.int .u64 8)=some (.int .u64 ((8*l.length:Nat):Int)):=by
   show some (PV.int .u64 (IntKind.u64.wrap ((l.length:Int)*8)))=_;congr 2;simp only[IntKind.wrap,IntKind.signed,IntKind.bits,Bool.false_and,Bool.false_eq_true,if_false];omega
  rw[Gq,len8,Option.ag,Q9,Option.ag,hk,Option.ag,aL,(hv []).len,Option.ag,c1,Option.ag,c2,Option.ag];simp only[List.replicate_zero,List.append_nil]
 | m+1,X,aqN,hm,hX=>by
  have hk:binOp .neq (.int .i64 ((X.length % 64:Nat):Int)) (.int .i64 56)=some (.bool true):=by
   show some (PV.bool (!(((X.length % 64:Nat):Int) == 56)))=_;rw[show((((X.length % 64:Nat):Int)) == 56)=false by simp;omega];rfl
  have ih:=aa7 m (X++[0]) (by omega) (by simp;omega) (by simp;omega);rw[Gq,len8,Option.ag,Q9,Option.ag,hk,Option.ag,aR,alI,Option.ag,LL _ _ (by omega),az,ih,List.append_assoc];rfl
omit hv hl
theorem aa8 (s:Nat):∀ (m:Nat) (X:List UInt8),m≤8→X.length+m≤960000→vm (size h) (size h) (.int .i64 ((m:Int)-1)) (.int .u64 (s:Int)) (gV (ext h [Z]) e8 1 (aP X)) x0 (gH (ext h [Z]) 5 (aP X))
  = vm (size h) (size h) (.int .i64 (-1)) (.int .u64 (s:Int)) (gV (ext h [Z]) e8 1 (aP (X++oN s m))) x0 (gH (ext h [Z]) 5 (aP (X++oN s m)))
 | 0,X,_,_=>by rw[oN,List.append_nil];rfl
 | m+1,X,hm,hX=>by
  have ih:=aa8 s m (X++[UInt8.ofNat (s >>> (8*m))]) (by omega) (by simp;omega);have e:(((m+1:Nat):Int)-1)=(m:Int):=by omega
  have hk:binOp .geq (.int .i64 (m:Int)) (.int .i64 0)=some (.bool true):=by
   show some (PV.bool (decide ((m:Int)≥0)))=_;rw[decide_eq_true (by omega)]
  have a3:binOp .mul (.int .i64 8) (.int .i64 (m:Int))=some (.int .i64 ((8*m:Nat):Int)):=by
   show some (PV.int .i64 (IntKind.i64.wrap (8*(m:Int))))=_;rw[wrap_small (by omega) (by omega)];simp
  have sh:=FW s m (by omega);rw[Option.aa]at sh;obtain⟨y,y1,y2⟩:=sh;have a4:binOp .sub (.int .i64 (m:Int)) (.int .i64 1)=some (.int .i64 ((m:Int)-1)):=by
   show some (PV.int .i64 (IntKind.i64.wrap ((m:Int)-1)))=_;rw[wrap_small (by omega) (by omega)]
  rw[e,Gr,hk,Option.ag,aR,a3,Option.ag,y1,Option.ag,y2,Option.ag,DX,Option.ag,LL _ _ (by omega),az,a4,Option.ag,ih,List.append_assoc];rfl
end
end Go.Am.Qd
namespace Go.Am.Qd
variable {h:Hp}
theorem Rf (a:BitVec 32) (n:Nat) (hn:n<4294967296):binOp .mul (uV a) (.int .u32 (n:Int))=some (uV (a*BitVec.ofNat 32 n)):=by
 show some (PV.int .u32 (IntKind.u32.wrap ((a.toNat:Int)*(n:Int))))=some (PV.int .u32 _);congr 2;rw[BitVec.toNat_mul,BitVec.toNat_ofNat,Nat.mod_eq_of_lt (show n<2 ^ 32 by omega)];simp only[IntKind.wrap,IntKind.signed,IntKind.bits,Bool.false_and,Bool.false_eq_true,if_false];simp
theorem Rg (a b c d:UInt8):((a.toBitVec.setWidth 32*BitVec.ofNat 32 16777216+b.toBitVec.setWidth 32*BitVec.ofNat 32 65536)+c.toBitVec.setWidth 32*BitVec.ofNat 32 256)+d.toBitVec.setWidth 32=Cu a b c d:=by
 apply BitVec.eq_of_toNat_eq;have la:=a.toNat_lt;have lb:=b.toNat_lt;have lc:=c.toNat_lt;have ld:=d.toNat_lt;have w:∀ x:UInt8,(x.toBitVec.setWidth 32).toNat=x.toNat:=fun x=>by
  rw[BitVec.toNat_setWidth];exact Nat.mod_eq_of_lt (by have:=x.toNat_lt;omega)
 have s:∀ (x:UInt8) (k:Nat),k≤24→(x.toBitVec.setWidth 32 <<< k).toNat=x.toNat*2 ^ k:=fun x k hk=>by
  have:=x.toNat_lt;have h2:2 ^ k≤2 ^ 24:=Nat.pow_le_pow_right (by omega) hk;rw[BitVec.toNat_shiftLeft,w,Nat.shiftLeft_eq,Nat.mod_eq_of_lt]
  calc x.toNat*2 ^ k≤255*2 ^ 24:=Nat.mul_le_mul (by omega) h2
   _<2 ^ 32:=by decide
 have o:∀ x y k:Nat,y<2 ^ k→(x*2 ^ k) ||| y=x*2 ^ k+y:=fun x y k hy=>by
  rw[←Nat.shiftLeft_eq,Nat.shiftLeft_add_eq_or_of_lt hy]
 unfold Cu;rw[BitVec.toNat_or,BitVec.toNat_or,BitVec.toNat_or,s a 24 (by omega),s b 16 (by omega),s c 8 (by omega),w,o a.toNat _ 24 (by omega),
  show a.toNat*2 ^ 24+b.toNat*2 ^ 16=(a.toNat*256+b.toNat)*2 ^ 16 by omega,o _ _ 16 (by omega),
  show(a.toNat*256+b.toNat)*2 ^ 16+c.toNat*2 ^ 8=((a.toNat*256+b.toNat)*256+c.toNat)*2 ^ 8 by omega,o _ _ 8 (by omega)]
 rw[BitVec.toNat_add,BitVec.toNat_add,BitVec.toNat_add,BitVec.toNat_mul,BitVec.toNat_mul,BitVec.toNat_mul,w,w,w,w];simp only[BitVec.toNat_ofNat];omega
theorem BJ (base:Nat) (H:Hp) (x:BitVec 32) (n:Nat) (h1:1≤n) (h2:n≤31):gv (ai T base) 86 [uV x,.int .i64 (n:Int)] H=some (uV (rB x n),H):=by
 rw[gv,Q3 base x n h1 h2,Option.ag,forget,if_pos rfl]
section
variable {G:Hp} {base n0:Nat} (hbG:base≤size G) {all:List UInt8} (hall:all.length≤970000) {v3:PV} (DY:∀ (i:Nat) (c:UInt8),all[i]?=some c→cW v3 (.int .i64 (i:Int)) 1=some (.ep [.int .u8 (c.toNat:Int)] 0))
 {fr:Nat} (hfr:fr+64≤all.length) (v7 v2:PV)
include hbG hall DY hfr
theorem aa9:∀ (n i:Nat),i+n=64→Au base n0 (.int .i64 (i:Int)) (.ptr (size G) 0) (.int .i64 (fr:Int)) v3 v7 v2 (ext G [.cells (aT (wz ((all.drop fr).take 64) i))])
  = Au base n0 (.int .i64 64) (.ptr (size G) 0) (.int .i64 (fr:Int)) v3 v7 v2 (ext G [.cells (aT (sched ((all.drop fr).take 64) 64))])
 | 0,i,hi=>by
  obtain rfl:i=64:=by omega
  rw[show wz ((all.drop fr).take 64) 64=sched ((all.drop fr).take 64) 64 by simp[wz]];rfl
 | n+1,i,hi=>by
  have hlt:i<64:=by omega
  have ih:=aa9 n (i+1) (by omega);generalize hblk:(all.drop fr).take 64=blk at *;have hk:binOp .lss (.int .i64 (i:Int)) (.int .i64 64)=some (.bool true):=by
   show some (PV.bool (decide ((i:Int)<64)))=_;rw[decide_eq_true (by omega)]
  have w1:IntKind.i64.wrap ((i:Int)+1)=((i+1:Nat):Int):=fy i (by omega);have a5:binOp .add (.int .i64 (i:Int)) (.int .i64 1)=some (.int .i64 ((i+1:Nat):Int)):=by rw[←w1];rfl
  have hw:=Q4 blk (i:=i) (by omega);have hst:=mL (base:=base) (b:=size G) (off:=i) (x:=uV (om blk (sched blk i) i)) (aQ (h:=G) (x:=.cells (aT (wz blk i))) (l:=[])) hbG rfl rfl (by rw[bZ];omega);rw[GM,Q6 blk hlt,eE]at hst;have Xr:=HQ 1 (size G) 0 i 64 hlt;rw[Nat.zero_add,Nat.mul_one]at Xr
  by_cases HN:i<16
  ·have hk2:binOp .lss (.int .i64 (i:Int)) (.int .i64 16)=some (.bool true):=by
    show some (PV.bool (decide ((i:Int)<16)))=_;rw[decide_eq_true (by omega)]
   have m4:binOp .mul (.int .i64 4) (.int .i64 (i:Int))=some (.int .i64 ((4*i:Nat):Int)):=by
    show some (PV.int .i64 (IntKind.i64.wrap (4*(i:Int))))=_;rw[wrap_small (by omega) (by omega)];simp
   have af:binOp .add (.int .i64 (fr:Int)) (.int .i64 ((4*i:Nat):Int))=some (.int .i64 ((fr+4*i:Nat):Int)):=by
    show some (PV.int .i64 (IntKind.i64.wrap ((fr:Int)+((4*i:Nat):Int))))=_;rw[mJ _ _ (by omega)]
   have ak:∀ k:Nat,k≤3→binOp .add (.int .i64 ((fr+4*i:Nat):Int)) (.int .i64 (k:Int))=some (.int .i64 ((fr+4*i+k:Nat):Int)):=fun k hk=>by
    show some (PV.int .i64 (IntKind.i64.wrap (((fr+4*i:Nat):Int)+(k:Int))))=_;rw[mJ _ _ (by omega)]
   have a1:=ak 1 (by omega);have a2:=ak 2 (by omega);have a3:=ak 3 (by omega);simp only[show((1:Nat):Int)=1 from rfl,show((2:Nat):Int)=2 from rfl,show((3:Nat):Int)=3 from rfl]at a1 a2 a3;have GN:∀ k:Nat,k≤3→cW v3 (.int .i64 ((fr+4*i+k:Nat):Int)) 1=some (.ep [.int .u8 ((blk.getD (4*i+k) 0).toNat:Int)] 0):=fun k hk=>by
    have hg:all[fr+4*i+k]?=some (blk.getD (4*i+k) 0):=by
     rw[←hblk,List.getD_eq_getElem?_getD,List.getElem?_take_of_lt (by omega),List.getElem?_drop,←Nat.add_assoc,List.getElem?_eq_getElem (show fr+4*i+k<all.length by omega)];rfl
    exact DY _ _ hg
   have i0:=GN 0 (by omega);have i1:=GN 1 (by omega);have i2:=GN 2 (by omega);have i3:=GN 3 (by omega);rw[Nat.add_zero,Nat.add_zero]at i0;have lep:∀ (x:PV) (H:Hp),ax 1 false (.ep [x] 0) H=some x:=fun _ _=>rfl
   have hn:om blk (sched blk i) i=Cu (blk.getD (4*i) 0) (blk.getD (4*i+1) 0) (blk.getD (4*i+2) 0) (blk.getD (4*i+3) 0):=by unfold om;rw[if_pos HN]
   rw[hn,←Rg]at hst;have m24:=fun a=>Rf a 16777216 (by omega);have m16:=fun a=>Rf a 65536 (by omega);have m8:=fun a=>Rf a 256 (by omega)
   simp only[show((16777216:Nat):Int)=16777216 from rfl,show((65536:Nat):Int)=65536 from rfl,show((256:Nat):Int)=256 from rfl]at m24 m16 m8;rw[Av,hk,Option.ag,aR,hk2,Option.ag,aR];simp only[m4,af,a1,a2,a3,i0,i1,i2,i3,lep,Q0,m24,m16,m8,AG,Xr,hst,a5,Option.ag];exact ih
  ·have hk2:binOp .lss (.int .i64 (i:Int)) (.int .i64 16)=some (.bool false):=by
    show some (PV.bool (decide ((i:Int)<16)))=_;rw[decide_eq_false (by omega)]
   have sk:∀ k:Nat,k≤16→binOp .sub (.int .i64 (i:Int)) (.int .i64 (k:Int))=some (.int .i64 ((i-k:Nat):Int)):=fun k hk=>by
    show some (PV.int .i64 (IntKind.i64.wrap ((i:Int)-(k:Int))))=_;rw[wrap_small (by omega) (by omega)];congr 2;omega
   have k15:=sk 15 (by omega);have k2:=sk 2 (by omega);have k16:=sk 16 (by omega);have k7:=sk 7 (by omega);simp only[show((15:Nat):Int)=15 from rfl,show((2:Nat):Int)=2 from rfl,show((16:Nat):Int)=16 from rfl,show((7:Nat):Int)=7 from rfl]at k15 k2 k16 k7;have GN:∀ k:Nat,aN 1 64 (.ptr (size G) 0) (.int .i64 ((i-k:Nat):Int))=some (.ptr (size G) (i-k)):=fun k=>by
    have:=HQ 1 (size G) 0 (i-k) 64 (by omega);rwa [Nat.mul_one,Nat.zero_add]at this
   have LJ:∀ k:Nat,1≤k→k≤16→ax 1 false (.ptr (size G) (i-k)) (ext G [.cells (aT (wz blk i))])=some (uV ((sched blk i).getD (i-k) 0)):=fun k h1 h2=>by
    rw[dL aQ,Q5 blk (by omega)]
   have l15:=LJ 15 (by omega) (by omega);have l2:=LJ 2 (by omega) (by omega);have l16:=LJ 16 (by omega) (by omega);have l7:=LJ 7 (by omega) (by omega);have r7:=fun H x=>BJ base H x 7 (by omega) (by omega);have r18:=fun H x=>BJ base H x 18 (by omega) (by omega);have Xl:=fun H x=>BJ base H x 17 (by omega) (by omega);have r19:=fun H x=>BJ base H x 19 (by omega) (by omega)
   simp only[show((7:Nat):Int)=7 from rfl,show((18:Nat):Int)=18 from rfl,show((17:Nat):Int)=17 from rfl,show((19:Nat):Int)=19 from rfl]at r7 r18 Xl r19;have s3:=fun a=>vp .u64 a 3 (by omega);have s10:=fun a=>vp .u64 a 10 (by omega)
   simp only[show((3:Nat):Int)=3 from rfl,show((10:Nat):Int)=10 from rfl]at s3 s10;have hn:om blk (sched blk i) i=(((sched blk i).getD (i-16) 0+sg0 ((sched blk i).getD (i-15) 0))+(sched blk i).getD (i-7) 0)+sg1 ((sched blk i).getD (i-2) 0):=by unfold om;rw[if_neg HN]
   rw[hn]at hst;unfold sg0 sg1 at hst;rw[Av,hk,Option.ag,aR,hk2,Option.ag,aL];simp only[k15,k2,k16,k7,GN,l15,l2,l16,l7,r7,r18,Xl,r19,s3,s10,vo,AG,Xr,hst,a5,Option.ag,az,if_true];exact ih
end
end Go.Am.Qd
namespace Go.Am.Qd
variable {h:Hp}
theorem abb {G:Hp} {base n0:Nat} (hbG:base≤size G) {W:List (BitVec 32)} (hW:W.length=64) (v7 v3 v2 v8:PV):∀ (n i:Nat) (s:List (BitVec 32)),i+n=64→s.length=8 →
  Gm base n0 (.int .i64 (i:Int)) (.ptr (size G+1) 0) (.ptr (size G) 0) v7 v3 v2 v8 (ext G [.cells (aT W),.cells (aT s)])
  = Gn base n0 (.int .i64 0) v7 (.ptr (size G+1) 0) v3 v2 v8 (ext G [.cells (aT W),.cells (aT (wq W i n s))])
 | 0,i,s,hi,hs=>by
  obtain rfl:i=64:=by omega
  rw[Gu,show binOp .lss (.int .i64 ((64:Nat):Int)) (.int .i64 64)=some (.bool false) from rfl,Option.ag,aL];rfl
 | n+1,i,s,hi,hs=>by
  have hlt:i<64:=by omega
  obtain⟨a,b,c,d,e,f,g,k,rfl⟩ : ∃ a b c d e f g k,s=[a,b,c,d,e,f,g,k]:=by
   match s,hs with
   | [a,b,c,d,e,f,g,k],_=>exact⟨a,b,c,d,e,f,g,k,rfl⟩
  have ih:=abb (n0:=n0) hbG hW v7 v3 v2 v8 n (i+1) (rnd (ks.getD i 0) (W.getD i 0) [a,b,c,d,e,f,g,k]) (by omega) rfl;have hk:binOp .lss (.int .i64 (i:Int)) (.int .i64 64)=some (.bool true):=by
   show some (PV.bool (decide ((i:Int)<64)))=_;rw[decide_eq_true (by omega)]
  have w1:IntKind.i64.wrap ((i:Int)+1)=((i+1:Nat):Int):=fy i (by omega);have ad:binOp .add (.int .i64 (i:Int)) (.int .i64 1)=some (.int .i64 ((i+1:Nat):Int)):=by rw[←w1];rfl
  have lw:ax 1 false (.ptr (size G) i) (ext G [.cells (aT W),.cells (aT [a,b,c,d,e,f,g,k])])=some (uV (W.getD i 0)):=by
   rw[dL (g2a _ _),jg,List.getD_eq_getElem?_getD,List.getElem?_eq_getElem (by rw[hW];exact hlt)];rfl
  have GN:=ixe KS i 64 hlt;have lk:=UL hlt (ext G [.cells (aT W),.cells (aT [a,b,c,d,e,f,g,k])]);have ixw:=HQ 1 (size G) 0 i 64 hlt;rw[Nat.zero_add,Nat.mul_one]at ixw;have ixs:∀ j:Nat,j<8→aN 1 8 (.ptr (size G+1) 0) (.int .i64 (j:Int))=some (.ptr (size G+1) j):=fun j hj=>by
   have:=HQ 1 (size G+1) 0 j 8 hj;rwa [Nat.mul_one,Nat.zero_add]at this
  have x0:=ixs 0 (by omega);have x1:=ixs 1 (by omega);have x2:=ixs 2 (by omega);have x3:=ixs 3 (by omega);have x4:=ixs 4 (by omega);have x5:=ixs 5 (by omega);have x6:=ixs 6 (by omega);have x7:=ixs 7 (by omega);simp only[show((0:Nat):Int)=0 from rfl,show((1:Nat):Int)=1 from rfl,show((2:Nat):Int)=2 from rfl,show((3:Nat):Int)=3 from rfl,show((4:Nat):Int)=4 from rfl,show((5:Nat):Int)=5 from rfl,show((6:Nat):Int)=6 from rfl,show((7:Nat):Int)=7 from rfl]at x0 x1 x2 x3 x4 x5 x6 x7;have ldj:∀ (j:Nat),ax 1 false (.ptr (size G+1) j) (ext G [.cells (aT W),.cells (aT [a,b,c,d,e,f,g,k])])=(aT [a,b,c,d,e,f,g,k])[j]?:=fun j=>dL (J9 _ _)
  have r2:=fun H x=>BJ base H x 2 (by omega) (by omega);have r13:=fun H x=>BJ base H x 13 (by omega) (by omega);have r22:=fun H x=>BJ base H x 22 (by omega) (by omega)
  have r6:=fun H x=>BJ base H x 6 (by omega) (by omega);have r11:=fun H x=>BJ base H x 11 (by omega) (by omega);have r25:=fun H x=>BJ base H x 25 (by omega) (by omega)
  simp only[show((2:Nat):Int)=2 from rfl,show((13:Nat):Int)=13 from rfl,show((22:Nat):Int)=22 from rfl,show((6:Nat):Int)=6 from rfl,show((11:Nat):Int)=11 from rfl,show((25:Nat):Int)=25 from rfl]at r2 r13 r22 r6 r11 r25;have e0:(aT [a,b,c,d,e,f,g,k])[0]?=some (uV a):=rfl;have e1:(aT [a,b,c,d,e,f,g,k])[1]?=some (uV b):=rfl;have e2:(aT [a,b,c,d,e,f,g,k])[2]?=some (uV c):=rfl;have e3:(aT [a,b,c,d,e,f,g,k])[3]?=some (uV d):=rfl;have e4:(aT [a,b,c,d,e,f,g,k])[4]?=some (uV e):=rfl;have e5:(aT [a,b,c,d,e,f,g,k])[5]?=some (uV f):=rfl;have e6:(aT [a,b,c,d,e,f,g,k])[6]?=some (uV g):=rfl;have e7:(aT [a,b,c,d,e,f,g,k])[7]?=some (uV k):=rfl;have bd:∀ y0 y1 y2 y3 y4 y5 y6 y7:BitVec 32,dz (rep 8 (.int .u32 0)) [(0,1,uV y0),(1,1,uV y1),(2,1,uV y2),(3,1,uV y3),(4,1,uV y4),(5,1,uV y5),(6,1,uV y6),(7,1,uV y7)]=some (.agg (aT [y0,y1,y2,y3,y4,y5,y6,y7])):=fun _ _ _ _ _ _ _ _=>rfl
  have sto:∀ y:List (BitVec 32),y.length=8→aS base 8 (.ptr (size G+1) 0) (.agg (aT y)) (ext G [.cells (aT W),.cells (aT [a,b,c,d,e,f,g,k])])=some (ext G [.cells (aT W),.cells (aT y)]):=fun y hy=>by
   rw[jh (J9 _ _) (by omega) (by rw[bZ];rfl) (by rw[bZ,hy]) (kQ _),Yh]
  have alJ:=fun y0 y1 y2 y3 y4 y5 y6 y7=>sto [y0,y1,y2,y3,y4,y5,y6,y7] rfl
  rw[Gu];simp only[hk,aR,x0,x1,x2,x3,x4,x5,x6,x7,ldj,e0,e1,e2,e3,e4,e5,e6,e7,r2,r13,r22,r6,r11,r25,vo,AG,LC,LD,GN,lk,ixw,lw,bd,alJ,ad,Option.ag,az,if_true];exact ih
structure RI (h G:Hp) (k:Nat) (hs:List (BitVec 32)):Prop where
 ov:Ov h G
 res:ay G (size h)=some (aP (List.replicate 32 0))
 st:ay G k=some (aT hs)
 lt:size h<k
 l8:hs.length=8
theorem abc {G:Hp} {n0 base k:Nat} (hk:k<size G) (hbk:base≤k) {W s hs:List (BitVec 32)} (hs8:hs.length=8) (hsl:s.length=8) (v3 v2:PV) (fr:Nat) (hfr:fr≤970000):∀ (n i:Nat) (Z:List PV),i+n=8→(∀ j,i≤j→j<8→Z[j]?=some (uV (hs.getD j 0)))→Z.length=8 →
  Gn base n0 (.int .i64 (i:Int)) (.ptr k 0) (.ptr (size G+1) 0) v3 v2 (.int .i64 (fr:Int)) (ext (aC G k (.cells Z)) [.cells (aT W),.cells (aT s)])
  = qM base n0 (.int .i64 ((fr+64:Nat):Int)) v3 (.ptr k 0) v2 (ext (aC G k (.cells (TQ hs s n i Z))) [.cells (aT W),.cells (aT s)])
 | 0,i,Z,hi,_,_=>by
  obtain rfl:i=8:=by omega
  have a:binOp .add (.int .i64 (fr:Int)) (.int .i64 64)=some (.int .i64 ((fr+64:Nat):Int)):=by
   show some (PV.int .i64 (IntKind.i64.wrap ((fr:Int)+64)))=_;rw[wrap_small (by omega) (by omega)];congr 2
  rw[Gv,show binOp .lss (.int .i64 ((8:Nat):Int)) (.int .i64 8)=some (.bool false) from rfl,Option.ag,aL,a,Option.ag];rfl
 | n+1,i,Z,hi,hz,hzl=>by
  have ih:=abc (n0:=n0) (W:=W) hk hbk hs8 hsl v3 v2 fr hfr n (i+1) (Z.set i (uV (hs.getD i 0+s.getD i 0))) (by omega) (fun j h1 h2=>by rw[List.getElem?_set_ne (by omega)];exact hz j (by omega) h2) (by rw[List.length_set,hzl]);have hk1:binOp .lss (.int .i64 (i:Int)) (.int .i64 8)=some (.bool true):=by
   show some (PV.bool (decide ((i:Int)<8)))=_;rw[decide_eq_true (by omega)]
  have w1:IntKind.i64.wrap ((i:Int)+1)=((i+1:Nat):Int):=fy i (by omega);have ad:binOp .add (.int .i64 (i:Int)) (.int .i64 1)=some (.int .i64 ((i+1:Nat):Int)):=by rw[←w1];rfl
  have ip:=HQ 1 k 0 i 8 (by omega);have ip2:=HQ 1 (size G+1) 0 i 8 (by omega);rw[Nat.zero_add,Nat.mul_one]at ip ip2;have gk:ay (ext (aC G k (.cells Z)) [.cells (aT W),.cells (aT s)]) k=some Z:=by
   rw[aX (by rw[aJ];exact hk),fW hk]
  have ld:ax 1 false (.ptr k i) (ext (aC G k (.cells Z)) [.cells (aT W),.cells (aT s)])=some (uV (hs.getD i 0)):=by rw[dL gk,hz i (Nat.le_refl _) (by omega)]
  have gs:ay (ext (aC G k (.cells Z)) [.cells (aT W),.cells (aT s)]) (size G+1)=some (aT s):=by
   have:=eZ (h:=aC G k (.cells Z)) (l:=[.cells (aT W),.cells (aT s)]) (n:=1);rw[aJ]at this;rw[this];rfl
  have lds:ax 1 false (.ptr (size G+1) i) (ext (aC G k (.cells Z)) [.cells (aT W),.cells (aT s)])=some (uV (s.getD i 0)):=by
   rw[dL gs,jg,List.getD_eq_getElem?_getD,List.getElem?_eq_getElem (by omega)];rfl
  have st:=mL (base:=base) (x:=uV (hs.getD i 0+s.getD i 0)) gk hbk rfl rfl (show i<Z.length by omega);rw[aak (by rw[aJ];exact hk),fO]at st;rw[Gv];simp only[hk1,aR,ip,ip2,ld,lds,st,ad,AG,Option.ag];exact ih
end Go.Am.Qd
namespace Go.Am.Qd
variable {h:Hp}
theorem GU:∀ (l:List (BitVec 32)) (q r:Nat),r<4→q<l.length→(jD l)[4*q+r]?=some (dK (l.getD q 0) (3-r))
 | [],q,_,_,hq=>by simp at hq
 | x::l,0,r,hr,_=>by
  rw[jD,List.flatMap_cons,List.getElem?_append_left (by simp;omega)]
  match r,hr with
  | 0,_=>rfl
  | 1,_=>rfl
  | 2,_=>rfl
  | 3,_=>rfl
 | x::l,q+1,r,hr,hq=>by
  rw[jD,List.flatMap_cons,List.getElem?_append_right (by simp;omega),show 4*(q+1)+r - [dK x 3,dK x 2,dK x 1,dK x 0].length=4*q+r by simp;omega];exact GU l q r hr (by simpa using hq)
section
variable {k:Nat} {all:List UInt8} (hall:all.length≤960000) {v3:PV} (hlen:cB false v3=some (.int .i64 (all.length:Int))) (DY:∀ (i:Nat) (c:UInt8),all[i]?=some c→cW v3 (.int .i64 (i:Int)) 1=some (.ep [.int .u8 (c.toNat:Int)] 0)) (v2:PV)
include hall hlen DY
theorem alK {G:Hp} {hs:List (BitVec 32)} (x:RI h G k hs) {fr:Nat} (hfr:fr+64≤all.length) :
  ∃ G',RI h G' k (sU (sched ((all.drop fr).take 64) 64) hs)∧qM (size h) (size h) (.int .i64 (fr:Int)) v3 (.ptr k 0) v2 G=qM (size h) (size h) (.int .i64 ((fr+64:Nat):Int)) v3 (.ptr k 0) v2 G':=by
 have hk:=bw (bq x.st);generalize hblk:(all.drop fr).take 64=blk;have hrl:=sS (sched blk 64) 64 0 hs x.l8;have gk:ay (ext (aC G k (.cells (aT (sU (sched blk 64) hs)))) [.cells (aT (sched blk 64)),.cells (aT (wq (sched blk 64) 0 64 hs))]) k=some (aT (sU (sched blk 64) hs)):=by
  rw[aX (by rw[aJ];exact hk),fW hk]
 refine⟨_,⟨(x.ov.set (Nat.le_of_lt x.lt) _).ext _,?_,gk,x.lt,by simp[sU,hrl,x.l8]⟩,?_⟩
 ·rw[aX (by rw[aJ];exact bw (bq x.res)),bD (by have:=x.lt;omega)];exact x.res
 have hlt:binOp .lss (.int .i64 (fr:Int)) (.int .i64 (all.length:Int))=some (.bool true):=by
  show some (PV.bool (decide ((fr:Int)<(all.length:Int))))=_;rw[decide_eq_true (by omega)]
 have b64:dz (rep 64 (PV.int .u32 0)) []=some (.agg (rep 64 (.int .u32 0))):=rfl;have z64:rep 64 (PV.int .u32 0)=aT (List.replicate 64 0#32):=LH 64;have l64:(aT (List.replicate 64 0#32)).length=64:=by rw[bZ];rfl
 have w0:aT (List.replicate 64 0#32)=aT (wz blk 0):=by simp[wz,sched]
 have Bg:aS (size h) 64 (.ptr (size G) 0) (.agg (aT (wz blk 0))) (ext G [.cells (aT (wz blk 0))])=some (ext G [.cells (aT (wz blk 0))]):=by
  rw[←w0,jh aQ x.ov.size l64 l64 (kQ _),eE]
 have hD:=aa9 (G:=G) (base:=size h) (n0:=size h) x.ov.size (by omega) DY hfr (.ptr k 0) v2 64 0 rfl;rw[hblk]at hD;simp only[show((0:Nat):Int)=0 from rfl]at hD;have ld8:ax 8 true (.ptr k 0) (ext G [.cells (aT (sched blk 64))])=some (.agg (aT hs)):=rC ((aX hk).trans x.st) (by rw[bZ,x.l8]);have z8:(rep 8 (PV.int .u32 0)).length=8:=rfl;have sz:size (ext G [.cells (aT (sched blk 64))])=size G+1:=by rw[aW];rfl
 have Se:aS (size h) 8 (.ptr (size G+1) 0) (.agg (aT hs)) (ext G [.cells (aT (sched blk 64)),.cells (rep 8 (.int .u32 0))])=some (ext G [.cells (aT (sched blk 64)),.cells (aT hs)]):=by
  rw[jh (J9 _ _) (by have:=x.ov.size;omega) z8 (by rw[bZ,x.l8]) (kQ _),Yh]
 have hR:=abb (G:=G) (base:=size h) (n0:=size h) x.ov.size (gU blk 64) (.ptr k 0) v3 v2 (.int .i64 (fr:Int)) 64 0 hs rfl x.l8;simp only[show((0:Nat):Int)=0 from rfl]at hR;have hS:=abc (G:=G) (n0:=size h) (base:=size h) (W:=sched blk 64) (s:=wq (sched blk 64) 0 64 hs) hk (Nat.le_of_lt x.lt) x.l8 hrl v3 v2 fr (by omega) 8 0 (aT hs) rfl (fun j _ hj=>by rw[jg,List.getD_eq_getElem?_getD,List.getElem?_eq_getElem (by rw[x.l8];exact hj)];rfl) (by rw[bZ,x.l8]);simp only[show((0:Nat):Int)=0 from rfl]at hS;rw[jv (bq x.st)]at hS;have ha:=LK (R:=[]) x.l8 hrl;rw[List.append_nil,List.append_nil]at ha;rw[ha]at hS;have e4:Au (size h) (size h) (.int .i64 64) (.ptr (size G) 0) (.int .i64 (fr:Int)) v3 (.ptr k 0) v2 (ext G [.cells (aT (sched blk 64))])=Gm (size h) (size h) (.int .i64 0) (.ptr (size G+1) 0) (.ptr (size G) 0) (.ptr k 0) v3 v2 (.int .i64 (fr:Int)) (ext G [.cells (aT (sched blk 64)),.cells (aT hs)]):=by
  rw[Av,show binOp .lss (.int .i64 64) (.int .i64 64)=some (.bool false) from rfl,Option.ag,aL,ld8,Option.ag,ek,sz,fA];simp only[List.cons_append,List.nil_append];rw[Se,Option.ag]
 rw[Gs,hlen,Option.ag,hlt,Option.ag,aR,b64,Option.ag,z64,ek,w0,Bg,Option.ag,hD,e4,hR,hS];rfl
theorem abf (HO:all.length % 64=0):∀ (n j:Nat) (G:Hp),j+n=all.length / 64→RI h G k (ws all j) →
  ∃ G',RI h G' k (ws all (all.length / 64))∧qM (size h) (size h) (.int .i64 ((64*j:Nat):Int)) v3 (.ptr k 0) v2 G=qM (size h) (size h) (.int .i64 (all.length:Int)) v3 (.ptr k 0) v2 G'
 | 0,j,G,hj,x=>by
  obtain rfl:j=all.length / 64:=by omega
  exact⟨G,x,by rw[show 64*(all.length / 64)=all.length by omega]⟩
 | n+1,j,G,hj,x=>by
  obtain⟨G1,x1,e1⟩:=alK hall hlen DY v2 x (fr:=64*j) (by omega);obtain⟨G2,x2,e2⟩:=abf HO n (j+1) G1 (by omega) x1;exact⟨G2,x2,e1.trans e2⟩
omit hall hlen DY
theorem abg {G:Hp} {hs:List (BitVec 32)} (x:RI h G k hs):∀ (n j:Nat),j+n=32 →
  Ls (size h) (size h) (.int .i64 (j:Int)) (.ptr (size G) 0) (.ptr k 0) (.ptr (size h) 0) (ext G [.cells (aP ((jD hs).take j++List.replicate (32-j) 0))])=some (.agg (aP (jD hs)),h)
 | 0,j,hj=>by
  obtain rfl:j=32:=by omega
  have hl:=AJ x.l8;have hl2:(aP (jD hs)).length=32:=by rw[aM,hl]
  have e:(jD hs).take 32++List.replicate (32-32) 0=jD hs:=by rw[List.take_of_length_le (by omega)];simp
  have hlt:=bw (bq x.res);have g0:ay (ext G [.cells (aP (jD hs))]) (size h)=some (aP (List.replicate 32 0)):=(aX hlt).trans x.res;have st:=jh (base:=size h) (n:=32) g0 (Nat.le_refl _) (by rw[aM];rfl) hl2 (gM _);rw[aak hlt]at st;have g1:ay (ext (aC G (size h) (.cells (aP (jD hs)))) [.cells (aP (jD hs))]) (size h)=some (aP (jD hs)):=by
   rw[aX (by rw[aJ];exact hlt),fW hlt]
  have hf:∀ H,gY (size h) H (.agg (aP (jD hs)))=some (.agg (aP (jD hs))):=fun H=>by
   have:∀ (l:List UInt8) (n:Nat) (H:Hp),fN n H (aP l)=some (aP l):=by
    intro l n H;induction l with
    | nil=>rfl
    | cons a l ih=>show fN n H (.int .u8 a.toNat::aP l)=_;rw[fN,ih];rfl
   rw[Da,this];rfl
  have ov:Ov h (ext (aC G (size h) (.cells (aP (jD hs)))) [.cells (aP (jD hs))]):=(x.ov.set (Nat.le_refl _) _).ext _;rw[e,Gt,show binOp .lss (.int .i64 ((32:Nat):Int)) (.int .i64 32)=some (.bool false) from rfl,Option.ag,aL,rC aQ hl2,Option.ag,st,Option.ag,AH g1 hl2,Option.ag,cc,ee,hf,Option.ag,jN,Option.ag,Option.ag,if_pos (by rw[iQ];show(belows _ (aP _)&&_)=true;rw[mw];rfl),ov.bJ];rfl
 | n+1,j,hj=>by
  have ih:=abg x n (j+1) (by omega);have hl:=AJ x.l8;have hk:=bw (bq x.st);have h1:binOp .lss (.int .i64 (j:Int)) (.int .i64 32)=some (.bool true):=by
   show some (PV.bool (decide ((j:Int)<32)))=_;rw[decide_eq_true (by omega)]
  have h2:binOp .quo (.int .i64 (j:Int)) (.int .i64 4)=some (.int .i64 ((j / 4:Nat):Int)):=by
   show some (PV.int .i64 (IntKind.i64.wrap ((j:Int).tdiv 4)))=_;rw[show(j:Int).tdiv 4=((j / 4:Nat):Int) by rw[Int.tdiv_eq_ediv_of_nonneg (by omega)];rfl,wrap_small (by omega) (by omega)]
  have h3:binOp .rem (.int .i64 (j:Int)) (.int .i64 4)=some (.int .i64 ((j % 4:Nat):Int)):=by
   show some (PV.int .i64 ((j:Int).tmod 4))=_;rw[Int.tmod_eq_emod_of_nonneg (by omega)];rfl
  have h4:binOp .mul (.int .i64 8) (.int .i64 ((j % 4:Nat):Int))=some (.int .i64 ((8*(j % 4):Nat):Int)):=by
   show some (PV.int .i64 (IntKind.i64.wrap (8*((j % 4:Nat):Int))))=_;rw[wrap_small (by omega) (by omega)];simp
  have h5:binOp .sub (.int .i64 24) (.int .i64 ((8*(j % 4):Nat):Int))=some (.int .i64 ((8*(3-j % 4):Nat):Int)):=by
   show some (PV.int .i64 (IntKind.i64.wrap (24-((8*(j % 4):Nat):Int))))=_;rw[wrap_small (by omega) (by omega)];congr 2;omega
  have w1:IntKind.i64.wrap ((j:Int)+1)=((j+1:Nat):Int):=fy j (by omega);have ad:binOp .add (.int .i64 (j:Int)) (.int .i64 1)=some (.int .i64 ((j+1:Nat):Int)):=by rw[←w1];rfl
  have ip:=HQ 1 k 0 (j / 4) 8 (by omega);have ip2:=HQ 1 (size G) 0 j 32 (by omega);rw[Nat.zero_add,Nat.mul_one]at ip ip2;have ld:∀ Z:List PV,ax 1 false (.ptr k (j / 4)) (ext G [.cells Z])=some (uV (hs.getD (j / 4) 0)):=fun Z=>by
   rw[dL ((aX hk).trans x.st),jg,List.getD_eq_getElem?_getD,List.getElem?_eq_getElem (by rw[x.l8];omega)];rfl
  have a6:=vp .i64 (hs.getD (j / 4) 0) (8*(3-j % 4)) (by omega);have a7:ct (uV (hs.getD (j / 4) 0 >>> (8*(3-j % 4)))) .u8=some (.int .u8 ((dK (hs.getD (j / 4) 0) (3-j % 4)).toNat:Int)):=to8 _;have og:=GU hs (j / 4) (j % 4) (by omega) (by rw[x.l8];omega);rw[show 4*(j / 4)+j % 4=j by omega]at og;have hsx:((jD hs).take j++List.replicate (32-j) 0).set j (dK (hs.getD (j / 4) 0) (3-j % 4))=(jD hs).take (j+1)++List.replicate (32-(j+1)) 0:=by
   have hjl:j<(jD hs).length:=by omega
   rw[List.getElem?_eq_getElem hjl]at og;have og:=Option.some.inj og;rw[List.set_append_right _ _ (by rw[List.length_take];omega),List.length_take,Nat.min_eq_left (by omega),Nat.sub_self,show 32-j=(32-(j+1))+1 by omega,List.replicate_succ,List.set_cons_zero,←List.take_append_getElem hjl,og,List.append_assoc];rfl
  have st:=mL (base:=size h) (b:=size G) (off:=j) (x:=.int .u8 ((dK (hs.getD (j / 4) 0) (3-j % 4)).toNat:Int)) (aQ (h:=G) (x:=.cells (aP ((jD hs).take j++List.replicate (32-j) 0))) (l:=[])) x.ov.size rfl rfl (by rw[aM];simp;omega);rw[ya,hsx,eE]at st;rw[Gt];simp only[h1,h2,h3,h4,h5,ad,ip,ip2,ld,a6,a7,st,Option.ag,aR];exact ih
end
theorem NT (base:Nat) {v:PV} {l:List UInt8} (hv:∀ g,Rd (ext h g) v l) (hl:l.length≤900000):ai T base 51 [v] h=some (.agg (aP (Rb l)),h):=by
 have hz:(rep 32 (.int .u8 0))=aP (List.replicate 32 0):=Xq 32;have hp:=TS l.length;have hA:=aa6 hv hl (.ptr (size h) 0) (.cells (aP (List.replicate 32 0))) l.length 0 (by omega);have hB:=aa7 hv hl (.ptr (size h) 0) (.cells (aP (List.replicate 32 0))) (rE l.length-9) (l++[128]) (by omega) (by unfold rE;simp;split<;>omega) (by simp;omega);have hC:=aa8 (h:=h) (.ptr (size h) 0) (.cells (aP (List.replicate 32 0))) (8*l.length) 8 (l++[128]++List.replicate (rE l.length-9) 0) (by omega) (by simp;omega);have hall:l++[128]++List.replicate (rE l.length-9) 0++oN (8*l.length) 8=l++qO l.length:=by
  rw[qO,TR,show rE l.length-1-8=rE l.length-9 by omega];simp
 rw[hall]at hC;have htl:(qO l.length).length=rE l.length:=Ra (by omega);have hal:(l++qO l.length).length=l.length+rE l.length:=by rw[List.length_append,htl]
 have HO:(l++qO l.length).length % 64=0:=by rw[hal];unfold rE;split<;>omega
 have hd:Rb l=jD (ws (l++qO l.length) ((l++qO l.length).length / 64)):=rfl;rw[hd];generalize hX:l++qO l.length=all at *;have hne:all≠[]:=fun q=>by rw[q]at hal;simp at hal;omega
 have hv3:gV (ext h [.cells (aP (List.replicate 32 0))]) e8 1 (aP all)=.sl (.tok (size (ext h [.cells (aP (List.replicate 32 0))]))) 1 (aP all):=by
  unfold gV;cases all with
  | nil=>exact absurd rfl hne
  | cons a t=>rfl
 obtain⟨g,hg⟩:=Re (ext h [.cells (aP (List.replicate 32 0))]) 5 (aP all);rw[fA,List.cons_append,List.nil_append]at hg;have hlen:cB false (gV (ext h [.cells (aP (List.replicate 32 0))]) e8 1 (aP all))=some (.int .i64 (all.length:Int)):=len8 all;have DY:∀ (i:Nat) (c:UInt8),all[i]?=some c→cW (gV (ext h [.cells (aP (List.replicate 32 0))]) e8 1 (aP all)) (.int .i64 (i:Int)) 1=some (.ep [.int .u8 (c.toNat:Int)] 0):=fun i c hc=>by
  have hi:=(List.getElem?_eq_some_iff.1 hc).1;rw[hv3,jM,if_pos rfl,iN .i64 i _ (by rw[aM];exact hi),Option.ag,qg,hc];rfl
 generalize hV:gV (ext h [.cells (aP (List.replicate 32 0))]) e8 1 (aP all)=v3 at *
 -- the first words
 have x:RI h (ext (gH (ext h [.cells (aP (List.replicate 32 0))]) 5 (aP all)) [.cells (aT eP)]) (size (gH (ext h [.cells (aP (List.replicate 32 0))]) 5 (aP all))) (ws all 0):=by
  rw[hg];refine⟨(Ov.refl h).ext _ |>.ext _,?_,aQ,by rw[aW];simp,rfl⟩;rw[aX (by rw[aW];simp),aQ];rfl
 have szg:size h≤size (gH (ext h [.cells (aP (List.replicate 32 0))]) 5 (aP all)):=by rw[hg,aW];omega
 obtain⟨G2,x2,e2⟩:=abf (by omega) hlen DY (.ptr (size h) 0) HO (all.length / 64) 0 _ (by omega) x;have b8:dz (rep 8 (PV.int .u32 0)) [(0,1,(.int .u32 1779033703)),(1,1,(.int .u32 3144134277)),(2,1,(.int .u32 1013904242)),(3,1,(.int .u32 2773480762)),(4,1,(.int .u32 1359893119)),(5,1,(.int .u32 2600822924)),(6,1,(.int .u32 528734635)),(7,1,(.int .u32 1541459225))]=some (.agg (aT eP)):=rfl;have st8:=jh (base:=size h) (n:=8) (ds:=aT eP) (aQ (h:=gH (ext h [.cells (aP (List.replicate 32 0))]) 5 (aP all)) (x:=.cells (rep 8 (.int .u32 0))) (l:=[])) szg rfl (by rw[bZ];rfl) (kQ _);rw[eE]at st8;have e3:vm (size h) (size h) (.int .i64 (-1)) (.int .u64 ((8*l.length:Nat):Int)) v3 (.ptr (size h) 0) (gH (ext h [.cells (aP (List.replicate 32 0))]) 5 (aP all))=qM (size h) (size h) (.int .i64 0) v3 (.ptr (size (gH (ext h [.cells (aP (List.replicate 32 0))]) 5 (aP all))) 0) (.ptr (size h) 0) (ext (gH (ext h [.cells (aP (List.replicate 32 0))]) 5 (aP all)) [.cells (aT eP)]):=by
  rw[Gr,show binOp .geq (.int .i64 (-1)) (.int .i64 0)=some (.bool false) from rfl,Option.ag,aL,b8,Option.ag,ek,st8,Option.ag]
 have Tu:dz (rep 32 (PV.int .u8 0)) []=some (.agg (rep 32 (.int .u8 0))):=rfl;have l32:(aP (List.replicate 32 0)).length=32:=by rw[aM];rfl
 have abh:=jh (base:=size h) (n:=32) (ds:=aP (List.replicate 32 0)) (aQ (h:=G2) (x:=.cells (aP (List.replicate 32 0))) (l:=[])) x2.ov.size l32 l32 (gM _);rw[eE]at abh;have hO:=abg x2 32 0 rfl;simp only[show((0:Nat):Int)=0 from rfl,List.take_zero,List.nil_append,Nat.sub_zero]at hO;have e5:qM (size h) (size h) (.int .i64 (all.length:Int)) v3 (.ptr (size (gH (ext h [.cells (aP (List.replicate 32 0))]) 5 (aP all))) 0) (.ptr (size h) 0) G2=some (.agg (aP (jD (ws all (all.length / 64)))),h):=by
  have hlt:binOp .lss (.int .i64 (all.length:Int)) (.int .i64 (all.length:Int))=some (.bool false):=by
   show some (PV.bool (decide ((all.length:Int)<(all.length:Int))))=_;rw[decide_eq_false (by omega)]
  rw[Gs,hlen,Option.ag,hlt,Option.ag,aL,Tu,Option.ag,hz,ek,abh,Option.ag];exact hO
 have hbs:cH 1 false [(PV.int .u8 0)] 0 []=some e8:=rfl;simp only[show((0:Nat):Int)=0 from rfl,List.take_zero]at hA;have hC':vm (size h) (size h) (.int .i64 7) (.int .u64 ((8*l.length:Nat):Int)) (gV (ext h [.cells (aP (List.replicate 32 0))]) e8 1 (aP (l++[128]++List.replicate (rE l.length-9) 0))) (.ptr (size h) 0) (gH (ext h [.cells (aP (List.replicate 32 0))]) 5 (aP (l++[128]++List.replicate (rE l.length-9) 0)))=_:=hC;rw[S51,hz,ek,hbs,Option.ag];refine(show _=_ from hA).trans (hB.trans (hC'.trans ?_));rw[e3];exact e2.trans e5
end Go.Am.Qd
namespace Go.Am.Qd
variable {h:Hp}
def Rh (p:BitVec 32) (k:Nat) (r:BitVec 32):BitVec 32:=if(p >>> k) &&& 1#32≠r &&& 1#32 then(r >>> 1) ^^^ 3988292384#32 else r >>> 1
def kB (p:BitVec 32):Nat→BitVec 32→BitVec 32
 | 0,r=>r
 | k+1,r=>Rh p k (kB p k r)
theorem Xw (x:BitVec 32):x &&& 1#32=if x.getLsbD 0 then 1#32 else 0#32:=by
 rw[BitVec.and_one_eq_setWidth_ofBool_getLsbD];cases x.getLsbD 0<;>rfl
theorem NU (p r:BitVec 32) (k:Nat):round (r ^^^ p >>> k)=Rh p k r ^^^ p >>> (k+1):=by
 unfold round Rh;rw[Xw (r ^^^ p >>> k),Xw (p >>> k),Xw r,BitVec.getLsbD_xor,BitVec.ushiftRight_xor_distrib,BitVec.shiftRight_add];cases r.getLsbD 0<;>cases (p >>> k).getLsbD 0<;>simp<;>ac_rfl
theorem vu (p r:BitVec 32):∀ (m k:Nat),rounds m (kB p k r ^^^ p >>> k)=kB p (k+m) r ^^^ p >>> (k+m)
 | 0,k=>rfl
 | m+1,k=>by
  rw[rounds,NU];have:=vu p r m (k+1);rw[show k+(m+1)=k+1+m by omega];exact this
theorem Kh (r:BitVec 32) (c:UInt8):AE r c=kB (c.toBitVec.setWidth 32) 8 r:=by
 have:=vu (c.toBitVec.setWidth 32) r 8 0;rw[Nat.zero_add]at this;have hz:(c.toBitVec.setWidth 32) >>> 8=0#32:=by
  apply BitVec.eq_of_toNat_eq;have hc:=c.toNat_lt;rw[BitVec.toNat_ushiftRight,BitVec.toNat_setWidth,Nat.shiftRight_eq_div_pow];have:c.toBitVec.toNat=c.toNat:=rfl;rw[this,Nat.mod_eq_of_lt (by omega)];show c.toNat / 256=0;omega
 unfold AE;rw[hz,BitVec.xor_zero]at this;exact this
theorem UM (a:BitVec 32) (k:Nat) (hk:k≤31):binOp .quo (uV a) (.int .u32 ((2 ^ k:Nat):Int))=some (uV (a >>> k)):=by
 have hp:0<2 ^ k:=Nat.pow_pos (by omega);show(if((2 ^ k:Nat):Int)=0 then none else some (PV.int .u32 (IntKind.u32.wrap ((a.toNat:Int).tdiv ((2 ^ k:Nat):Int)))))=_;rw[if_neg (by omega)];show some (PV.int .u32 _)=some (PV.int .u32 _);congr 2;have ha:=a.isLt;have hd:a.toNat / 2 ^ k≤a.toNat:=Nat.div_le_self _ _;rw[BitVec.toNat_ushiftRight,Nat.shiftRight_eq_div_pow,show(a.toNat:Int).tdiv ((2 ^ k:Nat):Int)=((a.toNat / 2 ^ k:Nat):Int) by rw[Int.tdiv_eq_ediv_of_nonneg (by omega)];rfl];generalize a.toNat / 2 ^ k=q at *;simp only[IntKind.wrap,IntKind.signed,IntKind.bits,Bool.false_and,Bool.false_eq_true,if_false];omega
theorem alM (c:UInt8) (k:Nat) (hk:k≤7):(binOp .shr (.int .u8 (c.toNat:Int)) (.int .i64 (k:Int))).ah (fun x=>ct x .u32)=some (uV ((c.toBitVec.setWidth 32) >>> k)):=by
 show(if((k:Nat):Int)<0 then none else some (PV.int .u8 ((c.toNat:Int).fdiv (2 ^ (min ((k:Int)).toNat 8))))).ah _=_;rw[if_neg (by omega),Option.ag,Int.toNat_natCast,Nat.min_eq_left (by omega)];show some (PV.int .u32 (IntKind.u32.wrap _))=some (PV.int .u32 _);congr 2;have hc:=c.toNat_lt;have h2:((c.toNat:Int).fdiv (2 ^ k))=((c.toNat / 2 ^ k:Nat):Int):=by
  rw[Int.fdiv_eq_ediv_of_nonneg _ (Int.pow_nonneg (by omega))];simp
 have hd:c.toNat / 2 ^ k≤c.toNat:=Nat.div_le_self _ _;have:c.toBitVec.toNat=c.toNat:=rfl;rw[h2,BitVec.toNat_ushiftRight,BitVec.toNat_setWidth,Nat.shiftRight_eq_div_pow,this,Nat.mod_eq_of_lt (by omega)];generalize c.toNat / 2 ^ k=q at *;simp only[IntKind.wrap,IntKind.signed,IntKind.bits,Bool.false_and,Bool.false_eq_true,if_false];omega
section
variable {v:PV} {l:List UInt8} (hv:Rd h v l) (hl:l.length≤1000000) (base:Nat)
include hv hl
theorem Ri {i:Nat} (hi:i<l.length):∀ (m k:Nat) (r:BitVec 32),k+m=8→Ax base (size h) (.int .i64 (k:Int)) (uV (kB (l[i].toBitVec.setWidth 32) k r)) (.int .i64 (i:Int)) v h
  = Aw base (size h) (uV (kB (l[i].toBitVec.setWidth 32) 8 r)) (.int .i64 ((i+1:Nat):Int)) v h
 | 0,k,r,hk=>by
  obtain rfl:k=8:=by omega
  have w1:IntKind.i64.wrap ((i:Int)+1)=((i+1:Nat):Int):=fy i (by omega);have ad:binOp .add (.int .i64 (i:Int)) (.int .i64 1)=some (.int .i64 ((i+1:Nat):Int)):=by rw[←w1];rfl
  rw[Co,show binOp .lss (.int .i64 ((8:Nat):Int)) (.int .i64 8)=some (.bool false) from rfl,Option.ag,aL,ad,Option.ag]
 | m+1,k,r,hk=>by
  have ih:=Ri hi m (k+1) r (by omega);have hk1:binOp .lss (.int .i64 (k:Int)) (.int .i64 8)=some (.bool true):=by
   show some (PV.bool (decide ((k:Int)<8)))=_;rw[decide_eq_true (by omega)]
  have w1:IntKind.i64.wrap ((k:Int)+1)=((k+1:Nat):Int):=fy k (by omega);have ad:binOp .add (.int .i64 (k:Int)) (.int .i64 1)=some (.int .i64 ((k+1:Nat):Int)):=by rw[←w1];rfl
  obtain⟨a,a1,a2⟩:=hv.rd .i64 i l[i] (List.getElem?_eq_getElem hi);have sh:=alM l[i] k (by omega);rw[Option.aa]at sh;obtain⟨y,y1,y2⟩:=sh;have u1:(PV.int .u32 1)=uV 1#32:=rfl;have up:(PV.int .u32 3988292384)=uV 3988292384#32:=rfl;have q2:=fun x=>UM x 1 (by omega)
  simp only[show((2 ^ 1:Nat):Int)=2 from rfl]at q2;rw[Co];simp only[hk1,aR,a1,a2,y1,y2,u1,LC,q2,LG,Option.ag]
  by_cases hb:((l[i].toBitVec.setWidth 32) >>> k) &&& 1#32=(kB (l[i].toBitVec.setWidth 32) k r) &&& 1#32
  ·have hd:((((l[i].toBitVec.setWidth 32) >>> k) &&& 1#32) != ((kB (l[i].toBitVec.setWidth 32) k r) &&& 1#32))=false:=by rw[hb];simp
   rw[hd,aL,ad,Option.ag];have e:kB (l[i].toBitVec.setWidth 32) (k+1) r=kB (l[i].toBitVec.setWidth 32) k r >>> 1:=by rw[kB,Rh,if_neg (fun q=>q hb)]
   rw[e]at ih;exact ih
  ·have hd:((((l[i].toBitVec.setWidth 32) >>> k) &&& 1#32) != ((kB (l[i].toBitVec.setWidth 32) k r) &&& 1#32))=true:=bne_iff_ne.2 hb
   rw[hd,aR,up,vo,Option.ag,ad,Option.ag];have e:kB (l[i].toBitVec.setWidth 32) (k+1) r=kB (l[i].toBitVec.setWidth 32) k r >>> 1 ^^^ 3988292384#32:=by rw[kB,Rh,if_pos hb]
   rw[e]at ih;exact ih
theorem LM:∀ (m i:Nat) (r:BitVec 32),i+m=l.length→Aw base (size h) (uV r) (.int .i64 (i:Int)) v h=some (uV (~~~ ((l.drop i).foldl AE r)),h)
 | 0,i,r,hi=>by
  obtain rfl:i=l.length:=by omega
  have hk:binOp .lss (.int .i64 (l.length:Int)) (.int .i64 (l.length:Int))=some (.bool false):=by
   show some (PV.bool (decide ((l.length:Int)<(l.length:Int))))=_;rw[decide_eq_false (by omega)]
  have um:(PV.int .u32 4294967295)=uV 4294967295#32:=rfl;rw[Cn,hv.len,Option.ag,hk,Option.ag,aL,um,vo,Option.ag,AF,bL,List.drop_length,List.foldl_nil];rw[show r ^^^ 4294967295#32 = ~~~ r from by rw[show 4294967295#32=BitVec.allOnes 32 from rfl,BitVec.xor_allOnes]]
 | m+1,i,r,hi=>by
  have hlt:i<l.length:=by omega
  have hk:binOp .lss (.int .i64 (i:Int)) (.int .i64 (l.length:Int))=some (.bool true):=by
   show some (PV.bool (decide ((i:Int)<(l.length:Int))))=_;rw[decide_eq_true (by omega)]
  have hin:=Ri hv hl base hlt 8 0 r rfl;simp only[show((0:Nat):Int)=0 from rfl]at hin;have h0:kB (l[i].toBitVec.setWidth 32) 0 r=r:=rfl;rw[h0,←Kh]at hin;rw[Cn,hv.len,Option.ag,hk,Option.ag,aR,hin,LM m (i+1) _ (by omega),List.drop_eq_getElem_cons hlt,List.foldl_cons]
end
theorem NV {v:PV} {l:List UInt8} (hv:Rd h v l) (hl:l.length≤1000000) (base:Nat):ai T base 111 [v] h=some (uV (mK l),h):=by
 have:=LM hv hl (size h) l.length 0 4294967295#32 (by omega);rw[alk];exact this
end Go.Am.Qd
namespace Go.Am.Qd
variable {h:Hp}
def GV (h:Hp) (l:List UInt8):PV:=if l=[] then .sl .full 1 [] else .bX false (size h) 0 l.length 1
def BK (h:Hp) (l:List UInt8):Hp:=if l=[] then h else ext h [.cells (aP l)]
theorem GK.own {h H:Hp} {v:PV} {l:List UInt8} (hk:GK h H v (aP l)) (hv:l=[]→v=.sl .full 1 []):bk false true (size h) [v] H=some (GV h l,BK h l):=by
 obtain⟨g,rfl,h1,h2,h3⟩:=hk;unfold GV BK
 by_cases hl:l=[]
 ·rw[if_pos hl,if_pos hl,hv hl,pG]
  show(((fN (size h) (ext h g) [.sl .full 1 []]).ah fun vs=>if belows (size h) vs=true then some (vs,bJ (ext h g) (size h)) else none)).ah _=_;rw[ee,IU,Option.ag,jN,Option.ag,Option.ag,cI];rfl
 ·rw[if_neg hl,if_neg hl]
  rcases h3 with⟨h3,_⟩ | ⟨b,hb1,rfl,hb2⟩
  ·exact absurd (qo.1 h3) hl
  ·rw[pG,ju,if_neg (by omega),hb2,Option.ag,if_pos ⟨rfl,h2⟩,Option.ag,cI,aM];rfl
theorem GK.Ki {h H:Hp} {v:PV} {es:List PV} (hk:GK h H v es):∃ g,H=ext h g:=by
 obtain⟨g,hg,_⟩:=hk;exact⟨g,hg⟩
section
variable {v:PV} {l:List UInt8} (hv:∀ g,Rd (ext h g) v l) (hl:l.length≤900000)
include hv hl
theorem Cx:∀ (m i:Nat) {H:Hp} {u:PV},i+m=l.length→GK h H u (aP (l.take i))→(i=0→u=.sl .full 1 []) →
  Lw (size h) (size h) (.int .i64 (i:Int)) v u H=some (GV h l,BK h l)
 | 0,i,H,u,hi,hg,hu=>by
  obtain rfl:i=l.length:=by omega
  have hk:binOp .lss (.int .i64 (l.length:Int)) (.int .i64 (l.length:Int))=some (.bool false):=by
   show some (PV.bool (decide ((l.length:Int)<(l.length:Int))))=_;rw[decide_eq_false (by omega)]
  rw[List.take_length]at hg;rw[GB,(hv []).len,Option.ag,hk,Option.ag,aL];exact GK.own hg fun q=>hu (by rw[q];rfl)
 | m+1,i,H,u,hi,hg,hu=>by
  have hlt:i<l.length:=by omega
  have hk:binOp .lss (.int .i64 (i:Int)) (.int .i64 (l.length:Int))=some (.bool true):=by
   show some (PV.bool (decide ((i:Int)<(l.length:Int))))=_;rw[decide_eq_true (by omega)]
  have w1:IntKind.i64.wrap ((i:Int)+1)=((i+1:Nat):Int):=fy i (by omega);have ad:binOp .add (.int .i64 (i:Int)) (.int .i64 1)=some (.int .i64 ((i+1:Nat):Int)):=by rw[←w1];rfl
  obtain⟨g,rfl⟩:=GK.Ki hg;obtain⟨a,a1,a2⟩:=(hv g).rd .i64 i l[i] (List.getElem?_eq_getElem hlt);obtain⟨u',H',e1,e2⟩:=hg.app (size h) (o:=.full) (xs:=[.int .u8 ((l[i].toNat:Nat):Int)]) rfl rfl (by rw[aM,List.length_take];simp;omega) (by simp);have e3:aP (l.take i)++[.int .u8 ((l[i].toNat:Nat):Int)]=aP (l.take (i+1)):=by
   unfold aP;rw[←List.take_append_getElem hlt,List.map_append];rfl
  rw[e3]at e2;rw[GB,(hv []).len,Option.ag,hk,Option.ag,aR,a1,Option.ag,a2,Option.ag,DX,Option.ag,e1,az,ad,Option.ag];exact Cx m (i+1) (by omega) e2 (fun q=>absurd q (by omega))
theorem Kj (base:Nat):ai T base 76 [v] h=some (GV h l,BK h l):=by
 have:=Cx hv hl l.length 0 (by omega) (H:=h) (u:=.sl .full 1 []) (GK.nil (.inr rfl)) (fun _=>rfl);rw[S76];exact this
end
theorem abi (h:Hp) (l:List UInt8):GK h (BK h l) (GV h l) (aP l):=by
 unfold BK GV
 by_cases hl:l=[]
 ·rw[if_pos hl,if_pos hl,hl];exact GK.nil (.inr rfl)
 ·rw[if_neg hl,if_neg hl,←aM];exact GK.Wy (gM _) (mw _ _)
theorem Xx (a:BitVec 32):(binOp .rem (uV a) (.int .u32 256)).ah (fun x=>ct x .u8)=some (.int .u8 ((UInt8.ofNat a.toNat).toNat:Int)):=by
 show some (PV.int .u8 (IntKind.u8.wrap ((a.toNat:Int).tmod 256)))=some (PV.int .u8 _);congr 2;rw[Int.tmod_eq_emod_of_nonneg (by omega)];simp only[IntKind.wrap,IntKind.signed,IntKind.bits,Bool.false_and,Bool.false_eq_true,if_false];simp
theorem Cy (n:BitVec 32):∀ (m k:Nat) {H:Hp} {u:PV} {l:List UInt8},k+m=4→GK h H u (aP l)→l.length+m≤900000→(k=4→l≠[]) →
  Lx (size h) (size h) (.int .i64 (k:Int)) (uV (n >>> (8*k))) u H=some (GV h (l++(List.range' k m).map (dK n)),BK h (l++(List.range' k m).map (dK n)))
 | 0,k,H,u,l,hk,hg,hl,hne=>by
  obtain rfl:k=4:=by omega
  rw[GC,show binOp .lss (.int .i64 ((4:Nat):Int)) (.int .i64 4)=some (.bool false) from rfl,Option.ag,aL];have:=GK.own hg (fun q=>absurd q (hne rfl));rw[this];simp
 | m+1,k,H,u,l,hk,hg,hl,hne=>by
  have h1:binOp .lss (.int .i64 (k:Int)) (.int .i64 4)=some (.bool true):=by
   show some (PV.bool (decide ((k:Int)<4)))=_;rw[decide_eq_true (by omega)]
  have w1:IntKind.i64.wrap ((k:Int)+1)=((k+1:Nat):Int):=fy k (by omega);have ad:binOp .add (.int .i64 (k:Int)) (.int .i64 1)=some (.int .i64 ((k+1:Nat):Int)):=by rw[←w1];rfl
  have rm:=Xx (n >>> (8*k));rw[Option.aa]at rm;obtain⟨y,y1,y2⟩:=rm;have q8:=UM (n >>> (8*k)) 8 (by omega);simp only[show((2 ^ 8:Nat):Int)=256 from rfl]at q8;rw[←BitVec.shiftRight_add,show 8*k+8=8*(k+1) by omega]at q8;obtain⟨u',H',e1,e2⟩:=hg.app (size h) (o:=.full) (xs:=[.int .u8 (((dK n k).toNat:Nat):Int)]) rfl rfl (by rw[aM];simp;omega) (by simp);have e3:aP l++[.int .u8 (((dK n k).toNat:Nat):Int)]=aP (l++[dK n k]):=by simp[aP]
  rw[e3]at e2;have ih:=Cy n m (k+1) (by omega) e2 (by simp;omega) (fun _=>by simp);rw[GC];have y2':ct y .u8=some (.int .u8 (((dK n k).toNat:Nat):Int)):=y2;simp only[h1,aR,y1,y2',DX,e1,q8,ad,Option.ag,az];rw[ih,List.append_assoc];rfl
theorem tV {v:PV} {l:List UInt8} (hv:∀ g,Rd (ext h g) v l) (hl:l.length≤800000) (base:Nat) (n:BitVec 32):ai T base 84 [v,uV n] h=some (GV h (l++br n),BK h (l++br n)):=by
 have hl2:=Cy n 4 0 rfl (abi h l) (by omega) (fun q=>absurd q (by omega));rw[S84,Kj hv (by omega),az];exact hl2
end Go.Am.Qd
namespace Go.Am.Qd
variable {h:Hp}
theorem Xy (h:Hp) (l:List UInt8):gY (size h) (BK h l) (GV h l)=some (BI l):=by
 unfold GV BK BI
 by_cases hl:l=[]
 ·rw[if_pos hl,if_pos hl,if_pos hl];rfl
 ·rw[if_neg hl,if_neg hl,if_neg hl,xV,if_neg (by omega),aQ]
  have ht:(aP l).take l.length=aP l:=List.take_of_length_le (by rw[aM];omega);have hq:l.length≤(aP l).length∧(aP l).all scalar=true:=⟨by rw[aM];omega,gM _⟩;show(rP 1 l.length ((aP l).drop 0)).ah _=_;rw[List.drop_zero,lZ,ht,nQ,if_pos hq];rfl
theorem Rj (h:Hp) (l:List UInt8):bJ (BK h l) (size h)=h:=by
 unfold BK;split
 ·exact bL
 ·exact cI
theorem Rk (n:Nat) (l:List UInt8):below n (BI l)=true:=by
 unfold BI;split
 ·exact(pL (.inr rfl) []).below n
 ·exact(pL (.inl rfl) l).below n
theorem abj (l:List UInt8):Rd h (BI l) l:=by
 unfold BI;split
 ·rename_i q;subst q;exact jS (.inr rfl) []
 ·exact jS (.inl rfl) l
theorem Kk {v:PV} {l:List UInt8} (hv:∀ g,Rd (ext h g) v l) (hl:l.length≤800000) (base:Nat):ai T base 85 [v] h=some (BI (l++br (mK l)),h):=by
 have h0:ext h []=h:=by simp[ext]
 have hv0:=hv [];rw[h0]at hv0;rw[S85,NV hv0 (by omega),az,tV hv hl,az,cc,ee,Xy,Option.ag,jN,Option.ag,Option.ag,if_pos (by rw[iQ,Rk];rfl),Rj];rfl
end Go.Am.Qd
namespace Go.Am.Qd
variable {h:Hp}
end Go.Am.Qd
namespace Go.Am.Qd
variable {h:Hp}
section
variable {v0:PV} {ps:List (PV × List UInt8)} (hlen:cB false v0=some (.int .i64 (ps.length:Int)))
 (DY:∀ (i:Nat) (p:PV × List UInt8),ps[i]?=some p→cW v0 (.int .i64 (i:Int)) 1=some (.ep [p.1] 0)) (hrd:∀ p∈ps,∀ g,Rd (ext h g) p.1 p.2) (hps:ps.length≤1000)
include hlen DY hrd hps
theorem LN {i:Nat} {p:PV × List UInt8} (hp:ps[i]?=some p) {acc:List UInt8} (hl:acc.length+p.2.length≤900000):∀ (m j:Nat) {H:Hp} {u:PV},j+m=p.2.length→GK h H u (aP (acc++p.2.take j))→(acc++p.2.take j=[]→u=.sl .full 1 []) →
  ∃ H' u',GK h H' u' (aP (acc++p.2))∧(acc++p.2=[]→u'=.sl .full 1 [])∧Lt (size h) (size h) (.int .i64 (j:Int)) (.int .i64 (i:Int)) v0 u H=Gw (size h) (size h) (.int .i64 ((i+1:Nat):Int)) v0 u' H'
 | 0,j,H,u,hj,hg,hu=>by
  obtain rfl:j=p.2.length:=by omega
  rw[List.take_length]at hg hu;have hi:=(List.getElem?_eq_some_iff.1 hp).1;obtain⟨g,rfl⟩:=GK.Ki hg;have hr:=hrd p (List.mem_of_getElem? hp) g;have lep:∀ (x:PV) (H:Hp),ax 1 false (.ep [x] 0) H=some x:=fun _ _=>rfl
  have hk:binOp .lss (.int .i64 (p.2.length:Int)) (.int .i64 (p.2.length:Int))=some (.bool false):=by
   show some (PV.bool (decide ((p.2.length:Int)<(p.2.length:Int))))=_;rw[decide_eq_false (by omega)]
  have w1:IntKind.i64.wrap ((i:Int)+1)=((i+1:Nat):Int):=fy i (by omega);have ad:binOp .add (.int .i64 (i:Int)) (.int .i64 1)=some (.int .i64 ((i+1:Nat):Int)):=by rw[←w1];rfl
  refine⟨_,_,hg,hu,?_⟩;rw[Gz,DY i p hp,Option.ag,lep,Option.ag,hr.len,Option.ag,hk,Option.ag,aL,ad,Option.ag]
 | m+1,j,H,u,hj,hg,hu=>by
  have hlt:j<p.2.length:=by omega
  obtain⟨g,rfl⟩:=GK.Ki hg;have hr:=hrd p (List.mem_of_getElem? hp) g;have lep:∀ (x:PV) (H:Hp),ax 1 false (.ep [x] 0) H=some x:=fun _ _=>rfl
  have hk:binOp .lss (.int .i64 (j:Int)) (.int .i64 (p.2.length:Int))=some (.bool true):=by
   show some (PV.bool (decide ((j:Int)<(p.2.length:Int))))=_;rw[decide_eq_true (by omega)]
  have w1:IntKind.i64.wrap ((j:Int)+1)=((j+1:Nat):Int):=fy j (by omega);have ad:binOp .add (.int .i64 (j:Int)) (.int .i64 1)=some (.int .i64 ((j+1:Nat):Int)):=by rw[←w1];rfl
  obtain⟨a,a1,a2⟩:=hr.rd .i64 j p.2[j] (List.getElem?_eq_getElem hlt);obtain⟨u',H',e1,e2⟩:=hg.app (size h) (o:=.full) (xs:=[.int .u8 ((p.2[j].toNat:Nat):Int)]) rfl rfl (by rw[aM,List.length_append,List.length_take];simp;omega) (by simp);have e3:aP (acc++p.2.take j)++[.int .u8 ((p.2[j].toNat:Nat):Int)]=aP (acc++p.2.take (j+1)):=by
   unfold aP;rw[←List.take_append_getElem hlt,←List.append_assoc,List.map_append (l₁:=acc++p.2.take j)];rfl
  rw[e3]at e2;obtain⟨H2,u2,g2,n2,q2⟩:=LN hp hl m (j+1) (by omega) e2 (fun q=>by
   have:=congrArg List.length q;rw[List.length_append,List.length_take,Nat.min_eq_left (by omega),List.length_nil]at this;omega)
  refine⟨H2,u2,g2,n2,?_⟩;rw[Gz];simp only[DY i p hp,lep,hr.len,hk,aR,a1,a2,DX,e1,ad,Option.ag,az];exact q2
theorem GW (hl:(ps.map (·.2)).flatten.length≤900000):∀ (m i:Nat) {H:Hp} {u:PV},i+m=ps.length→GK h H u (aP ((ps.take i).map (·.2)).flatten)→(((ps.take i).map (·.2)).flatten=[]→u=.sl .full 1 []) →
  Gw (size h) (size h) (.int .i64 (i:Int)) v0 u H=some (GV h (ps.map (·.2)).flatten,BK h (ps.map (·.2)).flatten)
 | 0,i,H,u,hi,hg,hu=>by
  obtain rfl:i=ps.length:=by omega
  rw[List.take_length]at hg hu;have hk:binOp .lss (.int .i64 (ps.length:Int)) (.int .i64 (ps.length:Int))=some (.bool false):=by
   show some (PV.bool (decide ((ps.length:Int)<(ps.length:Int))))=_;rw[decide_eq_false (by omega)]
  rw[Gy,hlen,Option.ag,hk,Option.ag,aL];exact GK.own hg hu
 | m+1,i,H,u,hi,hg,hu=>by
  have hlt:i<ps.length:=by omega
  have hk:binOp .lss (.int .i64 (i:Int)) (.int .i64 (ps.length:Int))=some (.bool true):=by
   show some (PV.bool (decide ((i:Int)<(ps.length:Int))))=_;rw[decide_eq_true (by omega)]
  have e:((ps.take (i+1)).map (·.2)).flatten=((ps.take i).map (·.2)).flatten++ps[i].2:=by
   rw[←List.take_append_getElem hlt,List.map_append,List.flatten_append];simp
  have hle:((ps.take i).map (·.2)).flatten.length+ps[i].2.length≤900000:=by
   rw[←List.length_append,←e];have e2:(ps.map (·.2)).flatten=((ps.take (i+1)).map (·.2)).flatten++((ps.drop (i+1)).map (·.2)).flatten:=by
    rw[←List.flatten_append,←List.map_append,List.take_append_drop]
   rw[e2,List.length_append]at hl;omega
  obtain⟨H2,u2,g2,n2,q2⟩:=LN hlen DY hrd hps (List.getElem?_eq_getElem hlt) hle ps[i].2.length 0 (H:=H) (u:=u) (by omega) (by rw[List.take_zero,List.append_nil];exact hg) (by rw[List.take_zero,List.append_nil];exact hu);rw[←e]at g2 n2;simp only[show((0:Nat):Int)=0 from rfl]at q2;rw[Gy,hlen,Option.ag,hk,Option.ag,aR,q2];exact GW hl m (i+1) (by omega) g2 n2
theorem NW (base:Nat) (hl:(ps.map (·.2)).flatten.length≤900000):ai T base 52 [v0] h=some (GV h (ps.map (·.2)).flatten,BK h (ps.map (·.2)).flatten):=by
 have:=GW hlen DY hrd hps hl ps.length 0 (H:=h) (u:=.sl .full 1 []) (by omega) (by rw[List.take_zero];exact GK.nil (.inr rfl)) (fun _=>rfl);rw[S52];exact this
end
end Go.Am.Qd
namespace Go.Am.Qd
variable {h:Hp}
section
variable {v0:PV} {ps:List (Own × List UInt8)} (hlen:cB false v0=some (.int .i64 (ps.length:Int)))
 (DY:∀ (i:Nat) (p:Own × List UInt8),ps[i]?=some p→cW v0 (.int .i64 (i:Int)) 1=some (.ep [.sl p.1 1 (aP p.2)] 0)) (hnf:∀ p∈ps,Nf p.1) (hps:ps.length≤1000) (hl:(ps.map (·.2)).flatten.length≤1000000000)
include hlen DY hnf hps hl
theorem ab3:∀ (m i:Nat) {w:List (BitVec 32)} {r:List UInt8},i+m=ps.length→Hs w r ((ps.take i).map (·.2)).flatten →
  adQ (size h) (size h) (.int .i64 (i:Int)) (.ptr (size h+1) 0) v0 (.ptr (size h) 0) (.int .i64 (ps.length:Int)) (ext h [.cells (aP (List.replicate 32 0)),.cells (hC w r ((ps.take i).map (·.2)).flatten.length)])
  = some (.agg (aP (Rb (ps.map (·.2)).flatten)),h)
 | 0,i,w,r,hi,x=>by
  obtain rfl:i=ps.length:=by omega
  rw[List.take_length]at x ⊢;have hk:binOp .lss (.int .i64 (ps.length:Int)) (.int .i64 (ps.length:Int))=some (.bool false):=by
   show some (PV.bool (decide ((ps.length:Int)<(ps.length:Int))))=_;rw[decide_eq_false (by omega)]
  have hs:=acB (h:=ext h [.cells (aP (List.replicate 32 0)),.cells (hC w r (ps.map (·.2)).flatten.length)]) (size h) (k:=size h+1) x hl (J9 _ _);have hd:(aP (Rb (ps.map (·.2)).flatten)).length=32:=by rw[aM,kS]
  have st:=jh (base:=size h) (n:=32) (ds:=aP (Rb (ps.map (·.2)).flatten)) (g2a (h:=h) (aP (List.replicate 32 0)) (hC w r (ps.map (·.2)).flatten.length)) (Nat.le_refl _) (by rw[aM];rfl) hd (gM _);rw[s2a]at st;have hf:∀ H,gY (size h) H (.agg (aP (Rb (ps.map (·.2)).flatten)))=some (.agg (aP (Rb (ps.map (·.2)).flatten))):=fun H=>by
   have:∀ (l:List UInt8) (n:Nat) (H:Hp),fN n H (aP l)=some (aP l):=by
    intro l n H;induction l with
    | nil=>rfl
    | cons a l ih=>show fN n H (.int .u8 a.toNat::aP l)=_;rw[fN,ih];rfl
   rw[Da,this];rfl
  rw[adg,hk,Option.ag,aL,hs,az,st,Option.ag,AH (g2a _ _) hd,Option.ag,cc,ee,hf,Option.ag,jN,Option.ag,Option.ag,if_pos (by rw[iQ];show(belows _ (aP _)&&_)=true;rw[mw];rfl),cI];rfl
 | m+1,i,w,r,hi,x=>by
  have hlt:i<ps.length:=by omega
  have hk:binOp .lss (.int .i64 (i:Int)) (.int .i64 (ps.length:Int))=some (.bool true):=by
   show some (PV.bool (decide ((i:Int)<(ps.length:Int))))=_;rw[decide_eq_true (by omega)]
  have w1:IntKind.i64.wrap ((i:Int)+1)=((i+1:Nat):Int):=fy i (by omega);have ad:binOp .add (.int .i64 (i:Int)) (.int .i64 1)=some (.int .i64 ((i+1:Nat):Int)):=by rw[←w1];rfl
  have e:((ps.take (i+1)).map (·.2)).flatten=((ps.take i).map (·.2)).flatten++ps[i].2:=by
   rw[←List.take_append_getElem hlt,List.map_append,List.flatten_append];simp
  have hle:((ps.take i).map (·.2)).flatten.length+ps[i].2.length≤1000000000:=by
   rw[←List.length_append,←e];have e2:(ps.map (·.2)).flatten=((ps.take (i+1)).map (·.2)).flatten++((ps.drop (i+1)).map (·.2)).flatten:=by
    rw[←List.flatten_append,←List.map_append,List.take_append_drop]
   rw[e2,List.length_append]at hl;omega
  obtain⟨w2,r2,x2,q2⟩:=GQ (h:=ext h [.cells (aP (List.replicate 32 0)),.cells (hC w r ((ps.take i).map (·.2)).flatten.length)]) (size h) (k:=size h+1) (by rw[aW];show size h+1<size h+2;omega) (hnf _ (List.getElem_mem hlt)) x (b:=ps[i].2) (by omega);rw[Yh,Yh,←e]at q2;rw[←e]at x2;have lep:∀ (y:PV) (H:Hp),ax 1 false (.ep [y] 0) H=some y:=fun _ _=>rfl
  have ih:=ab3 m (i+1) (by omega) x2;rw[adg];simp only[hk,aR,DY i _ (List.getElem?_eq_getElem hlt),lep,q2,ad,Option.ag,az];exact ih
theorem aee (base:Nat):ai T base 69 [v0] h=some (.agg (aP (Rb (ps.map (·.2)).flatten)),h):=by
 have hz:(rep 32 (.int .u8 0))=aP (List.replicate 32 0):=Xq 32;have hn:=NS (h:=ext h [.cells (aP (List.replicate 32 0))]) (size h);rw[aW,fA]at hn;have lst:[gW.cells (aP (List.replicate 32 0))].length=1:=rfl;rw[lst]at hn;have hp:=ab3 (h:=h) hlen DY hnf hps hl ps.length 0 (w:=eP) (r:=zero64) (by omega) Xv;simp only[show((0:Nat):Int)=0 from rfl]at hp;rw[S69,hz,ek,hn,az,hlen,Option.ag];exact hp
end
end Go.Am.Qd
namespace Go.Am.Qd
variable {h:Hp}
def Kl (c:UInt8):Bool:=(decide (97≤c.toNat)&&decide (c.toNat≤122))||(decide (48≤c.toNat)&&decide (c.toNat≤57))||decide (c.toNat=46)||decide (c.toNat=45)||decide (c.toNat=95)
def cL (s:List UInt8):Bool:=decide (1≤s.length)&&decide (s.length≤16)&&s.all Kl
theorem abl (c:UInt8) (n:Nat):binOp .geq (.int .u8 (c.toNat:Int)) (.int .u8 (n:Int))=some (.bool (decide (n≤c.toNat))):=by
 show some (PV.bool (decide ((c.toNat:Int)≥(n:Int))))=_;rw[DM]
theorem le8 (c:UInt8) (n:Nat):binOp .leq (.int .u8 (c.toNat:Int)) (.int .u8 (n:Int))=some (.bool (decide (c.toNat≤n))):=by
 show some (PV.bool (decide ((c.toNat:Int)≤(n:Int))))=_;rw[Qm]
theorem eq8 (c:UInt8) (n:Nat):binOp .eql (.int .u8 (c.toNat:Int)) (.int .u8 (n:Int))=some (.bool (decide (c.toNat=n))):=by
 show some (PV.bool ((c.toNat:Int) == (n:Int)))=_;congr 2
 by_cases q:c.toNat=n
 ·rw[q];simp
 ·simp[q];omega
theorem vv {s:List UInt8} (hs:s.length≤16):∀ (m i:Nat),i+m=s.length→Ln (size h) (size h) (.int .i64 (i:Int)) (.str s) h=some (.bool ((s.drop i).all Kl),h)
 | 0,i,hi=>by
  obtain rfl:i=s.length:=by omega
  have hk:binOp .lss (.int .i64 (s.length:Int)) (.int .i64 (s.length:Int))=some (.bool false):=by
   show some (PV.bool (decide ((s.length:Int)<(s.length:Int))))=_;rw[decide_eq_false (by omega)]
  rw[Gg,lu,Option.ag,hk,Option.ag,aL,List.drop_length,cc];show some (PV.bool true,bJ h (size h))=_;rw[bL];rfl
 | m+1,i,hi=>by
  have hlt:i<s.length:=by omega
  have ih:=vv hs m (i+1) (by omega);have hk:binOp .lss (.int .i64 (i:Int)) (.int .i64 (s.length:Int))=some (.bool true):=by
   show some (PV.bool (decide ((i:Int)<(s.length:Int))))=_;rw[decide_eq_true (by omega)]
  have w1:IntKind.i64.wrap ((i:Int)+1)=((i+1:Nat):Int):=fy i (by omega);have ad:binOp .add (.int .i64 (i:Int)) (.int .i64 1)=some (.int .i64 ((i+1:Nat):Int)):=by rw[←w1];rfl
  have ix:lY (.str s) (.int .i64 (i:Int))=some (.int .u8 (s[i].toNat:Int)):=by
   rw[oJ,iN .i64 i _ hlt,Option.ag,List.getElem?_eq_getElem hlt];rfl
  have g1:=abl s[i] 97;have g2:=le8 s[i] 122;have g3:=abl s[i] 48;have g4:=le8 s[i] 57;have g5:=eq8 s[i] 46;have g6:=eq8 s[i] 45;have g7:=eq8 s[i] 95;simp only[show((97:Nat):Int)=97 from rfl,show((122:Nat):Int)=122 from rfl,show((48:Nat):Int)=48 from rfl,show((57:Nat):Int)=57 from rfl,show((46:Nat):Int)=46 from rfl,show((45:Nat):Int)=45 from rfl,show((95:Nat):Int)=95 from rfl]at g1 g2 g3 g4 g5 g6 g7;have hok:Kl s[i]=((decide (97≤s[i].toNat)&&decide (s[i].toNat≤122))||(decide (48≤s[i].toNat)&&decide (s[i].toNat≤57))||decide (s[i].toNat=46)||decide (s[i].toNat=45)||decide (s[i].toNat=95)):=rfl;have hall:(s.drop i).all Kl=(Kl s[i]&&(s.drop (i+1)).all Kl):=by rw[List.drop_eq_getElem_cons hlt,List.all_cons]
  rw[hall,hok,Gg,lu,Option.ag,hk,Option.ag,aR,ix,Option.ag];have ff:bk false false (size h) [.bool false] h=some (.bool false,h):=by
   rw[cc];show some (PV.bool false,bJ h (size h))=_;rw[bL]
  generalize decide (97≤s[i].toNat)=A at *;generalize decide (s[i].toNat≤122)=B at *;generalize decide (48≤s[i].toNat)=C at *;generalize decide (s[i].toNat≤57)=D at *;generalize decide (s[i].toNat=46)=E at *;generalize decide (s[i].toNat=45)=F at *;generalize decide (s[i].toNat=95)=G at *;clear hok hall hk ix w1;cases A<;>cases B<;>cases C<;>cases D<;>cases E<;>cases F<;>cases G<;>simp only[g1,g2,g3,g4,g5,g6,g7,ad,ih,ff,↓jY,jZ,j4,j5,simprocAttr,if_true,if_false,implies_true,forall_const,Bool.and_true,Bool.true_and,Bool.and_false,Bool.false_and,Bool.or_true,Bool.true_or,Bool.or_false,Bool.false_or]
theorem vw (base:Nat) (s:List UInt8):ai T base 45 [.str s] h=some (.bool (cL s),h):=by
 have ff:bk false false (size h) [.bool false] h=some (.bool false,h):=by
  rw[cc];show some (PV.bool false,bJ h (size h))=_;rw[bL]
 have e1:binOp .lss (.int .i64 (s.length:Int)) (.int .i64 1)=some (.bool (decide (s.length<1))):=by
  show some (PV.bool (decide ((s.length:Int)<1)))=_;congr 2;exact decide_eq_decide.2 (by omega)
 have e2:binOp .gtr (.int .i64 (s.length:Int)) (.int .i64 16)=some (.bool (decide (s.length > 16))):=by
  show some (PV.bool (decide ((s.length:Int) > 16)))=_;congr 2;exact decide_eq_decide.2 (by omega)
 by_cases h1:s.length<1
 ·have hn:cL s=false:=by unfold cL;rw[decide_eq_false (show ¬ 1≤s.length by omega)];rfl
  rw[S45,hn];simp only[lu,e1,decide_eq_true h1,ff,↓jY,jZ,j4,j5,simprocAttr,if_true,if_false,implies_true,forall_const]
 ·by_cases h2:s.length > 16
  ·have hn:cL s=false:=by unfold cL;rw[decide_eq_false (show ¬ s.length≤16 by omega)];simp
   rw[S45,hn];simp only[lu,e1,e2,decide_eq_false h1,decide_eq_true h2,ff,↓jY,jZ,j4,j5,simprocAttr,if_true,if_false,implies_true,forall_const]
  ·have hn:cL s=s.all Kl:=by unfold cL;rw[decide_eq_true (show 1≤s.length by omega),decide_eq_true (show s.length≤16 by omega)];rfl
   have hq:=vv (h:=h) (s:=s) (by omega) s.length 0 (by omega);simp only[show((0:Nat):Int)=0 from rfl,List.drop_zero]at hq;rw[S45,hn];simp only[lu,e1,e2,decide_eq_false h1,decide_eq_false h2,hq,↓jY,jZ,j4,j5,simprocAttr,if_true,if_false,implies_true,forall_const]
end Go.Am.Qd
namespace Go.Am.Qd
variable {h:Hp}
def okR (c:Nat):Bool:=(decide (97≤c)&&decide (c≤122))||(decide (48≤c)&&decide (c≤57))||decide (c=46)||decide (c=45)||decide (c=95)
theorem abn (c n:Nat):binOp .geq (.int .i32 (c:Int)) (.int .i32 (n:Int))=some (.bool (decide (n≤c))):=by
 show some (PV.bool (decide ((c:Int)≥(n:Int))))=_;rw[DM]
theorem abo (c n:Nat):binOp .leq (.int .i32 (c:Int)) (.int .i32 (n:Int))=some (.bool (decide (c≤n))):=by
 show some (PV.bool (decide ((c:Int)≤(n:Int))))=_;rw[Qm]
theorem Rm (c n:Nat):binOp .eql (.int .i32 (c:Int)) (.int .i32 (n:Int))=some (.bool (decide (c=n))):=by
 show some (PV.bool ((c:Int) == (n:Int)))=_;congr 2
 by_cases q:c=n
 ·rw[q];simp
 ·simp[q];omega
theorem GX (base:Nat) (c:Nat):ai T base 135 [.int .i32 (c:Int)] h=some (.bool (okR c),h):=by
 have g1:=abn c 97;have g2:=abo c 122;have g3:=abn c 48;have g4:=abo c 57;have g5:=Rm c 46;have g6:=Rm c 45;have g7:=Rm c 95;simp only[show((97:Nat):Int)=97 from rfl,show((122:Nat):Int)=122 from rfl,show((48:Nat):Int)=48 from rfl,show((57:Nat):Int)=57 from rfl,show((46:Nat):Int)=46 from rfl,show((45:Nat):Int)=45 from rfl,show((95:Nat):Int)=95 from rfl]at g1 g2 g3 g4 g5 g6 g7;have ff:∀ b:Bool,bk false false (size h) [.bool b] h=some (.bool b,h):=fun b=>by
  rw[cc];show some (PV.bool b,bJ h (size h))=_;rw[bL]
 unfold okR;rw[alu];generalize decide (97≤c)=A at *;generalize decide (c≤122)=B at *;generalize decide (48≤c)=C at *;generalize decide (c≤57)=D at *;generalize decide (c=46)=E at *;generalize decide (c=45)=F at *;generalize decide (c=95)=G at *;cases A<;>cases B<;>cases C<;>cases D<;>cases E<;>cases F<;>cases G<;>simp only[g1,g2,g3,g4,g5,g6,g7,ff,↓jY,jZ,j4,j5,simprocAttr,if_true,if_false,implies_true,forall_const,Bool.and_true,Bool.true_and,Bool.and_false,Bool.false_and,Bool.or_true,Bool.true_or,Bool.or_false,Bool.false_or]
end Go.Am.Qd
namespace Go.Am.Qd
variable {h:Hp}
theorem NX (n b0 b1 b2 b3:Nat) (hb:128≤b0):128≤(Lib.decodeN n b0 b1 b2 b3).1:=by
 unfold Lib.decodeN;rw[if_neg (by omega)];split
 ·split<;>simp only<;>omega
 ·split
  ·split<;>simp only<;>omega
  ·split
   ·split<;>simp only<;>omega
   ·simp only;omega
theorem Km {s:List UInt8} {p:Nat} (hp:p<s.length) (hc:s[p].toNat<128):iF s p=(s[p].toNat,1):=by
 have:iF s p=Lib.decodeL (s.drop p):=(Lib.decodeL_drop ⟨s.toArray⟩ p).symm;rw[this,List.drop_eq_getElem_cons hp,Lib.decodeL_ascii _ _ hc]
theorem GY {s:List UInt8} {p:Nat} (hp:p<s.length) (hc:128≤s[p].toNat):128≤(iF s p).1:=by
 have:iF s p=Lib.decodeL (s.drop p):=(Lib.decodeL_drop ⟨s.toArray⟩ p).symm;rw[this,Lib.decodeL_N];apply NX;rw[List.getD_eq_getElem?_getD,List.getElem?_drop,Nat.add_zero,List.getElem?_eq_getElem hp];exact hc
theorem GZ {c:Nat} (hc:123≤c):okR c=false:=by
 unfold okR;rw[decide_eq_false (show ¬ c≤122 by omega),decide_eq_false (show ¬ c≤57 by omega),decide_eq_false (show ¬ c=46 by omega),decide_eq_false (show ¬ c=45 by omega),decide_eq_false (show ¬ c=95 by omega)];simp
theorem AK (s:List UInt8) (hs:s.length≤1000000):∀ (m p:Nat),p+m=s.length→DQ (size h) (size h) (.str s) (.it (size h)) (ext h [.iter s p])=some (.bool ((s.drop p).all Kl&&(decide (1≤s.length)&&decide (s.length≤16))),h)
 | 0,p,hp=>by
  obtain rfl:p=s.length:=by omega
  have nx:=Jt (h:=ext h [.iter s s.length]) (b:=size h) (s:=s) (p:=s.length) (by rw[mG];rfl) (by omega);have ff:∀ b:Bool,bk false false (size h) [.bool b] (ext h [.iter s s.length])=some (.bool b,h):=fun b=>by
   rw[cc];show some (PV.bool b,bJ (ext h [.iter s s.length]) (size h))=_;rw[cI]
  have x0:aE (.cF [.bool false]) 0=some (.bool false):=rfl;have e1:binOp .neq (.str s) (.str [])=some (.bool (decide (1≤s.length))):=by
   cases s with
   | nil=>rfl
   | cons a t=>rfl
  have e2:binOp .leq (.int .i64 (s.length:Int)) (.int .i64 16)=some (.bool (decide (s.length≤16))):=by
   show some (PV.bool (decide ((s.length:Int)≤16)))=_;congr 2;exact decide_eq_decide.2 (by omega)
  rw[Cr,nx,az,x0,Option.ag,aL,List.drop_length];generalize decide (1≤s.length)=A at *;generalize decide (s.length≤16)=B at *;cases A<;>cases B<;>simp only[e1,e2,ff,lu,↓jY,jZ,j4,j5,simprocAttr,if_true,if_false,implies_true,forall_const,List.all_nil,Bool.true_and,Bool.and_true,Bool.and_false,Bool.false_and]
 | m+1,p,hp=>by
  have hlt:p<s.length:=by omega
  have nx:=Js (h:=ext h [.iter s p]) (b:=size h) (s:=s) (p:=p) (by rw[mG];rfl) hlt;rw[eE]at nx;have x0:∀ a b,aE (.cF [.bool true,a,b]) 0=some (.bool true):=fun _ _=>rfl
  have x2:∀ a b,aE (.cF [.bool true,a,b]) 2=some b:=fun _ _=>rfl
  have ff:∀ q:Nat,bk false false (size h) [.bool false] (ext h [.iter s q])=some (.bool false,h):=fun q=>by
   rw[cc];show some (PV.bool false,bJ (ext h [.iter s q]) (size h))=_;rw[cI]
  have hall:(s.drop p).all Kl=(Kl s[p]&&(s.drop (p+1)).all Kl):=by rw[List.drop_eq_getElem_cons hlt,List.all_cons]
  have u0:unOp .not (.bool false)=some (.bool true):=rfl;have u1:unOp .not (.bool true)=some (.bool false):=rfl;rw[hall,Cr,nx,az,x0,Option.ag,aR,x2,Option.ag,GX,az];rcases Nat.lt_or_ge s[p].toNat 128 with hc | hc
  ·have ih:=AK s hs m (p+1) (by omega)
   rw[Km hlt hc];have hok:okR s[p].toNat=Kl s[p]:=rfl;simp only[hok];cases Kl s[p] with
   | false=>rw[u0,Option.ag,aR,ff,Bool.false_and,Bool.false_and]
   | true=>rw[u1,Option.ag,aL,ih,Bool.true_and]
  ·rw[GZ (by have:=GY hlt hc;omega),u0,Option.ag,aR,ff]
   have:Kl s[p]=false:=GZ (c:=s[p].toNat) (by omega);rw[this,Bool.false_and,Bool.false_and]
theorem Kn (base:Nat) (s:List UInt8) (hs:s.length≤1000000):ai T base 115 [.str s] h=some (.bool (cL s),h):=by
 have hq:=AK (h:=h) s hs s.length 0 (by omega);rw[alo,zT,az,hq,List.drop_zero,Bool.and_comm];rfl
end Go.Am.Qd
namespace Go.Am.Qd
variable {h:Hp}
def ji (l:List UInt8):List UInt8:=Lib.trimRightB l 0
theorem NY (base:Nat) (l:List UInt8) (hl:l.length≤1000000):ai T base 114 [.str l,.str [0]] h=some (.str (ji l),h):=by
 rw[yU Zu];have:iM [.str l,.str [0]]=some (.str (ji l)):=by
  unfold iM;simp only;rw[if_pos ⟨by decide,by omega⟩];rfl
 simp only[this];rfl
theorem G0 (o:Own) (l:List UInt8):fL h (.sl o 1 (aP l))=some (.str l):=by
 show(Go.Am.bytesOf (aP l)).ah _=_;rw[Bu.bytesOf];rfl
theorem NZ (base:Nat) (o:Own) (l:List UInt8) (hl:l.length≤1000000) (ht:(ji l).length≤1000000):ai T base 94 [.sl o 1 (aP l)] h=some (.cF [.str (ji l),.bool (cL (ji l))],h):=by
 have f2:bk false false (size h) [.str (ji l),.bool (cL (ji l))] h=some (.cF [.str (ji l),.bool (cL (ji l))],h):=by
  rw[cc];show some (PV.cF [.str (ji l),.bool (cL (ji l))],bJ h (size h))=_;rw[bL]
 rw[S94,G0,Option.ag,NY _ _ hl,az,Kn _ _ ht,az,f2]
end Go.Am.Qd
namespace Go.Am.Qd
variable {h:Hp}
structure Rec where
 key:UInt8
 val:List UInt8
 drop:Bool
 fin:Nat
def LO (b:List UInt8) (a:Nat) (key:UInt8) (dr:Bool) (n:Nat):Option Rec :=
 if 250<n then none else if b.length<a+7+n then none else if b.getD (a+7+n-1) 0≠0 then none else some ⟨key,(b.drop (a+2)).take n,dr,a+7+n⟩
def vA (b:List UInt8) (a:Nat):Option Rec :=
 if b.length<a+2 then none else if 32≤b.getD a 0 then none else
  LO b a (b.getD a 0) (b.getD (a+1) 0 == 254) (if b.getD (a+1) 0 == 254 then 0 else(b.getD (a+1) 0).toNat)
def ag0 (r:Rec):PV:=.agg [.int .i64 (r.key.toNat:Int),.sl .full 1 (aP r.val),.bool r.drop,.int .i64 (r.fin:Int)]
def ak3:PV:=.agg [.int .i64 0,.bg,.bool false,.int .i64 0]
def abe:Option Rec→PV
 | none=>.cF [ak3,.bool false]
 | some r=>.cF [ag0 r,.bool true]
theorem aeF (c:UInt8):IntKind.i64.wrap (c.toNat:Int)=(c.toNat:Int):=by
 have:=c.toNat_lt;rw[wrap_small (by omega) (by omega)]
theorem aoz (c:UInt8):decide ((c.toNat:Int)≥32)=decide (32≤c):=by
 have:(32≤c)↔32≤c.toNat:=UInt8.le_iff_toNat_le;simp only[this];congr 1;apply propext;constructor<;>intro h<;>omega
theorem geZ (c:UInt8):((c.toNat:Int) != 0)=decide (c≠0):=by
 rw[Bool.eq_iff_iff,bne_iff_ne,decide_eq_true_eq];constructor
 ·intro hq hc;subst hc;exact hq rfl
 ·intro hq hc;exact hq (UInt8.toNat_inj.1 (by have:((0:UInt8).toNat)=0:=rfl;omega))
theorem ak4 {o:Own} (ho:Nf o) (b:List UInt8) (a n:Nat) (key:UInt8) (dr:Bool) (hb:b.length≤1000000) (hn:n≤255) (ha:a+2≤b.length) :
  acR (size h) (size h) (.ptr (size h) 0) (.ptr (size h+1) 0) (.int .i64 (n:Int)) (.int .i64 (a:Int)) (.sl o 1 (aP b))
   (ext h [.cells [.int .i64 0,.bg,.bool false,.int .i64 0],.cells [.int .i64 (key.toNat:Int),.bg,.bool dr,.int .i64 0]]) =
   some (abe (if b.length<a+7+n then none else if b.getD (a+7+n-1) 0≠0 then none else some ⟨key,(b.drop (a+2)).take n,dr,a+7+n⟩),h):=by
 have zr:abe none=.cF [.agg [.int .i64 0,.bg,.bool false,.int .i64 0],.bool false]:=rfl;rw[ad9]
 by_cases h1:b.length<a+7+n
 ·have d1:decide (a+7+n > b.length)=true:=by simpa using h1
  rw[if_pos h1];simp (disch:=omega) only[aet,mJ,fe,aM,aaz,d1,zr,↓jY,jZ,j4,j5,Nat.reduceAdd,Nat.reduceSub,Nat.reduceMul,Nat.reduceLeDiff,Nat.reduceLT,Nat.reduceEqDiff,Nat.reduceBEq,reduceIte,reduceCtorEq,Int.reduceBEq,Int.reduceEq,Int.reduceLT,Int.reduceLE,Int.reduceGT,Int.reduceGE,Int.reduceAdd,Int.reduceSub,Int.reduceNeg,Int.reduceBNe,ite_true,ite_false,if_true,if_false,implies_true,forall_const]
 ·have d1:decide (a+7+n > b.length)=false:=by simpa using h1
  have a0:=(pL ho b).ix .i64 (a+7+n-1) b[a+7+n-1] (List.getElem?_eq_getElem (by omega));have g0:b.getD (a+7+n-1) 0=b[a+7+n-1]:=by simp;rw[List.getElem?_eq_getElem (by omega)];rfl
  rw[if_neg h1,g0]
  by_cases h2:b[a+7+n-1]≠0
  ·have d2:decide (b[a+7+n-1]≠0)=true:=by simpa using h2
   rw[if_pos h2];simp (disch:=omega) only[aet,mJ,aev,fe,aM,aaz,d1,a0,geZ,d2,zr,↓jY,jZ,j4,j5,Nat.reduceAdd,Nat.reduceSub,Nat.reduceMul,Nat.reduceLeDiff,Nat.reduceLT,Nat.reduceEqDiff,Nat.reduceBEq,reduceIte,reduceCtorEq,Int.reduceBEq,Int.reduceEq,Int.reduceLT,Int.reduceLE,Int.reduceGT,Int.reduceGE,Int.reduceAdd,Int.reduceSub,Int.reduceNeg,Int.reduceBNe,ite_true,ite_false,if_true,if_false,implies_true,forall_const]
  ·have d2:decide (b[a+7+n-1]≠0)=false:=by simpa using h2
   have hs:=atk (o:=o) b (a:=a+2) (b:=a+2+n) (by omega) (by omega);have e1:a+2+n-(a+2)=n:=by omega
   rw[e1]at hs;rw[if_neg h2];simp (disch:=omega) only[aet,aco,mJ,aev,fe,aM,aaz,d1,a0,geZ,d2,hs,↓jY,jZ,j4,j5,Nat.reduceAdd,Nat.reduceSub,Nat.reduceMul,Nat.reduceLeDiff,Nat.reduceLT,Nat.reduceEqDiff,Nat.reduceBEq,reduceIte,reduceCtorEq,Int.reduceBEq,Int.reduceEq,Int.reduceLT,Int.reduceLE,Int.reduceGT,Int.reduceGE,Int.reduceAdd,Int.reduceSub,Int.reduceNeg,Int.reduceBNe,ite_true,ite_false,if_true,if_false,implies_true,forall_const];rw[if_pos (tT _ _)];rfl
theorem aef (base:Nat) {o:Own} (ho:Nf o) (b:List UInt8) (a:Nat) (hb:b.length≤1000000) (ha:a≤b.length):ai T base 124 [.sl o 1 (aP b),.int .i64 (a:Int)] h=some (abe (vA b a),h):=by
 have hrd:∀ {H:Hp},Rd H (.sl o 1 (aP b)) b:=jS ho b;rw[as5];unfold vA;have zr:abe none=.cF [.agg [.int .i64 0,.bg,.bool false,.int .i64 0],.bool false]:=rfl
 by_cases h1:b.length<a+2
 ·have d1:decide (a+2 > b.length)=true:=by simpa using h1
  rw[if_pos h1];simp (disch:=omega) only[aco,fe,aM,aaz,d1,zr,↓jY,jZ,j4,j5,Nat.reduceAdd,Nat.reduceSub,Nat.reduceMul,Nat.reduceLeDiff,Nat.reduceLT,Nat.reduceEqDiff,Nat.reduceBEq,reduceIte,reduceCtorEq,Int.reduceBEq,Int.reduceEq,Int.reduceLT,Int.reduceLE,Int.reduceGT,Int.reduceGE,Int.reduceAdd,Int.reduceSub,Int.reduceNeg,Int.reduceBNe,ite_true,ite_false,if_true,if_false,implies_true,forall_const]
 have d1:decide (a+2 > b.length)=false:=by simpa using h1
 rw[if_neg h1];have a0:=(pL ho b).ix .i64 a b[a] (List.getElem?_eq_getElem (by omega));have a1:=(pL ho b).ix .i64 (a+1) b[a+1] (List.getElem?_eq_getElem (by omega));have g0:b.getD a 0=b[a]:=by simp;rw[List.getElem?_eq_getElem (by omega)];rfl
 have g1:b.getD (a+1) 0=b[a+1]:=by simp;rw[List.getElem?_eq_getElem (by omega)];rfl
 rw[g0]
 by_cases h2:32≤b[a]
 ·have d2:decide ((b[a].toNat:Int)≥32)=true:=by rw[aoz];simpa using h2
  rw[if_pos h2];simp (disch:=omega) only[aco,fe,aM,aaz,d1,a0,d2,zr,↓jY,jZ,j4,j5,Nat.reduceAdd,Nat.reduceSub,Nat.reduceMul,Nat.reduceLeDiff,Nat.reduceLT,Nat.reduceEqDiff,Nat.reduceBEq,reduceIte,reduceCtorEq,Int.reduceBEq,Int.reduceEq,Int.reduceLT,Int.reduceLE,Int.reduceGT,Int.reduceGE,Int.reduceAdd,Int.reduceSub,Int.reduceNeg,Int.reduceBNe,ite_true,ite_false,if_true,if_false,implies_true,forall_const]
 rw[if_neg h2,g1];unfold LO;have d2:decide ((b[a].toNat:Int)≥32)=false:=by rw[aoz];simpa using h2
 by_cases h3:b[a+1]=254
 ·have d3:((b[a+1].toNat:Int) == 254)=true:=by rw[h3];rfl
  simp (disch:=omega) only[aco,fy,fe,aM,aaz,d1,a0,a1,d2,d3,aeF,zr,↓jY,jZ,j4,j5,Nat.reduceAdd,Nat.reduceSub,Nat.reduceMul,Nat.reduceLeDiff,Nat.reduceLT,Nat.reduceEqDiff,Nat.reduceBEq,reduceIte,reduceCtorEq,Int.reduceBEq,Int.reduceEq,Int.reduceLT,Int.reduceLE,Int.reduceGT,Int.reduceGE,Int.reduceAdd,Int.reduceSub,Int.reduceNeg,Int.reduceBNe,ite_true,ite_false,if_true,if_false,implies_true,forall_const];have e3:(b[a+1] == 254)=true:=by rw[h3];rfl
  have hf:=ak4 (h:=h) ho b a 0 b[a] true hb (by omega) (by omega);simp only[show((0:Nat):Int)=0 from rfl]at hf;rw[hf,e3];rfl
 ·have d3:((b[a+1].toNat:Int) == 254)=false:=by
   rw[beq_eq_false_iff_ne];intro hq;exact h3 (UInt8.toNat_inj.1 (by have:((254:UInt8).toNat)=254:=rfl;omega))
  have e3:(b[a+1] == 254)=false:=by rw[beq_eq_false_iff_ne];exact h3
  simp only[e3,Bool.false_eq_true,if_false]
  by_cases h4:250<b[a+1].toNat
  ·have d4:decide ((b[a+1].toNat:Int) > 250)=true:=by simp;omega
   rw[if_pos h4];simp (disch:=omega) only[aco,fy,fe,aM,aaz,d1,a0,a1,d2,d3,d4,aeF,zr,↓jY,jZ,j4,j5,Nat.reduceAdd,Nat.reduceSub,Nat.reduceMul,Nat.reduceLeDiff,Nat.reduceLT,Nat.reduceEqDiff,Nat.reduceBEq,reduceIte,reduceCtorEq,Int.reduceBEq,Int.reduceEq,Int.reduceLT,Int.reduceLE,Int.reduceGT,Int.reduceGE,Int.reduceAdd,Int.reduceSub,Int.reduceNeg,Int.reduceBNe,ite_true,ite_false,if_true,if_false,implies_true,forall_const]
  ·have d4:decide ((b[a+1].toNat:Int) > 250)=false:=by simp;omega
   have hf:=ak4 (h:=h) ho b a b[a+1].toNat b[a] false hb (by omega) (by omega);rw[if_neg h4];simp (disch:=omega) only[aco,fy,fe,aM,aaz,d1,a0,a1,d2,d3,d4,aeF,hf,↓jY,jZ,j4,j5,Nat.reduceAdd,Nat.reduceSub,Nat.reduceMul,Nat.reduceLeDiff,Nat.reduceLT,Nat.reduceEqDiff,Nat.reduceBEq,reduceIte,reduceCtorEq,Int.reduceBEq,Int.reduceEq,Int.reduceLT,Int.reduceLE,Int.reduceGT,Int.reduceGE,Int.reduceAdd,Int.reduceSub,Int.reduceNeg,Int.reduceBNe,ite_true,ite_false,if_true,if_false,implies_true,forall_const]
theorem acC {b:List UInt8} {a:Nat} {r:Rec} (hr:vA b a=some r):a+7≤r.fin∧r.fin≤b.length∧r.val.length+a+7=r.fin∧r.val.length≤250∧r.key.toNat<32∧(r.drop=true→r.val=[]):=by
 unfold vA at hr;split at hr
 ·cases hr
 split at hr
 ·cases hr
 rename_i h1 h2;generalize hn:(if(b.getD (a+1) 0 == 254)=true then 0 else(b.getD (a+1) 0).toNat)=n at hr;unfold LO at hr;split at hr
 ·cases hr
 split at hr
 ·cases hr
 split at hr
 ·cases hr
 rename_i h3 h4 h5;simp only[Option.some.injEq]at hr;subst hr;simp only;have hl:((b.drop (a+2)).take n).length=n:=by simp;omega
 refine⟨by omega,by omega,by rw[hl];omega,by rw[hl];omega,?_,fun hd=>?_⟩
 ·have:¬ (32≤(b.getD a 0).toNat):=fun hq=>h2 (UInt8.le_iff_toNat_le.2 hq)
  omega
 ·rw[hd]at hn
  simp only[if_true]at hn;rw[←hn];rfl
theorem adK (base:Nat) {o:Own} (ho:Nf o) (b:List UInt8) (a:Nat) (r:Rec) (hb:b.length≤1000000) (h1:a+1≤r.fin) (h2:r.fin≤b.length) :
  ai T base 125 [.sl o 1 (aP b),.int .i64 (a:Int),ag0 r] h=some (.bool (lP ((b.drop a).take (r.fin-1-a))),h):=by
 have b1:oZ b.length b.length (some (.int .i64 ((r.fin-1:Nat):Int)))=some (r.fin-1):=(gK _ _ _).trans (fV _ .i64 _ (by omega));have b0:oZ (r.fin-1) 0 (some (.int .i64 (a:Int)))=some a:=(gK _ _ _).trans (fV _ .i64 _ (by omega));obtain⟨o1,p1,s1⟩:=slc (o:=o) b b0 b1;have hop:∀ (H:Hp) (base:Nat),∃ x,ai T base 92 [.sl o1 1 (aP ((b.drop a).take (r.fin-1-a)))] H=some (.cF [x,.bool (lP ((b.drop a).take (r.fin-1-a)))],H):=fun H base =>
  let ⟨x,h1,_⟩:=NR (h:=H) base p1 _ (by simp;omega);⟨x,h1⟩
 obtain⟨x,hx⟩:=hop (ext h [.cells [.int .i64 (r.key.toNat:Int),.sl .full 1 (aP r.val),.bool r.drop,.int .i64 (r.fin:Int)]]) (size h);rw[as6];generalize PV.sl o 1 (aP b)=v at s1 ⊢;simp (disch:=omega) only[ag0,aev,s1,hx,↓jY,jZ,j4,j5,Nat.reduceAdd,Nat.reduceSub,Nat.reduceMul,Nat.reduceLeDiff,Nat.reduceLT,Nat.reduceEqDiff,Nat.reduceBEq,reduceIte,reduceCtorEq,Int.reduceBEq,Int.reduceEq,Int.reduceLT,Int.reduceLE,Int.reduceGT,Int.reduceGE,Int.reduceAdd,Int.reduceSub,Int.reduceNeg,Int.reduceBNe,ite_true,ite_false,if_true,if_false,implies_true,forall_const]
/-! ### The bytes of a record -/
def dF (key:UInt8) (l:List UInt8) (dr:Bool):List UInt8 :=
 (key::(if dr then 254 else UInt8.ofNat l.length)::l)++br (mK (key::(if dr then 254 else UInt8.ofNat l.length)::l))
theorem eC (key:UInt8) (l:List UInt8) (dr:Bool):(dF key l dr).length=l.length+6:=by simp[dF,br]
theorem aeG {o:Own} (l:List UInt8):Rd h (.sl o 1 (aP l)) l:=by
 refine⟨by rw[fe,aM],fun k i c hc=>?_,rfl,.inl rfl⟩;have hi:=(List.getElem?_eq_some_iff.1 hc).1;refine⟨.ep [.int .u8 c.toNat] 0,?_,rfl⟩;rw[jM,if_pos rfl,iN k i _ (by rw[aM];exact hi),Option.ag,qg,hc];rfl
theorem Rn (l:List UInt8):(aP l).all (fits 1)=true:=(tN (lN l)).1
theorem aeH {v:PV} {l:List UInt8} (hv:elems h v=some (aP l)) (hl:l.length≤700000) (x y:UInt8):qH 5 1 (.sl .full 1 [.int .u8 (x.toNat:Int),.int .u8 (y.toNat:Int)]) v h =
  some (if l=[] then(.sl .full 1 (aP [x,y]),h) else(.sl (.tok (size h)) 1 (aP (x::y::l)),ext h [.tok (2+l.length) 5])):=by
 rw[pF,hv,Option.ag];unfold gr;rw[if_pos (Rn l)];simp only[List.length_cons,List.length_nil,aM,gA,true_and];rw[if_pos (by omega)]
 by_cases h0:l=[]
 ·subst h0;rfl
 ·have:(aP l).isEmpty=false:=by
   cases l with
   | nil=>exact(h0 rfl).elim
   | cons c l=>rfl
  rw[if_neg h0,this,nQ];simp only[Bool.false_eq_true,if_false];rfl
theorem acD (base:Nat) (k:Nat) {v:PV} {l:List UInt8} (hv:Rd h v l) (hl:l.length≤700000) (dr:Bool) :
  ai T base 119 [.int .i64 (k:Int),v,.bool dr] h=some (.sl .no 1 (aP (dF (UInt8.ofNat k) l dr)),h):=by
 have ha:=fun x y=>aeH (h:=h) hv.el hl x y
 have hb:=(pL (.inl rfl) (dF (UInt8.ofNat k) l dr)).below;have hf:=(pL (.inl rfl) (dF (UInt8.ofNat k) l dr)).gY;have fin:∀ y:UInt8,dF (UInt8.ofNat k) l dr=(UInt8.ofNat k::y::l)++br (mK (UInt8.ofNat k::y::l)) →
   (aH (some (if l=[] then(PV.sl Own.full 1 (aP [UInt8.ofNat k,y]),h) else(PV.sl (Own.tok (size h)) 1 (aP (UInt8.ofNat k::y::l)),ext h [gW.tok (2+l.length) 5]))) fun gJ h13 =>
   aH (ai T (size h) 139 [gJ] h13) fun lU Qh =>
    Option.ah (fun vs=>if belows (size h) vs=true then some (fT vs,bJ Qh (size h)) else none)
     (Option.ah (fun v=>some [v]) (gY (size h) Qh lU)))=some (PV.sl Own.no 1 (aP (dF (UInt8.ofNat k) l dr)),h):=by
  intro y hy
  by_cases h0:l=[]
  ·subst h0
   have hs:=acz (h:=h) (size h) (aeG (h:=h) (o:=.full) [UInt8.ofNat k,y]) rfl (by simp);rw[←hy]at hs;simp only[if_true,hs,hf,hb,bL,↓jY,jZ,j4,j5,Nat.reduceAdd,Nat.reduceSub,Nat.reduceMul,Nat.reduceLeDiff,Nat.reduceLT,Nat.reduceEqDiff,Nat.reduceBEq,reduceIte,reduceCtorEq,Int.reduceBEq,Int.reduceEq,Int.reduceLT,Int.reduceLE,Int.reduceGT,Int.reduceGE,Int.reduceAdd,Int.reduceSub,Int.reduceNeg,Int.reduceBNe,ite_true,ite_false,if_true,if_false,implies_true,forall_const]
  ·have hs:=acz (h:=ext h [gW.tok (2+l.length) 5]) (size h) (aeG (o:=.tok (size h)) (UInt8.ofNat k::y::l)) rfl (by simp;omega)
   rw[←hy]at hs;simp only[h0,if_false,hs,hf,hb,cI,↓jY,jZ,j4,j5,Nat.reduceAdd,Nat.reduceSub,Nat.reduceMul,Nat.reduceLeDiff,Nat.reduceLT,Nat.reduceEqDiff,Nat.reduceBEq,reduceIte,reduceCtorEq,Int.reduceBEq,Int.reduceEq,Int.reduceLT,Int.reduceLE,Int.reduceGT,Int.reduceGE,Int.reduceAdd,Int.reduceSub,Int.reduceNeg,Int.reduceBNe,ite_true,ite_false,if_true,if_false,implies_true,forall_const]
 rw[as2];cases dr with
 | true =>
  have h2:IntKind.u8.wrap 254=(((254:UInt8).toNat:Nat):Int):=rfl;simp (disch:=omega) only[hv.len,wr8,h2,ha,↓jY,jZ,j4,j5,Nat.reduceAdd,Nat.reduceSub,Nat.reduceMul,Nat.reduceLeDiff,Nat.reduceLT,Nat.reduceEqDiff,Nat.reduceBEq,reduceIte,reduceCtorEq,Int.reduceBEq,Int.reduceEq,Int.reduceLT,Int.reduceLE,Int.reduceGT,Int.reduceGE,Int.reduceAdd,Int.reduceSub,Int.reduceNeg,Int.reduceBNe,ite_true,ite_false,if_true,if_false,implies_true,forall_const];exact fin _ rfl
 | false =>
  simp (disch:=omega) only[hv.len,wr8,ha,↓jY,jZ,j4,j5,Nat.reduceAdd,Nat.reduceSub,Nat.reduceMul,Nat.reduceLeDiff,Nat.reduceLT,Nat.reduceEqDiff,Nat.reduceBEq,reduceIte,reduceCtorEq,Int.reduceBEq,Int.reduceEq,Int.reduceLT,Int.reduceLE,Int.reduceGT,Int.reduceGE,Int.reduceAdd,Int.reduceSub,Int.reduceNeg,Int.reduceBNe,ite_true,ite_false,if_true,if_false,implies_true,forall_const];exact fin _ rfl
end Go.Am.Qd
namespace Go.Am.Qd
variable {h:Hp}
abbrev Vs:=List (Nat × Option (List UInt8))
def vV:Option (List UInt8)→PV
 | none=>.bg
 | some l=>BI l
def vB:Option (List UInt8)→List UInt8
 | none=>[]
 | some l=>l
def pN (vs:Vs):List (PV × PV):=vs.map fun e=>(.int .i64 (e.1:Int),vV e.2)
theorem ads (v:Option (List UInt8)):Bv (vV v) (vB v):=by
 cases v with
 | none=>exact yp
 | some l=>exact J4 l
theorem aoA (v:Option (List UInt8)):jk 1 (vV v)=some false∨vV v=.bg:=by
 cases v with
 | none=>exact .inr rfl
 | some l=>exact .inl (TH l)
theorem ala (v:Option (List UInt8)):Rd h (vV v) (vB v):=(ads v).rd (aoA v)
def idxOf:Vs→Int→Option Nat
 | [],_=>none
 | e::r,k=>if(e.1:Int)=k then some 0 else(idxOf r k).map (·+1)
def cP:Vs→Int→Option (Option (List UInt8))
 | [],_=>none
 | e::r,k=>if(e.1:Int)=k then some e.2 else cP r k
def gN:Vs→Nat→Option (List UInt8)→Vs
 | [],k,v=>[(k,v)]
 | e::r,k,v=>if e.1=k then(k,v)::r else e::gN r k v
def lV:Vs→Int→Vs
 | [],_=>[]
 | e::r,k=>if(e.1:Int)=k then r else e::lV r k
theorem Cz (key:Int):∀ (vs:Vs) (i:Nat),jL [1] false (.int .i64 key) (pN vs) i=some ((idxOf vs key).map (·+i))
 | [],i=>rfl
 | e::r,i=>by
  have ih:=Cz key r (i+1);unfold pN at ih ⊢;simp only[List.map_cons,jL,KR,List.headD_cons,fF,if_true,Option.ag,idxOf]
  by_cases hk:(e.1:Int)=key
  ·have:(key == (e.1:Int))=true:=by rw[hk];simp
   rw[this,if_pos hk];simp
  ·have:(key == (e.1:Int))=false:=by rw[beq_eq_false_iff_ne];exact fun q=>hk q.symm
   rw[this,if_neg hk,ih];cases idxOf r key<;>simp;omega
theorem LP (key:Int):∀ (vs:Vs),cP vs key=(idxOf vs key).bind fun i=>(vs[i]?).map (·.2)
 | []=>rfl
 | e::r=>by
  simp only[cP,idxOf]
  by_cases hk:(e.1:Int)=key
  ·rw[if_pos hk,if_pos hk];rfl
  ·rw[if_neg hk,if_neg hk,LP key r]
   cases idxOf r key<;>simp
theorem Ro (key:Int):∀ (vs:Vs) (i:Nat),idxOf vs key=some i→i<vs.length
 | [],i,h=>by simp[idxOf]at h
 | e::r,i,h=>by
  simp only[idxOf]at h;split at h
  ·cases h;simp
  ·simp only[Option.map_eq_some_iff]at h
   obtain⟨j,hj,rfl⟩:=h;have:=Ro key r j hj;simp;omega
theorem adt (k:Nat) (v:Option (List UInt8)):∀ (vs:Vs),OJ (.int .i64 (k:Int)) (vV v) (pN vs) (idxOf vs k)=pN (gN vs k v)
 | []=>rfl
 | e::r=>by
  have ih:=adt k v r;simp only[idxOf,gN,Int.natCast_inj]
  by_cases hk:e.1=k
  ·rw[if_pos hk,if_pos hk];rfl
  ·rw[if_neg hk,if_neg hk]
   simp only[pN,List.map_cons]at ih ⊢;cases hq:idxOf r k with
   | none=>rw[hq]at ih;simp only[OJ,Option.map_none]at ih ⊢;rw[List.cons_append,ih]
   | some j=>rw[hq]at ih;simp only[OJ,Option.map_some]at ih ⊢;rw[List.set_cons_succ,ih]
theorem adu (k:Int):∀ (vs:Vs),U2 (pN vs) (idxOf vs k)=pN (lV vs k)
 | []=>rfl
 | e::r=>by
  have ih:=adu k r;simp only[idxOf,lV]
  by_cases hk:(e.1:Int)=k
  ·rw[if_pos hk,if_pos hk];rfl
  ·rw[if_neg hk,if_neg hk]
   simp only[pN,List.map_cons]at ih ⊢;cases hq:idxOf r k with
   | none=>rw[hq]at ih;simp only[U2,Option.map_none]at ih ⊢;rw[ih]
   | some j=>rw[hq]at ih;simp only[U2,Option.map_some]at ih ⊢;rw[List.eraseIdx_cons_succ,ih]
def lkR (ok:Bool) (r:Option (Option (List UInt8))):PV :=
 let v:=match r with | none=>PV.bg | some v=>vV v
 if ok then .cF [v,.bool r.isSome] else v
theorem G3 (base:Nat) {m:Nat} {vs:Vs} (hm:bR h m=some (pN vs)) (ok:Bool) (key:Int):cV base h (.lookup [1] false .bg ok) [.eL m,.int .i64 key]=some (lkR ok (cP vs key),h):=by
 rw[vi,pH,hm,Option.ag,Cg,if_pos (by decide),Cz,Option.ag,LP];cases hq:idxOf vs key with
 | none=>cases ok<;>rfl
 | some i =>
  have hi:=Ro key vs i hq;have hg:(pN vs)[i]?=some (.int .i64 ((vs[i]).1:Int),vV (vs[i]).2):=by simp[pN,hi]
  simp only[Option.map_some,Nat.add_zero,BL,hg,Option.ag,Option.bind_some,List.getElem?_eq_getElem hi];cases ok<;>rfl
theorem aeg (v:Option (List UInt8)):(vV v).cells.all scalar=true:=by
 cases v with
 | none=>rfl
 | some l=>simp only[vV,BI];split<;>rfl
theorem adv (base:Nat) {m:Nat} {vs:Vs} (hm:bR h m=some (pN vs)) (k:Nat) (v:Option (List UInt8)):cV base h (.CS [1] false) [.eL m,.int .i64 (k:Int),vV v]=some (.undef,aC h m (.map (pN (gN vs k v)))):=by
 rw[FR,hm,Option.ag,Cg];rw[if_pos ⟨rfl,rfl,aeg v,fun _=>⟨rfl,by rw[(ads v).strip];exact(ads v).below 0⟩⟩,Cz,Option.ag,(ads v).strip];have:(idxOf vs (k:Int)).map (·+0)=idxOf vs k:=by cases idxOf vs (k:Int)<;>rfl
 rw[this];have:=adt k v vs;simp only[strip];rw[this]
theorem aeI (base:Nat) {m:Nat} {vs:Vs} (hm:bR h m=some (pN vs)) (k:Int):cV base h (.CT [1] false) [.eL m,.int .i64 k]=some (.cF [],aC h m (.map (pN (lV vs k)))):=by
 rw[FT,hm,Option.ag,Cg,if_pos (by decide),Cz,Option.ag];have:(idxOf vs k).map (·+0)=idxOf vs k:=by cases idxOf vs k<;>rfl
 rw[this,adu]
def cY (vs:Vs):Nat:=8+(vs.map fun e=>7+(vB e.2).length).sum
theorem acF:∀ (vs:Vs),oY (pN vs)=some (vs.map fun e=>(vB e.2).length)
 | []=>rfl
 |(k,v)::r=>by
  have ih:=acF r;unfold pN at ih ⊢;rw[List.map_cons,List.map_cons];cases v with
  | none =>
   rw[show vV (none:Option (List UInt8))=.bg from rfl,oY,ih];rfl
  | some l =>
   rw[show vV (some l)=BI l from rfl];unfold BI;split
   ·rename_i h0;subst h0;rw[oY,ih];rfl
   ·rw[oY,ih,aM];rfl
def Small (vs:Vs):Prop:=vs.length≤32∧∀ e∈vs,e.1<32∧(vB e.2).length≤250
theorem adL {m:Nat} {vs:Vs} (hm:bR h m=some (pN vs)) (hs:Small vs):PN [.eL m] h=some (.int .i64 (cY vs:Nat),none):=by
 have hl:=hs.1;simp only[PN,hm,Option.ag];rw[if_pos (by simp[pN];omega),acF,Option.ag,if_pos]
 ·simp only[cY,List.map_map]
  rfl
 ·rw[List.all_eq_true]
  intro n hn;obtain⟨e,he,rfl⟩:=List.mem_map.1 hn;have:=(hs.2 e he).2;simp;omega
end Go.Am.Qd
namespace Go.Am.Qd
variable {h:Hp} {p:FP} {F:Fl}
theorem gO.program (hF:gO F) (i:Nat) (l:List UInt8):gO (F.program i l).2∧(F.program i l).2.b.length=F.b.length∧(F.program i l).2.bN=F.bN∧(F.program i l).2.aj=F.aj:=by
 unfold Fl.program;split
 ·exact⟨hF,rfl,rfl,rfl⟩
 ·split
  ·exact gO.prog l hF i
  ·exact⟨hF,rfl,rfl,rfl⟩
def _root_.Go.Am.Fl.lay (F:Fl) (a:Nat) (l:List UInt8):Nat × Fl:=if(F.program a l).1=0 then(F.program a l).2.program (a+l.length) [0] else F.program a l
theorem gO.lay (hF:gO F) (i:Nat) (l:List UInt8):gO (F.lay i l).2∧(F.lay i l).2.b.length=F.b.length∧(F.lay i l).2.bN=F.bN∧(F.lay i l).2.aj=F.aj:=by
 obtain⟨h1,h2,h3,h4⟩:=hF.program i l;unfold Fl.lay;split
 ·obtain⟨g1,g2,g3,g4⟩:=h1.program (i+l.length) [0]
  exact⟨g1,g2.trans h2,g3.trans h3,g4.trans h4⟩
 ·exact⟨h1,h2,h3,h4⟩
theorem adX:Bv (.sl .full 1 [.int .u8 0]) [0]:=pL (.inr rfl) [0]
theorem adw (hp:pI h p) {q first count:Nat} (hq:gL h p q first count) (base:Nat) (a:Nat) (l:List UInt8) {v:PV} (hv:Bv v l) (hF:gO F) (hin:a+l.length+1≤count*F.aj) (hb:(first+count)*F.aj≤F.b.length) :
  ai T base 138 [.ptr q 0,.int .i64 a,v] (cv h p F)=some (.int .i64 ((F.lay (first*F.aj+a) l).1:Nat),cv h p (F.lay (first*F.aj+a) l).2):=by
 have hl:=hF.len;have hmul:=hb;rw[Nat.add_mul]at hmul;have h1:=fun b=>aaE (F:=F) hp hq b a l hv hF (by omega) hb
 obtain⟨t1,t2,t3,t4⟩:=hF.program (first*F.aj+a) l;have h2:=fun b=>aaE (F:=(F.program (first*F.aj+a) l).2) hp hq b (a+l.length) [0] adX t1 (by rw[t4];simp;omega) (by rw[t4,t2];exact hb)
 rw[t4]at h2;have hz:cH 1 false [(.int .u8 0)] 1 [(0,strip (.int .u8 0))]=some (.sl .full 1 [.int .u8 0]):=rfl;rw[as8];unfold Fl.lay
 by_cases hc:(F.program (first*F.aj+a) l).1=0
 ·rw[if_pos hc]
  have e0:(((F.program (first*F.aj+a) l).1:Int) != 0)=false:=by rw[hc];rfl
  simp (disch:=omega) only[bS,h1,e0,hv.len,mJ,hz,h2,cT,←Nat.add_assoc,↓jY,jZ,j4,j5,simprocAttr,if_true,if_false,implies_true,forall_const]
 ·rw[if_neg hc]
  have e0:(((F.program (first*F.aj+a) l).1:Int) != 0)=true:=by simpa using hc
  simp (disch:=omega) only[bS,h1,e0,cT,↓jY,jZ,j4,j5,simprocAttr,if_true,if_false,implies_true,forall_const]
theorem adM (base:Nat) {v:PV} {l:List UInt8} (hv:Bv v l) (hl:l.length≤1000000):ai T base 140 [v] h=some (.int .i64 ((7+l.length:Nat):Int),h):=by
 rw[ata];simp (disch:=omega) only[hv.len,anB,bL,↓jY,jZ,j4,j5,simprocAttr,if_true,if_false,implies_true,forall_const]
def _root_.Go.Am.Fl.fill (F:Fl) (A:Nat) (a:Nat) (vs:Vs):List Nat→Nat × Nat × Fl
 | []=>(a,0,F)
 | k::r=>if(F.lay (A+a) (dF (UInt8.ofNat k) (vB ((cP vs k).getD none)) false)).1=0 then
   (F.lay (A+a) (dF (UInt8.ofNat k) (vB ((cP vs k).getD none)) false)).2.fill A (a+(7+(vB ((cP vs k).getD none)).length)) vs r
   else(0,(F.lay (A+a) (dF (UInt8.ofNat k) (vB ((cP vs k).getD none)) false)))
def kg (vs:Vs) (ks:List Nat):Nat:=(ks.map fun(k:Nat)=>7+(vB ((cP vs k).getD none)).length).sum
theorem acH (hp:pI h p) {q first count:Nat} (hq:gL h p q first count) {m:Nat} {vs:Vs} (hm:bR h m=some (pN vs)) (nm:m≠p.f∧m≠p.bb∧m≠p.wb) {n0:Nat} {R:Fl→Hp} (hR:∀ F,bJ (cv h p F) n0=R F)
  (base:Nat) (ks:List Nat) (aeJ:∀ k∈ks,k<32) (hlen:ks.length≤1000):∀ (n i a:Nat) {F:Fl},gO F→(first+count)*F.aj≤F.b.length→a+kg vs (ks.drop i)≤count*F.aj→count*F.aj≤600000→i+n=ks.length →
  abC base n0 (.int .i64 (i:Int)) (.eL m) (.int .i64 (a:Int)) (.ptr q 0) (.sl .no 1 (ks.map fun(k:Nat)=>.int .i64 (k:Int))) (.int .i64 (ks.length:Int)) (cv h p F) =
   some (.cF [.int .i64 ((F.fill (first*F.aj) a vs (ks.drop i)).1:Nat),.int .i64 ((F.fill (first*F.aj) a vs (ks.drop i)).2.1:Nat)],R (F.fill (first*F.aj) a vs (ks.drop i)).2.2)
 | 0,i,a,F,hF,hb,hsum,hcs,hi=>by
  have e0:¬ (i<ks.length):=by omega
  rw[aaZ,List.drop_of_length_le (by omega)];simp only[dec_lt,e0,decide_false,Fl.fill,hR,↓jY,jZ,j4,j5,simprocAttr,if_true,if_false,implies_true,forall_const]<;>rfl
 | n+1,i,a,F,hF,hb,hsum,hcs,hi=>by
  have e0:i<ks.length:=by omega
  have hd:ks.drop i=ks[i]::ks.drop (i+1):=List.drop_eq_getElem_cons e0;rw[hd]at hsum ⊢;simp only[kg,List.map_cons,List.sum_cons]at hsum;have hk:=aeJ ks[i] (List.getElem_mem e0);have hl:=hF.len;have hmul:=hb;rw[Nat.add_mul]at hmul;generalize hv:(cP vs ks[i]).getD none=v at hsum;have hidx:cW (.sl .no 1 (ks.map fun(k:Nat)=>PV.int .i64 (k:Int))) (.int .i64 (i:Int)) 1=some (.ep [.int .i64 (ks[i] : Int)] 0):=by
   rw[jM,if_pos rfl,iN .i64 i _ (by simpa using e0),Option.ag];simp[e0];rfl
  have hlk:=G3 (h:=cv h p F) base (m:=m) (vs:=vs) (by rw[FV hp nm.1 nm.2.1 nm.2.2];exact hm) false (ks[i] : Int);have aoB:lkR false (cP vs ks[i])=vV v:=by
   rw[←hv];cases cP vs ks[i]<;>rfl
  rw[aoB]at hlk;have hbd:=acD (h:=cv h p F) base ks[i] (ala v) (by omega) false;have hbl:(dF (UInt8.ofNat ks[i]) (vB v) false).length=(vB v).length+6:=eC _ _ _;have aoC:=adw hp hq base a (dF (UInt8.ofNat ks[i]) (vB v) false) (pL (.inl rfl) _) hF (by rw[hbl];omega) hb;obtain⟨t1,t2,t3,t4⟩:=hF.lay (first*F.aj+a) (dF (UInt8.ofNat ks[i]) (vB v) false);have aoD:=G3 (h:=cv h p (F.lay (first*F.aj+a) (dF (UInt8.ofNat ks[i]) (vB v) false)).2) base (m:=m) (vs:=vs) (by rw[FV hp nm.1 nm.2.1 nm.2.2];exact hm) false (ks[i] : Int);rw[aoB]at aoD;have hrs:=adM (h:=cv h p (F.lay (first*F.aj+a) (dF (UInt8.ofNat ks[i]) (vB v) false)).2) base (ads v) (by omega);have ih:=acH hp hq hm nm hR base ks aeJ hlen n (i+1) (a+(7+(vB v).length)) t1 (by rw[t4,t2];exact hb) (by rw[t4];simp only[kg];omega) (by rw[t4];exact hcs) (by omega);rw[t4]at ih;rw[aaZ];simp only[Fl.fill,hv]
  by_cases hc:(F.lay (first*F.aj+a) (dF (UInt8.ofNat ks[i]) (vB v) false)).1=0
  ·rw[if_pos hc]
   have e1:(((F.lay (first*F.aj+a) (dF (UInt8.ofNat ks[i]) (vB v) false)).1:Int) != 0)=false:=by rw[hc];rfl
   simp (disch:=omega) only[dec_lt,e0,decide_true,hidx,hlk,hbd,aoC,e1,aoD,hrs,mJ,fy,ih,↓jY,jZ,j4,j5,simprocAttr,if_true,if_false,implies_true,forall_const]
  ·rw[if_neg hc]
   have e1:(((F.lay (first*F.aj+a) (dF (UInt8.ofNat ks[i]) (vB v) false)).1:Int) != 0)=true:=by simpa using hc
   simp (disch:=omega) only[dec_lt,e0,decide_true,hidx,hlk,hbd,aoC,e1,hR,↓jY,jZ,j4,j5,simprocAttr,if_true,if_false,implies_true,forall_const]<;>rfl
end Go.Am.Qd
namespace Go.Am.Qd
variable {h:Hp} {p:FP} {F:Fl}
def fz (vs:Vs):List Nat:=(vs.map (·.1)).mergeSort fun x y=>decide (x≤y)
theorem acI:∀ (vs:Vs),(∀ e∈vs,e.1<32)→kW (pN vs)=some (vs.map fun e=>(e.1:Int))
 | [],_=>rfl
 | e::r,hk=>by
  have ih:=acI r fun e he=>hk e (by simp[he])
  have:=hk e (by simp);unfold pN at ih ⊢;simp only[List.map_cons,kW];rw[if_pos (by omega),ih];rfl
theorem adx (vs:Vs):sA (vs.map fun e=>(e.1:Int))=(fz vs).map fun(k:Nat)=>(k:Int):=by
 unfold sA fz;rw[List.map_mergeSort (s:=fun(x y:Int)=>decide (x≤y)) (f:=fun(k:Nat)=>(k:Int)) (by intro a _ b _;simp)];rw[List.map_map];rfl
theorem tW (vs:Vs) (k:Nat):k∈fz vs↔∃ e∈vs,e.1=k:=by
 unfold fz;rw[(List.mergeSort_perm _ _).mem_iff,List.mem_map]
theorem aeh (vs:Vs):(fz vs).length=vs.length:=by
 unfold fz;rw[(List.mergeSort_perm _ _).length_eq,List.length_map]
def ksV (ks:List Nat):PV:=if ks=[] then .bg else .sl .no 1 (ks.map fun(k:Nat)=>.int .i64 (k:Int))
theorem ac5 {m x:Nat} {vs:Vs} (hx:ay h x=some [.eL m]) (hm:bR h m=some (pN vs)) (hs:Small vs):xY 150 [.fn 150 [.ptr x 0]] h=some (ksV (fz vs),none):=by
 simp only[xY,if_true,hx,Option.ag,hm];have:=hs.1;rw[if_pos (by simp[pN];omega),acI vs fun e he=>(hs.2 e he).1,Option.ag,adx,UA,ksV];simp only[List.map_eq_nil_iff,List.map_map];rfl
theorem ady (base:Nat) {m:Nat} {vs:Vs} (hm:bR h m=some (pN vs)) (hs:Small vs) :
  ai T base 141 [.fn 150 [.ptr (size h) 0]] (ext h [.cells [.eL m]])=some (ksV (fz vs),ext h [.cells [.eL m]]):=by
 rw[yU anw,ac5 (m:=m) (vs:=vs) (by rw[aQ];rfl) (by rw[bR,dP (bw (lg hm))];exact hm) hs];rfl
theorem aei (base n0:Nat) (a:Int) (q m:Nat):abC base n0 (.int .i64 0) (.eL m) (.int .i64 a) (.ptr q 0) .bg (.int .i64 0) h=some (.cF [.int .i64 a,.int .i64 0],bJ h n0):=by
 rw[aaZ];simp only[↓jY,jZ,j4,j5,Nat.reduceAdd,Nat.reduceSub,Nat.reduceMul,Nat.reduceLeDiff,Nat.reduceLT,Nat.reduceEqDiff,Nat.reduceBEq,reduceIte,reduceCtorEq,Int.reduceBEq,Int.reduceEq,Int.reduceLT,Int.reduceLE,Int.reduceGT,Int.reduceGE,Int.reduceAdd,Int.reduceSub,Int.reduceNeg,Int.reduceBNe,ite_true,ite_false,if_true,if_false,implies_true,forall_const]
theorem gL.ext {q first count:Nat} (hq:gL h p q first count) (l:Hp):gL (Go.Am.ext h l) p q first count:=⟨by
 have:=hq.get;rw[aX (bw (bq this))];exact this,hq.n1,hq.n2,hq.n3⟩
theorem aej (hp:pI h p) {q first count:Nat} (hq:gL h p q first count) {m:Nat} {vs:Vs} (hm:bR h m=some (pN vs)) (nm:m≠p.f∧m≠p.bb∧m≠p.wb) (hs:Small vs)
  (base:Nat) (hF:gO F) (hb:(first+count)*F.aj≤F.b.length) (hsum:8+kg vs (fz vs)≤count*F.aj) (hcs:count*F.aj≤600000) :
  ai T base 122 [.ptr q 0,.eL m] (cv h p F)=some (.cF [.int .i64 ((F.fill (first*F.aj) 8 vs (fz vs)).1:Nat),.int .i64 ((F.fill (first*F.aj) 8 vs (fz vs)).2.1:Nat)],cv h p (F.fill (first*F.aj) 8 vs (fz vs)).2.2):=by
 have h4:∀ b,ai T b 142 [.eL m] (cv h p F)=some (.fn 150 [.ptr (size (cv h p F)) 0],ext (cv h p F) [.cells [.eL m]]):=fun b=>by
  rw[atb];simp only[↓jY,jZ,j4,j5,Nat.reduceAdd,Nat.reduceSub,Nat.reduceMul,Nat.reduceLeDiff,Nat.reduceLT,Nat.reduceEqDiff,Nat.reduceBEq,reduceIte,reduceCtorEq,Int.reduceBEq,Int.reduceEq,Int.reduceLT,Int.reduceLE,Int.reduceGT,Int.reduceGE,Int.reduceAdd,Int.reduceSub,Int.reduceNeg,Int.reduceBNe,ite_true,ite_false,if_true,if_false,implies_true,forall_const]
 have h5:=fun b=>ady (h:=cv h p F) b (m:=m) (vs:=vs) (by rw[FV hp nm.1 nm.2.1 nm.2.2];exact hm) hs
 rw[as4];simp only[bS]at h4 h5 ⊢;rw[h4,az,h5,az]
 by_cases hk:fz vs=[]
 ·rw[hk]
  simp only[ksV,if_true,Fl.fill,↓jY,jZ,j4,j5,Nat.reduceAdd,Nat.reduceSub,Nat.reduceMul,Nat.reduceLeDiff,Nat.reduceLT,Nat.reduceEqDiff,Nat.reduceBEq,reduceIte,reduceCtorEq,Int.reduceBEq,Int.reduceEq,Int.reduceLT,Int.reduceLE,Int.reduceGT,Int.reduceGE,Int.reduceAdd,Int.reduceSub,Int.reduceNeg,Int.reduceBNe,ite_true,ite_false,if_true,if_false,implies_true,forall_const];rw[aei];have:=cI (h:=cv h p F) (l:=[.cells [.eL m]]);rw[bS]at this;rw[this];rfl
 ·have hl:=acH (h:=ext h [.cells [.eL m]]) (F:=F) (hp.ext _) (hq.ext _) (m:=m) (vs:=vs) (by rw[bR,dP (bw (lg hm))];exact hm) nm (n0:=size h) (R:=fun F=>cv h p F)
   (fun F=>adG hp) (size h) (fz vs) (fun k hk=>by obtain⟨e,he,rfl⟩:=(tW vs k).1 hk;exact(hs.2 e he).1) (by rw[aeh];have:=hs.1;omega) (fz vs).length 0 8 hF hb (by simpa using hsum) hcs (by omega)
  simp only[show((0:Nat):Int)=0 from rfl,show((8:Nat):Int)=8 from rfl,List.drop_zero]at hl;have hlen:cB false (ksV (fz vs))=some (.int .i64 ((fz vs).length:Int)):=by rw[ksV,if_neg hk,fe,List.length_map]
  rw[hlen,Option.ag,ksV,if_neg hk,Af hp,hl]
def Keyed (vs:Vs):Prop:=(vs.map (·.1)).Nodup
theorem sX:∀ {vs:Vs},Keyed vs→∀ e∈vs,cP vs e.1=some e.2
 | [],_,e,he=>by simp at he
 | e0::r,hk,e,he=>by
  simp only[Keyed,List.map_cons,List.nodup_cons]at hk;simp only[cP];rcases List.mem_cons.1 he with rfl | he
  ·rw[if_pos rfl]
  ·rw[if_neg,sX hk.2 e he]
   intro hq;have:e0.1=e.1:=by omega
   exact hk.1 (by rw[this];exact List.mem_map.2 ⟨e,he,rfl⟩)
theorem kY {vs:Vs} (hk:Keyed vs):8+kg vs (fz vs)=cY vs:=by
 unfold kg cY fz;have hp:=(List.mergeSort_perm (vs.map (·.1)) fun x y=>decide (x≤y)).map fun(k:Nat)=>7+(vB ((cP vs k).getD none)).length
 rw[hp.sum_nat,List.map_map];congr 2;apply List.map_congr_left;intro e he;simp only[Function.comp,sX hk e he,Option.getD_some]
end Go.Am.Qd
