/- What the functions do from point to point, as equations. Printed by wip/v2/shcode.sh, mksh.py. | Evaluating equations of the plain functions. | The evaluating equations, bundled. Printed by a program of this work. By the session's AI agent. | Slices that grow on top of a heap; bytes. | Slices of values of one form, by value. | Digits: what is written is read. No program in sight. | Numbers as texts: path's number and the reference's, on the abstract machine. | 'Am': what an argument that is read as data is to the machine. | Arguments that are structs, or bytes. | Arguments of the seat: lists of numbers; for the walks. | A builder of texts: what its writes do, on the abstract machine. | Paths as texts, on the abstract machine. | A text parted at a sign. No program in sight. | Texts parted, and read as paths, on the abstract machine. | The document's examples: the machine runs them.
   By the session's AI agent. -/
import Derived.Test.YtikgjdmdcpomlaaDoorPd3
import Derived.KernelRfl
import Derived.Lib.ItoaLen
import Derived.Lib.AtoiAll
import GoSem.ClaimChange
import Derived.ChangeArms
import Derived.ChangeOld
import Derived.DataReads
import Derived.SizedLaws
import Derived.Lib.Bytealg
namespace Go.Am.YtikgjdmdcpomlaaDoor
set_option maxRecDepth 100000
set_option linter.unusedVariables false
theorem S3 (base : Nat) (a0 a1 : PV) (h : Hp) : CallA T base 3 [a0, a1] h =
 bnd2 (CallA T (size h) 7 [] h) fun x1 h2 =>
 (unOp .not x1).bnd fun x3 =>
 condB x3 (
 finV false false (size h) [(.bool false)] h2) (
 (lenB false a0).bnd fun x6 =>
 (binOp .gtr x6 (.int .i64 100)).bnd fun x7 =>
 (wantB x7 false).bnd fun b10 => (whenB b10 (some a1) (some .undef)).bnd fun x9 =>
 (wantB x7 false).bnd fun b14 => (whenB b14 ((lenB true x9).bnd some) (some .undef)).bnd fun x13 =>
 (wantB x7 false).bnd fun b18 => (whenB b18 ((binOp .gtr x13 (.int .i64 1000)).bnd some) (some .undef)).bnd fun x17 =>
 (condB x7 (some (.bool true)) (some x17)).bnd fun x21 =>
 condB x21 (
 finV false false (size h) [(.bool true)] h2) (
 bnd2 (CallA T (size h) 8 [a1] h2) fun x24 h25 =>
 (extractB x24 0).bnd fun x27 =>
 (extractB x24 1).bnd fun x28 =>
 bnd2 (CallA T (size h) 9 [a1] h25) fun x32 h33 =>
 (extractB x32 0).bnd fun x35 =>
 (extractB x32 1).bnd fun x36 =>
 bnd2 (CallA T (size h) 10 [a0] h33) fun x40 h41 =>
 bnd2 (CallA T (size h) 11 [a0] h41) fun x43 h44 =>
 (boolB false x40 x43).bnd fun x45 =>
 (wantB x45 true).bnd fun b48 => (whenB b48 (some a0) (some .undef)).bnd fun x47 =>
 (wantB x45 true).bnd fun b52 => bnd2 (whenB b52 (bnd2 (CallA T (size h) 12 [x47] h44) fun x54 h53 => some (x54, h53)) (some (.undef, h44))) fun x51 h53 =>
 (wantB x45 true).bnd fun b56 => (whenB b56 (some a0) (some .undef)).bnd fun x55 =>
 (wantB x45 true).bnd fun b60 => bnd2 (whenB b60 (bnd2 (CallA T (size h) 13 [x55] h53) fun x62 h61 => some (x62, h61)) (some (.undef, h53))) fun x59 h61 =>
 (wantB x45 true).bnd fun b64 => (whenB b64 ((binOp .eql x51 x59).bnd some) (some .undef)).bnd fun x63 =>
 (condB x45 (some x63) (some (.bool false))).bnd fun x67 =>
 (wantB x67 true).bnd fun b70 => (whenB b70 (some x28) (some .undef)).bnd fun x69 =>
 (wantB x67 true).bnd fun b74 => (whenB b74 (some x36) (some .undef)).bnd fun x73 =>
 (wantB x67 true).bnd fun b78 => (whenB b78 ((binOp .eql x69 x73).bnd some) (some .undef)).bnd fun x77 =>
 (condB x67 (some x77) (some (.bool false))).bnd fun x81 =>
 (wantB x81 true).bnd fun b84 => (whenB b84 (some x27) (some .undef)).bnd fun x83 =>
 (wantB x81 true).bnd fun b88 => (whenB b88 (some x35) (some .undef)).bnd fun x87 =>
 (wantB x81 true).bnd fun b92 => bnd2 (whenB b92 (bnd2 (CallA T (size h) 14 [x83, x87] h61) fun x94 h93 => some (x94, h93)) (some (.undef, h61))) fun x91 h93 =>
 (condB x81 (some x91) (some (.bool false))).bnd fun x95 =>
 finV false false (size h) [x95] h93)) := (Pt_enter T_3 base _ h).trans (by kernel_rfl)
theorem S4 (base : Nat) (a0 : PV) (h : Hp) : CallA T base 4 [a0] h =
 bnd2 (CallA T (size h) 7 [] h) fun x1 h2 =>
 (unOp .not x1).bnd fun x3 =>
 condB x3 (
 finV false false (size h) [(.bool false)] h2) (
 bnd2 (CallA T (size h) 15 [a0] h2) fun x6 h7 =>
 (unOp .not x6).bnd fun x8 =>
 condB x8 (
 finV false false (size h) [(.bool true)] h7) (
 bnd2 (CallA T (size h) 16 [a0] h7) fun x11 h12 =>
 (extractB x11 0).bnd fun x14 =>
 (extractB x11 1).bnd fun x15 =>
 bnd2 (CallA T (size h) 17 [a0] h12) fun x19 h20 =>
 (extractB x19 0).bnd fun x22 =>
 (extractB x19 1).bnd fun x23 =>
 bnd2 (CallA T (size h) 18 [a0] h20) fun x27 h28 =>
 (extractB x27 0).bnd fun x30 =>
 (extractB x27 1).bnd fun x31 =>
 (extractB x27 2).bnd fun x32 =>
 allocK [(.int .i64 0), (.int .i64 0), (.bool false), (.bool false), (.int .i64 0), (.int .i64 0), (.int .i64 0), (.bool false), (.bool false), (.bool false)] h28 fun x33 h34 =>
 (storeV (size h) 10 x33 x30 h34).bnd fun h35 =>
 bnd2 (CallA T (size h) 19 [a0] h35) fun x39 h40 =>
 (extractB x39 0).bnd fun x42 =>
 (extractB x39 1).bnd fun x43 =>
 (extractB x39 2).bnd fun x44 =>
 allocK [(.int .i64 0), (.int .i64 0), (.bool false), (.bool false), (.int .i64 0), (.int .i64 0), (.int .i64 0), (.bool false), (.bool false), (.bool false)] h40 fun x45 h46 =>
 (storeV (size h) 10 x45 x42 h46).bnd fun h47 =>
 (binOp .eql x15 x23).bnd fun x52 =>
 (wantB x52 true).bnd fun b55 => (whenB b55 (some x14) (some .undef)).bnd fun x54 =>
 (wantB x52 true).bnd fun b59 => (whenB b59 (some x22) (some .undef)).bnd fun x58 =>
 (wantB x52 true).bnd fun b63 => bnd2 (whenB b63 (bnd2 (CallA T (size h) 14 [x54, x58] h47) fun x65 h64 => some (x65, h64)) (some (.undef, h47))) fun x62 h64 =>
 (condB x52 (some x62) (some (.bool false))).bnd fun x66 =>
 (wantB x66 true).bnd fun b69 => (whenB b69 (some a0) (some .undef)).bnd fun x68 =>
 (wantB x66 true).bnd fun b73 => bnd2 (whenB b73 (bnd2 (CallA T (size h) 21 [x68] h64) fun x75 h74 => some (x75, h74)) (some (.undef, h64))) fun x72 h74 =>
 (wantB x66 true).bnd fun b77 => (whenB b77 (some a0) (some .undef)).bnd fun x76 =>
 (wantB x66 true).bnd fun b81 => bnd2 (whenB b81 (bnd2 (CallA T (size h) 22 [x76] h74) fun x83 h82 => some (x83, h82)) (some (.undef, h74))) fun x80 h82 =>
 (wantB x66 true).bnd fun b85 => bnd2 (whenB b85 (bnd2 (CallA T (size h) 20 [x72, x80] h82) fun x87 h86 => some (x87, h86)) (some (.undef, h82))) fun x84 h86 =>
 (condB x66 (some x84) (some (.bool false))).bnd fun x88 =>
 (wantB x88 true).bnd fun b91 => (whenB b91 (some a0) (some .undef)).bnd fun x90 =>
 (wantB x88 true).bnd fun b95 => bnd2 (whenB b95 (bnd2 (CallA T (size h) 24 [x90] h86) fun x97 h96 => some (x97, h96)) (some (.undef, h86))) fun x94 h96 =>
 (wantB x88 true).bnd fun b99 => (whenB b99 (some a0) (some .undef)).bnd fun x98 =>
 (wantB x88 true).bnd fun b103 => bnd2 (whenB b103 (bnd2 (CallA T (size h) 25 [x98] h96) fun x105 h104 => some (x105, h104)) (some (.undef, h96))) fun x102 h104 =>
 (wantB x88 true).bnd fun b107 => bnd2 (whenB b107 (bnd2 (CallA T (size h) 23 [x94, x102] h104) fun x109 h108 => some (x109, h108)) (some (.undef, h104))) fun x106 h108 =>
 (condB x88 (some x106) (some (.bool false))).bnd fun x110 =>
 (wantB x110 true).bnd fun b113 => (whenB b113 (some x32) (some .undef)).bnd fun x112 =>
 (wantB x110 true).bnd fun b117 => (whenB b117 (some x44) (some .undef)).bnd fun x116 =>
 (wantB x110 true).bnd fun b121 => (whenB b121 ((binOp .eql x112 x116).bnd some) (some .undef)).bnd fun x120 =>
 (condB x110 (some x120) (some (.bool false))).bnd fun x124 =>
 (wantB x124 true).bnd fun b127 => (whenB b127 ((loadV 10 true x33 h108).bnd some) (some .undef)).bnd fun x126 =>
 (wantB x124 true).bnd fun b131 => (whenB b131 ((loadV 10 true x45 h108).bnd some) (some .undef)).bnd fun x130 =>
 (wantB x124 true).bnd fun b135 => (whenB b135 ((eqvB false [1, 1, 0, 0, 1, 1, 1, 0, 0, 0] x126 x130).bnd some) (some .undef)).bnd fun x134 =>
 (condB x124 (some x134) (some (.bool false))).bnd fun x138 =>
 (wantB x138 true).bnd fun b141 => (whenB b141 (some x31) (some .undef)).bnd fun x140 =>
 (wantB x138 true).bnd fun b145 => (whenB b145 (some x43) (some .undef)).bnd fun x144 =>
 (wantB x138 true).bnd fun b149 => (whenB b149 ((boolB false x140 x144).bnd some) (some .undef)).bnd fun x148 =>
 (condB x138 (some x148) (some (.bool false))).bnd fun x152 =>
 finV false false (size h) [x152] h108)) := (Pt_enter T_4 base _ h).trans (by kernel_rfl)
noncomputable def P5_0 (base n0 : Nat) (v37 v7 v35 v1 v0 v5 v6 v36 : PV) (h : Hp) : Option (PV × Hp) := Pt T F5 [1, 1, 1, 0, 1, 0, 1, 1, 0, 1, 0, 1] base n0 [(37, v37), (7, v7), (35, v35), (1, v1), (0, v0), (5, v5), (6, v6), (36, v36)] h
noncomputable def P5_1 (base n0 : Nat) (v1 : PV) (h : Hp) : Option (PV × Hp) := Pt T F5 [1, 1, 1, 1, 1] base n0 [(1, v1)] h
noncomputable def P5_2 (base n0 : Nat) (v76 v12 v74 v1 v75 : PV) (h : Hp) : Option (PV × Hp) := Pt T F5 [1, 1, 1, 1, 1, 1, 0, 1, 0, 1] base n0 [(76, v76), (12, v12), (74, v74), (1, v1), (75, v75)] h
noncomputable def P5_3 (base n0 : Nat) (v15 v14 v74 v1 v75 v76 v12 : PV) (h : Hp) : Option (PV × Hp) := Pt T F5 [1, 1, 1, 1, 1, 1, 0, 1, 0, 1, 0, 0, 1, 1, 0, 0, 1, 1, 0, 1, 0, 1] base n0 [(15, v15), (14, v14), (74, v74), (1, v1), (75, v75), (76, v76), (12, v12)] h
theorem P5_0_eq (base n0 : Nat) (v37 v7 v35 v1 v0 v5 v6 v36 : PV) (h : Hp) : P5_0 base n0 v37 v7 v35 v1 v0 v5 v6 v36 h =
 (binOp .lss v37 v36).bnd fun x0 =>
 condB x0 (
 (idxAB v35 v37 1).bnd fun x1 =>
 (loadV 1 false x1 h).bnd fun x2 =>
 (buildSlV 1 false [(.int .i64 0)] 1 [(0, strip x2)]).bnd fun x6 =>
 bnd2 (CallA T base 12 [x6] h) fun x7 h8 =>
 (sliceV none (some (.int .i64 1)) none none x7).bnd fun x9 =>
 (buildSlV 1 false [(.str [])] 1 [(0, strip x9)]).bnd fun x10 =>
 bnd2 (appTV 9 1 v7 x10 h8) fun x11 h12 =>
 (binOp .add v37 (.int .i64 1)).bnd fun x14 =>
 P5_0 base n0 x14 x11 v35 v1 v0 v5 v6 v36 h12) (
 bnd2 (CallA T base 26 [v7] h) fun x17 h18 =>
 bnd2 (CallA T base 16 [x17] h18) fun x19 h20 =>
 (extractB x19 0).bnd fun x22 =>
 (extractB x19 1).bnd fun x23 =>
 (binOp .neq v6 (.int .i64 0)).bnd fun x27 =>
 (wantB x27 false).bnd fun b30 => (whenB b30 (some x23) (some .undef)).bnd fun x29 =>
 (wantB x27 false).bnd fun b34 => (whenB b34 ((binOp .neq x29 (.int .i64 0)).bnd some) (some .undef)).bnd fun x33 =>
 (condB x27 (some (.bool true)) (some x33)).bnd fun x37 =>
 (wantB x37 false).bnd fun b40 => (whenB b40 (some v0) (some .undef)).bnd fun x39 =>
 (wantB x37 false).bnd fun b44 => (whenB b44 (some v5) (some .undef)).bnd fun x43 =>
 (wantB x37 false).bnd fun b48 => bnd2 (whenB b48 (bnd2 (CallA T base 14 [x39, x43] h20) fun x50 h49 => some (x50, h49)) (some (.undef, h20))) fun x47 h49 =>
 (wantB x37 false).bnd fun b52 => (whenB b52 ((unOp .not x47).bnd some) (some .undef)).bnd fun x51 =>
 (condB x37 (some (.bool true)) (some x51)).bnd fun x55 =>
 (wantB x55 false).bnd fun b58 => (whenB b58 (some v0) (some .undef)).bnd fun x57 =>
 (wantB x55 false).bnd fun b62 => (whenB b62 (some x22) (some .undef)).bnd fun x61 =>
 (wantB x55 false).bnd fun b66 => bnd2 (whenB b66 (bnd2 (CallA T base 14 [x57, x61] h49) fun x68 h67 => some (x68, h67)) (some (.undef, h49))) fun x65 h67 =>
 (wantB x55 false).bnd fun b70 => (whenB b70 ((unOp .not x65).bnd some) (some .undef)).bnd fun x69 =>
 (condB x55 (some (.bool true)) (some x69)).bnd fun x73 =>
 condB x73 (
 finV false false n0 [(.bool false)] h67) (
 P5_1 base n0 v1 h67)) := (Pt_eq T F5 [1, 1, 1, 0, 1, 0, 1, 1, 0, 1, 0, 1] base n0 [(37, v37), (7, v7), (35, v35), (1, v1), (0, v0), (5, v5), (6, v6), (36, v36)] h).trans (by kernel_rfl)
theorem P5_1_eq (base n0 : Nat) (v1 : PV) (h : Hp) : P5_1 base n0 v1 h =
 (buildSlV 3 true [(.str []), (.str []), (.bool false)] 0 []).bnd fun x0 =>
 (lenB false v1).bnd fun x3 =>
 P5_2 base n0 (.int .i64 0) x0 v1 v1 x3 h := (Pt_eq T F5 [1, 1, 1, 1, 1] base n0 [(1, v1)] h).trans (by kernel_rfl)
theorem P5_2_eq (base n0 : Nat) (v76 v12 v74 v1 v75 : PV) (h : Hp) : P5_2 base n0 v76 v12 v74 v1 v75 h =
 (binOp .lss v76 v75).bnd fun x0 =>
 condB x0 (
 (idxAB v74 v76 3).bnd fun x1 =>
 (loadV 3 true x1 h).bnd fun x2 =>
 allocK [(.str []), (.str []), (.bool false)] h fun x3 h4 =>
 (storeV base 3 x3 x2 h4).bnd fun h5 =>
 (fieldAB x3 0).bnd fun x6 =>
 (loadV 1 false x6 h5).bnd fun x7 =>
 (lenB true x7).bnd fun x8 =>
 (binOp .gtr x8 (.int .i64 100)).bnd fun x9 =>
 (wantB x9 false).bnd fun b12 => (whenB b12 ((fieldAB x3 1).bnd some) (some .undef)).bnd fun x11 =>
 (wantB x9 false).bnd fun b16 => (whenB b16 ((loadV 1 false x11 h5).bnd some) (some .undef)).bnd fun x15 =>
 (wantB x9 false).bnd fun b20 => (whenB b20 ((lenB true x15).bnd some) (some .undef)).bnd fun x19 =>
 (wantB x9 false).bnd fun b24 => (whenB b24 ((binOp .gtr x19 (.int .i64 100)).bnd some) (some .undef)).bnd fun x23 =>
 (condB x9 (some (.bool true)) (some x23)).bnd fun x27 =>
 condB x27 (
 finV false false n0 [(.bool true)] h5) (
 P5_3 base n0 (.int .i64 0) x3 v74 v1 v75 v76 v12 h5)) (
 bnd2 (CallA T base 27 [v1] h) fun x31 h32 =>
 bnd2 (CallA T base 24 [x31] h32) fun x33 h34 =>
 bnd2 (CallA T base 23 [x33, v12] h34) fun x36 h37 =>
 finV false false n0 [x36] h37) := (Pt_eq T F5 [1, 1, 1, 1, 1, 1, 0, 1, 0, 1] base n0 [(76, v76), (12, v12), (74, v74), (1, v1), (75, v75)] h).trans (by kernel_rfl)
theorem P5_3_eq (base n0 : Nat) (v15 v14 v74 v1 v75 v76 v12 : PV) (h : Hp) : P5_3 base n0 v15 v14 v74 v1 v75 v76 v12 h =
 (fieldAB v14 0).bnd fun x1 =>
 (loadV 1 false x1 h).bnd fun x2 =>
 (lenB true x2).bnd fun x3 =>
 (binOp .lss v15 x3).bnd fun x4 =>
 condB x4 (
 (fieldAB v14 0).bnd fun x5 =>
 (loadV 1 false x5 h).bnd fun x6 =>
 (idxStrB x6 v15).bnd fun x8 =>
 (binOp .eql x8 (.int .u8 61)).bnd fun x9 =>
 condB x9 (
 finV false false n0 [(.bool true)] h) (
 (binOp .add v15 (.int .i64 1)).bnd fun x12 =>
 P5_3 base n0 x12 v14 v74 v1 v75 v76 v12 h)) (
 (fieldAB v14 2).bnd fun x14 =>
 (loadV 1 false x14 h).bnd fun x15 =>
 condB x15 (
 (fieldAB v14 1).bnd fun x16 =>
 (storeV base 1 x16 (.str []) h).bnd fun h17 =>
 (loadV 3 true v14 h17).bnd fun x19 =>
 (buildSlV 3 true [(.str []), (.str []), (.bool false)] 1 [(0, strip x19)]).bnd fun x20 =>
 bnd2 (appTV 51 3 v12 x20 h17) fun x21 h22 =>
 (binOp .add v76 (.int .i64 1)).bnd fun x24 =>
 P5_2 base n0 x24 x21 v74 v1 v75 h22) (
 (loadV 3 true v14 h).bnd fun x27 =>
 (buildSlV 3 true [(.str []), (.str []), (.bool false)] 1 [(0, strip x27)]).bnd fun x28 =>
 bnd2 (appTV 51 3 v12 x28 h) fun x29 h30 =>
 (binOp .add v76 (.int .i64 1)).bnd fun x32 =>
 P5_2 base n0 x32 x29 v74 v1 v75 h30)) := (Pt_eq T F5 [1, 1, 1, 1, 1, 1, 0, 1, 0, 1, 0, 0, 1, 1, 0, 0, 1, 1, 0, 1, 0, 1] base n0 [(15, v15), (14, v14), (74, v74), (1, v1), (75, v75), (76, v76), (12, v12)] h).trans (by kernel_rfl)
theorem S5 (base : Nat) (a0 a1 : PV) (h : Hp) : CallA T base 5 [a0, a1] h =
 bnd2 (CallA T (size h) 7 [] h) fun x1 h2 =>
 (unOp .not x1).bnd fun x3 =>
 condB x3 (
 finV false false (size h) [(.bool false)] h2) (
 (lenB false a0).bnd fun x6 =>
 (binOp .gtr x6 (.int .i64 100)).bnd fun x7 =>
 (wantB x7 false).bnd fun b10 => (whenB b10 (some a1) (some .undef)).bnd fun x9 =>
 (wantB x7 false).bnd fun b14 => (whenB b14 ((lenB false x9).bnd some) (some .undef)).bnd fun x13 =>
 (wantB x7 false).bnd fun b18 => (whenB b18 ((binOp .gtr x13 (.int .i64 20)).bnd some) (some .undef)).bnd fun x17 =>
 (condB x7 (some (.bool true)) (some x17)).bnd fun x21 =>
 condB x21 (
 finV false false (size h) [(.bool true)] h2) (
 bnd2 (CallA T (size h) 10 [a0] h2) fun x24 h25 =>
 condB x24 (
 bnd2 (CallA T (size h) 12 [a0] h25) fun x27 h28 =>
 bnd2 (CallA T (size h) 8 [x27] h28) fun x29 h30 =>
 (extractB x29 0).bnd fun x32 =>
 (extractB x29 1).bnd fun x33 =>
 (buildSlV 1 false [(.str [])] 0 []).bnd fun x36 =>
 (lenB false a0).bnd fun x39 =>
 P5_0 (size h) (size h) (.int .i64 0) x36 a0 a1 a0 x32 x33 x39 h30) (
 P5_1 (size h) (size h) a1 h25))) := (Pt_enter T_5 base _ h).trans (by kernel_rfl)
noncomputable def P6_0 (base n0 : Nat) (v3 v2 v1 v4 v0 v11 : PV) (h : Hp) : Option (PV × Hp) := Pt T F6 [1, 1, 1, 1, 1, 1] base n0 [(3, v3), (2, v2), (1, v1), (4, v4), (0, v0), (11, v11)] h
theorem P6_0_eq (base n0 : Nat) (v3 v2 v1 v4 v0 v11 : PV) (h : Hp) : P6_0 base n0 v3 v2 v1 v4 v0 v11 h =
 bnd2 (CallA T base 27 [v11] h) fun x1 h2 =>
 bnd2 (CallA T base 18 [x1] h2) fun x3 h4 =>
 (extractB x3 0).bnd fun x6 =>
 (extractB x3 1).bnd fun x7 =>
 (extractB x3 2).bnd fun x8 =>
 allocK [(.int .i64 0), (.int .i64 0), (.bool false), (.bool false), (.int .i64 0), (.int .i64 0), (.int .i64 0), (.bool false), (.bool false), (.bool false)] h4 fun x9 h10 =>
 (storeV base 10 x9 x6 h10).bnd fun h11 =>
 (wantB v4 true).bnd fun b17 => (whenB b17 (some v1) (some .undef)).bnd fun x16 =>
 (wantB v4 true).bnd fun b21 => (whenB b21 (some v0) (some .undef)).bnd fun x20 =>
 (wantB v4 true).bnd fun b25 => (whenB b25 ((binOp .lss x16 x20).bnd some) (some .undef)).bnd fun x24 =>
 (condB v4 (some x24) (some (.bool false))).bnd fun x28 =>
 (wantB x28 false).bnd fun b31 => (whenB b31 (some v3) (some .undef)).bnd fun x30 =>
 (wantB x28 false).bnd fun b35 => (whenB b35 ((binOp .eql x30 (.int .i64 0)).bnd some) (some .undef)).bnd fun x34 =>
 (condB x28 (some (.bool true)) (some x34)).bnd fun x38 =>
 condB x38 (
 (binOp .eql x8 (.int .i64 1)).bnd fun x40 =>
 (wantB x40 true).bnd fun b43 => (whenB b43 (some x7) (some .undef)).bnd fun x42 =>
 (wantB x40 true).bnd fun b47 => (whenB b47 ((unOp .not x42).bnd some) (some .undef)).bnd fun x46 =>
 (condB x40 (some x46) (some (.bool false))).bnd fun x50 =>
 finV false false n0 [x50] h11) (
 (binOp .eql x8 (.int .i64 0)).bnd fun x53 =>
 (wantB x53 true).bnd fun b56 => (whenB b56 (some x7) (some .undef)).bnd fun x55 =>
 (condB x53 (some x55) (some (.bool false))).bnd fun x59 =>
 (wantB x59 true).bnd fun b62 => (whenB b62 ((fieldAB x9 0).bnd some) (some .undef)).bnd fun x61 =>
 (wantB x59 true).bnd fun b66 => (whenB b66 ((loadV 1 false x61 h11).bnd some) (some .undef)).bnd fun x65 =>
 (wantB x59 true).bnd fun b70 => (whenB b70 (some v0) (some .undef)).bnd fun x69 =>
 (wantB x59 true).bnd fun b74 => (whenB b74 ((binOp .eql x65 x69).bnd some) (some .undef)).bnd fun x73 =>
 (condB x59 (some x73) (some (.bool false))).bnd fun x77 =>
 (wantB x77 true).bnd fun b80 => (whenB b80 ((fieldAB x9 2).bnd some) (some .undef)).bnd fun x79 =>
 (wantB x77 true).bnd fun b84 => (whenB b84 ((loadV 1 false x79 h11).bnd some) (some .undef)).bnd fun x83 =>
 (condB x77 (some x83) (some (.bool false))).bnd fun x87 =>
 (wantB x87 true).bnd fun b90 => (whenB b90 ((fieldAB x9 3).bnd some) (some .undef)).bnd fun x89 =>
 (wantB x87 true).bnd fun b94 => (whenB b94 ((loadV 1 false x89 h11).bnd some) (some .undef)).bnd fun x93 =>
 (wantB x87 true).bnd fun b98 => (whenB b98 (some v4) (some .undef)).bnd fun x97 =>
 (wantB x87 true).bnd fun b102 => (whenB b102 ((boolB false x93 x97).bnd some) (some .undef)).bnd fun x101 =>
 (condB x87 (some x101) (some (.bool false))).bnd fun x105 =>
 (wantB x105 true).bnd fun b108 => (whenB b108 (some v4) (some .undef)).bnd fun x107 =>
 (wantB x105 true).bnd fun b112 => (whenB b112 ((unOp .not x107).bnd some) (some .undef)).bnd fun x111 =>
 (wantB x105 true).bnd fun b116 => (whenB b116 (some x111) (some .undef)).bnd fun x115 =>
 (wantB x115 false).bnd fun b120 => (whenB b120 ((fieldAB x9 1).bnd some) (some .undef)).bnd fun x119 =>
 (wantB x115 false).bnd fun b124 => (whenB b124 ((loadV 1 false x119 h11).bnd some) (some .undef)).bnd fun x123 =>
 (wantB x115 false).bnd fun b128 => (whenB b128 (some v1) (some .undef)).bnd fun x127 =>
 (wantB x115 false).bnd fun b132 => (whenB b132 ((binOp .eql x123 x127).bnd some) (some .undef)).bnd fun x131 =>
 (wantB x105 true).bnd fun b136 => (whenB b136 ((condB x115 (some (.bool true)) (some x131)).bnd some) (some .undef)).bnd fun x135 =>
 (condB x105 (some x135) (some (.bool false))).bnd fun x139 =>
 (wantB x139 true).bnd fun b142 => (whenB b142 ((fieldAB x9 4).bnd some) (some .undef)).bnd fun x141 =>
 (wantB x139 true).bnd fun b146 => (whenB b146 ((loadV 1 false x141 h11).bnd some) (some .undef)).bnd fun x145 =>
 (wantB x139 true).bnd fun b150 => (whenB b150 (some v2) (some .undef)).bnd fun x149 =>
 (wantB x139 true).bnd fun b154 => (whenB b154 ((binOp .sub (.int .i64 0) x149).bnd some) (some .undef)).bnd fun x153 =>
 (wantB x139 true).bnd fun b158 => (whenB b158 ((binOp .eql x145 x153).bnd some) (some .undef)).bnd fun x157 =>
 (condB x139 (some x157) (some (.bool false))).bnd fun x161 =>
 (wantB x161 true).bnd fun b164 => (whenB b164 ((fieldAB x9 7).bnd some) (some .undef)).bnd fun x163 =>
 (wantB x161 true).bnd fun b168 => (whenB b168 ((loadV 1 false x163 h11).bnd some) (some .undef)).bnd fun x167 =>
 (condB x161 (some x167) (some (.bool false))).bnd fun x171 =>
 (wantB x171 true).bnd fun b174 => (whenB b174 ((fieldAB x9 6).bnd some) (some .undef)).bnd fun x173 =>
 (wantB x171 true).bnd fun b178 => (whenB b178 ((loadV 1 false x173 h11).bnd some) (some .undef)).bnd fun x177 =>
 (wantB x171 true).bnd fun b182 => (whenB b182 (some v3) (some .undef)).bnd fun x181 =>
 (wantB x171 true).bnd fun b186 => (whenB b186 ((binOp .eql x177 x181).bnd some) (some .undef)).bnd fun x185 =>
 (condB x171 (some x185) (some (.bool false))).bnd fun x189 =>
 (wantB x189 true).bnd fun b192 => (whenB b192 ((fieldAB x9 8).bnd some) (some .undef)).bnd fun x191 =>
 (wantB x189 true).bnd fun b196 => (whenB b196 ((loadV 1 false x191 h11).bnd some) (some .undef)).bnd fun x195 =>
 (wantB x189 true).bnd fun b200 => (whenB b200 ((unOp .not x195).bnd some) (some .undef)).bnd fun x199 =>
 (condB x189 (some x199) (some (.bool false))).bnd fun x203 =>
 finV false false n0 [x203] h11) := (Pt_eq T F6 [1, 1, 1, 1, 1, 1] base n0 [(3, v3), (2, v2), (1, v1), (4, v4), (0, v0), (11, v11)] h).trans (by kernel_rfl)
theorem S6 (base : Nat) (a0 a1 a2 a3 a4 : PV) (h : Hp) : CallA T base 6 [a0, a1, a2, a3, a4] h =
 bnd2 (CallA T (size h) 7 [] h) fun x1 h2 =>
 (unOp .not x1).bnd fun x3 =>
 condB x3 (
 finV false false (size h) [(.bool false)] h2) (
 (binOp .and a0 (.int .i64 65535)).bnd fun x6 =>
 (binOp .and a1 (.int .i64 65535)).bnd fun x8 =>
 (binOp .and a2 (.int .i64 2147483647)).bnd fun x10 =>
 (binOp .and a3 (.int .i64 2147483647)).bnd fun x12 =>
 bnd2 (CallA T (size h) 28 [x6] h2) fun x18 h19 =>
 (buildV [(.str []), (.str []), (.bool false)] [(0, 1, (.str [112, 109, 105, 110])), (1, 1, x18)]).bnd fun x20 =>
 bnd2 (CallA T (size h) 28 [(.int .i64 7)] h19) fun x21 h22 =>
 (buildV [(.str []), (.str []), (.bool false)] [(0, 1, (.str [103, 116])), (1, 1, x21)]).bnd fun x23 =>
 (binOp .sub (.int .i64 0) x10).bnd fun x25 =>
 bnd2 (CallA T (size h) 28 [x25] h22) fun x26 h27 =>
 (buildV [(.str []), (.str []), (.bool false)] [(0, 1, (.str [103, 116])), (1, 1, x26)]).bnd fun x28 =>
 bnd2 (CallA T (size h) 28 [x12] h27) fun x30 h31 =>
 (buildV [(.str []), (.str []), (.bool false)] [(0, 1, (.str [115, 116])), (1, 1, x30)]).bnd fun x32 =>
 (buildSlV 3 true [(.str []), (.str []), (.bool false)] 4 [(0, strip x20), (1, strip x23), (2, strip x28), (3, strip x32)]).bnd fun x33 =>
 condB a4 (
 bnd2 (CallA T (size h) 28 [x8] h31) fun x38 h39 =>
 (buildV [(.str []), (.str []), (.bool false)] [(0, 1, (.str [112, 109, 97, 120])), (1, 1, x38)]).bnd fun x40 =>
 (buildSlV 3 true [(.str []), (.str []), (.bool false)] 1 [(0, strip x40)]).bnd fun x41 =>
 bnd2 (appTV 51 3 x33 x41 h39) fun x42 h43 =>
 P6_0 (size h) (size h) x12 x10 x8 a4 x6 x42 h43) (
 P6_0 (size h) (size h) x12 x10 x8 a4 x6 x33 h31)) := (Pt_enter T_6 base _ h).trans (by kernel_rfl)
theorem S8 (base : Nat) (a0 : PV) (h : Hp) : CallA T base 8 [a0] h =
 bnd2 (CallA T (size h) 29 [a0, (.str [47])] h) fun x3 h4 =>
 (extractB x3 0).bnd fun x6 =>
 (extractB x3 1).bnd fun x7 =>
 (unOp .not x7).bnd fun x11 =>
 condB x11 (
 finV false false (size h) [.nils, (.int .i64 20)] h4) (
 (binOp .eql x6 (.str [])).bnd fun x16 =>
 condB x16 (
 finV false false (size h) [.nils, (.int .i64 0)] h4) (
 bnd2 (CallA T (size h) 31 [x6, (.str [47])] h4) fun x21 h22 =>
 bnd2 (CallA T (size h) 30 [x21] h22) fun x23 h24 =>
 (extractB x23 0).bnd fun x26 =>
 (extractB x23 1).bnd fun x27 =>
 (binOp .neq x27 (.int .i64 0)).bnd fun x31 =>
 condB x31 (
 finV false false (size h) [.nils, (.int .i64 20)] h24) (
 finV false false (size h) [x26, (.int .i64 0)] h24))) := (Pt_enter T_8 base _ h).trans (by kernel_rfl)
noncomputable def P9_0 (base n0 : Nat) (v6 v5 v0 v4 : PV) (h : Hp) : Option (PV × Hp) := Pt T F9 [1, 1, 1, 1, 1, 0, 1, 0, 1] base n0 [(6, v6), (5, v5), (0, v0), (4, v4)] h
theorem P9_0_eq (base n0 : Nat) (v6 v5 v0 v4 : PV) (h : Hp) : P9_0 base n0 v6 v5 v0 v4 h =
 (lenB true v0).bnd fun x2 =>
 (binOp .leq v6 x2).bnd fun x3 =>
 condB x3 (
 (lenB true v0).bnd fun x6 =>
 (binOp .eql v6 x6).bnd fun x7 =>
 (wantB x7 false).bnd fun b10 => (whenB b10 (some v0) (some .undef)).bnd fun x9 =>
 (wantB x7 false).bnd fun b14 => (whenB b14 (some v6) (some .undef)).bnd fun x13 =>
 (wantB x7 false).bnd fun b18 => (whenB b18 ((idxStrB x9 x13).bnd some) (some .undef)).bnd fun x17 =>
 (wantB x7 false).bnd fun b22 => (whenB b22 ((binOp .eql x17 (.int .u8 47)).bnd some) (some .undef)).bnd fun x21 =>
 (condB x7 (some (.bool true)) (some x21)).bnd fun x25 =>
 condB x25 (
 (sliceV none (some v5) (some v6) none v0).bnd fun x30 =>
 (buildSlV 1 false [(.str [])] 1 [(0, strip x30)]).bnd fun x31 =>
 bnd2 (appTV 9 1 v4 x31 h) fun x32 h33 =>
 (binOp .add v6 (.int .i64 1)).bnd fun x36 =>
 (binOp .add v6 (.int .i64 1)).bnd fun x39 =>
 P9_0 base n0 x39 x36 v0 x32 h33) (
 (binOp .add v6 (.int .i64 1)).bnd fun x42 =>
 P9_0 base n0 x42 v5 v0 v4 h)) (
 bnd2 (CallA T base 32 [v4] h) fun x45 h46 =>
 (extractB x45 0).bnd fun x48 =>
 (extractB x45 1).bnd fun x49 =>
 (binOp .neq x49 (.int .i64 0)).bnd fun x53 =>
 condB x53 (
 finV false false n0 [.nils, (.int .i64 20)] h46) (
 finV false false n0 [x48, (.int .i64 0)] h46)) := (Pt_eq T F9 [1, 1, 1, 1, 1, 0, 1, 0, 1] base n0 [(6, v6), (5, v5), (0, v0), (4, v4)] h).trans (by kernel_rfl)
theorem S9 (base : Nat) (a0 : PV) (h : Hp) : CallA T base 9 [a0] h =
 (binOp .eql a0 (.str [47])).bnd fun x3 =>
 condB x3 (
 (buildSlV 1 false [(.int .i64 0)] 0 []).bnd fun x4 =>
 finV false false (size h) [x4, (.int .i64 0)] h) (
 (binOp .eql a0 (.str [])).bnd fun x8 =>
 (wantB x8 false).bnd fun b11 => (whenB b11 (some a0) (some .undef)).bnd fun x10 =>
 (wantB x8 false).bnd fun b15 => (whenB b15 ((idxStrB x10 (.int .i64 0)).bnd some) (some .undef)).bnd fun x14 =>
 (wantB x8 false).bnd fun b19 => (whenB b19 ((binOp .neq x14 (.int .u8 47)).bnd some) (some .undef)).bnd fun x18 =>
 (condB x8 (some (.bool true)) (some x18)).bnd fun x22 =>
 condB x22 (
 finV false false (size h) [.nils, (.int .i64 20)] h) (
 (buildSlV 1 false [(.str [])] 0 []).bnd fun x25 =>
 P9_0 (size h) (size h) (.int .i64 1) (.int .i64 1) a0 x25 h)) := (Pt_enter T_9 base _ h).trans (by kernel_rfl)
noncomputable def P10_0 (base n0 : Nat) (v7 v5 v0 v6 : PV) (h : Hp) : Option (PV × Hp) := Pt T F10 [1, 0, 1, 0, 1] base n0 [(7, v7), (5, v5), (0, v0), (6, v6)] h
theorem P10_0_eq (base n0 : Nat) (v7 v5 v0 v6 : PV) (h : Hp) : P10_0 base n0 v7 v5 v0 v6 h =
 (binOp .lss v7 v6).bnd fun x0 =>
 condB x0 (
 (idxAB v5 v7 1).bnd fun x1 =>
 (loadV 1 false x1 h).bnd fun x2 =>
 (binOp .lss x2 (.int .i64 0)).bnd fun x5 =>
 (wantB x5 false).bnd fun b8 => (whenB b8 (some x2) (some .undef)).bnd fun x7 =>
 (wantB x5 false).bnd fun b12 => (whenB b12 ((binOp .gtr x7 (.int .i64 65535)).bnd some) (some .undef)).bnd fun x11 =>
 (condB x5 (some (.bool true)) (some x11)).bnd fun x15 =>
 condB x15 (
 finV false false n0 [(.bool false)] h) (
 (binOp .add v7 (.int .i64 1)).bnd fun x17 =>
 P10_0 base n0 x17 v5 v0 v6 h)) (
 (lenB false v0).bnd fun x20 =>
 (binOp .leq x20 (.int .i64 3)).bnd fun x21 =>
 finV false false n0 [x21] h) := (Pt_eq T F10 [1, 0, 1, 0, 1] base n0 [(7, v7), (5, v5), (0, v0), (6, v6)] h).trans (by kernel_rfl)
theorem S10 (base : Nat) (a0 : PV) (h : Hp) : CallA T base 10 [a0] h =
 (lenB false a0).bnd fun x2 =>
 P10_0 (size h) (size h) (.int .i64 0) a0 a0 x2 h := (Pt_enter T_10 base _ h).trans (by kernel_rfl)
noncomputable def P11_0 (base n0 : Nat) (v3 v0 : PV) (h : Hp) : Option (PV × Hp) := Pt T F11 [1, 1, 0, 1, 0, 1] base n0 [(3, v3), (0, v0)] h
theorem P11_0_eq (base n0 : Nat) (v3 v0 : PV) (h : Hp) : P11_0 base n0 v3 v0 h =
 (lenB false v0).bnd fun x2 =>
 (binOp .lss v3 x2).bnd fun x3 =>
 condB x3 (
 (idxAB v0 v3 1).bnd fun x6 =>
 (loadV 1 false x6 h).bnd fun x7 =>
 (binOp .lss x7 (.int .i64 0)).bnd fun x8 =>
 (wantB x8 false).bnd fun b11 => (whenB b11 (some v0) (some .undef)).bnd fun x10 =>
 (wantB x8 false).bnd fun b15 => (whenB b15 (some v3) (some .undef)).bnd fun x14 =>
 (wantB x8 false).bnd fun b19 => (whenB b19 ((idxAB x10 x14 1).bnd some) (some .undef)).bnd fun x18 =>
 (wantB x8 false).bnd fun b23 => (whenB b23 ((loadV 1 false x18 h).bnd some) (some .undef)).bnd fun x22 =>
 (wantB x8 false).bnd fun b27 => (whenB b27 ((binOp .gtr x22 (.int .i64 65535)).bnd some) (some .undef)).bnd fun x26 =>
 (condB x8 (some (.bool true)) (some x26)).bnd fun x30 =>
 condB x30 (
 finV false false n0 [(.bool false)] h) (
 (binOp .add v3 (.int .i64 1)).bnd fun x33 =>
 P11_0 base n0 x33 v0 h)) (
 finV false false n0 [(.bool true)] h) := (Pt_eq T F11 [1, 1, 0, 1, 0, 1] base n0 [(3, v3), (0, v0)] h).trans (by kernel_rfl)
theorem S11 (base : Nat) (a0 : PV) (h : Hp) : CallA T base 11 [a0] h =
 (lenB false a0).bnd fun x2 =>
 (binOp .gtr x2 (.int .i64 3)).bnd fun x3 =>
 condB x3 (
 finV false false (size h) [(.bool false)] h) (
 P11_0 (size h) (size h) (.int .i64 0) a0 h) := (Pt_enter T_11 base _ h).trans (by kernel_rfl)
noncomputable def P12_0 (base n0 : Nat) (v16 v3 v14 v15 : PV) (h : Hp) : Option (PV × Hp) := Pt T F12 [1, 1, 1, 0, 1, 0, 1] base n0 [(16, v16), (3, v3), (14, v14), (15, v15)] h
theorem P12_0_eq (base n0 : Nat) (v16 v3 v14 v15 : PV) (h : Hp) : P12_0 base n0 v16 v3 v14 v15 h =
 (binOp .lss v16 v15).bnd fun x0 =>
 condB x0 (
 (idxAB v14 v16 1).bnd fun x1 =>
 (loadV 1 false x1 h).bnd fun x2 =>
 bnd2 (CallA T base 33 [v3, (.int .u8 47)] h) fun x4 h5 =>
 bnd2 (CallA T base 35 [x2] h5) fun x7 h8 =>
 bnd2 (CallA T base 34 [v3, x7] h8) fun x9 h10 =>
 (binOp .add v16 (.int .i64 1)).bnd fun x11 =>
 P12_0 base n0 x11 v3 v14 v15 h10) (
 bnd2 (CallA T base 36 [v3] h) fun x13 h14 =>
 finV false false n0 [x13] h14) := (Pt_eq T F12 [1, 1, 1, 0, 1, 0, 1] base n0 [(16, v16), (3, v3), (14, v14), (15, v15)] h).trans (by kernel_rfl)
theorem S12 (base : Nat) (a0 : PV) (h : Hp) : CallA T base 12 [a0] h =
 bnd2 (CallA T (size h) 10 [a0] h) fun x2 h3 =>
 (unOp .not x2).bnd fun x4 =>
 condB x4 (
 finV false false (size h) [(.str [])] h3) (
 (lenB false a0).bnd fun x8 =>
 (binOp .eql x8 (.int .i64 0)).bnd fun x9 =>
 condB x9 (
 finV false false (size h) [(.str [47])] h3) (
 allocK [(.bnil 64), .nils] h3 fun x12 h13 =>
 (lenB false a0).bnd fun x15 =>
 P12_0 (size h) (size h) (.int .i64 0) x12 a0 x15 h13)) := (Pt_enter T_12 base _ h).trans (by kernel_rfl)
noncomputable def P13_0 (base n0 : Nat) (v4 v0 v3 : PV) (h : Hp) : Option (PV × Hp) := Pt T F13 [1, 1, 1, 0, 1, 0, 1] base n0 [(4, v4), (0, v0), (3, v3)] h
theorem P13_0_eq (base n0 : Nat) (v4 v0 v3 : PV) (h : Hp) : P13_0 base n0 v4 v0 v3 h =
 (lenB false v0).bnd fun x2 =>
 (binOp .lss v4 x2).bnd fun x3 =>
 condB x3 (
 (binOp .add v3 (.str [47])).bnd fun x5 =>
 (idxAB v0 v4 1).bnd fun x8 =>
 (loadV 1 false x8 h).bnd fun x9 =>
 bnd2 (CallA T base 35 [x9] h) fun x10 h11 =>
 (binOp .add x5 x10).bnd fun x12 =>
 (binOp .add v4 (.int .i64 1)).bnd fun x15 =>
 P13_0 base n0 x15 v0 x12 h11) (
 (binOp .eql v3 (.str [])).bnd fun x18 =>
 condB x18 (
 finV false false n0 [(.str [47])] h) (
 finV false false n0 [v3] h)) := (Pt_eq T F13 [1, 1, 1, 0, 1, 0, 1] base n0 [(4, v4), (0, v0), (3, v3)] h).trans (by kernel_rfl)
theorem S13 (base : Nat) (a0 : PV) (h : Hp) : CallA T base 13 [a0] h =
 bnd2 (CallA T (size h) 11 [a0] h) fun x2 h3 =>
 (unOp .not x2).bnd fun x4 =>
 condB x4 (
 finV false false (size h) [(.str [])] h3) (
 P13_0 (size h) (size h) (.int .i64 0) a0 (.str []) h3) := (Pt_enter T_13 base _ h).trans (by kernel_rfl)
noncomputable def P14_0 (base n0 : Nat) (v5 v1 v0 : PV) (h : Hp) : Option (PV × Hp) := Pt T F14 [1, 1, 0, 1, 0, 1] base n0 [(5, v5), (1, v1), (0, v0)] h
theorem P14_0_eq (base n0 : Nat) (v5 v1 v0 : PV) (h : Hp) : P14_0 base n0 v5 v1 v0 h =
 (lenB false v0).bnd fun x2 =>
 (binOp .lss v5 x2).bnd fun x3 =>
 condB x3 (
 (idxAB v0 v5 1).bnd fun x6 =>
 (loadV 1 false x6 h).bnd fun x7 =>
 (idxAB v1 v5 1).bnd fun x10 =>
 (loadV 1 false x10 h).bnd fun x11 =>
 (binOp .neq x7 x11).bnd fun x12 =>
 condB x12 (
 finV false false n0 [(.bool false)] h) (
 (binOp .add v5 (.int .i64 1)).bnd fun x15 =>
 P14_0 base n0 x15 v1 v0 h)) (
 finV false false n0 [(.bool true)] h) := (Pt_eq T F14 [1, 1, 0, 1, 0, 1] base n0 [(5, v5), (1, v1), (0, v0)] h).trans (by kernel_rfl)
theorem S14 (base : Nat) (a0 a1 : PV) (h : Hp) : CallA T base 14 [a0, a1] h =
 (lenB false a0).bnd fun x2 =>
 (lenB false a1).bnd fun x4 =>
 (binOp .neq x2 x4).bnd fun x5 =>
 condB x5 (
 finV false false (size h) [(.bool false)] h) (
 P14_0 (size h) (size h) (.int .i64 0) a1 a0 h) := (Pt_enter T_14 base _ h).trans (by kernel_rfl)
noncomputable def P15_0 (base n0 : Nat) (v3 v0 : PV) (h : Hp) : Option (PV × Hp) := Pt T F15 [1, 1, 0, 1, 0, 1] base n0 [(3, v3), (0, v0)] h
theorem P15_0_eq (base n0 : Nat) (v3 v0 : PV) (h : Hp) : P15_0 base n0 v3 v0 h =
 (lenB false v0).bnd fun x2 =>
 (binOp .lss v3 x2).bnd fun x3 =>
 condB x3 (
 (idxAB v0 v3 2).bnd fun x6 =>
 (fieldAB x6 1).bnd fun x7 =>
 (loadV 1 false x7 h).bnd fun x8 =>
 (lenB false x8).bnd fun x9 =>
 (binOp .gtr x9 (.int .i64 400)).bnd fun x10 =>
 condB x10 (
 finV false false n0 [(.bool false)] h) (
 (binOp .add v3 (.int .i64 1)).bnd fun x13 =>
 P15_0 base n0 x13 v0 h)) (
 finV false false n0 [(.bool true)] h) := (Pt_eq T F15 [1, 1, 0, 1, 0, 1] base n0 [(3, v3), (0, v0)] h).trans (by kernel_rfl)
theorem S15 (base : Nat) (a0 : PV) (h : Hp) : CallA T base 15 [a0] h =
 (lenB false a0).bnd fun x2 =>
 (binOp .gtr x2 (.int .i64 40)).bnd fun x3 =>
 condB x3 (
 finV false false (size h) [(.bool false)] h) (
 P15_0 (size h) (size h) (.int .i64 0) a0 h) := (Pt_enter T_15 base _ h).trans (by kernel_rfl)
theorem S16 (base : Nat) (a0 : PV) (h : Hp) : CallA T base 16 [a0] h =
 bnd2 (CallA T (size h) 21 [a0] h) fun x3 h4 =>
 bnd2 (CallA T (size h) 30 [x3] h4) fun x5 h6 =>
 (extractB x5 0).bnd fun x7 =>
 (extractB x5 1).bnd fun x8 =>
 finV false false (size h) [x7, x8] h6 := (Pt_enter T_16 base _ h).trans (by kernel_rfl)
theorem S17 (base : Nat) (a0 : PV) (h : Hp) : CallA T base 17 [a0] h =
 bnd2 (CallA T (size h) 22 [a0] h) fun x3 h4 =>
 bnd2 (CallA T (size h) 32 [x3] h4) fun x5 h6 =>
 (extractB x5 0).bnd fun x7 =>
 (extractB x5 1).bnd fun x8 =>
 finV false false (size h) [x7, x8] h6 := (Pt_enter T_17 base _ h).trans (by kernel_rfl)
noncomputable def P18_0 (base n0 : Nat) (v2 v14 v6 v5 v12 v13 : PV) (h : Hp) : Option (PV × Hp) := Pt T F18 [1, 1, 1, 0, 1, 0, 1] base n0 [(2, v2), (14, v14), (6, v6), (5, v5), (12, v12), (13, v13)] h
theorem P18_0_eq (base n0 : Nat) (v2 v14 v6 v5 v12 v13 : PV) (h : Hp) : P18_0 base n0 v2 v14 v6 v5 v12 v13 h =
 (binOp .lss v14 v13).bnd fun x0 =>
 condB x0 (
 (idxAB v12 v14 3).bnd fun x1 =>
 (loadV 3 true x1 h).bnd fun x2 =>
 allocK [(.str []), (.str []), (.bool false)] h fun x3 h4 =>
 (storeV base 3 x3 x2 h4).bnd fun h5 =>
 (loadV 3 true x3 h5).bnd fun x6 =>
 bnd2 (CallA T base 37 [v5, x6] h5) fun x7 h8 =>
 (extractB x7 0).bnd fun x10 =>
 (extractB x7 1).bnd fun x11 =>
 (unOp .not x11).bnd fun x15 =>
 condB x15 (
 (buildV [(.int .i64 0), (.int .i64 0), (.bool false), (.bool false), (.int .i64 0), (.int .i64 0), (.int .i64 0), (.bool false), (.bool false), (.bool false)] []).bnd fun x16 =>
 (storeV base 10 v2 x16 h8).bnd fun h17 =>
 (resB v2 h17 10 true).bnd fun r20 =>
 finV false false n0 [r20, (.bool false), (.int .i64 20)] h17) (
 (wantB v6 false).bnd fun b24 => (whenB b24 (some x10) (some .undef)).bnd fun x23 =>
 (condB v6 (some (.bool true)) (some x23)).bnd fun x27 =>
 (binOp .add v14 (.int .i64 1)).bnd fun x29 =>
 P18_0 base n0 v2 x29 x27 v5 v12 v13 h8)) (
 (fieldAB v5 2).bnd fun x31 =>
 (loadV 1 false x31 h).bnd fun x32 =>
 (wantB x32 true).bnd fun b35 => (whenB b35 ((fieldAB v5 3).bnd some) (some .undef)).bnd fun x34 =>
 (wantB x32 true).bnd fun b39 => (whenB b39 ((loadV 1 false x34 h).bnd some) (some .undef)).bnd fun x38 =>
 (condB x32 (some x38) (some (.bool false))).bnd fun x42 =>
 (wantB x42 true).bnd fun b45 => (whenB b45 ((fieldAB v5 1).bnd some) (some .undef)).bnd fun x44 =>
 (wantB x42 true).bnd fun b49 => (whenB b49 ((loadV 1 false x44 h).bnd some) (some .undef)).bnd fun x48 =>
 (wantB x42 true).bnd fun b53 => (whenB b53 ((fieldAB v5 0).bnd some) (some .undef)).bnd fun x52 =>
 (wantB x42 true).bnd fun b57 => (whenB b57 ((loadV 1 false x52 h).bnd some) (some .undef)).bnd fun x56 =>
 (wantB x42 true).bnd fun b61 => (whenB b61 ((binOp .lss x48 x56).bnd some) (some .undef)).bnd fun x60 =>
 (condB x42 (some x60) (some (.bool false))).bnd fun x64 =>
 (wantB x64 false).bnd fun b67 => (whenB b67 ((fieldAB v5 9).bnd some) (some .undef)).bnd fun x66 =>
 (wantB x64 false).bnd fun b71 => (whenB b71 ((loadV 1 false x66 h).bnd some) (some .undef)).bnd fun x70 =>
 (wantB x64 false).bnd fun b75 => (whenB b75 (some x70) (some .undef)).bnd fun x74 =>
 (wantB x74 true).bnd fun b79 => (whenB b79 ((fieldAB v5 6).bnd some) (some .undef)).bnd fun x78 =>
 (wantB x74 true).bnd fun b83 => (whenB b83 ((loadV 1 false x78 h).bnd some) (some .undef)).bnd fun x82 =>
 (wantB x74 true).bnd fun b87 => (whenB b87 ((binOp .leq x82 (.int .i64 0)).bnd some) (some .undef)).bnd fun x86 =>
 (wantB x64 false).bnd fun b91 => (whenB b91 ((condB x74 (some x86) (some (.bool false))).bnd some) (some .undef)).bnd fun x90 =>
 (condB x64 (some (.bool true)) (some x90)).bnd fun x94 =>
 condB x94 (
 (buildV [(.int .i64 0), (.int .i64 0), (.bool false), (.bool false), (.int .i64 0), (.int .i64 0), (.int .i64 0), (.bool false), (.bool false), (.bool false)] []).bnd fun x95 =>
 (storeV base 10 v2 x95 h).bnd fun h96 =>
 (resB v2 h96 10 true).bnd fun r99 =>
 finV false false n0 [r99, (.bool false), (.int .i64 1)] h96) (
 (loadV 10 true v5 h).bnd fun x100 =>
 (storeV base 10 v2 x100 h).bnd fun h102 =>
 (resB v2 h102 10 true).bnd fun r105 =>
 finV false false n0 [r105, v6, (.int .i64 0)] h102)) := (Pt_eq T F18 [1, 1, 1, 0, 1, 0, 1] base n0 [(2, v2), (14, v14), (6, v6), (5, v5), (12, v12), (13, v13)] h).trans (by kernel_rfl)
theorem S18 (base : Nat) (a0 : PV) (h : Hp) : CallA T base 18 [a0] h =
 allocK [(.int .i64 0), (.int .i64 0), (.bool false), (.bool false), (.int .i64 0), (.int .i64 0), (.int .i64 0), (.bool false), (.bool false), (.bool false)] h fun x0 h1 =>
 allocK [(.int .i64 0), (.int .i64 0), (.bool false), (.bool false), (.int .i64 0), (.int .i64 0), (.int .i64 0), (.bool false), (.bool false), (.bool false)] h1 fun x4 h5 =>
 bnd2 (CallA T (size h) 24 [a0] h5) fun x8 h9 =>
 (lenB false x8).bnd fun x10 =>
 P18_0 (size h) (size h) x0 (.int .i64 0) (.bool false) x4 x8 x10 h9 := (Pt_enter T_18 base _ h).trans (by kernel_rfl)
noncomputable def P19_0 (base n0 : Nat) (v8 v2 v6 v5 v7 : PV) (h : Hp) : Option (PV × Hp) := Pt T F19 [1, 1, 1, 1, 0, 1, 0, 1] base n0 [(8, v8), (2, v2), (6, v6), (5, v5), (7, v7)] h
theorem P19_0_eq (base n0 : Nat) (v8 v2 v6 v5 v7 : PV) (h : Hp) : P19_0 base n0 v8 v2 v6 v5 v7 h =
 (lenB false v5).bnd fun x2 =>
 (binOp .lss v8 x2).bnd fun x3 =>
 condB x3 (
 (idxAB v5 v8 3).bnd fun x6 =>
 (fieldAB x6 0).bnd fun x7 =>
 (loadV 1 false x7 h).bnd fun x8 =>
 (binOp .eql x8 (.str [112, 109, 105, 110])).bnd fun x11 =>
 (wantB x11 false).bnd fun b14 => (whenB b14 (some x8) (some .undef)).bnd fun x13 =>
 (wantB x11 false).bnd fun b18 => (whenB b18 ((binOp .eql x13 (.str [112, 109, 97, 120])).bnd some) (some .undef)).bnd fun x17 =>
 (condB x11 (some (.bool true)) (some x17)).bnd fun x21 =>
 (unOp .not x21).bnd fun x24 =>
 (wantB x24 true).bnd fun b27 => (whenB b27 (some x8) (some .undef)).bnd fun x26 =>
 (wantB x24 true).bnd fun b31 => (whenB b31 ((binOp .neq x26 (.str [103, 116])).bnd some) (some .undef)).bnd fun x30 =>
 (condB x24 (some x30) (some (.bool false))).bnd fun x34 =>
 (wantB x34 true).bnd fun b37 => (whenB b37 (some x8) (some .undef)).bnd fun x36 =>
 (wantB x34 true).bnd fun b41 => (whenB b41 ((binOp .neq x36 (.str [108, 116])).bnd some) (some .undef)).bnd fun x40 =>
 (condB x34 (some x40) (some (.bool false))).bnd fun x44 =>
 (wantB x44 true).bnd fun b47 => (whenB b47 (some x8) (some .undef)).bnd fun x46 =>
 (wantB x44 true).bnd fun b51 => (whenB b51 ((binOp .neq x46 (.str [115, 116])).bnd some) (some .undef)).bnd fun x50 =>
 (condB x44 (some x50) (some (.bool false))).bnd fun x54 =>
 condB x54 (
 (binOp .add v8 (.int .i64 1)).bnd fun x56 =>
 P19_0 base n0 x56 v2 v6 v5 v7 h) (
 (idxAB v5 v8 3).bnd fun x60 =>
 (fieldAB x60 1).bnd fun x61 =>
 (loadV 1 false x61 h).bnd fun x62 =>
 bnd2 (CallA T base 38 [x62] h) fun x63 h64 =>
 (extractB x63 0).bnd fun x66 =>
 (extractB x63 1).bnd fun x67 =>
 (idxAB v5 v8 3).bnd fun x72 =>
 (fieldAB x72 2).bnd fun x73 =>
 (loadV 1 false x73 h64).bnd fun x74 =>
 (wantB x74 false).bnd fun b77 => (whenB b77 (some x67) (some .undef)).bnd fun x76 =>
 (wantB x74 false).bnd fun b81 => (whenB b81 ((unOp .not x76).bnd some) (some .undef)).bnd fun x80 =>
 (condB x74 (some (.bool true)) (some x80)).bnd fun x84 =>
 (wantB x84 false).bnd fun b87 => (whenB b87 (some x21) (some .undef)).bnd fun x86 =>
 (wantB x84 false).bnd fun b91 => (whenB b91 (some x86) (some .undef)).bnd fun x90 =>
 (wantB x90 true).bnd fun b95 => (whenB b95 (some x66) (some .undef)).bnd fun x94 =>
 (wantB x90 true).bnd fun b99 => (whenB b99 ((binOp .lss x94 (.int .i64 0)).bnd some) (some .undef)).bnd fun x98 =>
 (wantB x90 true).bnd fun b103 => (whenB b103 (some x98) (some .undef)).bnd fun x102 =>
 (wantB x102 false).bnd fun b107 => (whenB b107 (some x66) (some .undef)).bnd fun x106 =>
 (wantB x102 false).bnd fun b111 => (whenB b111 ((binOp .gtr x106 (.int .i64 65535)).bnd some) (some .undef)).bnd fun x110 =>
 (wantB x90 true).bnd fun b115 => (whenB b115 ((condB x102 (some (.bool true)) (some x110)).bnd some) (some .undef)).bnd fun x114 =>
 (wantB x84 false).bnd fun b119 => (whenB b119 ((condB x90 (some x114) (some (.bool false))).bnd some) (some .undef)).bnd fun x118 =>
 (condB x84 (some (.bool true)) (some x118)).bnd fun x122 =>
 condB x122 (
 (buildV [(.int .i64 0), (.int .i64 0), (.bool false), (.bool false), (.int .i64 0), (.int .i64 0), (.int .i64 0), (.bool false), (.bool false), (.bool false)] []).bnd fun x123 =>
 (storeV base 10 v2 x123 h64).bnd fun h124 =>
 (resB v2 h124 10 true).bnd fun r127 =>
 finV false false n0 [r127, (.bool false), (.int .i64 20)] h124) (
 (binOp .eql x8 (.str [112, 109, 105, 110])).bnd fun x130 =>
 condB x130 (
 (fieldAB v6 0).bnd fun x133 =>
 (storeV base 1 x133 x66 h64).bnd fun h134 =>
 (fieldAB v6 2).bnd fun x135 =>
 (storeV base 1 x135 (.bool true) h134).bnd fun h136 =>
 (binOp .add v8 (.int .i64 1)).bnd fun x138 =>
 P19_0 base n0 x138 v2 v6 v5 (.bool true) h136) (
 (binOp .eql x8 (.str [112, 109, 97, 120])).bnd fun x140 =>
 condB x140 (
 (fieldAB v6 1).bnd fun x143 =>
 (storeV base 1 x143 x66 h64).bnd fun h144 =>
 (fieldAB v6 3).bnd fun x145 =>
 (storeV base 1 x145 (.bool true) h144).bnd fun h146 =>
 (binOp .add v8 (.int .i64 1)).bnd fun x148 =>
 P19_0 base n0 x148 v2 v6 v5 (.bool true) h146) (
 (binOp .eql x8 (.str [103, 116])).bnd fun x150 =>
 condB x150 (
 (fieldAB v6 4).bnd fun x153 =>
 (storeV base 1 x153 x66 h64).bnd fun h154 =>
 (fieldAB v6 7).bnd fun x155 =>
 (storeV base 1 x155 (.bool true) h154).bnd fun h156 =>
 (binOp .add v8 (.int .i64 1)).bnd fun x158 =>
 P19_0 base n0 x158 v2 v6 v5 (.bool true) h156) (
 (binOp .eql x8 (.str [108, 116])).bnd fun x160 =>
 condB x160 (
 (fieldAB v6 5).bnd fun x163 =>
 (storeV base 1 x163 x66 h64).bnd fun h164 =>
 (fieldAB v6 8).bnd fun x165 =>
 (storeV base 1 x165 (.bool true) h164).bnd fun h166 =>
 (binOp .add v8 (.int .i64 1)).bnd fun x168 =>
 P19_0 base n0 x168 v2 v6 v5 (.bool true) h166) (
 (binOp .eql x8 (.str [115, 116])).bnd fun x170 =>
 condB x170 (
 (fieldAB v6 6).bnd fun x173 =>
 (storeV base 1 x173 x66 h64).bnd fun h174 =>
 (fieldAB v6 9).bnd fun x175 =>
 (storeV base 1 x175 (.bool true) h174).bnd fun h176 =>
 (binOp .add v8 (.int .i64 1)).bnd fun x178 =>
 P19_0 base n0 x178 v2 v6 v5 (.bool true) h176) (
 (binOp .add v8 (.int .i64 1)).bnd fun x181 =>
 P19_0 base n0 x181 v2 v6 v5 (.bool true) h64)))))))) (
 (fieldAB v6 2).bnd fun x183 =>
 (loadV 1 false x183 h).bnd fun x184 =>
 (wantB x184 true).bnd fun b187 => (whenB b187 ((fieldAB v6 3).bnd some) (some .undef)).bnd fun x186 =>
 (wantB x184 true).bnd fun b191 => (whenB b191 ((loadV 1 false x186 h).bnd some) (some .undef)).bnd fun x190 =>
 (condB x184 (some x190) (some (.bool false))).bnd fun x194 =>
 (wantB x194 true).bnd fun b197 => (whenB b197 ((fieldAB v6 0).bnd some) (some .undef)).bnd fun x196 =>
 (wantB x194 true).bnd fun b201 => (whenB b201 ((loadV 1 false x196 h).bnd some) (some .undef)).bnd fun x200 =>
 (wantB x194 true).bnd fun b205 => (whenB b205 ((fieldAB v6 1).bnd some) (some .undef)).bnd fun x204 =>
 (wantB x194 true).bnd fun b209 => (whenB b209 ((loadV 1 false x204 h).bnd some) (some .undef)).bnd fun x208 =>
 (wantB x194 true).bnd fun b213 => (whenB b213 ((binOp .gtr x200 x208).bnd some) (some .undef)).bnd fun x212 =>
 (condB x194 (some x212) (some (.bool false))).bnd fun x216 =>
 (wantB x216 false).bnd fun b219 => (whenB b219 ((fieldAB v6 9).bnd some) (some .undef)).bnd fun x218 =>
 (wantB x216 false).bnd fun b223 => (whenB b223 ((loadV 1 false x218 h).bnd some) (some .undef)).bnd fun x222 =>
 (wantB x216 false).bnd fun b227 => (whenB b227 (some x222) (some .undef)).bnd fun x226 =>
 (wantB x226 true).bnd fun b231 => (whenB b231 ((fieldAB v6 6).bnd some) (some .undef)).bnd fun x230 =>
 (wantB x226 true).bnd fun b235 => (whenB b235 ((loadV 1 false x230 h).bnd some) (some .undef)).bnd fun x234 =>
 (wantB x226 true).bnd fun b239 => (whenB b239 ((binOp .lss x234 (.int .i64 1)).bnd some) (some .undef)).bnd fun x238 =>
 (wantB x216 false).bnd fun b243 => (whenB b243 ((condB x226 (some x238) (some (.bool false))).bnd some) (some .undef)).bnd fun x242 =>
 (condB x216 (some (.bool true)) (some x242)).bnd fun x246 =>
 condB x246 (
 (buildV [(.int .i64 0), (.int .i64 0), (.bool false), (.bool false), (.int .i64 0), (.int .i64 0), (.int .i64 0), (.bool false), (.bool false), (.bool false)] []).bnd fun x247 =>
 (storeV base 10 v2 x247 h).bnd fun h248 =>
 (resB v2 h248 10 true).bnd fun r251 =>
 finV false false n0 [r251, (.bool false), (.int .i64 1)] h248) (
 (loadV 10 true v6 h).bnd fun x252 =>
 (storeV base 10 v2 x252 h).bnd fun h254 =>
 (resB v2 h254 10 true).bnd fun r257 =>
 finV false false n0 [r257, v7, (.int .i64 0)] h254)) := (Pt_eq T F19 [1, 1, 1, 1, 0, 1, 0, 1] base n0 [(8, v8), (2, v2), (6, v6), (5, v5), (7, v7)] h).trans (by kernel_rfl)
theorem S19 (base : Nat) (a0 : PV) (h : Hp) : CallA T base 19 [a0] h =
 allocK [(.int .i64 0), (.int .i64 0), (.bool false), (.bool false), (.int .i64 0), (.int .i64 0), (.int .i64 0), (.bool false), (.bool false), (.bool false)] h fun x0 h1 =>
 bnd2 (CallA T (size h) 25 [a0] h1) fun x5 h6 =>
 (buildV [(.int .i64 0), (.int .i64 0), (.bool false), (.bool false), (.int .i64 0), (.int .i64 0), (.int .i64 0), (.bool false), (.bool false), (.bool false)] []).bnd fun x8 =>
 allocK [(.int .i64 0), (.int .i64 0), (.bool false), (.bool false), (.int .i64 0), (.int .i64 0), (.int .i64 0), (.bool false), (.bool false), (.bool false)] h6 fun x9 h10 =>
 (storeV (size h) 10 x9 x8 h10).bnd fun h11 =>
 P19_0 (size h) (size h) (.int .i64 0) x0 x9 x5 (.bool false) h11 := (Pt_enter T_19 base _ h).trans (by kernel_rfl)
noncomputable def P20_0 (base n0 : Nat) (v5 v1 v0 : PV) (h : Hp) : Option (PV × Hp) := Pt T F20 [1, 1, 0, 1, 0, 1] base n0 [(5, v5), (1, v1), (0, v0)] h
theorem P20_0_eq (base n0 : Nat) (v5 v1 v0 : PV) (h : Hp) : P20_0 base n0 v5 v1 v0 h =
 (lenB false v0).bnd fun x2 =>
 (binOp .lss v5 x2).bnd fun x3 =>
 condB x3 (
 (idxAB v0 v5 1).bnd fun x6 =>
 (loadV 1 false x6 h).bnd fun x7 =>
 (idxAB v1 v5 1).bnd fun x10 =>
 (loadV 1 false x10 h).bnd fun x11 =>
 (binOp .neq x7 x11).bnd fun x12 =>
 condB x12 (
 finV false false n0 [(.bool false)] h) (
 (binOp .add v5 (.int .i64 1)).bnd fun x15 =>
 P20_0 base n0 x15 v1 v0 h)) (
 finV false false n0 [(.bool true)] h) := (Pt_eq T F20 [1, 1, 0, 1, 0, 1] base n0 [(5, v5), (1, v1), (0, v0)] h).trans (by kernel_rfl)
theorem S20 (base : Nat) (a0 a1 : PV) (h : Hp) : CallA T base 20 [a0, a1] h =
 (lenB false a0).bnd fun x2 =>
 (lenB false a1).bnd fun x4 =>
 (binOp .neq x2 x4).bnd fun x5 =>
 condB x5 (
 finV false false (size h) [(.bool false)] h) (
 P20_0 (size h) (size h) (.int .i64 0) a1 a0 h) := (Pt_enter T_20 base _ h).trans (by kernel_rfl)
noncomputable def P21_0 (base n0 : Nat) (v9 v3 v7 v8 : PV) (h : Hp) : Option (PV × Hp) := Pt T F21 [1, 1, 0, 1, 0, 1] base n0 [(9, v9), (3, v3), (7, v7), (8, v8)] h
theorem P21_0_eq (base n0 : Nat) (v9 v3 v7 v8 : PV) (h : Hp) : P21_0 base n0 v9 v3 v7 v8 h =
 (binOp .lss v9 v8).bnd fun x0 =>
 condB x0 (
 (idxAB v7 v9 1).bnd fun x1 =>
 (loadV 1 false x1 h).bnd fun x2 =>
 (bytesStrB h x2).bnd fun x6 =>
 (buildSlV 1 false [(.str [])] 1 [(0, strip x6)]).bnd fun x7 =>
 bnd2 (appTV 9 1 v3 x7 h) fun x8 h9 =>
 (binOp .add v9 (.int .i64 1)).bnd fun x11 =>
 P21_0 base n0 x11 x8 v7 v8 h9) (
 finV false false n0 [v3] h) := (Pt_eq T F21 [1, 1, 0, 1, 0, 1] base n0 [(9, v9), (3, v3), (7, v7), (8, v8)] h).trans (by kernel_rfl)
theorem S21 (base : Nat) (a0 : PV) (h : Hp) : CallA T base 21 [a0] h =
 bnd2 (CallA T (size h) 39 [a0, (.int .i64 11)] h) fun x3 h4 =>
 (lenB false x3).bnd fun x5 =>
 P21_0 (size h) (size h) (.int .i64 0) .nils x3 x5 h4 := (Pt_enter T_21 base _ h).trans (by kernel_rfl)
noncomputable def P22_0 (base n0 : Nat) (v5 v4 v3 : PV) (h : Hp) : Option (PV × Hp) := Pt T F22 [1, 1, 1, 0, 1, 0, 1] base n0 [(5, v5), (4, v4), (3, v3)] h
theorem P22_0_eq (base n0 : Nat) (v5 v4 v3 : PV) (h : Hp) : P22_0 base n0 v5 v4 v3 h =
 (lenB false v4).bnd fun x2 =>
 (binOp .lss v5 x2).bnd fun x3 =>
 condB x3 (
 (idxAB v4 v5 1).bnd fun x7 =>
 (loadV 1 false x7 h).bnd fun x8 =>
 (bytesStrB h x8).bnd fun x9 =>
 (buildSlV 1 false [(.str [])] 1 [(0, strip x9)]).bnd fun x10 =>
 bnd2 (appTV 9 1 v3 x10 h) fun x11 h12 =>
 (binOp .add v5 (.int .i64 1)).bnd fun x15 =>
 P22_0 base n0 x15 v4 x11 h12) (
 finV false false n0 [v3] h) := (Pt_eq T F22 [1, 1, 1, 0, 1, 0, 1] base n0 [(5, v5), (4, v4), (3, v3)] h).trans (by kernel_rfl)
theorem S22 (base : Nat) (a0 : PV) (h : Hp) : CallA T base 22 [a0] h =
 (buildSlV 1 false [(.str [])] 0 []).bnd fun x1 =>
 bnd2 (CallA T (size h) 40 [a0, (.int .i64 11)] h) fun x4 h5 =>
 P22_0 (size h) (size h) (.int .i64 0) x4 x1 h5 := (Pt_enter T_22 base _ h).trans (by kernel_rfl)
noncomputable def P23_0 (base n0 : Nat) (v5 v1 v0 : PV) (h : Hp) : Option (PV × Hp) := Pt T F23 [1, 1, 0, 1, 0, 1] base n0 [(5, v5), (1, v1), (0, v0)] h
theorem P23_0_eq (base n0 : Nat) (v5 v1 v0 : PV) (h : Hp) : P23_0 base n0 v5 v1 v0 h =
 (lenB false v0).bnd fun x2 =>
 (binOp .lss v5 x2).bnd fun x3 =>
 condB x3 (
 (idxAB v0 v5 3).bnd fun x6 =>
 (fieldAB x6 0).bnd fun x7 =>
 (loadV 1 false x7 h).bnd fun x8 =>
 (idxAB v1 v5 3).bnd fun x11 =>
 (fieldAB x11 0).bnd fun x12 =>
 (loadV 1 false x12 h).bnd fun x13 =>
 (binOp .neq x8 x13).bnd fun x14 =>
 (wantB x14 false).bnd fun b17 => (whenB b17 (some v0) (some .undef)).bnd fun x16 =>
 (wantB x14 false).bnd fun b21 => (whenB b21 (some v5) (some .undef)).bnd fun x20 =>
 (wantB x14 false).bnd fun b25 => (whenB b25 ((idxAB x16 x20 3).bnd some) (some .undef)).bnd fun x24 =>
 (wantB x14 false).bnd fun b29 => (whenB b29 ((fieldAB x24 1).bnd some) (some .undef)).bnd fun x28 =>
 (wantB x14 false).bnd fun b33 => (whenB b33 ((loadV 1 false x28 h).bnd some) (some .undef)).bnd fun x32 =>
 (wantB x14 false).bnd fun b37 => (whenB b37 (some v1) (some .undef)).bnd fun x36 =>
 (wantB x14 false).bnd fun b41 => (whenB b41 (some v5) (some .undef)).bnd fun x40 =>
 (wantB x14 false).bnd fun b45 => (whenB b45 ((idxAB x36 x40 3).bnd some) (some .undef)).bnd fun x44 =>
 (wantB x14 false).bnd fun b49 => (whenB b49 ((fieldAB x44 1).bnd some) (some .undef)).bnd fun x48 =>
 (wantB x14 false).bnd fun b53 => (whenB b53 ((loadV 1 false x48 h).bnd some) (some .undef)).bnd fun x52 =>
 (wantB x14 false).bnd fun b57 => (whenB b57 ((binOp .neq x32 x52).bnd some) (some .undef)).bnd fun x56 =>
 (condB x14 (some (.bool true)) (some x56)).bnd fun x60 =>
 (wantB x60 false).bnd fun b63 => (whenB b63 (some v0) (some .undef)).bnd fun x62 =>
 (wantB x60 false).bnd fun b67 => (whenB b67 (some v5) (some .undef)).bnd fun x66 =>
 (wantB x60 false).bnd fun b71 => (whenB b71 ((idxAB x62 x66 3).bnd some) (some .undef)).bnd fun x70 =>
 (wantB x60 false).bnd fun b75 => (whenB b75 ((fieldAB x70 2).bnd some) (some .undef)).bnd fun x74 =>
 (wantB x60 false).bnd fun b79 => (whenB b79 ((loadV 1 false x74 h).bnd some) (some .undef)).bnd fun x78 =>
 (wantB x60 false).bnd fun b83 => (whenB b83 (some v1) (some .undef)).bnd fun x82 =>
 (wantB x60 false).bnd fun b87 => (whenB b87 (some v5) (some .undef)).bnd fun x86 =>
 (wantB x60 false).bnd fun b91 => (whenB b91 ((idxAB x82 x86 3).bnd some) (some .undef)).bnd fun x90 =>
 (wantB x60 false).bnd fun b95 => (whenB b95 ((fieldAB x90 2).bnd some) (some .undef)).bnd fun x94 =>
 (wantB x60 false).bnd fun b99 => (whenB b99 ((loadV 1 false x94 h).bnd some) (some .undef)).bnd fun x98 =>
 (wantB x60 false).bnd fun b103 => (whenB b103 ((boolB true x78 x98).bnd some) (some .undef)).bnd fun x102 =>
 (condB x60 (some (.bool true)) (some x102)).bnd fun x106 =>
 condB x106 (
 finV false false n0 [(.bool false)] h) (
 (binOp .add v5 (.int .i64 1)).bnd fun x109 =>
 P23_0 base n0 x109 v1 v0 h)) (
 finV false false n0 [(.bool true)] h) := (Pt_eq T F23 [1, 1, 0, 1, 0, 1] base n0 [(5, v5), (1, v1), (0, v0)] h).trans (by kernel_rfl)
theorem S23 (base : Nat) (a0 a1 : PV) (h : Hp) : CallA T base 23 [a0, a1] h =
 (lenB false a0).bnd fun x2 =>
 (lenB false a1).bnd fun x4 =>
 (binOp .neq x2 x4).bnd fun x5 =>
 condB x5 (
 finV false false (size h) [(.bool false)] h) (
 P23_0 (size h) (size h) (.int .i64 0) a1 a0 h) := (Pt_enter T_23 base _ h).trans (by kernel_rfl)
noncomputable def P24_0 (base n0 : Nat) (v12 v3 v10 v11 : PV) (h : Hp) : Option (PV × Hp) := Pt T F24 [1, 1, 0, 1, 0, 1] base n0 [(12, v12), (3, v3), (10, v10), (11, v11)] h
theorem P24_0_eq (base n0 : Nat) (v12 v3 v10 v11 : PV) (h : Hp) : P24_0 base n0 v12 v3 v10 v11 h =
 (binOp .lss v12 v11).bnd fun x0 =>
 condB x0 (
 (idxAB v10 v12 1).bnd fun x1 =>
 (loadV 1 false x1 h).bnd fun x2 =>
 (bytesStrB h x2).bnd fun x5 =>
 bnd2 (CallA T base 41 [x5, (.str [61])] h) fun x6 h7 =>
 (extractB x6 0).bnd fun x9 =>
 (extractB x6 1).bnd fun x10 =>
 (extractB x6 2).bnd fun x11 =>
 (unOp .not x11).bnd fun x19 =>
 (buildV [(.str []), (.str []), (.bool false)] [(0, 1, x9), (1, 1, x10), (2, 1, x19)]).bnd fun x20 =>
 (buildSlV 3 true [(.str []), (.str []), (.bool false)] 1 [(0, strip x20)]).bnd fun x21 =>
 bnd2 (appTV 51 3 v3 x21 h7) fun x22 h23 =>
 (binOp .add v12 (.int .i64 1)).bnd fun x25 =>
 P24_0 base n0 x25 x22 v10 v11 h23) (
 finV false false n0 [v3] h) := (Pt_eq T F24 [1, 1, 0, 1, 0, 1] base n0 [(12, v12), (3, v3), (10, v10), (11, v11)] h).trans (by kernel_rfl)
theorem S24 (base : Nat) (a0 : PV) (h : Hp) : CallA T base 24 [a0] h =
 bnd2 (CallA T (size h) 39 [a0, (.int .i64 15)] h) fun x3 h4 =>
 (lenB false x3).bnd fun x5 =>
 P24_0 (size h) (size h) (.int .i64 0) .nils x3 x5 h4 := (Pt_enter T_24 base _ h).trans (by kernel_rfl)
noncomputable def P25_0 (base n0 : Nat) (v5 v3 v4 : PV) (h : Hp) : Option (PV × Hp) := Pt T F25 [1, 1, 1, 0, 1, 0, 1] base n0 [(5, v5), (3, v3), (4, v4)] h
noncomputable def P25_1 (base n0 : Nat) (v8 v7 v6 v4 v5 v3 : PV) (h : Hp) : Option (PV × Hp) := Pt T F25 [1, 1, 1, 0, 1, 0, 1, 0, 0, 1, 0, 0, 1, 1, 0, 1, 0, 1] base n0 [(8, v8), (7, v7), (6, v6), (4, v4), (5, v5), (3, v3)] h
theorem P25_0_eq (base n0 : Nat) (v5 v3 v4 : PV) (h : Hp) : P25_0 base n0 v5 v3 v4 h =
 (lenB false v4).bnd fun x2 =>
 (binOp .lss v5 x2).bnd fun x3 =>
 condB x3 (
 (idxAB v4 v5 1).bnd fun x6 =>
 (loadV 1 false x6 h).bnd fun x7 =>
 (bytesStrB h x7).bnd fun x8 =>
 (buildV [(.str []), (.str []), (.bool false)] [(0, 1, x8), (2, 1, (.bool true))]).bnd fun x11 =>
 allocK [(.str []), (.str []), (.bool false)] h fun x12 h13 =>
 (storeV base 3 x12 x11 h13).bnd fun h14 =>
 P25_1 base n0 (.int .i64 0) x12 x8 v4 v5 v3 h14) (
 finV false false n0 [v3] h) := (Pt_eq T F25 [1, 1, 1, 0, 1, 0, 1] base n0 [(5, v5), (3, v3), (4, v4)] h).trans (by kernel_rfl)
theorem P25_1_eq (base n0 : Nat) (v8 v7 v6 v4 v5 v3 : PV) (h : Hp) : P25_1 base n0 v8 v7 v6 v4 v5 v3 h =
 (lenB true v6).bnd fun x2 =>
 (binOp .lss v8 x2).bnd fun x3 =>
 (wantB x3 true).bnd fun b6 => (whenB b6 ((fieldAB v7 2).bnd some) (some .undef)).bnd fun x5 =>
 (wantB x3 true).bnd fun b10 => (whenB b10 ((loadV 1 false x5 h).bnd some) (some .undef)).bnd fun x9 =>
 (condB x3 (some x9) (some (.bool false))).bnd fun x13 =>
 condB x13 (
 (idxStrB v6 v8).bnd fun x16 =>
 (binOp .eql x16 (.int .u8 61)).bnd fun x17 =>
 condB x17 (
 (sliceV none none (some v8) none v6).bnd fun x20 =>
 (binOp .add v8 (.int .i64 1)).bnd fun x23 =>
 (sliceV none (some x23) none none v6).bnd fun x24 =>
 (buildV [(.str []), (.str []), (.bool false)] [(0, 1, x20), (1, 1, x24)]).bnd fun x25 =>
 (storeV base 3 v7 x25 h).bnd fun h26 =>
 (binOp .add v8 (.int .i64 1)).bnd fun x28 =>
 P25_1 base n0 x28 v7 v6 v4 v5 v3 h26) (
 (binOp .add v8 (.int .i64 1)).bnd fun x31 =>
 P25_1 base n0 x31 v7 v6 v4 v5 v3 h)) (
 (loadV 3 true v7 h).bnd fun x34 =>
 (buildSlV 3 true [(.str []), (.str []), (.bool false)] 1 [(0, strip x34)]).bnd fun x35 =>
 bnd2 (appTV 51 3 v3 x35 h) fun x36 h37 =>
 (binOp .add v5 (.int .i64 1)).bnd fun x40 =>
 P25_0 base n0 x40 x36 v4 h37) := (Pt_eq T F25 [1, 1, 1, 0, 1, 0, 1, 0, 0, 1, 0, 0, 1, 1, 0, 1, 0, 1] base n0 [(8, v8), (7, v7), (6, v6), (4, v4), (5, v5), (3, v3)] h).trans (by kernel_rfl)
theorem S25 (base : Nat) (a0 : PV) (h : Hp) : CallA T base 25 [a0] h =
 (buildSlV 3 true [(.str []), (.str []), (.bool false)] 0 []).bnd fun x1 =>
 bnd2 (CallA T (size h) 40 [a0, (.int .i64 15)] h) fun x4 h5 =>
 P25_0 (size h) (size h) (.int .i64 0) x1 x4 h5 := (Pt_enter T_25 base _ h).trans (by kernel_rfl)
noncomputable def P26_0 (base n0 : Nat) (v8 v3 v6 v7 : PV) (h : Hp) : Option (PV × Hp) := Pt T F26 [1, 1, 0, 1, 0, 1] base n0 [(8, v8), (3, v3), (6, v6), (7, v7)] h
theorem P26_0_eq (base n0 : Nat) (v8 v3 v6 v7 : PV) (h : Hp) : P26_0 base n0 v8 v3 v6 v7 h =
 (binOp .lss v8 v7).bnd fun x0 =>
 condB x0 (
 (idxAB v6 v8 1).bnd fun x1 =>
 (loadV 1 false x1 h).bnd fun x2 =>
 bnd2 (strBytesB false x2 h) fun x6 h7 =>
 (buildV [(.int .i64 0), .nils] [(0, 1, (.int .i64 11)), (1, 1, x6)]).bnd fun x8 =>
 (buildSlV 2 true [(.int .i64 0), .nils] 1 [(0, strip x8)]).bnd fun x9 =>
 bnd2 (appTV 73 2 v3 x9 h7) fun x10 h11 =>
 (binOp .add v8 (.int .i64 1)).bnd fun x13 =>
 P26_0 base n0 x13 x10 v6 v7 h11) (
 finV false false n0 [v3] h) := (Pt_eq T F26 [1, 1, 0, 1, 0, 1] base n0 [(8, v8), (3, v3), (6, v6), (7, v7)] h).trans (by kernel_rfl)
theorem S26 (base : Nat) (a0 : PV) (h : Hp) : CallA T base 26 [a0] h =
 (lenB false a0).bnd fun x3 =>
 P26_0 (size h) (size h) (.int .i64 0) .nils a0 x3 h := (Pt_enter T_26 base _ h).trans (by kernel_rfl)
noncomputable def P27_0 (base n0 : Nat) (v9 v3 v7 v8 : PV) (h : Hp) : Option (PV × Hp) := Pt T F27 [1, 1, 0, 1, 0, 1] base n0 [(9, v9), (3, v3), (7, v7), (8, v8)] h
theorem P27_0_eq (base n0 : Nat) (v9 v3 v7 v8 : PV) (h : Hp) : P27_0 base n0 v9 v3 v7 v8 h =
 (binOp .lss v9 v8).bnd fun x0 =>
 condB x0 (
 (idxAB v7 v9 3).bnd fun x1 =>
 (loadV 3 true x1 h).bnd fun x2 =>
 allocK [(.str []), (.str []), (.bool false)] h fun x3 h4 =>
 (storeV base 3 x3 x2 h4).bnd fun h5 =>
 (fieldAB x3 0).bnd fun x6 =>
 (loadV 1 false x6 h5).bnd fun x7 =>
 (fieldAB x3 2).bnd fun x9 =>
 (loadV 1 false x9 h5).bnd fun x10 =>
 (unOp .not x10).bnd fun x11 =>
 condB x11 (
 (fieldAB x3 1).bnd fun x13 =>
 (loadV 1 false x13 h5).bnd fun x14 =>
 (binOp .add (.str [61]) x14).bnd fun x15 =>
 (binOp .add x7 x15).bnd fun x16 =>
 bnd2 (strBytesB false x16 h5) fun x20 h21 =>
 (buildV [(.int .i64 0), .nils] [(0, 1, (.int .i64 15)), (1, 1, x20)]).bnd fun x22 =>
 (buildSlV 2 true [(.int .i64 0), .nils] 1 [(0, strip x22)]).bnd fun x23 =>
 bnd2 (appTV 73 2 v3 x23 h21) fun x24 h25 =>
 (binOp .add v9 (.int .i64 1)).bnd fun x27 =>
 P27_0 base n0 x27 x24 v7 v8 h25) (
 bnd2 (strBytesB false x7 h5) fun x31 h32 =>
 (buildV [(.int .i64 0), .nils] [(0, 1, (.int .i64 15)), (1, 1, x31)]).bnd fun x33 =>
 (buildSlV 2 true [(.int .i64 0), .nils] 1 [(0, strip x33)]).bnd fun x34 =>
 bnd2 (appTV 73 2 v3 x34 h32) fun x35 h36 =>
 (binOp .add v9 (.int .i64 1)).bnd fun x38 =>
 P27_0 base n0 x38 x35 v7 v8 h36)) (
 finV false false n0 [v3] h) := (Pt_eq T F27 [1, 1, 0, 1, 0, 1] base n0 [(9, v9), (3, v3), (7, v7), (8, v8)] h).trans (by kernel_rfl)
theorem S27 (base : Nat) (a0 : PV) (h : Hp) : CallA T base 27 [a0] h =
 (lenB false a0).bnd fun x3 =>
 P27_0 (size h) (size h) (.int .i64 0) .nils a0 x3 h := (Pt_enter T_27 base _ h).trans (by kernel_rfl)
theorem S28 (base : Nat) (a0 : PV) (h : Hp) : CallA T base 28 [a0] h =
 (buildV [(.int .i64 0), (.int .i64 0), (.str []), .nils, (.int .i64 0), (.int .i64 0)] [(0, 1, (.int .i64 1)), (1, 1, a0)]).bnd fun x2 =>
 bnd2 (CallA T (size h) 42 [x2] h) fun x3 h4 =>
 (extractB x3 0).bnd fun x6 =>
 (extractB x3 1).bnd fun x7 =>
 finV false false (size h) [x6] h4 := (Pt_enter T_28 base _ h).trans (by kernel_rfl)
theorem S29 (base : Nat) (a0 a1 : PV) (h : Hp) : CallA T base 29 [a0, a1] h =
 bnd2 (CallA T (size h) 43 [a0, a1] h) fun x4 h5 =>
 (extractB x4 0).bnd fun x6 =>
 (extractB x4 1).bnd fun x7 =>
 finV false false (size h) [x6, x7] h5 := (Pt_enter T_29 base _ h).trans (by kernel_rfl)
noncomputable def P30_0 (base n0 : Nat) (v14 v4 v12 v13 : PV) (h : Hp) : Option (PV × Hp) := Pt T F30 [1, 1, 1, 0, 1, 0, 1] base n0 [(14, v14), (4, v4), (12, v12), (13, v13)] h
theorem P30_0_eq (base n0 : Nat) (v14 v4 v12 v13 : PV) (h : Hp) : P30_0 base n0 v14 v4 v12 v13 h =
 (binOp .lss v14 v13).bnd fun x0 =>
 condB x0 (
 (idxAB v12 v14 1).bnd fun x1 =>
 (loadV 1 false x1 h).bnd fun x2 =>
 bnd2 (CallA T base 44 [x2, (.int .i64 65535)] h) fun x5 h6 =>
 (extractB x5 0).bnd fun x8 =>
 (extractB x5 1).bnd fun x9 =>
 (unOp .not x9).bnd fun x13 =>
 condB x13 (
 finV false false n0 [.nils, (.int .i64 20)] h6) (
 (buildSlV 1 false [(.int .i64 0)] 1 [(0, strip x8)]).bnd fun x18 =>
 bnd2 (appTV 3 1 v4 x18 h6) fun x19 h20 =>
 (binOp .add v14 (.int .i64 1)).bnd fun x22 =>
 P30_0 base n0 x22 x19 v12 v13 h20)) (
 finV false false n0 [v4, (.int .i64 0)] h) := (Pt_eq T F30 [1, 1, 1, 0, 1, 0, 1] base n0 [(14, v14), (4, v4), (12, v12), (13, v13)] h).trans (by kernel_rfl)
theorem S30 (base : Nat) (a0 : PV) (h : Hp) : CallA T base 30 [a0] h =
 (lenB false a0).bnd fun x3 =>
 (binOp .gtr x3 (.int .i64 3)).bnd fun x4 =>
 condB x4 (
 finV false false (size h) [.nils, (.int .i64 3)] h) (
 (lenB false a0).bnd fun x9 =>
 P30_0 (size h) (size h) (.int .i64 0) .nils a0 x9 h) := (Pt_enter T_30 base _ h).trans (by kernel_rfl)
theorem S31 (base : Nat) (a0 a1 : PV) (h : Hp) : CallA T base 31 [a0, a1] h =
 bnd2 (CallA T (size h) 45 [a0, a1, (.int .i64 0), (.int .i64 (-1))] h) fun x3 h4 =>
 finV false false (size h) [x3] h4 := (Pt_enter T_31 base _ h).trans (by kernel_rfl)
noncomputable def P32_0 (base n0 : Nat) (v5 v4 v0 : PV) (h : Hp) : Option (PV × Hp) := Pt T F32 [1, 1, 1, 0, 1, 0, 1] base n0 [(5, v5), (4, v4), (0, v0)] h
theorem P32_0_eq (base n0 : Nat) (v5 v4 v0 : PV) (h : Hp) : P32_0 base n0 v5 v4 v0 h =
 (lenB false v0).bnd fun x2 =>
 (binOp .lss v5 x2).bnd fun x3 =>
 condB x3 (
 (idxAB v0 v5 1).bnd fun x6 =>
 (loadV 1 false x6 h).bnd fun x7 =>
 bnd2 (CallA T base 46 [x7, (.int .i64 65535)] h) fun x8 h9 =>
 (extractB x8 0).bnd fun x11 =>
 (extractB x8 1).bnd fun x12 =>
 (unOp .not x12).bnd fun x16 =>
 condB x16 (
 finV false false n0 [.nils, (.int .i64 20)] h9) (
 (buildSlV 1 false [(.int .i64 0)] 1 [(0, strip x11)]).bnd fun x21 =>
 bnd2 (appTV 3 1 v4 x21 h9) fun x22 h23 =>
 (binOp .add v5 (.int .i64 1)).bnd fun x26 =>
 P32_0 base n0 x26 x22 v0 h23)) (
 finV false false n0 [v4, (.int .i64 0)] h) := (Pt_eq T F32 [1, 1, 1, 0, 1, 0, 1] base n0 [(5, v5), (4, v4), (0, v0)] h).trans (by kernel_rfl)
theorem S32 (base : Nat) (a0 : PV) (h : Hp) : CallA T base 32 [a0] h =
 (lenB false a0).bnd fun x3 =>
 (binOp .gtr x3 (.int .i64 3)).bnd fun x4 =>
 condB x4 (
 finV false false (size h) [.nils, (.int .i64 3)] h) (
 (buildSlV 1 false [(.int .i64 0)] 0 []).bnd fun x7 =>
 P32_0 (size h) (size h) (.int .i64 0) x7 a0 h) := (Pt_enter T_32 base _ h).trans (by kernel_rfl)
theorem S33 (base : Nat) (a0 a1 : PV) (h : Hp) : CallA T base 33 [a0, a1] h =
 bnd2 (CallA T base 47 [a0] h) fun x2 h3 =>
 (nilckV a0).bnd fun x6 =>
 (fieldAB x6 1).bnd fun x7 =>
 (loadV 1 false x7 h3).bnd fun x8 =>
 (buildSlV 1 false [(.int .u8 0)] 1 [(0, strip a1)]).bnd fun x10 =>
 bnd2 (appTV 5 1 x8 x10 h3) fun x11 h12 =>
 (nilckV a0).bnd fun x13 =>
 (fieldAB x13 1).bnd fun x14 =>
 (storeV base 1 x14 x11 h12).bnd fun h15 =>
 finV true false (size h) [.nilif] h15 := (Pt_enterK T_33 base _ h).trans (by kernel_rfl)
theorem S34 (base : Nat) (a0 a1 : PV) (h : Hp) : CallA T base 34 [a0, a1] h =
 bnd2 (CallA T base 47 [a0] h) fun x3 h4 =>
 (nilckV a0).bnd fun x7 =>
 (fieldAB x7 1).bnd fun x8 =>
 (loadV 1 false x8 h4).bnd fun x9 =>
 bnd2 (appTV 5 1 x9 a1 h4) fun x11 h12 =>
 (nilckV a0).bnd fun x13 =>
 (fieldAB x13 1).bnd fun x14 =>
 (storeV base 1 x14 x11 h12).bnd fun h15 =>
 (lenB true a1).bnd fun x17 =>
 finV true false (size h) [x17, .nilif] h15 := (Pt_enterK T_34 base _ h).trans (by kernel_rfl)
noncomputable def P37_0 (base n0 : Nat) (v0 v3 : PV) (h : Hp) : Option (PV × Hp) := Pt T F37 [1, 1, 1] base n0 [(0, v0), (3, v3)] h
theorem P37_0_eq (base n0 : Nat) (v0 v3 : PV) (h : Hp) : P37_0 base n0 v0 v3 h =
 (fieldAB v3 1).bnd fun x0 =>
 (loadV 1 false x0 h).bnd fun x1 =>
 bnd2 (CallA T base 49 [x1] h) fun x2 h3 =>
 (extractB x2 0).bnd fun x5 =>
 (extractB x2 1).bnd fun x6 =>
 (wantB x6 true).bnd fun b12 => (whenB b12 (some x5) (some .undef)).bnd fun x11 =>
 (wantB x6 true).bnd fun b16 => (whenB b16 ((binOp .geq x11 (.int .i64 0)).bnd some) (some .undef)).bnd fun x15 =>
 (condB x6 (some x15) (some (.bool false))).bnd fun x19 =>
 (wantB x19 true).bnd fun b22 => (whenB b22 (some x5) (some .undef)).bnd fun x21 =>
 (wantB x19 true).bnd fun b26 => (whenB b26 ((binOp .leq x21 (.int .i64 65535)).bnd some) (some .undef)).bnd fun x25 =>
 (condB x19 (some x25) (some (.bool false))).bnd fun x29 =>
 (fieldAB v3 0).bnd fun x31 =>
 (loadV 1 false x31 h3).bnd fun x32 =>
 (binOp .eql x32 (.str [112, 109, 105, 110])).bnd fun x33 =>
 condB x33 (
 (nilckV v0).bnd fun x38 =>
 (fieldAB x38 0).bnd fun x39 =>
 (storeV base 1 x39 x5 h3).bnd fun h40 =>
 (nilckV v0).bnd fun x41 =>
 (fieldAB x41 2).bnd fun x42 =>
 (storeV base 1 x42 (.bool true) h40).bnd fun h43 =>
 finV false false n0 [(.bool true), x29] h43) (
 (binOp .eql x32 (.str [112, 109, 97, 120])).bnd fun x47 =>
 condB x47 (
 (nilckV v0).bnd fun x52 =>
 (fieldAB x52 1).bnd fun x53 =>
 (storeV base 1 x53 x5 h3).bnd fun h54 =>
 (nilckV v0).bnd fun x55 =>
 (fieldAB x55 3).bnd fun x56 =>
 (storeV base 1 x56 (.bool true) h54).bnd fun h57 =>
 finV false false n0 [(.bool true), x29] h57) (
 (binOp .eql x32 (.str [103, 116])).bnd fun x61 =>
 condB x61 (
 (nilckV v0).bnd fun x66 =>
 (fieldAB x66 4).bnd fun x67 =>
 (storeV base 1 x67 x5 h3).bnd fun h68 =>
 (nilckV v0).bnd fun x69 =>
 (fieldAB x69 7).bnd fun x70 =>
 (storeV base 1 x70 (.bool true) h68).bnd fun h71 =>
 finV false false n0 [(.bool true), x6] h71) (
 (binOp .eql x32 (.str [108, 116])).bnd fun x75 =>
 condB x75 (
 (nilckV v0).bnd fun x80 =>
 (fieldAB x80 5).bnd fun x81 =>
 (storeV base 1 x81 x5 h3).bnd fun h82 =>
 (nilckV v0).bnd fun x83 =>
 (fieldAB x83 8).bnd fun x84 =>
 (storeV base 1 x84 (.bool true) h82).bnd fun h85 =>
 finV false false n0 [(.bool true), x6] h85) (
 (binOp .eql x32 (.str [115, 116])).bnd fun x89 =>
 condB x89 (
 (nilckV v0).bnd fun x94 =>
 (fieldAB x94 6).bnd fun x95 =>
 (storeV base 1 x95 x5 h3).bnd fun h96 =>
 (nilckV v0).bnd fun x97 =>
 (fieldAB x97 9).bnd fun x98 =>
 (storeV base 1 x98 (.bool true) h96).bnd fun h99 =>
 finV false false n0 [(.bool true), x6] h99) (
 finV false false n0 [(.bool false), (.bool true)] h3))))) := (Pt_eq T F37 [1, 1, 1] base n0 [(0, v0), (3, v3)] h).trans (by kernel_rfl)
theorem S37 (base : Nat) (a0 a1 : PV) (h : Hp) : CallA T base 37 [a0, a1] h =
 bnd2 (boxV 3 a1 h) fun x0 h1 =>
 (fieldAB x0 2).bnd fun x4 =>
 (loadV 1 false x4 h1).bnd fun x5 =>
 condB x5 (
 (fieldAB x0 1).bnd fun x6 =>
 (storeV (size h) 1 x6 (.str []) h1).bnd fun h7 =>
 P37_0 (size h) (size h) a0 x0 h7) (
 P37_0 (size h) (size h) a0 x0 h1) := (Pt_enter T_37 base _ h).trans (by kernel_rfl)
theorem S38 (base : Nat) (a0 : PV) (h : Hp) : CallA T base 38 [a0] h =
 (lenB true a0).bnd fun x3 =>
 (binOp .gtr x3 (.int .i64 1)).bnd fun x4 =>
 (wantB x4 true).bnd fun b7 => (whenB b7 (some a0) (some .undef)).bnd fun x6 =>
 (wantB x4 true).bnd fun b11 => (whenB b11 ((idxStrB x6 (.int .i64 0)).bnd some) (some .undef)).bnd fun x10 =>
 (wantB x4 true).bnd fun b15 => (whenB b15 ((binOp .eql x10 (.int .u8 45)).bnd some) (some .undef)).bnd fun x14 =>
 (condB x4 (some x14) (some (.bool false))).bnd fun x18 =>
 (wantB x18 true).bnd fun b21 => (whenB b21 (some a0) (some .undef)).bnd fun x20 =>
 (wantB x18 true).bnd fun b25 => (whenB b25 ((idxStrB x20 (.int .i64 1)).bnd some) (some .undef)).bnd fun x24 =>
 (wantB x18 true).bnd fun b29 => (whenB b29 ((binOp .neq x24 (.int .u8 48)).bnd some) (some .undef)).bnd fun x28 =>
 (condB x18 (some x28) (some (.bool false))).bnd fun x32 =>
 condB x32 (
 (sliceV none (some (.int .i64 1)) none none a0).bnd fun x34 =>
 bnd2 (CallA T (size h) 46 [x34, (.int .i64 2147483647)] h) fun x35 h36 =>
 (extractB x35 0).bnd fun x38 =>
 (extractB x35 1).bnd fun x39 =>
 (binOp .sub (.int .i64 0) x38).bnd fun x43 =>
 finV false false (size h) [x43, x39] h36) (
 bnd2 (CallA T (size h) 46 [a0, (.int .i64 2147483647)] h) fun x48 h49 =>
 (extractB x48 0).bnd fun x50 =>
 (extractB x48 1).bnd fun x51 =>
 finV false false (size h) [x50, x51] h49) := (Pt_enter T_38 base _ h).trans (by kernel_rfl)
noncomputable def P39_0 (base n0 : Nat) (v10 v5 v1 v8 v9 : PV) (h : Hp) : Option (PV × Hp) := Pt T F39 [1, 1, 0, 1, 0, 1] base n0 [(10, v10), (5, v5), (1, v1), (8, v8), (9, v9)] h
theorem P39_0_eq (base n0 : Nat) (v10 v5 v1 v8 v9 : PV) (h : Hp) : P39_0 base n0 v10 v5 v1 v8 v9 h =
 (binOp .lss v10 v9).bnd fun x0 =>
 condB x0 (
 (idxAB v8 v10 2).bnd fun x1 =>
 (loadV 2 true x1 h).bnd fun x2 =>
 allocK [(.int .i64 0), .nils] h fun x3 h4 =>
 (storeV base 2 x3 x2 h4).bnd fun h5 =>
 (fieldAB x3 0).bnd fun x6 =>
 (loadV 1 false x6 h5).bnd fun x7 =>
 (binOp .eql x7 v1).bnd fun x9 =>
 condB x9 (
 (fieldAB x3 1).bnd fun x11 =>
 (loadV 1 false x11 h5).bnd fun x12 =>
 bnd2 (CallA T base 50 [x12] h5) fun x13 h14 =>
 (buildSlV 1 false [.nils] 1 [(0, strip x13)]).bnd fun x15 =>
 bnd2 (appTV 62 1 v5 x15 h14) fun x16 h17 =>
 (binOp .add v10 (.int .i64 1)).bnd fun x19 =>
 P39_0 base n0 x19 x16 v1 v8 v9 h17) (
 (binOp .add v10 (.int .i64 1)).bnd fun x21 =>
 P39_0 base n0 x21 v5 v1 v8 v9 h5)) (
 finV false false n0 [v5] h) := (Pt_eq T F39 [1, 1, 0, 1, 0, 1] base n0 [(10, v10), (5, v5), (1, v1), (8, v8), (9, v9)] h).trans (by kernel_rfl)
theorem S39 (base : Nat) (a0 a1 : PV) (h : Hp) : CallA T base 39 [a0, a1] h =
 (lenB false a0).bnd fun x3 =>
 P39_0 (size h) (size h) (.int .i64 0) .nils a1 a0 x3 h := (Pt_enter T_39 base _ h).trans (by kernel_rfl)
noncomputable def P40_0 (base n0 : Nat) (v6 v0 v5 v1 : PV) (h : Hp) : Option (PV × Hp) := Pt T F40 [1, 1, 0, 1, 0, 1] base n0 [(6, v6), (0, v0), (5, v5), (1, v1)] h
theorem P40_0_eq (base n0 : Nat) (v6 v0 v5 v1 : PV) (h : Hp) : P40_0 base n0 v6 v0 v5 v1 h =
 (lenB false v0).bnd fun x2 =>
 (binOp .lss v6 x2).bnd fun x3 =>
 condB x3 (
 (idxAB v0 v6 2).bnd fun x6 =>
 (fieldAB x6 0).bnd fun x7 =>
 (loadV 1 false x7 h).bnd fun x8 =>
 (binOp .eql x8 v1).bnd fun x10 =>
 condB x10 (
 (idxAB v0 v6 2).bnd fun x14 =>
 (fieldAB x14 1).bnd fun x15 =>
 (loadV 1 false x15 h).bnd fun x16 =>
 (buildSlV 1 false [.nils] 1 [(0, strip x16)]).bnd fun x17 =>
 bnd2 (appTV 62 1 v5 x17 h) fun x18 h19 =>
 (binOp .add v6 (.int .i64 1)).bnd fun x22 =>
 P40_0 base n0 x22 v0 x18 v1 h19) (
 (binOp .add v6 (.int .i64 1)).bnd fun x25 =>
 P40_0 base n0 x25 v0 v5 v1 h)) (
 finV false false n0 [v5] h) := (Pt_eq T F40 [1, 1, 0, 1, 0, 1] base n0 [(6, v6), (0, v0), (5, v5), (1, v1)] h).trans (by kernel_rfl)
theorem S40 (base : Nat) (a0 a1 : PV) (h : Hp) : CallA T base 40 [a0, a1] h =
 (buildSlV 1 false [.nils] 0 []).bnd fun x1 =>
 P40_0 (size h) (size h) (.int .i64 0) a0 x1 a1 h := (Pt_enter T_40 base _ h).trans (by kernel_rfl)
theorem S42 (base : Nat) (a0 : PV) (h : Hp) : CallA T base 42 [a0] h =
 bnd2 (boxV 6 a0 h) fun x0 h1 =>
 (fieldAB x0 0).bnd fun x4 =>
 (loadV 1 false x4 h1).bnd fun x5 =>
 (binOp .lss x5 (.int .i64 1)).bnd fun x6 =>
 (wantB x6 false).bnd fun b9 => (whenB b9 ((fieldAB x0 0).bnd some) (some .undef)).bnd fun x8 =>
 (wantB x6 false).bnd fun b13 => (whenB b13 ((loadV 1 false x8 h1).bnd some) (some .undef)).bnd fun x12 =>
 (wantB x6 false).bnd fun b17 => (whenB b17 ((binOp .gtr x12 (.int .i64 6)).bnd some) (some .undef)).bnd fun x16 =>
 (condB x6 (some (.bool true)) (some x16)).bnd fun x20 =>
 condB x20 (
 finV false false (size h) [(.str []), (.int .i64 70)] h1) (
 (loadV 6 true x0 h1).bnd fun x23 =>
 bnd2 (CallA T (size h) 52 [x23] h1) fun x24 h25 =>
 (unOp .not x24).bnd fun x26 =>
 condB x26 (
 finV false false (size h) [(.str []), (.int .i64 1)] h25) (
 (fieldAB x0 0).bnd fun x29 =>
 (loadV 1 false x29 h25).bnd fun x30 =>
 (binOp .eql x30 (.int .i64 3)).bnd fun x31 =>
 condB x31 (
 (fieldAB x0 2).bnd fun x33 =>
 (loadV 1 false x33 h25).bnd fun x34 =>
 finV false false (size h) [x34, (.int .i64 0)] h25) (
 (binOp .eql x30 (.int .i64 4)).bnd fun x37 =>
 condB x37 (
 (fieldAB x0 3).bnd fun x39 =>
 (loadV 1 false x39 h25).bnd fun x40 =>
 bnd2 (CallA T (size h) 53 [x40] h25) fun x41 h42 =>
 finV false false (size h) [x41, (.int .i64 0)] h42) (
 (binOp .eql x30 (.int .i64 6)).bnd fun x45 =>
 condB x45 (
 (fieldAB x0 4).bnd fun x47 =>
 (loadV 1 false x47 h25).bnd fun x48 =>
 bnd2 (CallA T (size h) 35 [x48] h25) fun x49 h50 => chkK h25 h50 <|
 (binOp .add x49 (.str [58])).bnd fun x51 =>
 (fieldAB x0 5).bnd fun x52 =>
 (loadV 1 false x52 h25).bnd fun x53 =>
 bnd2 (CallA T (size h) 35 [x53] h25) fun x54 h55 =>
 (binOp .add x51 x54).bnd fun x56 =>
 finV false false (size h) [x56, (.int .i64 0)] h55) (
 (fieldAB x0 1).bnd fun x59 =>
 (loadV 1 false x59 h25).bnd fun x60 =>
 bnd2 (CallA T (size h) 54 [x60, (.int .i64 10)] h25) fun x61 h62 =>
 finV false false (size h) [x61, (.int .i64 0)] h62))))) := (Pt_enter T_42 base _ h).trans (by kernel_rfl)
theorem S43 (base : Nat) (a0 a1 : PV) (h : Hp) : CallA T base 43 [a0, a1] h =
 bnd2 (CallA T (size h) 55 [a0, a1] h) fun x4 h5 =>
 (unOp .not x4).bnd fun x6 =>
 condB x6 (
 finV false false (size h) [a0, (.bool false)] h5) (
 (lenB true a1).bnd fun x12 =>
 (sliceV none (some x12) none none a0).bnd fun x13 =>
 finV false false (size h) [x13, (.bool true)] h5) := (Pt_enter T_43 base _ h).trans (by kernel_rfl)
theorem S44 (base : Nat) (a0 a1 : PV) (h : Hp) : CallA T base 44 [a0, a1] h =
 bnd2 (CallA T (size h) 56 [a0] h) fun x3 h4 =>
 (extractB x3 0).bnd fun x6 =>
 (extractB x3 1).bnd fun x7 =>
 (isnilV 2 false x7).bnd fun x12 =>
 (wantB x12 true).bnd fun b15 => (whenB b15 (some x6) (some .undef)).bnd fun x14 =>
 (wantB x12 true).bnd fun b19 => (whenB b19 ((binOp .geq x14 (.int .i64 0)).bnd some) (some .undef)).bnd fun x18 =>
 (condB x12 (some x18) (some (.bool false))).bnd fun x22 =>
 (wantB x22 true).bnd fun b25 => (whenB b25 (some x6) (some .undef)).bnd fun x24 =>
 (wantB x22 true).bnd fun b29 => (whenB b29 (some a1) (some .undef)).bnd fun x28 =>
 (wantB x22 true).bnd fun b33 => (whenB b33 ((binOp .leq x24 x28).bnd some) (some .undef)).bnd fun x32 =>
 (condB x22 (some x32) (some (.bool false))).bnd fun x36 =>
 (wantB x36 true).bnd fun b39 => (whenB b39 (some x6) (some .undef)).bnd fun x38 =>
 (wantB x36 true).bnd fun b43 => bnd2 (whenB b43 (bnd2 (CallA T (size h) 35 [x38] h4) fun x45 h44 => some (x45, h44)) (some (.undef, h4))) fun x42 h44 =>
 (wantB x36 true).bnd fun b47 => (whenB b47 (some a0) (some .undef)).bnd fun x46 =>
 (wantB x36 true).bnd fun b51 => (whenB b51 ((binOp .eql x42 x46).bnd some) (some .undef)).bnd fun x50 =>
 (condB x36 (some x50) (some (.bool false))).bnd fun x54 =>
 finV false false (size h) [x6, x54] h44 := (Pt_enter T_44 base _ h).trans (by kernel_rfl)
noncomputable def P45_0 (base n0 : Nat) (v0 v1 v2 v3 : PV) (h : Hp) : Option (PV × Hp) := Pt T F45 [1, 1, 1, 1, 1] base n0 [(0, v0), (1, v1), (2, v2), (3, v3)] h
noncomputable def P45_1 (base n0 : Nat) (v10 v9 v0 v1 v2 v3 : PV) (h : Hp) : Option (PV × Hp) := Pt T F45 [1, 1, 1, 1, 1, 1, 1, 1, 1, 0, 0, 1] base n0 [(10, v10), (9, v9), (0, v0), (1, v1), (2, v2), (3, v3)] h
theorem P45_0_eq (base n0 : Nat) (v0 v1 v2 v3 : PV) (h : Hp) : P45_0 base n0 v0 v1 v2 v3 h =
 (lenB true v0).bnd fun x2 =>
 (binOp .add x2 (.int .i64 1)).bnd fun x3 =>
 (minmaxV false [v3, x3]).bnd fun x4 =>
 bnd2 (makeV 9 [(.str [])] x4 x4 h) fun x7 h8 =>
 (binOp .sub x4 (.int .i64 1)).bnd fun x11 =>
 P45_1 base n0 (.int .i64 0) x7 v0 v1 v2 x11 h8 := (Pt_eq T F45 [1, 1, 1, 1, 1] base n0 [(0, v0), (1, v1), (2, v2), (3, v3)] h).trans (by kernel_rfl)
theorem P45_1_eq (base n0 : Nat) (v10 v9 v0 v1 v2 v3 : PV) (h : Hp) : P45_1 base n0 v10 v9 v0 v1 v2 v3 h =
 (binOp .lss v10 v3).bnd fun x2 =>
 condB x2 (
 bnd2 (CallA T base 59 [v0, v1] h) fun x5 h6 =>
 (binOp .lss x5 (.int .i64 0)).bnd fun x9 =>
 condB x9 (
 (idxAB v9 v10 1).bnd fun x13 =>
 (storeV base 1 x13 v0 h6).bnd fun h14 =>
 (binOp .add v10 (.int .i64 1)).bnd fun x17 =>
 (sliceV (some 1) none (some x17) none v9).bnd fun x18 =>
 finV false false n0 [x18] h14) (
 (binOp .add x5 v2).bnd fun x25 =>
 (sliceV none none (some x25) none v0).bnd fun x26 =>
 (idxAB v9 v10 1).bnd fun x27 =>
 (storeV base 1 x27 x26 h6).bnd fun h28 =>
 (lenB true v1).bnd fun x32 =>
 (binOp .add x5 x32).bnd fun x33 =>
 (sliceV none (some x33) none none v0).bnd fun x34 =>
 (binOp .add v10 (.int .i64 1)).bnd fun x37 =>
 P45_1 base n0 x37 v9 x34 v1 v2 v3 h28)) (
 (idxAB v9 v10 1).bnd fun x42 =>
 (storeV base 1 x42 v0 h).bnd fun h43 =>
 (binOp .add v10 (.int .i64 1)).bnd fun x46 =>
 (sliceV (some 1) none (some x46) none v9).bnd fun x47 =>
 finV false false n0 [x47] h43) := (Pt_eq T F45 [1, 1, 1, 1, 1, 1, 1, 1, 1, 0, 0, 1] base n0 [(10, v10), (9, v9), (0, v0), (1, v1), (2, v2), (3, v3)] h).trans (by kernel_rfl)
theorem S45 (base : Nat) (a0 a1 a2 a3 : PV) (h : Hp) : CallA T base 45 [a0, a1, a2, a3] h =
 (binOp .eql a3 (.int .i64 0)).bnd fun x2 =>
 condB x2 (
 finV false false (size h) [.nils] h) (
 (binOp .eql a1 (.str [])).bnd fun x5 =>
 condB x5 (
 bnd2 (CallA T (size h) 57 [a0, a3] h) fun x8 h9 =>
 finV false false (size h) [x8] h9) (
 (binOp .lss a3 (.int .i64 0)).bnd fun x12 =>
 condB x12 (
 bnd2 (CallA T (size h) 58 [a0, a1] h) fun x15 h16 =>
 (binOp .add x15 (.int .i64 1)).bnd fun x17 =>
 P45_0 (size h) (size h) a0 a1 a2 x17 h16) (
 P45_0 (size h) (size h) a0 a1 a2 a3 h))) := (Pt_enter T_45 base _ h).trans (by kernel_rfl)
noncomputable def P46_0 (base n0 : Nat) (v7 v0 v6 v1 : PV) (h : Hp) : Option (PV × Hp) := Pt T F46 [1, 1, 1, 0, 1, 0, 1] base n0 [(7, v7), (0, v0), (6, v6), (1, v1)] h
theorem P46_0_eq (base n0 : Nat) (v7 v0 v6 v1 : PV) (h : Hp) : P46_0 base n0 v7 v0 v6 v1 h =
 (lenB true v0).bnd fun x2 =>
 (binOp .lss v7 x2).bnd fun x3 =>
 condB x3 (
 (idxStrB v0 v7).bnd fun x6 =>
 (binOp .lss x6 (.int .u8 48)).bnd fun x7 =>
 (wantB x7 false).bnd fun b10 => (whenB b10 (some v0) (some .undef)).bnd fun x9 =>
 (wantB x7 false).bnd fun b14 => (whenB b14 (some v7) (some .undef)).bnd fun x13 =>
 (wantB x7 false).bnd fun b18 => (whenB b18 ((idxStrB x9 x13).bnd some) (some .undef)).bnd fun x17 =>
 (wantB x7 false).bnd fun b22 => (whenB b22 ((binOp .gtr x17 (.int .u8 57)).bnd some) (some .undef)).bnd fun x21 =>
 (condB x7 (some (.bool true)) (some x21)).bnd fun x25 =>
 condB x25 (
 finV false false n0 [(.int .i64 0), (.bool false)] h) (
 (binOp .mul v6 (.int .i64 10)).bnd fun x29 =>
 (idxStrB v0 v7).bnd fun x32 =>
 (binOp .sub x32 (.int .u8 48)).bnd fun x33 =>
 (toIntB x33 .i64).bnd fun x34 =>
 (binOp .add x29 x34).bnd fun x35 =>
 (binOp .add v7 (.int .i64 1)).bnd fun x38 =>
 P46_0 base n0 x38 v0 x35 v1 h)) (
 (binOp .gtr v6 v1).bnd fun x42 =>
 condB x42 (
 finV false false n0 [(.int .i64 0), (.bool false)] h) (
 finV false false n0 [v6, (.bool true)] h)) := (Pt_eq T F46 [1, 1, 1, 0, 1, 0, 1] base n0 [(7, v7), (0, v0), (6, v6), (1, v1)] h).trans (by kernel_rfl)
theorem S46 (base : Nat) (a0 a1 : PV) (h : Hp) : CallA T base 46 [a0, a1] h =
 (lenB true a0).bnd fun x3 =>
 (binOp .eql x3 (.int .i64 0)).bnd fun x4 =>
 (wantB x4 false).bnd fun b7 => (whenB b7 (some a0) (some .undef)).bnd fun x6 =>
 (wantB x4 false).bnd fun b11 => (whenB b11 ((lenB true x6).bnd some) (some .undef)).bnd fun x10 =>
 (wantB x4 false).bnd fun b15 => (whenB b15 ((binOp .gtr x10 (.int .i64 10)).bnd some) (some .undef)).bnd fun x14 =>
 (condB x4 (some (.bool true)) (some x14)).bnd fun x18 =>
 (wantB x18 false).bnd fun b21 => (whenB b21 (some a0) (some .undef)).bnd fun x20 =>
 (wantB x18 false).bnd fun b25 => (whenB b25 ((lenB true x20).bnd some) (some .undef)).bnd fun x24 =>
 (wantB x18 false).bnd fun b29 => (whenB b29 ((binOp .gtr x24 (.int .i64 1)).bnd some) (some .undef)).bnd fun x28 =>
 (wantB x18 false).bnd fun b33 => (whenB b33 (some x28) (some .undef)).bnd fun x32 =>
 (wantB x32 true).bnd fun b37 => (whenB b37 (some a0) (some .undef)).bnd fun x36 =>
 (wantB x32 true).bnd fun b41 => (whenB b41 ((idxStrB x36 (.int .i64 0)).bnd some) (some .undef)).bnd fun x40 =>
 (wantB x32 true).bnd fun b45 => (whenB b45 ((binOp .eql x40 (.int .u8 48)).bnd some) (some .undef)).bnd fun x44 =>
 (wantB x18 false).bnd fun b49 => (whenB b49 ((condB x32 (some x44) (some (.bool false))).bnd some) (some .undef)).bnd fun x48 =>
 (condB x18 (some (.bool true)) (some x48)).bnd fun x52 =>
 condB x52 (
 finV false false (size h) [(.int .i64 0), (.bool false)] h) (
 P46_0 (size h) (size h) (.int .i64 0) a0 (.int .i64 0) a1 h) := (Pt_enter T_46 base _ h).trans (by kernel_rfl)
theorem S49 (base : Nat) (a0 : PV) (h : Hp) : CallA T base 49 [a0] h =
 bnd2 (CallA T (size h) 29 [a0, (.str [45])] h) fun x3 h4 =>
 (extractB x3 0).bnd fun x6 =>
 (extractB x3 1).bnd fun x7 =>
 bnd2 (CallA T (size h) 44 [x6, (.int .i64 2147483647)] h4) fun x11 h12 =>
 (extractB x11 0).bnd fun x14 =>
 (extractB x11 1).bnd fun x15 =>
 (unOp .not x15).bnd fun x19 =>
 (wantB x19 false).bnd fun b22 => (whenB b22 (some x7) (some .undef)).bnd fun x21 =>
 (wantB x19 false).bnd fun b26 => (whenB b26 (some x21) (some .undef)).bnd fun x25 =>
 (wantB x25 true).bnd fun b30 => (whenB b30 (some x14) (some .undef)).bnd fun x29 =>
 (wantB x25 true).bnd fun b34 => (whenB b34 ((binOp .eql x29 (.int .i64 0)).bnd some) (some .undef)).bnd fun x33 =>
 (wantB x19 false).bnd fun b38 => (whenB b38 ((condB x25 (some x33) (some (.bool false))).bnd some) (some .undef)).bnd fun x37 =>
 (condB x19 (some (.bool true)) (some x37)).bnd fun x41 =>
 condB x41 (
 finV false false (size h) [(.int .i64 0), (.bool false)] h12) (
 condB x7 (
 (unOp .neg x14).bnd fun x48 =>
 finV false false (size h) [x48, (.bool true)] h12) (
 finV false false (size h) [x14, (.bool true)] h12)) := (Pt_enter T_49 base _ h).trans (by kernel_rfl)
theorem S50 (base : Nat) (a0 : PV) (h : Hp) : CallA T base 50 [a0] h =
 (isnilV 1 false a0).bnd fun x2 =>
 condB x2 (
 finV false false (size h) [.nils] h) (
 (buildSlV 1 false [(.int .u8 0)] 0 []).bnd fun x4 =>
 bnd2 (appTV 5 1 x4 a0 h) fun x6 h7 =>
 finV false false (size h) [x6] h7) := (Pt_enter T_50 base _ h).trans (by kernel_rfl)
noncomputable def P52_0 (base n0 : Nat) (v57 v1 v56 : PV) (h : Hp) : Option (PV × Hp) := Pt T F52 [1, 1, 1, 0, 1, 0, 1, 1] base n0 [(57, v57), (1, v1), (56, v56)] h
theorem P52_0_eq (base n0 : Nat) (v57 v1 v56 : PV) (h : Hp) : P52_0 base n0 v57 v1 v56 h =
 condB v57 (
 finV false false n0 [(.bool true)] h) (
 (binOp .eql v56 (.int .i64 2)).bnd fun x1 =>
 condB x1 (
 (fieldAB v1 1).bnd fun x3 =>
 (loadV 1 false x3 h).bnd fun x4 =>
 (binOp .eql x4 (.int .i64 0)).bnd fun x5 =>
 (wantB x5 false).bnd fun b8 => (whenB b8 ((fieldAB v1 1).bnd some) (some .undef)).bnd fun x7 =>
 (wantB x5 false).bnd fun b12 => (whenB b12 ((loadV 1 false x7 h).bnd some) (some .undef)).bnd fun x11 =>
 (wantB x5 false).bnd fun b16 => (whenB b16 ((binOp .eql x11 (.int .i64 1)).bnd some) (some .undef)).bnd fun x15 =>
 (condB x5 (some (.bool true)) (some x15)).bnd fun x19 =>
 finV false false n0 [x19] h) (
 (binOp .eql v56 (.int .i64 3)).bnd fun x21 =>
 condB x21 (
 (fieldAB v1 2).bnd fun x23 =>
 (loadV 1 false x23 h).bnd fun x24 =>
 bnd2 (CallA T base 63 [x24] h) fun x25 h26 =>
 (extractB x25 0).bnd fun x28 =>
 (extractB x25 1).bnd fun x29 =>
 (wantB x29 true).bnd fun b35 => (whenB b35 ((fieldAB v1 2).bnd some) (some .undef)).bnd fun x34 =>
 (wantB x29 true).bnd fun b39 => (whenB b39 ((loadV 1 false x34 h26).bnd some) (some .undef)).bnd fun x38 =>
 (wantB x29 true).bnd fun b43 => (whenB b43 ((lenB true x38).bnd some) (some .undef)).bnd fun x42 =>
 (wantB x29 true).bnd fun b47 => (whenB b47 ((binOp .leq x42 (.int .i64 200)).bnd some) (some .undef)).bnd fun x46 =>
 (condB x29 (some x46) (some (.bool false))).bnd fun x50 =>
 finV false false n0 [x50] h26) (
 (binOp .eql v56 (.int .i64 4)).bnd fun x52 =>
 condB x52 (
 (fieldAB v1 3).bnd fun x54 =>
 (loadV 1 false x54 h).bnd fun x55 =>
 (lenB false x55).bnd fun x56 =>
 (binOp .leq x56 (.int .i64 200)).bnd fun x57 =>
 finV false false n0 [x57] h) (
 (binOp .eql v56 (.int .i64 6)).bnd fun x59 =>
 condB x59 (
 (fieldAB v1 4).bnd fun x61 =>
 (loadV 1 false x61 h).bnd fun x62 =>
 (binOp .geq x62 (.int .i64 0)).bnd fun x63 =>
 (wantB x63 true).bnd fun b66 => (whenB b66 ((fieldAB v1 4).bnd some) (some .undef)).bnd fun x65 =>
 (wantB x63 true).bnd fun b70 => (whenB b70 ((loadV 1 false x65 h).bnd some) (some .undef)).bnd fun x69 =>
 (wantB x63 true).bnd fun b74 => (whenB b74 ((binOp .leq x69 (.int .i64 65535)).bnd some) (some .undef)).bnd fun x73 =>
 (condB x63 (some x73) (some (.bool false))).bnd fun x77 =>
 (wantB x77 true).bnd fun b80 => (whenB b80 ((fieldAB v1 5).bnd some) (some .undef)).bnd fun x79 =>
 (wantB x77 true).bnd fun b84 => (whenB b84 ((loadV 1 false x79 h).bnd some) (some .undef)).bnd fun x83 =>
 (wantB x77 true).bnd fun b88 => (whenB b88 ((binOp .geq x83 (.int .i64 0)).bnd some) (some .undef)).bnd fun x87 =>
 (condB x77 (some x87) (some (.bool false))).bnd fun x91 =>
 (wantB x91 true).bnd fun b94 => (whenB b94 ((fieldAB v1 5).bnd some) (some .undef)).bnd fun x93 =>
 (wantB x91 true).bnd fun b98 => (whenB b98 ((loadV 1 false x93 h).bnd some) (some .undef)).bnd fun x97 =>
 (wantB x91 true).bnd fun b102 => (whenB b102 ((binOp .leq x97 (.int .i64 65535)).bnd some) (some .undef)).bnd fun x101 =>
 (condB x91 (some x101) (some (.bool false))).bnd fun x105 =>
 finV false false n0 [x105] h) (
 finV false false n0 [(.bool false)] h))))) := (Pt_eq T F52 [1, 1, 1, 0, 1, 0, 1, 1] base n0 [(57, v57), (1, v1), (56, v56)] h).trans (by kernel_rfl)
theorem S52 (base : Nat) (a0 : PV) (h : Hp) : CallA T base 52 [a0] h =
 bnd2 (boxV 6 a0 h) fun x0 h1 =>
 (fieldAB x0 0).bnd fun x3 =>
 (loadV 1 false x3 h1).bnd fun x4 =>
 (binOp .neq x4 (.int .i64 1)).bnd fun x7 =>
 (wantB x7 true).bnd fun b10 => (whenB b10 (some x4) (some .undef)).bnd fun x9 =>
 (wantB x7 true).bnd fun b14 => (whenB b14 ((binOp .neq x9 (.int .i64 2)).bnd some) (some .undef)).bnd fun x13 =>
 (condB x7 (some x13) (some (.bool false))).bnd fun x17 =>
 (wantB x17 true).bnd fun b20 => (whenB b20 (some x4) (some .undef)).bnd fun x19 =>
 (wantB x17 true).bnd fun b24 => (whenB b24 ((binOp .neq x19 (.int .i64 5)).bnd some) (some .undef)).bnd fun x23 =>
 (condB x17 (some x23) (some (.bool false))).bnd fun x27 =>
 (wantB x27 true).bnd fun b30 => (whenB b30 ((fieldAB x0 1).bnd some) (some .undef)).bnd fun x29 =>
 (wantB x27 true).bnd fun b34 => (whenB b34 ((loadV 1 false x29 h1).bnd some) (some .undef)).bnd fun x33 =>
 (wantB x27 true).bnd fun b38 => (whenB b38 ((binOp .neq x33 (.int .i64 0)).bnd some) (some .undef)).bnd fun x37 =>
 (condB x27 (some x37) (some (.bool false))).bnd fun x41 =>
 (wantB x41 false).bnd fun b44 => (whenB b44 (some x4) (some .undef)).bnd fun x43 =>
 (wantB x41 false).bnd fun b48 => (whenB b48 ((binOp .neq x43 (.int .i64 3)).bnd some) (some .undef)).bnd fun x47 =>
 (wantB x41 false).bnd fun b52 => (whenB b52 (some x47) (some .undef)).bnd fun x51 =>
 (wantB x51 true).bnd fun b56 => (whenB b56 ((fieldAB x0 2).bnd some) (some .undef)).bnd fun x55 =>
 (wantB x51 true).bnd fun b60 => (whenB b60 ((loadV 1 false x55 h1).bnd some) (some .undef)).bnd fun x59 =>
 (wantB x51 true).bnd fun b64 => (whenB b64 ((binOp .neq x59 (.str [])).bnd some) (some .undef)).bnd fun x63 =>
 (wantB x41 false).bnd fun b68 => (whenB b68 ((condB x51 (some x63) (some (.bool false))).bnd some) (some .undef)).bnd fun x67 =>
 (condB x41 (some (.bool true)) (some x67)).bnd fun x71 =>
 (wantB x71 false).bnd fun b74 => (whenB b74 (some x4) (some .undef)).bnd fun x73 =>
 (wantB x71 false).bnd fun b78 => (whenB b78 ((binOp .neq x73 (.int .i64 4)).bnd some) (some .undef)).bnd fun x77 =>
 (wantB x71 false).bnd fun b82 => (whenB b82 (some x77) (some .undef)).bnd fun x81 =>
 (wantB x81 true).bnd fun b86 => (whenB b86 ((fieldAB x0 3).bnd some) (some .undef)).bnd fun x85 =>
 (wantB x81 true).bnd fun b90 => (whenB b90 ((loadV 1 false x85 h1).bnd some) (some .undef)).bnd fun x89 =>
 (wantB x81 true).bnd fun b94 => (whenB b94 ((lenB false x89).bnd some) (some .undef)).bnd fun x93 =>
 (wantB x81 true).bnd fun b98 => (whenB b98 ((binOp .gtr x93 (.int .i64 0)).bnd some) (some .undef)).bnd fun x97 =>
 (wantB x71 false).bnd fun b102 => (whenB b102 ((condB x81 (some x97) (some (.bool false))).bnd some) (some .undef)).bnd fun x101 =>
 (condB x71 (some (.bool true)) (some x101)).bnd fun x105 =>
 (wantB x105 false).bnd fun b108 => (whenB b108 (some x4) (some .undef)).bnd fun x107 =>
 (wantB x105 false).bnd fun b112 => (whenB b112 ((binOp .neq x107 (.int .i64 6)).bnd some) (some .undef)).bnd fun x111 =>
 (wantB x105 false).bnd fun b116 => (whenB b116 (some x111) (some .undef)).bnd fun x115 =>
 (wantB x115 true).bnd fun b120 => (whenB b120 ((fieldAB x0 4).bnd some) (some .undef)).bnd fun x119 =>
 (wantB x115 true).bnd fun b124 => (whenB b124 ((loadV 1 false x119 h1).bnd some) (some .undef)).bnd fun x123 =>
 (wantB x115 true).bnd fun b128 => (whenB b128 ((binOp .neq x123 (.int .i64 0)).bnd some) (some .undef)).bnd fun x127 =>
 (wantB x115 true).bnd fun b132 => (whenB b132 (some x127) (some .undef)).bnd fun x131 =>
 (wantB x131 false).bnd fun b136 => (whenB b136 ((fieldAB x0 5).bnd some) (some .undef)).bnd fun x135 =>
 (wantB x131 false).bnd fun b140 => (whenB b140 ((loadV 1 false x135 h1).bnd some) (some .undef)).bnd fun x139 =>
 (wantB x131 false).bnd fun b144 => (whenB b144 ((binOp .neq x139 (.int .i64 0)).bnd some) (some .undef)).bnd fun x143 =>
 (wantB x115 true).bnd fun b148 => (whenB b148 ((condB x131 (some (.bool true)) (some x143)).bnd some) (some .undef)).bnd fun x147 =>
 (wantB x105 false).bnd fun b152 => (whenB b152 ((condB x115 (some x147) (some (.bool false))).bnd some) (some .undef)).bnd fun x151 =>
 (condB x105 (some (.bool true)) (some x151)).bnd fun x155 =>
 condB x155 (
 finV false false (size h) [(.bool false)] h1) (
 (binOp .eql x4 (.int .i64 1)).bnd fun x158 =>
 condB x158 (
 P52_0 (size h) (size h) x158 x0 x4 h1) (
 (binOp .eql x4 (.int .i64 5)).bnd fun x160 =>
 P52_0 (size h) (size h) x160 x0 x4 h1)) := (Pt_enter T_52 base _ h).trans (by kernel_rfl)
noncomputable def P53_0 (base n0 : Nat) (v3 v6 v5 v0 v4 : PV) (h : Hp) : Option (PV × Hp) := Pt T F53 [1, 1, 1, 0, 1, 0, 1] base n0 [(3, v3), (6, v6), (5, v5), (0, v0), (4, v4)] h
noncomputable def P53_1 (base n0 : Nat) (v4 v3 v5 v0 v6 : PV) (h : Hp) : Option (PV × Hp) := Pt T F53 [1, 1, 1, 0, 1, 0, 1, 0, 0, 1, 0, 0, 1, 1, 0, 0, 1] base n0 [(4, v4), (3, v3), (5, v5), (0, v0), (6, v6)] h
noncomputable def P53_2 (base n0 : Nat) (v3 : PV) (h : Hp) : Option (PV × Hp) := Pt T F53 [1, 1, 1, 1, 1, 1] base n0 [(3, v3)] h
noncomputable def P53_3 (base n0 : Nat) (v3 : PV) (h : Hp) : Option (PV × Hp) := Pt T F53 [1, 1, 1, 1, 1, 1, 0, 0, 1] base n0 [(3, v3)] h
theorem P53_0_eq (base n0 : Nat) (v3 v6 v5 v0 v4 : PV) (h : Hp) : P53_0 base n0 v3 v6 v5 v0 v4 h =
 (lenB false v0).bnd fun x2 =>
 (binOp .lss v6 x2).bnd fun x3 =>
 condB x3 (
 (binOp .mul v4 (.int .i64 256)).bnd fun x5 =>
 (idxAB v0 v6 1).bnd fun x8 =>
 (loadV 1 false x8 h).bnd fun x9 =>
 (toIntB x9 .i64).bnd fun x10 =>
 (binOp .add x5 x10).bnd fun x11 =>
 (binOp .add v5 (.int .i64 8)).bnd fun x14 =>
 P53_1 base n0 x11 v3 x14 v0 v6 h) (
 (binOp .gtr v5 (.int .i64 0)).bnd fun x17 =>
 condB x17 (
 (binOp .sub (.int .i64 6) v5).bnd fun x21 =>
 (binOp .shl v4 x21).bnd fun x22 =>
 (binOp .and x22 (.int .i64 63)).bnd fun x23 =>
 bnd2 (CallA T base 64 [x23] h) fun x24 h25 =>
 (buildSlV 1 false [(.int .u8 0)] 1 [(0, strip x24)]).bnd fun x26 =>
 bnd2 (appTV 5 1 v3 x26 h25) fun x27 h28 =>
 P53_2 base n0 x27 h28) (
 P53_2 base n0 v3 h)) := (Pt_eq T F53 [1, 1, 1, 0, 1, 0, 1] base n0 [(3, v3), (6, v6), (5, v5), (0, v0), (4, v4)] h).trans (by kernel_rfl)
theorem P53_1_eq (base n0 : Nat) (v4 v3 v5 v0 v6 : PV) (h : Hp) : P53_1 base n0 v4 v3 v5 v0 v6 h =
 (binOp .geq v5 (.int .i64 6)).bnd fun x1 =>
 condB x1 (
 (binOp .sub v5 (.int .i64 6)).bnd fun x3 =>
 (binOp .shr v4 x3).bnd fun x8 =>
 (binOp .and x8 (.int .i64 63)).bnd fun x9 =>
 bnd2 (CallA T base 64 [x9] h) fun x10 h11 =>
 (buildSlV 1 false [(.int .u8 0)] 1 [(0, strip x10)]).bnd fun x12 =>
 bnd2 (appTV 5 1 v3 x12 h11) fun x13 h14 =>
 P53_1 base n0 v4 x13 x3 v0 v6 h14) (
 (binOp .and v4 (.int .i64 63)).bnd fun x17 =>
 (binOp .add v6 (.int .i64 1)).bnd fun x20 =>
 P53_0 base n0 v3 x20 v5 v0 x17 h) := (Pt_eq T F53 [1, 1, 1, 0, 1, 0, 1, 0, 0, 1, 0, 0, 1, 1, 0, 0, 1] base n0 [(4, v4), (3, v3), (5, v5), (0, v0), (6, v6)] h).trans (by kernel_rfl)
theorem P53_2_eq (base n0 : Nat) (v3 : PV) (h : Hp) : P53_2 base n0 v3 h =
 P53_3 base n0 v3 h := (Pt_eq T F53 [1, 1, 1, 1, 1, 1] base n0 [(3, v3)] h).trans (by kernel_rfl)
theorem P53_3_eq (base n0 : Nat) (v3 : PV) (h : Hp) : P53_3 base n0 v3 h =
 (lenB false v3).bnd fun x1 =>
 (binOp .rem x1 (.int .i64 4)).bnd fun x2 =>
 (binOp .neq x2 (.int .i64 0)).bnd fun x3 =>
 condB x3 (
 (buildSlV 1 false [(.int .u8 0)] 1 [(0, strip (.int .u8 61))]).bnd fun x5 =>
 bnd2 (appTV 5 1 v3 x5 h) fun x6 h7 =>
 P53_3 base n0 x6 h7) (
 (bytesStrB h v3).bnd fun x10 =>
 finV false false n0 [x10] h) := (Pt_eq T F53 [1, 1, 1, 1, 1, 1, 0, 0, 1] base n0 [(3, v3)] h).trans (by kernel_rfl)
theorem S53 (base : Nat) (a0 : PV) (h : Hp) : CallA T base 53 [a0] h =
 (buildSlV 1 false [(.int .u8 0)] 0 []).bnd fun x1 =>
 P53_0 (size h) (size h) x1 (.int .i64 0) (.int .i64 0) a0 (.int .i64 0) h := (Pt_enter T_53 base _ h).trans (by kernel_rfl)
theorem S55 (base : Nat) (a0 a1 : PV) (h : Hp) : CallA T base 55 [a0, a1] h =
 (lenB true a0).bnd fun x2 =>
 (lenB true a1).bnd fun x4 =>
 (binOp .geq x2 x4).bnd fun x5 =>
 (wantB x5 true).bnd fun b8 => (whenB b8 (some a0) (some .undef)).bnd fun x7 =>
 (wantB x5 true).bnd fun b12 => (whenB b12 (some a1) (some .undef)).bnd fun x11 =>
 (wantB x5 true).bnd fun b16 => (whenB b16 ((lenB true x11).bnd some) (some .undef)).bnd fun x15 =>
 (wantB x5 true).bnd fun b20 => (whenB b20 ((sliceV none none (some x15) none x7).bnd some) (some .undef)).bnd fun x19 =>
 (wantB x5 true).bnd fun b24 => (whenB b24 (some a1) (some .undef)).bnd fun x23 =>
 (wantB x5 true).bnd fun b28 => (whenB b28 ((binOp .eql x19 x23).bnd some) (some .undef)).bnd fun x27 =>
 (condB x5 (some x27) (some (.bool false))).bnd fun x31 =>
 finV false false (size h) [x31] h := (Pt_enter T_55 base _ h).trans (by kernel_rfl)
noncomputable def P63_0 (base n0 : Nat) (v4 v0 : PV) (h : Hp) : Option (PV × Hp) := Pt T F63 [1, 1, 0, 0, 1] base n0 [(4, v4), (0, v0)] h
theorem P63_0_eq (base n0 : Nat) (v4 v0 : PV) (h : Hp) : P63_0 base n0 v4 v0 h =
 (lenB true v0).bnd fun x1 =>
 (binOp .gtr x1 (.int .i64 0)).bnd fun x2 =>
 condB x2 (
 bnd2 (CallA T base 78 [v0] h) fun x4 h5 =>
 (extractB x4 0).bnd fun x7 =>
 (extractB x4 1).bnd fun x8 =>
 (binOp .eql x7 (.int .i64 0)).bnd fun x12 =>
 (wantB x12 false).bnd fun b15 => (whenB b15 (some x8) (some .undef)).bnd fun x14 =>
 (wantB x12 false).bnd fun b19 => (whenB b19 ((binOp .lss x14 (.int .i64 32)).bnd some) (some .undef)).bnd fun x18 =>
 (condB x12 (some (.bool true)) (some x18)).bnd fun x22 =>
 (wantB x22 false).bnd fun b25 => (whenB b25 (some x8) (some .undef)).bnd fun x24 =>
 (wantB x22 false).bnd fun b29 => (whenB b29 ((binOp .eql x24 (.int .i64 127)).bnd some) (some .undef)).bnd fun x28 =>
 (condB x22 (some (.bool true)) (some x28)).bnd fun x32 =>
 condB x32 (
 finV false false n0 [(.int .i64 0), (.bool false)] h5) (
 (sliceV none (some x7) none none v0).bnd fun x37 =>
 (binOp .add v4 (.int .i64 1)).bnd fun x40 =>
 P63_0 base n0 x40 x37 h5)) (
 finV false false n0 [v4, (.bool true)] h) := (Pt_eq T F63 [1, 1, 0, 0, 1] base n0 [(4, v4), (0, v0)] h).trans (by kernel_rfl)
theorem S63 (base : Nat) (a0 : PV) (h : Hp) : CallA T base 63 [a0] h =
 P63_0 (size h) (size h) (.int .i64 0) a0 h := (Pt_enter T_63 base _ h).trans (by kernel_rfl)
theorem S64 (base : Nat) (a0 : PV) (h : Hp) : CallA T base 64 [a0] h =
 (binOp .lss a0 (.int .i64 26)).bnd fun x2 =>
 condB x2 (
 (binOp .add (.int .i64 65) a0).bnd fun x5 =>
 (toIntB x5 .u8).bnd fun x6 =>
 finV false false (size h) [x6] h) (
 (binOp .lss a0 (.int .i64 52)).bnd fun x9 =>
 condB x9 (
 (binOp .add (.int .i64 97) a0).bnd fun x12 =>
 (binOp .sub x12 (.int .i64 26)).bnd fun x13 =>
 (toIntB x13 .u8).bnd fun x14 =>
 finV false false (size h) [x14] h) (
 (binOp .lss a0 (.int .i64 62)).bnd fun x17 =>
 condB x17 (
 (binOp .add (.int .i64 48) a0).bnd fun x20 =>
 (binOp .sub x20 (.int .i64 52)).bnd fun x21 =>
 (toIntB x21 .u8).bnd fun x22 =>
 finV false false (size h) [x22] h) (
 (binOp .eql a0 (.int .i64 62)).bnd fun x25 =>
 condB x25 (
 finV false false (size h) [(.int .u8 43)] h) (
 finV false false (size h) [(.int .u8 47)] h)))) := (Pt_enter T_64 base _ h).trans (by kernel_rfl)
noncomputable def P78_0 (base n0 : Nat) (v0 v4 v5 v6 : PV) (h : Hp) : Option (PV × Hp) := Pt T F78 [1, 1, 1, 1, 1] base n0 [(0, v0), (4, v4), (5, v5), (6, v6)] h
noncomputable def P78_1 (base n0 : Nat) (v7 v0 v4 v5 v6 : PV) (h : Hp) : Option (PV × Hp) := Pt T F78 [1, 1, 1, 1, 1, 1, 0, 1, 0, 1] base n0 [(7, v7), (0, v0), (4, v4), (5, v5), (6, v6)] h
theorem P78_0_eq (base n0 : Nat) (v0 v4 v5 v6 : PV) (h : Hp) : P78_0 base n0 v0 v4 v5 v6 h =
 (lenB true v0).bnd fun x1 =>
 (binOp .lss x1 v5).bnd fun x3 =>
 condB x3 (
 finV false false n0 [(.int .i64 0), (.int .i64 0)] h) (
 P78_1 base n0 (.int .i64 1) v0 v4 v5 v6 h) := (Pt_eq T F78 [1, 1, 1, 1, 1] base n0 [(0, v0), (4, v4), (5, v5), (6, v6)] h).trans (by kernel_rfl)
theorem P78_1_eq (base n0 : Nat) (v7 v0 v4 v5 v6 : PV) (h : Hp) : P78_1 base n0 v7 v0 v4 v5 v6 h =
 (binOp .lss v7 v5).bnd fun x2 =>
 condB x2 (
 (idxStrB v0 v7).bnd fun x5 =>
 (binOp .lss x5 (.int .u8 128)).bnd fun x6 =>
 (wantB x6 false).bnd fun b9 => (whenB b9 (some v0) (some .undef)).bnd fun x8 =>
 (wantB x6 false).bnd fun b13 => (whenB b13 (some v7) (some .undef)).bnd fun x12 =>
 (wantB x6 false).bnd fun b17 => (whenB b17 ((idxStrB x8 x12).bnd some) (some .undef)).bnd fun x16 =>
 (wantB x6 false).bnd fun b21 => (whenB b21 ((binOp .gtr x16 (.int .u8 191)).bnd some) (some .undef)).bnd fun x20 =>
 (condB x6 (some (.bool true)) (some x20)).bnd fun x24 =>
 condB x24 (
 finV false false n0 [(.int .i64 0), (.int .i64 0)] h) (
 (binOp .mul v4 (.int .i64 64)).bnd fun x28 =>
 (idxStrB v0 v7).bnd fun x31 =>
 (toIntB x31 .i64).bnd fun x32 =>
 (binOp .add x28 x32).bnd fun x33 =>
 (binOp .sub x33 (.int .i64 128)).bnd fun x34 =>
 (binOp .add v7 (.int .i64 1)).bnd fun x37 =>
 P78_1 base n0 x37 v0 x34 v5 v6 h)) (
 (binOp .lss v4 v6).bnd fun x41 =>
 (wantB x41 false).bnd fun b44 => (whenB b44 (some v4) (some .undef)).bnd fun x43 =>
 (wantB x41 false).bnd fun b48 => (whenB b48 ((binOp .gtr x43 (.int .i64 1114111)).bnd some) (some .undef)).bnd fun x47 =>
 (condB x41 (some (.bool true)) (some x47)).bnd fun x51 =>
 (wantB x51 false).bnd fun b54 => (whenB b54 (some v4) (some .undef)).bnd fun x53 =>
 (wantB x51 false).bnd fun b58 => (whenB b58 ((binOp .geq x53 (.int .i64 55296)).bnd some) (some .undef)).bnd fun x57 =>
 (wantB x51 false).bnd fun b62 => (whenB b62 (some x57) (some .undef)).bnd fun x61 =>
 (wantB x61 true).bnd fun b66 => (whenB b66 (some v4) (some .undef)).bnd fun x65 =>
 (wantB x61 true).bnd fun b70 => (whenB b70 ((binOp .lss x65 (.int .i64 57344)).bnd some) (some .undef)).bnd fun x69 =>
 (wantB x51 false).bnd fun b74 => (whenB b74 ((condB x61 (some x69) (some (.bool false))).bnd some) (some .undef)).bnd fun x73 =>
 (condB x51 (some (.bool true)) (some x73)).bnd fun x77 =>
 condB x77 (
 finV false false n0 [(.int .i64 0), (.int .i64 0)] h) (
 finV false false n0 [v5, v4] h)) := (Pt_eq T F78 [1, 1, 1, 1, 1, 1, 0, 1, 0, 1] base n0 [(7, v7), (0, v0), (4, v4), (5, v5), (6, v6)] h).trans (by kernel_rfl)
theorem S78 (base : Nat) (a0 : PV) (h : Hp) : CallA T base 78 [a0] h =
 (idxStrB a0 (.int .i64 0)).bnd fun x3 =>
 (toIntB x3 .i64).bnd fun x4 =>
 (binOp .lss x4 (.int .i64 128)).bnd fun x9 =>
 condB x9 (
 finV false false (size h) [(.int .i64 1), x4] h) (
 (binOp .geq x4 (.int .i64 194)).bnd fun x15 =>
 (wantB x15 true).bnd fun b18 => (whenB b18 (some x4) (some .undef)).bnd fun x17 =>
 (wantB x15 true).bnd fun b22 => (whenB b22 ((binOp .lss x17 (.int .i64 224)).bnd some) (some .undef)).bnd fun x21 =>
 (condB x15 (some x21) (some (.bool false))).bnd fun x25 =>
 condB x25 (
 (binOp .sub x4 (.int .i64 192)).bnd fun x28 =>
 P78_0 (size h) (size h) a0 x28 (.int .i64 2) (.int .i64 128) h) (
 (binOp .geq x4 (.int .i64 224)).bnd fun x33 =>
 (wantB x33 true).bnd fun b36 => (whenB b36 (some x4) (some .undef)).bnd fun x35 =>
 (wantB x33 true).bnd fun b40 => (whenB b40 ((binOp .lss x35 (.int .i64 240)).bnd some) (some .undef)).bnd fun x39 =>
 (condB x33 (some x39) (some (.bool false))).bnd fun x43 =>
 condB x43 (
 (binOp .sub x4 (.int .i64 224)).bnd fun x46 =>
 P78_0 (size h) (size h) a0 x46 (.int .i64 3) (.int .i64 2048) h) (
 (binOp .geq x4 (.int .i64 240)).bnd fun x51 =>
 (wantB x51 true).bnd fun b54 => (whenB b54 (some x4) (some .undef)).bnd fun x53 =>
 (wantB x51 true).bnd fun b58 => (whenB b58 ((binOp .lss x53 (.int .i64 245)).bnd some) (some .undef)).bnd fun x57 =>
 (condB x51 (some x57) (some (.bool false))).bnd fun x61 =>
 condB x61 (
 (binOp .sub x4 (.int .i64 240)).bnd fun x64 =>
 P78_0 (size h) (size h) a0 x64 (.int .i64 4) (.int .i64 65536) h) (
 finV false false (size h) [(.int .i64 0), (.int .i64 0)] h)))) := (Pt_enter T_78 base _ h).trans (by kernel_rfl)
end Go.Am.YtikgjdmdcpomlaaDoor
namespace Go.Am
set_option linter.unusedVariables false
set_option linter.unusedSimpArgs false
theorem loadV_ptr (n g b off h) : loadV n g (.ptr b off) h = (getBox h b).bnd fun cs => part cs off n g := (rfl)
theorem loadV_ep (n g cs off h) : loadV n g (.ep cs off) h = part cs off n g := (rfl)
theorem storeV_ptr (base n b off u h) : storeV base n (.ptr b off) u h = (getBox h b).bnd fun cs =>
      if u.cells.length = n ∧ off + n ≤ cs.length ∧ u.cells.all scalar = true ∧ (b < base → belows 0 (strips u.cells) = true)
      then some (setBox h b (setRange cs off (if b < base then strips u.cells else u.cells))) else none := (rfl)
theorem allocK_eq {α : Type} (z h) (K : PV → Hp → Option α) : allocK z h K = K (.ptr (size h) 0) (ext h [.cells z]) := (rfl)
theorem boxV_eq (n v h) : boxV n v h = if v.cells.length = n ∧ v.cells.all scalar = true then some (.ptr (size h) 0, ext h [.cells v.cells]) else none := (rfl)
theorem buildV_eq (z l) : buildV z l = (buildAgg l z).bnd fun cs => some (.agg cs) := (rfl)
theorem buildSlV_eq (sz g z len l) : buildSlV sz g z len l = (fillParts sz l (List.replicate len (if g then .agg z else z.headD .undef))).bnd fun es => some (.sl .full sz es) := (rfl)
theorem nilckV_eq (v) : nilckV v = (isNil v).bnd fun b => if b then none else some v := (rfl)
theorem isnilV_eq (kd neg v) : isnilV kd neg v = (nilK kd v).bnd fun b => some (.bool (if neg then !b else b)) := (rfl)
theorem makeV_eq (T z l c h) : makeV T z l c h = (makeN l c).bnd fun n => makeB T z n h := (rfl)
theorem copyV_bsl (base f b off len sz u h) : copyV base (.bsl f b off len sz) u h = (elems h u).bnd fun xs => (getBox h b).bnd fun cs =>
        if sz = 1 ∧ off + len ≤ cs.length ∧ xs.all scalar = true ∧ (b < base → belows 0 (xs.take len) = true)
        then some (.int .i64 (min xs.length len : Nat), setBox h b (setRange cs off (xs.take len))) else none := (rfl)
theorem copyV_nils (base u h) : copyV base .nils u h = (elems h u).bnd fun xs => some (.int .i64 0, h) := (rfl)
theorem bdW_none (n d) : bdW n d none = some d := (rfl)
theorem bdW_some (n d v) : bdW n d (some v) = bdV n v := (rfl)
theorem sliceV_str (lo hi s) : sliceV none lo hi none (.str s) = (bdW s.length s.length hi).bnd fun hh => (bdW hh 0 lo).bnd fun l => some (.str ((s.drop l).take (hh - l))) := (rfl)
theorem sliceV_nils (n lo hi mx) : sliceV (some n) lo hi mx .nils = (bdW 0 0 mx).bnd fun m => (bdW 0 0 hi).bnd fun hh => (bdW 0 0 lo).bnd fun l => some .nils := (rfl)
theorem sliceV_sl (n lo hi o es) : sliceV (some n) lo hi none (.sl o n es) = (bdW es.length es.length hi).bnd fun hh => (bdW hh 0 lo).bnd fun l =>
      some (.sl (if isFull o && hh == es.length then .full else .no) n ((es.drop l).take (hh - l))) := by
  simp [sliceV, bdW_none, Option.bnd_some]
theorem sliceV_bsl (n lo hi f b off len) : sliceV (some n) lo hi none (.bsl f b off len n) = (bdW len len hi).bnd fun hh => (bdW hh 0 lo).bnd fun l =>
      if hh - l = 0 then some (.sl .no n []) else some (.bsl (f && hh == len) b (off + l * n) (hh - l) n) := by
  simp [sliceV, bdW_none, Option.bnd_some]
theorem idxArrV_ptr (sz len b o i) : idxArrV sz len (.ptr b o) i = (ix i len).bnd fun i => some (.ptr b (o + i * sz)) := (rfl)
theorem idxArrV_ep (sz len b o i) : idxArrV sz len (.ep b o) i = (ix i len).bnd fun i => some (.ep b (o + i * sz)) := (rfl)
theorem idxAggV_agg (sz g len cs i) : idxAggV sz g len (.agg cs) i = (ix i len).bnd fun i => part cs (i * sz) sz g := (rfl)
theorem minmaxV_cons (m x r) : minmaxV m (x :: r) = minMax m x r := (rfl)
theorem appTV_eq (T sz v u h) : appTV T sz v u h = (elems h u).bnd fun xs => growT h T sz v xs := (rfl)
theorem loadNV_ptr (n g c o b off h) : loadNV n g (.ptr c o) (.ptr b off) h = if b = c then none else loadV n g (.ptr b off) h := (rfl)
theorem loadNV_ep (n g c o cs off h) : loadNV n g (.ptr c o) (.ep cs off) h = loadV n g (.ep cs off) h := (rfl)
theorem storeNV_ptr (base n c o b off u h) : storeNV base n (.ptr c o) (.ptr b off) u h = if b = c then storeV base n (.ptr b off) u h else none := (rfl)
theorem callvV_fn (orc f cap vs h) : callvV orc (.fn f cap) vs h = orc f (vs ++ cap) h := (rfl)
theorem chkK_eq {α : Type} (h) (y : Option α) : chkK h h y = y := by simp [chkK]
theorem finV_code (n0 vs h) : finV false false n0 vs h = (frzs n0 h vs).bnd fun vs => if belows n0 vs = true then some (result1 vs, trunc h n0) else none := (rfl)
theorem finV_keep (o n0 vs h) : finV true o n0 vs h = some (result1 vs, h) := (rfl)
theorem finV_own (n0 vs h) : finV false true n0 vs h = (ownEnd n0 h vs).bnd fun r => some (result1 r.1, r.2) := (rfl)
theorem appV_nils (sz u h) : appV sz .nils u h = (elems h u).bnd fun xs => if xs.all (fun x => x.cells.length == sz) then (if xs.length ≤ lim2 then some (if xs.isEmpty then .nils else .sl .no sz (strips xs)) else none) else none := (rfl)
theorem appV_full (sz es u h) : appV sz (.sl .full sz es) u h = (elems h u).bnd fun xs => if xs.all (fun x => x.cells.length == sz) then (if es.length + xs.length ≤ lim2 then some (if xs.isEmpty then .sl .full sz es else .sl .no sz (es ++ strips xs)) else none) else none := by
  unfold appV; simp
theorem bnd_some_id {α : Type} (x : Option α) : x.bnd some = x := by cases x <;> rfl
end Go.Am
namespace Go.Am
set_option maxRecDepth 100000
set_option linter.defProp false
def evD :=
  And.intro @bnd2_some <|
  And.intro @bnd2_none <|
  And.intro @bnd2_ite <|
  And.intro @Option.bnd_some <|
  And.intro @Option.bnd_none <|
  And.intro @Option.bnd_ite <|
  And.intro @condB_true <|
  And.intro @condB_false <|
  And.intro @condB_b <|
  And.intro @whenB_true <|
  And.intro @whenB_false <|
  @allocK_eq
def evU :=
  And.intro @Int.toNat_natCast <|
  And.intro @Nat.zero_add <|
  And.intro @Nat.add_zero <|
  And.intro @Nat.le_refl <|
  And.intro @Nat.succ_eq_add_one <|
  And.intro @Nat.add_eq_zero_iff <|
  And.intro @Nat.succ_ne_self <|
  And.intro @and_true <|
  And.intro @true_and <|
  And.intro @and_self <|
  And.intro @Bool.false_eq_true <|
  And.intro @Bool.true_and <|
  And.intro @Bool.and_true <|
  And.intro @Bool.and_self <|
  And.intro @Bool.not_true <|
  And.intro @Bool.not_false <|
  And.intro @Bool.not_not <|
  And.intro @Bool.true_beq <|
  And.intro @Bool.false_beq <|
  And.intro @beq_true <|
  And.intro @beq_false <|
  And.intro @imp_self <|
  And.intro @false_implies <|
  And.intro @decide_eq_true_eq <|
  And.intro @not_true_eq_false <|
  And.intro @not_false_eq_true <|
  And.intro @Bool.not_eq_true' <|
  And.intro @decide_true <|
  And.intro @decide_false <|
  And.intro @Bool.true_or <|
  And.intro @Bool.false_or <|
  And.intro @Bool.or_true <|
  And.intro @Bool.or_false <|
  And.intro @Bool.false_and <|
  And.intro @Bool.and_false <|
  And.intro @true_or <|
  And.intro @or_true <|
  And.intro @false_or <|
  And.intro @or_false <|
  And.intro @or_self <|
  And.intro @false_and <|
  And.intro @and_false <|
  And.intro @Nat.add_eq_left <|
  And.intro @Nat.left_eq_add <|
  And.intro @Nat.add_left_cancel_iff <|
  And.intro @size_ext <|
  And.intro @size_setBox <|
  And.intro @getBox_ext_0 <|
  And.intro @getBox_ext_n <|
  And.intro @ext_ext <|
  And.intro @trunc_ext <|
  And.intro @trunc_self <|
  And.intro @trunc_exts <|
  And.intro @trunc_set <|
  And.intro @not_lt_size <|
  And.intro @size_add_lt <|
  And.intro @strip_undef <|
  And.intro @strip_bool <|
  And.intro @strip_int <|
  And.intro @strip_str <|
  And.intro @strip_nilp <|
  And.intro @strip_bnil <|
  And.intro @strip_ptr <|
  And.intro @strip_ep <|
  And.intro @strip_nils <|
  And.intro @strip_bsl <|
  And.intro @strip_nilif <|
  And.intro @strip_iface <|
  And.intro @strip_nilf <|
  And.intro @strip_fn <|
  And.intro @strip_agg <|
  And.intro @strip_tup <|
  And.intro @cells_agg <|
  And.intro @cells_bool <|
  And.intro @cells_int <|
  And.intro @cells_str <|
  And.intro @cells_nilp <|
  And.intro @cells_bnil <|
  And.intro @cells_ptr <|
  And.intro @cells_nils <|
  And.intro @cells_sl <|
  And.intro @cells_bsl <|
  And.intro @cells_nilif <|
  And.intro @cells_iface <|
  And.intro @cells_nilf <|
  And.intro @cells_fn <|
  And.intro @isNil_nilp <|
  And.intro @isNil_bnil <|
  And.intro @isNil_nils <|
  And.intro @isNil_nilif <|
  And.intro @isNil_nilf <|
  And.intro @isNil_ptr <|
  And.intro @isNil_ep <|
  And.intro @isNil_sl <|
  And.intro @isNil_bsl <|
  And.intro @isNil_iface <|
  And.intro @isNil_fn <|
  And.intro @wantB_bool <|
  And.intro @wantB_undef <|
  And.intro @boolB_eq <|
  And.intro @boolB_ne <|
  And.intro @nilK_00 <|
  And.intro @nilK_0b <|
  And.intro @nilK_01 <|
  And.intro @nilK_10 <|
  And.intro @nilK_11 <|
  And.intro @nilK_12 <|
  And.intro @nilK_20 <|
  And.intro @nilK_21 <|
  And.intro @nilK_30 <|
  And.intro @nilK_31 <|
  And.intro @scalar_bool <|
  And.intro @scalar_int <|
  And.intro @scalar_str <|
  And.intro @scalar_nilp <|
  And.intro @scalar_bnil <|
  And.intro @scalar_ptr <|
  And.intro @scalar_nils <|
  And.intro @scalar_sl <|
  And.intro @scalar_bsl <|
  And.intro @scalar_nilif <|
  And.intro @scalar_iface <|
  And.intro @scalar_nilf <|
  And.intro @scalar_fn <|
  And.intro @bdV_int <|
  And.intro @isFull_no <|
  And.intro @isFull_full <|
  And.intro @isFull_tok <|
  And.intro @toIntB_int <|
  And.intro @extractB_tup <|
  And.intro @fieldAB_ptr <|
  And.intro @fieldAB_ep <|
  And.intro @fieldB_agg <|
  And.intro @lenB_str <|
  And.intro @lenB_nils <|
  And.intro @lenB_sl <|
  And.intro @lenB_bsl <|
  And.intro @idxAB_sl <|
  And.intro @idxAB_bsl <|
  And.intro @idxStrB_str <|
  And.intro @binOp_int <|
  And.intro @binOp_str <|
  And.intro @isShift_add <|
  And.intro @isShift_sub <|
  And.intro @isShift_mul <|
  And.intro @isShift_quo <|
  And.intro @isShift_rem <|
  And.intro @isShift_and <|
  And.intro @isShift_or <|
  And.intro @isShift_xor <|
  And.intro @isShift_andNot <|
  And.intro @isShift_eql <|
  And.intro @isShift_neq <|
  And.intro @isShift_lss <|
  And.intro @isShift_leq <|
  And.intro @isShift_gtr <|
  And.intro @isShift_geq <|
  And.intro @isShift_shl <|
  And.intro @isShift_shr <|
  And.intro @intOp_add <|
  And.intro @intOp_sub <|
  And.intro @intOp_mul <|
  And.intro @intOp_quo <|
  And.intro @intOp_rem <|
  And.intro @intOp_eql <|
  And.intro @intOp_neq <|
  And.intro @intOp_lss <|
  And.intro @intOp_leq <|
  And.intro @intOp_gtr <|
  And.intro @intOp_geq <|
  And.intro @strOp_eql <|
  And.intro @strOp_neq <|
  And.intro @strOp_add <|
  And.intro @unOp_not <|
  And.intro @unOp_neg <|
  And.intro @part_agg <|
  And.intro @part_one <|
  And.intro @minMax_nil <|
  And.intro @minMax_cons <|
  And.intro @minMax2_max <|
  And.intro @minMax2_min <|
  And.intro @belows_nil <|
  And.intro @belows_cons <|
  And.intro @below_undef <|
  And.intro @below_bool <|
  And.intro @below_int <|
  And.intro @below_str <|
  And.intro @below_nilp <|
  And.intro @below_bnil <|
  And.intro @below_nils <|
  And.intro @below_nilif <|
  And.intro @below_nilf <|
  And.intro @below_ptr <|
  And.intro @below_sl <|
  And.intro @below_iface <|
  And.intro @below_agg <|
  And.intro @below_tup <|
  And.intro @resB_ptr <|
  And.intro @result1_one <|
  And.intro @result1_nil <|
  And.intro @result1_two <|
  And.intro @setRange_nil <|
  And.intro @setRange_cons <|
  And.intro @fillParts_nil <|
  And.intro @fillParts_cons <|
  And.intro @buildAgg_nil <|
  And.intro @buildAgg_cons <|
  And.intro @elems_nils <|
  And.intro @elems_sl <|
  And.intro @elems_bsl <|
  And.intro @setBox_eq <|
  And.intro @size_setBx <|
  And.intro @cellsOf_cells <|
  And.intro @tokOf_tok <|
  And.intro @iterOf_iter <|
  And.intro @getBox_exts_0 <|
  And.intro @getBox_exts_n <|
  And.intro @setBx_ext_0 <|
  And.intro @setBx_ext_n <|
  And.intro @setBx_exts_0 <|
  And.intro @setBx_exts_n <|
  And.intro @setBx_setBx <|
  And.intro @getTok_ext_0 <|
  And.intro @getTok_ext_n <|
  And.intro @getTok_exts_0 <|
  And.intro @getTok_exts_n <|
  And.intro @getIter_ext_0 <|
  And.intro @getIter_ext_n <|
  And.intro @getIter_exts_0 <|
  And.intro @getIter_exts_n <|
  And.intro @strip_sl <|
  And.intro @ostrip_no <|
  And.intro @ostrip_full <|
  And.intro @ostrip_tok <|
  And.intro @obelow_no <|
  And.intro @obelow_full <|
  And.intro @obelow_tok <|
  And.intro @strips_nil <|
  And.intro @strips_cons <|
  And.intro @below_bsl <|
  And.intro @below_fn <|
  And.intro @below_ep <|
  And.intro @frzs_nil <|
  And.intro @frzs_cons <|
  And.intro @frz_sl <|
  And.intro @frz_bsl <|
  And.intro @frz_agg <|
  And.intro @frz_tup <|
  And.intro @frz_iface <|
  And.intro @frz_undef <|
  And.intro @frz_bool <|
  And.intro @frz_int <|
  And.intro @frz_str <|
  And.intro @frz_nilp <|
  And.intro @frz_bnil <|
  And.intro @frz_ptr <|
  And.intro @frz_ep <|
  And.intro @frz_nils <|
  And.intro @frz_nilif <|
  And.intro @frz_nilf <|
  And.intro @frz_fn <|
  And.intro @ownEnd_tok <|
  And.intro @ownEnd_bsl <|
  And.intro @ownEnd_nils <|
  And.intro @ownEnd_no <|
  And.intro @ownEnd_full <|
  And.intro @elemsOf_one <|
  And.intro @elems_str <|
  And.intro @fits_def <|
  And.intro @rangeB_str <|
  And.intro @nextB_it <|
  And.intro @tassertB_iface <|
  And.intro @tassertB_nil <|
  And.intro @eqvB_agg <|
  And.intro @eqCells_nil <|
  And.intro @eqCells_cons <|
  And.intro @eqCell_bool <|
  And.intro @eqCell_int <|
  And.intro @eqCell_str <|
  And.intro @makeB_eq <|
  And.intro @bytesStrB_sl <|
  And.intro @bytesStrB_nils <|
  And.intro @bytesStrB_bsl <|
  And.intro @bytesOf_bytes <|
  And.intro @loadV_ptr <|
  And.intro @loadV_ep <|
  And.intro @storeV_ptr <|
  And.intro @boxV_eq <|
  And.intro @buildV_eq <|
  And.intro @buildSlV_eq <|
  And.intro @nilckV_eq <|
  And.intro @isnilV_eq <|
  And.intro @makeV_eq <|
  And.intro @copyV_bsl <|
  And.intro @copyV_nils <|
  And.intro @bdW_none <|
  And.intro @bdW_some <|
  And.intro @sliceV_str <|
  And.intro @sliceV_nils <|
  And.intro @sliceV_sl <|
  And.intro @sliceV_bsl <|
  And.intro @idxArrV_ptr <|
  And.intro @idxArrV_ep <|
  And.intro @idxAggV_agg <|
  And.intro @minmaxV_cons <|
  And.intro @appTV_eq <|
  And.intro @loadNV_ptr <|
  And.intro @loadNV_ep <|
  And.intro @storeNV_ptr <|
  And.intro @callvV_fn <|
  And.intro @chkK_eq <|
  And.intro @finV_code <|
  And.intro @finV_keep <|
  And.intro @finV_own <|
  And.intro @appV_nils <|
  And.intro @appV_full <|
  @bnd_some_id
end Go.Am
namespace Go.Am
set_option linter.unusedVariables false
set_option linter.unusedSimpArgs false
theorem Bu.strips : ∀ l : List UInt8, strips (u8s l) = u8s l
  | [] => rfl
  | c :: l => by show strip _ :: Go.Am.strips (u8s l) = _; rw [Bu.strips l]; rfl
theorem Bu.len (l : List UInt8) : (u8s l).length = l.length := by simp [u8s]
theorem Bu.append (a b : List UInt8) : u8s a ++ u8s b = u8s (a ++ b) := by simp [u8s]
theorem Bu.bytesOf (l : List UInt8) : bytesOf (u8s l) = some l := bytesOf_bytes l
theorem Bu.ne {l : List UInt8} (h : l ≠ []) : u8s l ≠ [] := by cases l <;> simp_all [u8s]
theorem Bu.nil : u8s [] = [] := rfl
theorem Bu.cons (c : UInt8) (l : List UInt8) : u8s (c :: l) = .int .u8 c.toNat :: u8s l := rfl
theorem Bu.one (c : UInt8) : [PV.int .u8 (c.toNat : Int)] = u8s [c] := rfl
theorem Bu.eq_nil {l : List UInt8} : u8s l = [] ↔ l = [] := by cases l <;> simp [u8s]
theorem Bu.fits : ∀ l : List UInt8, (u8s l).all (fits 1) = true
  | [] => rfl
  | c :: l => by show (_ && List.all (u8s l) _) = true; rw [Bu.fits l]; rfl
theorem Bu.scalar : ∀ l : List UInt8, (u8s l).all scalar = true
  | [] => rfl
  | c :: l => by show (_ && List.all (u8s l) _) = true; rw [Bu.scalar l]; rfl
theorem Bu.below (n : Nat) : ∀ l : List UInt8, belows n (u8s l) = true
  | [] => rfl
  | c :: l => by show (_ && belows n (u8s l)) = true; rw [Bu.below n l]; rfl
theorem Bu.get {l : List UInt8} {i : Nat} {c : UInt8} (h : l[i]? = some c) : (u8s l)[i]? = some (.int .u8 c.toNat) := by simp [u8s, h]
theorem Bu.drop (l : List UInt8) (n : Nat) : (u8s l).drop n = u8s (l.drop n) := by simp [u8s]
theorem Bu.take (l : List UInt8) (n : Nat) : (u8s l).take n = u8s (l.take n) := by simp [u8s]
theorem Bu.ix {k : IntKind} {l : List UInt8} {i : Nat} (h : i < l.length) : ix (.int k i) (u8s l).length = some i := ix_nat k i _ (by rw [Bu.len]; exact h)

/-- A slice that grows: what it is (z: while there is nothing in it), and its token on top of the heap. -/
def gV (h : Hp) (z : PV) (sz : Nat) (es : List PV) : PV := if es.isEmpty then z else .sl (.tok (size h)) sz es
def gH (h : Hp) (T : Nat) (es : List PV) : Hp := if es.isEmpty then h else ext h [.tok es.length T]
/-- What may stand for nothing. -/
def gZ (sz : Nat) (z : PV) : Prop := z = .nils ∨ z = .sl .full sz []
theorem gZ_nils (sz : Nat) : gZ sz .nils := .inl rfl
theorem gZ_full (sz : Nat) : gZ sz (.sl .full sz []) := .inr rfl
theorem gV_nil (h z sz) : gV h z sz [] = z := rfl
theorem gH_nil (h T) : gH h T [] = h := rfl
theorem gGrow {h : Hp} {T sz : Nat} {z : PV} (hz : gZ sz z) (es xs : List PV) (hf : xs.all (fits sz) = true) (hs : strips xs = xs) (hl : es.length + xs.length ≤ lim2) :
    growT (gH h T es) T sz (gV h z sz es) xs = some (gV h z sz (es ++ xs), gH h T (es ++ xs)) := by
  unfold growT
  rw [if_pos hf]
  cases es with
  | nil =>
    simp only [gV_nil, gH_nil, List.nil_append]
    simp only [List.length_nil] at hl
    rcases hz with rfl | rfl
    · simp only
      rw [if_pos (by omega)]
      cases xs with
      | nil => rfl
      | cons x xs => simp only [List.isEmpty_cons, Bool.false_eq_true, if_false, gV, gH, hs]
    · simp only
      rw [if_pos (by simp; omega)]
      cases xs with
      | nil => rfl
      | cons x xs => simp only [List.isEmpty_cons, Bool.false_eq_true, if_false, gV, gH, hs, List.nil_append, List.length_nil, Nat.zero_add]
  | cons e es =>
    have e1 : gV h z sz (e :: es) = .sl (.tok (size h)) sz (e :: es) := rfl
    have e2 : gH h T (e :: es) = ext h [.tok (e :: es).length T] := rfl
    rw [e1, e2]
    simp only [getTok_ext_0, tokOf_tok, Option.bnd_some, hs]
    rw [if_pos ⟨trivial, trivial, hl⟩, setBx_ext_0]
    simp only [gV, gH, List.cons_append, List.isEmpty_cons, Bool.false_eq_true, if_false, List.length_cons, List.length_append, Nat.add_right_comm]
theorem gOne {h : Hp} {T : Nat} {z : PV} (hz : gZ 1 z) (out : List UInt8) (c : UInt8) (hl : out.length + 1 ≤ lim2) :
    growT (gH h T (u8s out)) T 1 (gV h z 1 (u8s out)) [.int .u8 c.toNat] = some (gV h z 1 (u8s (out ++ [c])), gH h T (u8s (out ++ [c]))) := by
  have := gGrow (h := h) (T := T) hz (u8s out) (u8s [c]) (Bu.fits [c]) (Bu.strips [c]) (by rw [Bu.len]; exact hl)
  rw [Bu.append] at this
  exact this
theorem gU8 {h : Hp} {T : Nat} {z : PV} (hz : gZ 1 z) (out l : List UInt8) (hl : out.length + l.length ≤ lim2) :
    growT (gH h T (u8s out)) T 1 (gV h z 1 (u8s out)) (u8s l) = some (gV h z 1 (u8s (out ++ l)), gH h T (u8s (out ++ l))) := by
  have := gGrow (h := h) (T := T) hz (u8s out) (u8s l) (Bu.fits l) (Bu.strips l) (by rw [Bu.len, Bu.len]; exact hl)
  rw [Bu.append] at this
  exact this
theorem size_gH (h T es) : size h ≤ size (gH h T es) := by
  unfold gH; split
  · exact Nat.le_refl _
  · rw [size_ext]; omega
theorem trunc_gH (h T es) : trunc (gH h T es) (size h) = h := by
  unfold gH; split
  · exact trunc_self
  · exact trunc_ext
/-- What has grown, behind its frame. -/
def gD (z : PV) (sz : Nat) (es : List PV) : PV := if es.isEmpty then z else .sl .no sz es
theorem frz_gV {sz : Nat} {z : PV} (hz : gZ sz z) (n : Nat) (h k : Hp) (es : List PV) : frz n k (gV h z sz es) = some (gD z sz es) := by
  unfold gV gD
  cases es with
  | nil => rcases hz with rfl | rfl <;> rfl
  | cons x xs => rfl
theorem below_gD {sz : Nat} {z : PV} (hz : gZ sz z) (n : Nat) (es : List PV) (hb : belows n es = true) : below n (gD z sz es) = true := by
  unfold gD
  cases es with
  | nil => rcases hz with rfl | rfl <;> rfl
  | cons x xs => simp only [List.isEmpty_cons, Bool.false_eq_true, if_false, below_sl, obelow_no, Bool.true_and, hb]
theorem elems_gV {sz : Nat} {z : PV} (hz : gZ sz z) (h k : Hp) (es : List PV) : elems k (gV h z sz es) = some es := by
  unfold gV
  cases es with
  | nil => rcases hz with rfl | rfl <;> rfl
  | cons x xs => rfl
theorem elems_gD {sz : Nat} {z : PV} (hz : gZ sz z) (k : Hp) (es : List PV) : elems k (gD z sz es) = some es := by
  unfold gD
  cases es with
  | nil => rcases hz with rfl | rfl <;> rfl
  | cons x xs => rfl
theorem len_gV {sz : Nat} {z : PV} (hz : gZ sz z) (h : Hp) (es : List PV) : lenB false (gV h z sz es) = some (.int .i64 es.length) := by
  unfold gV
  cases es with
  | nil => rcases hz with rfl | rfl <;> rfl
  | cons x xs => rfl
theorem len_gD {sz : Nat} {z : PV} (hz : gZ sz z) (es : List PV) : lenB false (gD z sz es) = some (.int .i64 es.length) := by
  unfold gD
  cases es with
  | nil => rcases hz with rfl | rfl <;> rfl
  | cons x xs => rfl
theorem bytes_gV {z : PV} (hz : gZ 1 z) (h k : Hp) (l : List UInt8) : bytesStrB k (gV h z 1 (u8s l)) = some (.str l) := by
  unfold gV
  cases l with
  | nil => rcases hz with rfl | rfl <;> rfl
  | cons x xs =>
    show (Go.Am.bytesOf (u8s (x :: xs))).bnd _ = _
    rw [Bu.bytesOf]; rfl
/-- Bytes as a value: nil, or a slice by value. -/
def Bv (b : PV) (l : List UInt8) : Prop := (b = .nils ∧ l = []) ∨ b = .sl .no 1 (u8s l) ∨ b = .sl .full 1 (u8s l)
theorem Bv.nils : Bv .nils [] := .inl ⟨rfl, rfl⟩
theorem Bv.no (l) : Bv (.sl .no 1 (u8s l)) l := .inr (.inl rfl)
theorem Bv.full (l) : Bv (.sl .full 1 (u8s l)) l := .inr (.inr rfl)
section
variable {b : PV} {l : List UInt8} (hb : Bv b l)
include hb
theorem Bv.len : lenB false b = some (.int .i64 l.length) := by
  rcases hb with ⟨rfl, rfl⟩ | rfl | rfl
  · rfl
  · rw [lenB_sl, Bu.len]
  · rw [lenB_sl, Bu.len]
theorem Bv.elems (h : Hp) : Go.Am.elems h b = some (u8s l) := by rcases hb with ⟨rfl, rfl⟩ | rfl | rfl <;> rfl
theorem Bv.idx {k : IntKind} {i : Nat} {c : UInt8} (hc : l[i]? = some c) : idxAB b (.int k i) 1 = some (.ep [.int .u8 c.toNat] 0) := by
  have hi := (List.getElem?_eq_some_iff.1 hc).1
  rcases hb with ⟨rfl, rfl⟩ | rfl | rfl
  · simp at hc
  · rw [idxAB_sl, if_pos rfl, Bu.ix hi, Option.bnd_some, Bu.get hc]; rfl
  · rw [idxAB_sl, if_pos rfl, Bu.ix hi, Option.bnd_some, Bu.get hc]; rfl
theorem Bv.scalar : Go.Am.scalar b = true := by rcases hb with ⟨rfl, rfl⟩ | rfl | rfl <;> rfl
theorem Bv.frz (n : Nat) (h : Hp) : Go.Am.frz n h b = some b := by rcases hb with ⟨rfl, rfl⟩ | rfl | rfl <;> rfl
theorem Bv.strip : Go.Am.strip b = b := by rcases hb with ⟨rfl, rfl⟩ | rfl | rfl <;> rfl
theorem Bv.below (n : Nat) : Go.Am.below n b = true := by
  rcases hb with ⟨rfl, rfl⟩ | rfl | rfl
  · rfl
  · rw [below_sl, Bu.below]; rfl
  · rw [below_sl, Bu.below]; rfl
theorem Bv.cells : b.cells = [b] := by rcases hb with ⟨rfl, rfl⟩ | rfl | rfl <;> rfl
end
theorem Bv.done {z : PV} (hz : gZ 1 z) (l : List UInt8) : Bv (gD z 1 (u8s l)) l := by
  unfold gD
  cases l with
  | nil => rcases hz with rfl | rfl
           · exact .inl ⟨rfl, rfl⟩
           · exact .inr (.inr rfl)
  | cons x xs => exact .inr (.inl rfl)
/-- Bytes that can be read. -/
structure Rd (b : PV) (l : List UInt8) : Prop where
  len : lenB false b = some (.int .i64 l.length)
  idx : ∀ {k : IntKind} {i : Nat} {c : UInt8}, l[i]? = some c → idxAB b (.int k i) 1 = some (.ep [.int .u8 c.toNat] 0)
  elems : ∀ h, Go.Am.elems h b = some (u8s l)
theorem Bv.rd {b : PV} {l : List UInt8} (hb : Bv b l) : Rd b l := ⟨hb.len, hb.idx, hb.elems⟩
theorem rd_sl (o : Own) (l : List UInt8) : Rd (.sl o 1 (u8s l)) l := by
  refine ⟨by rw [lenB_sl, Bu.len], fun {k i c} hc => ?_, fun h => rfl⟩
  have hi := (List.getElem?_eq_some_iff.1 hc).1
  rw [idxAB_sl, if_pos rfl, Bu.ix hi, Option.bnd_some, Bu.get hc]; rfl
theorem gV_rd {z : PV} (hz : gZ 1 z) (h : Hp) (l : List UInt8) : Rd (gV h z 1 (u8s l)) l := by
  cases l with
  | nil =>
    rcases hz with rfl | rfl
    · exact Bv.nils.rd
    · exact (Bv.full []).rd
  | cons x l => exact rd_sl _ (x :: l)
end Go.Am
namespace Go.Am
set_option linter.unusedVariables false
set_option linter.unusedSimpArgs false
/-- A form of elements: so many cells, no box. -/
structure El {α : Type} (e : α → PV) (sz : Nat) : Prop where
  len : ∀ a, (e a).cells.length = sz
  sc : ∀ a, (e a).cells.all scalar = true
  st : ∀ a, strip (e a) = e a
  be : ∀ n a, below n (e a) = true
def eI (n : Int) : PV := .int .i64 n
def eS (s : List UInt8) : PV := .str s
def eB (c : UInt8) : PV := .int .u8 c.toNat
theorem elI : El eI 1 := ⟨fun _ => rfl, fun _ => rfl, fun _ => rfl, fun _ _ => rfl⟩
theorem elS : El eS 1 := ⟨fun _ => rfl, fun _ => rfl, fun _ => rfl, fun _ _ => rfl⟩
theorem elB : El eB 1 := ⟨fun _ => rfl, fun _ => rfl, fun _ => rfl, fun _ _ => rfl⟩
section
variable {α : Type} {e : α → PV} {sz : Nat}
theorem El.fits (he : El e sz) (l : List α) : (l.map e).all (fits sz) = true := by
  induction l with
  | nil => rfl
  | cons a l ih =>
    simp only [List.map_cons, List.all_cons, ih, Bool.and_true, fits_def, he.len, he.sc, beq_self_eq_true]
theorem El.strips (he : El e sz) (l : List α) : strips (l.map e) = l.map e := by
  induction l with
  | nil => rfl
  | cons a l ih => simp only [List.map_cons, strips_cons, he.st, ih]
theorem El.belows (he : El e sz) (n : Nat) (l : List α) : belows n (l.map e) = true := by
  induction l with
  | nil => rfl
  | cons a l ih => simp only [List.map_cons, belows_cons, he.be, ih, Bool.and_self]
theorem El.scalars (he : El e 1) (hc : ∀ a, (e a).cells = [e a]) (l : List α) : (l.map e).all scalar = true := by
  induction l with
  | nil => rfl
  | cons a l ih =>
    have := he.sc a
    rw [hc a] at this
    simp only [List.all_cons, List.all_nil, Bool.and_true] at this
    simp only [List.map_cons, List.all_cons, ih, this, Bool.and_self]
/-- A list as a value: nil, or a slice by value. -/
def Lv (e : α → PV) (sz : Nat) (b : PV) (l : List α) : Prop := (b = .nils ∧ l = []) ∨ b = .sl .no sz (l.map e) ∨ b = .sl .full sz (l.map e)
theorem Lv.nils : Lv e sz .nils [] := .inl ⟨rfl, rfl⟩
theorem Lv.no (l : List α) : Lv e sz (.sl .no sz (l.map e)) l := .inr (.inl rfl)
theorem Lv.full (l : List α) : Lv e sz (.sl .full sz (l.map e)) l := .inr (.inr rfl)
/-- A list that can be read. -/
structure Rl (e : α → PV) (sz : Nat) (b : PV) (l : List α) : Prop where
  len : lenB false b = some (.int .i64 l.length)
  idx : ∀ {k : IntKind} {i : Nat} {a : α}, l[i]? = some a → idxAB b (.int k i) sz = some (.ep (e a).cells 0)
  elems : ∀ h, Go.Am.elems h b = some (l.map e)
theorem rl_sl (o : Own) (l : List α) : Rl e sz (.sl o sz (l.map e)) l := by
  refine ⟨by rw [lenB_sl, List.length_map], fun {k i a} hc => ?_, fun h => rfl⟩
  have hi := (List.getElem?_eq_some_iff.1 hc).1
  rw [idxAB_sl, if_pos rfl, ix_nat k i _ (by rw [List.length_map]; exact hi), Option.bnd_some, List.getElem?_map, hc]; rfl
theorem rl_nils : Rl e sz .nils [] := ⟨rfl, fun {k i a} hc => by simp at hc, fun h => rfl⟩
section
variable {b : PV} {l : List α} (hb : Lv e sz b l)
include hb
theorem Lv.rl : Rl e sz b l := by
  rcases hb with ⟨rfl, rfl⟩ | rfl | rfl
  · exact rl_nils
  · exact rl_sl _ _
  · exact rl_sl _ _
theorem Lv.len : lenB false b = some (.int .i64 l.length) := hb.rl.len
theorem Lv.idx {k : IntKind} {i : Nat} {a : α} (ha : l[i]? = some a) : idxAB b (.int k i) sz = some (.ep (e a).cells 0) := hb.rl.idx ha
theorem Lv.elems (h : Hp) : Go.Am.elems h b = some (l.map e) := hb.rl.elems h
theorem Lv.scalar : Go.Am.scalar b = true := by rcases hb with ⟨rfl, rfl⟩ | rfl | rfl <;> rfl
theorem Lv.frz (n : Nat) (h : Hp) : Go.Am.frz n h b = some b := by rcases hb with ⟨rfl, rfl⟩ | rfl | rfl <;> rfl
theorem Lv.strip : Go.Am.strip b = b := by rcases hb with ⟨rfl, rfl⟩ | rfl | rfl <;> rfl
theorem Lv.cells : b.cells = [b] := by rcases hb with ⟨rfl, rfl⟩ | rfl | rfl <;> rfl
theorem Lv.below (he : El e sz) (n : Nat) : Go.Am.below n b = true := by
  rcases hb with ⟨rfl, rfl⟩ | rfl | rfl
  · rfl
  · rw [below_sl, he.belows]; rfl
  · rw [below_sl, he.belows]; rfl
end
theorem gV_rl {z : PV} (hz : gZ sz z) (h : Hp) (l : List α) : Rl e sz (gV h z sz (l.map e)) l := by
  cases l with
  | nil =>
    rcases hz with rfl | rfl
    · exact rl_nils
    · exact rl_sl .full []
  | cons x l => exact rl_sl _ (x :: l)
theorem Lv.done {z : PV} (hz : gZ sz z) (l : List α) : Lv e sz (gD z sz (l.map e)) l := by
  unfold gD
  cases l with
  | nil =>
    rcases hz with rfl | rfl
    · exact .inl ⟨rfl, rfl⟩
    · exact .inr (.inr rfl)
  | cons x xs => exact .inr (.inl rfl)
theorem gOneL {h : Hp} {T : Nat} {z : PV} (he : El e sz) (hz : gZ sz z) (l : List α) (a : α) (hl : l.length + 1 ≤ lim2) :
    growT (gH h T (l.map e)) T sz (gV h z sz (l.map e)) [e a] = some (gV h z sz ((l ++ [a]).map e), gH h T ((l ++ [a]).map e)) := by
  have := gGrow (h := h) (T := T) hz (l.map e) ([a].map e) (he.fits [a]) (he.strips [a]) (by simpa using hl)
  rw [← List.map_append] at this
  exact this
theorem gAllL {h : Hp} {T : Nat} {z : PV} (he : El e sz) (hz : gZ sz z) (l m : List α) (hl : l.length + m.length ≤ lim2) :
    growT (gH h T (l.map e)) T sz (gV h z sz (l.map e)) (m.map e) = some (gV h z sz ((l ++ m).map e), gH h T ((l ++ m).map e)) := by
  have := gGrow (h := h) (T := T) hz (l.map e) (m.map e) (he.fits m) (he.strips m) (by simpa using hl)
  rw [← List.map_append] at this
  exact this
end
theorem beq_false' {a b : Int} (h : a ≠ b) : (a == b) = false := by simpa using h
theorem bne_true' {a b : Int} (h : a ≠ b) : (a != b) = true := by simpa using h
theorem u8_beq (x y : UInt8) : ((x.toNat : Int) == (y.toNat : Int)) = (x == y) := by
  by_cases h : x = y
  · subst h; simp
  · have h1 : (x == y) = false := by simpa using h
    rw [h1, beq_eq_false_iff_ne]
    intro q
    exact h (UInt8.toNat_inj.1 (by omega))
theorem u8_bne (x y : UInt8) : ((x.toNat : Int) != (y.toNat : Int)) = (x != y) := by
  show (!((x.toNat : Int) == (y.toNat : Int))) = _
  rw [u8_beq]; rfl
theorem tmodN (a b : Nat) : (a : Int).tmod (b : Int) = ((a % b : Nat) : Int) := (Int.ofNat_tmod a b).symm
theorem trunc_ext_ge {k : Hp} (l : List Box) {n : Nat} (hn : n ≤ size k) : trunc (ext k l) n = trunc k n := by
  simp only [trunc, ext, size] at *
  exact List.take_append_of_le_length hn
end Go.Am
namespace Go.Am
set_option linter.unusedSimpArgs false
set_option linter.unusedVariables false
set_option maxRecDepth 100000
open Go.Lib
theorem ofNat_toNatB (u : Nat) (h : u < 256) : (UInt8.ofNat u).toNat = u := by simp [Nat.mod_eq_of_lt h]
theorem digits_ne (u : Nat) : decDigits u ≠ [] := by
  intro h
  have := congrArg List.length h
  rw [decDigits_length] at this
  have := nDigits_pos u
  simp at *
  omega
theorem digits_mem (u : Nat) : ∀ c ∈ decDigits u, 48 ≤ c.toNat ∧ c.toNat ≤ 57 := by
  induction u using Nat.strongRecOn with
  | _ u ih =>
    intro c hc
    by_cases h : u < 10
    · rw [decDigits, dif_pos h] at hc
      rw [List.mem_singleton] at hc
      subst hc
      rw [ofNat_toNatB _ (by omega)]; omega
    · rw [decDigits, dif_neg h] at hc
      simp only [List.mem_append, List.mem_singleton] at hc
      rcases hc with hc | rfl
      · exact ih _ (by omega) c hc
      · rw [ofNat_toNatB _ (by omega)]; omega
theorem digits_head (u : Nat) : ∃ c r, decDigits u = c :: r ∧ (c.toNat = 48 ↔ u = 0) := by
  induction u using Nat.strongRecOn with
  | _ u ih =>
    by_cases h : u < 10
    · rw [decDigits, dif_pos h]
      exact ⟨_, _, rfl, by rw [ofNat_toNatB _ (by omega)]; omega⟩
    · obtain ⟨c, r, h1, h2⟩ := ih (u / 10) (by omega)
      rw [decDigits, dif_neg h, h1]
      exact ⟨c, _, rfl, by rw [h2]; omega⟩
def digs : List UInt8 → Nat → Option Nat
  | [], u => some u
  | c :: r, u => if c.toNat < 48 ∨ 57 < c.toNat then none else digs r (u * 10 + (c.toNat - 48))
theorem digs_app : ∀ (a b : List UInt8) (u : Nat), digs (a ++ b) u = match digs a u with | none => none | some w => digs b w
  | [], b, u => rfl
  | c :: a, b, u => by
    simp only [List.cons_append, digs]
    split
    · rfl
    · exact digs_app a b _
theorem digs_dec (u : Nat) : digs (decDigits u) 0 = some u := by
  induction u using Nat.strongRecOn with
  | _ u ih =>
    by_cases h : u < 10
    · rw [decDigits, dif_pos h]
      simp only [digs]
      rw [ofNat_toNatB _ (by omega), if_neg (by omega)]
      congr 1; omega
    · rw [decDigits, dif_neg h, digs_app, ih (u / 10) (by omega)]
      simp only [digs]
      rw [ofNat_toNatB _ (by omega), if_neg (by omega)]
      congr 1; omega
theorem dec_len (k : Nat) : ∀ u : Nat, 1 ≤ k → u < 10 ^ k → (decDigits u).length ≤ k := by
  induction k with
  | zero => intro u hk; omega
  | succ k ih =>
    intro u hk hu
    by_cases h : u < 10
    · rw [decDigits, dif_pos h]; simp
    · rw [decDigits, dif_neg h, List.length_append, List.length_singleton]
      have : 1 ≤ k := by
        cases k with
        | zero => simp at hu; omega
        | succ k => omega
      have := ih (u / 10) this (by rw [Nat.pow_succ] at hu; omega)
      omega
theorem canon : ∀ (n : Nat) (d : List UInt8) (u : Nat), d.length = n → digs d 0 = some u → d ≠ [] → (d.head? ≠ some 48 ∨ d.length = 1) → decDigits u = d := by
  intro n
  induction n with
  | zero => intro d u hn _ hd; exact (hd (List.length_eq_zero_iff.1 hn)).elim
  | succ n ih =>
    intro d u hn hu hd hh
    have hdc : d = d.dropLast ++ [d.getLast hd] := (List.dropLast_concat_getLast hd).symm
    generalize d.getLast hd = c at hdc
    generalize hd' : d.dropLast = d' at hdc
    have hl : d'.length = n := by rw [← hd', List.length_dropLast]; omega
    rw [hdc, digs_app] at hu
    by_cases he : d' = []
    · subst he
      simp only [digs] at hu
      split at hu
      · cases hu
      rename_i hc
      cases hu
      have hc2 := c.toNat_lt
      rw [decDigits, dif_pos (by omega), hdc, List.nil_append]
      congr 1
      apply UInt8.toNat_inj.1
      rw [ofNat_toNatB _ (by omega)]; omega
    · have hne : n ≠ 0 := by rintro rfl; exact he (List.length_eq_zero_iff.1 hl)
      have hh' : d'.head? ≠ some 48 := by
        have := hh.resolve_right (by omega)
        rw [hdc] at this
        cases d' with
        | nil => exact (he rfl).elim
        | cons x r => simpa using this
      cases hw : digs d' 0 with
      | none => rw [hw] at hu; cases hu
      | some w =>
        rw [hw] at hu
        simp only [digs] at hu
        split at hu
        · cases hu
        rename_i hc
        have hw' := ih d' w hl hw he (.inl hh')
        have hc2 := c.toNat_lt
        have hw0 : w ≠ 0 := by
          rintro rfl
          rw [decDigits, dif_pos (by omega)] at hw'
          rw [← hw'] at hh'
          exact hh' rfl
        cases hu
        rw [decDigits, dif_neg (by omega), hdc]
        have e1 : (w * 10 + (c.toNat - 48)) / 10 = w := by omega
        have e2 : (w * 10 + (c.toNat - 48)) % 10 = c.toNat - 48 := by omega
        rw [e1, e2, hw']
        congr 2
        apply UInt8.toNat_inj.1
        rw [ofNat_toNatB _ (by omega)]; omega
theorem itoa_nat (u : Nat) : itoa (u : Int) = decDigits u := by
  unfold itoa
  rw [if_neg (by omega)]
  congr 1
end Go.Am
namespace Go.Am.YtikgjdmdcpomlaaDoor
set_option maxRecDepth 100000
set_option linter.unusedSimpArgs false
set_option linter.unusedVariables false
open Go.Lib (decDigits itoa)
abbrev i64 (n : Int) : PV := .int .i64 n
def in64 (n : Int) : Prop := -9223372036854775808 ≤ n ∧ n ≤ 9223372036854775807
theorem itoa_spec {base : Nat} {h : Hp} (n : Int) (hn : in64 n) : CallA T base 35 [i64 n] h = some (.str (itoa n), h) := by
  rw [CallA_prim T_35]
  unfold in64 at hn
  simp [pItoa, hn, primEnd, Option.bnd]
theorem puint (u : Nat) : ∀ (r : List UInt8), u < 18446744073709551616 → Lib.parseUint10 0 (decDigits u ++ r) = Lib.parseUint10 u r := by
  induction u using Nat.strongRecOn with
  | _ u ih =>
    intro r hu
    by_cases h : u < 10
    · rw [decDigits, dif_pos h, List.singleton_append, Lib.parseUint10, ofNat_toNatB _ (by omega)]
      rw [if_pos (by omega), if_neg (by omega), if_neg (by omega)]
      congr 1; omega
    · rw [decDigits, dif_neg h, List.append_assoc, ih (u / 10) (by omega) _ (by omega), List.singleton_append, Lib.parseUint10, ofNat_toNatB _ (by omega)]
      rw [if_pos (by omega), if_neg (by omega), if_neg (by omega)]
      congr 1; omega
theorem atoi_dec {u : Nat} (hu : u ≤ 9223372036854775807) : Lib.atoiAll (decDigits u) = .ok (u : Int) := by
  obtain ⟨c, r, h1, _⟩ := digits_head u
  have hm := digits_mem u c (by rw [h1]; simp)
  have hp := puint u [] (by omega)
  rw [List.append_nil] at hp
  have hmag : Lib.parseMag (decDigits u) = .ok u := by
    unfold Lib.parseMag
    rw [if_neg (digits_ne u), hp]; rfl
  rw [h1] at hmag ⊢
  unfold Lib.atoiAll
  simp only
  rw [if_neg (by omega), hmag]
  simp only
  rw [if_neg (by omega), if_neg (by omega), if_neg (by omega)]
theorem atoi_in {s : List UInt8} {v : Int} (h : Lib.atoiAll s = .ok v) : in64 v := by
  unfold Lib.atoiAll at h
  unfold in64
  split at h
  · cases h
  · simp only at h
    split at h
    · cases h
    · cases h
    · rename_i u hu
      have := Lib.parseMag_lt hu
      split at h
      · cases h
      · split at h
        · cases h
        · simp only [Go.Lib.NumEnd.ok.injEq] at h
          subst h
          split <;> omega
/-- The number of a text, up to a bound. -/
def numN (s : List UInt8) (most : Nat) : Option Nat := if s = [] ∨ 10 < s.length ∨ (1 < s.length ∧ s.head? = some 48) then none else match digs s 0 with
  | none => none
  | some u => if most < u then none else some u
theorem numN_iff {s : List UInt8} {most u : Nat} (hm : most < 10000000000) : numN s most = some u ↔ u ≤ most ∧ decDigits u = s := by
  unfold numN
  constructor
  · intro h
    split at h
    · cases h
    rename_i hc
    split at h
    · cases h
    rename_i w hw
    split at h
    · cases h
    rename_i hb
    cases h
    refine ⟨by omega, canon s.length s u rfl hw (fun q => hc (.inl q)) ?_⟩
    by_cases hq : s.head? = some 48
    · right
      have h1 : ¬ 1 < s.length := fun q => hc (.inr (.inr ⟨q, hq⟩))
      have h2 : 0 < s.length := List.length_pos_iff.2 (fun q => hc (.inl q))
      omega
    · exact .inl hq
  · rintro ⟨h1, rfl⟩
    rw [if_neg]
    · rw [digs_dec]
      simp only
      rw [if_neg (by omega)]
    · rintro (h | h | ⟨h2, h3⟩)
      · exact digits_ne u h
      · have := dec_len 10 u (by omega) (by omega)
        omega
      · obtain ⟨c, r, h4, h5⟩ := digits_head u
        rw [h4] at h3
        simp only [List.head?_cons, Option.some.injEq] at h3
        have := h5.1 (by rw [h3]; rfl)
        subst this
        rw [decDigits, dif_pos (by omega)] at h2
        simp at h2
def atoV (s : List UInt8) : Int := match Lib.atoiAll s with
  | .ok v => v
  | .range => Lib.atoiSat s
  | _ => 0
theorem number_spec {base : Nat} {h : Hp} {s : List UInt8} (hs : s.length ≤ 281474976710656) {most : Nat} (hm : most < 10000000000) :
    CallA T base 44 [.str s, i64 most] h = some (.tup [i64 (atoV s), .bool (numN s most).isSome], h) := by
  unfold atoV
  have hA : ∀ base h, CallA T base 56 [.str s] h = some ((match Lib.atoiAll s with | .ok v => PV.tup [.int .i64 v, .nilif] | .range => .tup [.int .i64 (Lib.atoiSat s), .iface 121 .undef] | _ => .tup [.int .i64 0, .iface 121 .undef]), h) := by
    intro base h
    rw [CallA_prim T_56]
    simp only [pAtoi, hs, if_true]
    cases Lib.atoiAll s <;> rfl
  have hnone : (∀ v, Lib.atoiAll s ≠ .ok v) → numN s most = none := by
    intro hq
    cases hn : numN s most with
    | none => rfl
    | some u =>
      obtain ⟨h1, rfl⟩ := (numN_iff hm).1 hn
      exact (hq _ (atoi_dec (by omega))).elim
  cases hq : Lib.atoiAll s with
  | ok v =>
    rw [hq] at hA
    have hv := atoi_in hq
    have hI : ∀ base h, _ := fun base h => itoa_spec (base := base) (h := h) v hv
    rw [S44]
    simp only at hA
    by_cases h1 : v ≥ 0
    · by_cases h2 : v ≤ (most : Int)
      · cases h3 : (itoa v == s)
        · have : numN s most = none := by
            cases hn : numN s most with
            | none => rfl
            | some u =>
              obtain ⟨k1, k2⟩ := (numN_iff hm).1 hn
              rw [← k2, atoi_dec (by omega)] at hq
              cases hq
              rw [itoa_nat, k2] at h3
              simp at h3
          simp only [hA, hI, h1, h2, h3, this, Option.isSome_none, ↓evD, evU, Nat.reduceAdd, Nat.reduceSub, Nat.reduceMul, Nat.reduceLeDiff, Nat.reduceLT, Nat.reduceEqDiff, Nat.reduceBEq, reduceIte, reduceCtorEq, Int.reduceBEq, Int.reduceEq, Int.reduceLT, Int.reduceLE, Int.reduceGT, Int.reduceGE, Int.reduceAdd, Int.reduceSub, Int.reduceNeg, Int.reduceBNe, List.all_cons, List.all_nil, List.getElem?_cons_zero, List.getElem?_cons_succ, List.getElem?_nil, Option.map_some, List.length_cons, List.length_nil, List.set_cons_zero, List.set_cons_succ, List.map_cons, List.map_nil, List.drop_zero, List.drop_succ_cons, List.drop_nil, List.take_zero, List.take_succ_cons, List.take_nil, ite_true, ite_false, if_true, if_false, implies_true, forall_const, beq_self_eq_true, List.replicate_succ, List.replicate_zero, List.headD_cons, List.cons_append, List.nil_append, bne_self_eq_false]
        · have : numN s most = some v.toNat := (numN_iff hm).2 ⟨by omega, by
            have : itoa v = s := by simpa using h3
            rw [← this, ← itoa_nat]; congr 1; omega⟩
          simp only [hA, hI, h1, h2, h3, this, Option.isSome_some, ↓evD, evU, Nat.reduceAdd, Nat.reduceSub, Nat.reduceMul, Nat.reduceLeDiff, Nat.reduceLT, Nat.reduceEqDiff, Nat.reduceBEq, reduceIte, reduceCtorEq, Int.reduceBEq, Int.reduceEq, Int.reduceLT, Int.reduceLE, Int.reduceGT, Int.reduceGE, Int.reduceAdd, Int.reduceSub, Int.reduceNeg, Int.reduceBNe, List.all_cons, List.all_nil, List.getElem?_cons_zero, List.getElem?_cons_succ, List.getElem?_nil, Option.map_some, List.length_cons, List.length_nil, List.set_cons_zero, List.set_cons_succ, List.map_cons, List.map_nil, List.drop_zero, List.drop_succ_cons, List.drop_nil, List.take_zero, List.take_succ_cons, List.take_nil, ite_true, ite_false, if_true, if_false, implies_true, forall_const, beq_self_eq_true, List.replicate_succ, List.replicate_zero, List.headD_cons, List.cons_append, List.nil_append, bne_self_eq_false]
      · have : numN s most = none := by
          cases hn : numN s most with
          | none => rfl
          | some u =>
            obtain ⟨k1, k2⟩ := (numN_iff hm).1 hn
            rw [← k2, atoi_dec (by omega)] at hq
            cases hq
            omega
        simp only [hA, hI, h1, h2, this, Option.isSome_none, ↓evD, evU, Nat.reduceAdd, Nat.reduceSub, Nat.reduceMul, Nat.reduceLeDiff, Nat.reduceLT, Nat.reduceEqDiff, Nat.reduceBEq, reduceIte, reduceCtorEq, Int.reduceBEq, Int.reduceEq, Int.reduceLT, Int.reduceLE, Int.reduceGT, Int.reduceGE, Int.reduceAdd, Int.reduceSub, Int.reduceNeg, Int.reduceBNe, List.all_cons, List.all_nil, List.getElem?_cons_zero, List.getElem?_cons_succ, List.getElem?_nil, Option.map_some, List.length_cons, List.length_nil, List.set_cons_zero, List.set_cons_succ, List.map_cons, List.map_nil, List.drop_zero, List.drop_succ_cons, List.drop_nil, List.take_zero, List.take_succ_cons, List.take_nil, ite_true, ite_false, if_true, if_false, implies_true, forall_const, beq_self_eq_true, List.replicate_succ, List.replicate_zero, List.headD_cons, List.cons_append, List.nil_append, bne_self_eq_false]
    · have : numN s most = none := by
        cases hn : numN s most with
        | none => rfl
        | some u =>
          obtain ⟨k1, k2⟩ := (numN_iff hm).1 hn
          rw [← k2, atoi_dec (by omega)] at hq
          cases hq
          omega
      simp only [hA, hI, h1, this, Option.isSome_none, ↓evD, evU, Nat.reduceAdd, Nat.reduceSub, Nat.reduceMul, Nat.reduceLeDiff, Nat.reduceLT, Nat.reduceEqDiff, Nat.reduceBEq, reduceIte, reduceCtorEq, Int.reduceBEq, Int.reduceEq, Int.reduceLT, Int.reduceLE, Int.reduceGT, Int.reduceGE, Int.reduceAdd, Int.reduceSub, Int.reduceNeg, Int.reduceBNe, List.all_cons, List.all_nil, List.getElem?_cons_zero, List.getElem?_cons_succ, List.getElem?_nil, Option.map_some, List.length_cons, List.length_nil, List.set_cons_zero, List.set_cons_succ, List.map_cons, List.map_nil, List.drop_zero, List.drop_succ_cons, List.drop_nil, List.take_zero, List.take_succ_cons, List.take_nil, ite_true, ite_false, if_true, if_false, implies_true, forall_const, beq_self_eq_true, List.replicate_succ, List.replicate_zero, List.headD_cons, List.cons_append, List.nil_append, bne_self_eq_false]
  | range =>
    rw [hq] at hA
    have hn := hnone (by intro v; rw [hq]; simp)
    rw [S44]
    simp only at hA
    simp only [hA, hn, Option.isSome_none, ↓evD, evU, Nat.reduceAdd, Nat.reduceSub, Nat.reduceMul, Nat.reduceLeDiff, Nat.reduceLT, Nat.reduceEqDiff, Nat.reduceBEq, reduceIte, reduceCtorEq, Int.reduceBEq, Int.reduceEq, Int.reduceLT, Int.reduceLE, Int.reduceGT, Int.reduceGE, Int.reduceAdd, Int.reduceSub, Int.reduceNeg, Int.reduceBNe, List.all_cons, List.all_nil, List.getElem?_cons_zero, List.getElem?_cons_succ, List.getElem?_nil, Option.map_some, List.length_cons, List.length_nil, List.set_cons_zero, List.set_cons_succ, List.map_cons, List.map_nil, List.drop_zero, List.drop_succ_cons, List.drop_nil, List.take_zero, List.take_succ_cons, List.take_nil, ite_true, ite_false, if_true, if_false, implies_true, forall_const, beq_self_eq_true, List.replicate_succ, List.replicate_zero, List.headD_cons, List.cons_append, List.nil_append, bne_self_eq_false]
  | _ =>
    rw [hq] at hA
    have hn := hnone (by intro v; rw [hq]; simp)
    rw [S44]
    simp only at hA
    simp only [hA, hn, Option.isSome_none, ↓evD, evU, Nat.reduceAdd, Nat.reduceSub, Nat.reduceMul, Nat.reduceLeDiff, Nat.reduceLT, Nat.reduceEqDiff, Nat.reduceBEq, reduceIte, reduceCtorEq, Int.reduceBEq, Int.reduceEq, Int.reduceLT, Int.reduceLE, Int.reduceGT, Int.reduceGE, Int.reduceAdd, Int.reduceSub, Int.reduceNeg, Int.reduceBNe, List.all_cons, List.all_nil, List.getElem?_cons_zero, List.getElem?_cons_succ, List.getElem?_nil, Option.map_some, List.length_cons, List.length_nil, List.set_cons_zero, List.set_cons_succ, List.map_cons, List.map_nil, List.drop_zero, List.drop_succ_cons, List.drop_nil, List.take_zero, List.take_succ_cons, List.take_nil, ite_true, ite_false, if_true, if_false, implies_true, forall_const, beq_self_eq_true, List.replicate_succ, List.replicate_zero, List.headD_cons, List.cons_append, List.nil_append, bne_self_eq_false]
theorem atoV_of {s : List UInt8} {most u : Nat} (hm : most < 10000000000) (h : numN s most = some u) : atoV s = u := by
  obtain ⟨k1, rfl⟩ := (numN_iff hm).1 h
  unfold atoV
  rw [atoi_dec (by omega)]
/-- The reference's. -/
def numE (most : Nat) : Option Nat → Int × Bool
  | none => (0, false)
  | some u => if most < u then (0, false) else ((u : Int), true)
theorem sub_u8 {x : Nat} (h1 : 48 ≤ x) (h2 : x < 256) : IntKind.u8.wrap ((x : Int) - 48) = ((x - 48 : Nat) : Int) := by
  have : IntKind.u8.wrap ((x : Int) - 48) = ((x : Int) - 48) % 256 := rfl
  rw [this]; omega
theorem num_loop {h : Hp} (most : Nat) (d : List UInt8) (hd : d.length ≤ 10) : ∀ (r p : List UInt8) (u : Nat), d = p ++ r → u < 10 ^ p.length →
    P46_0 (size h) (size h) (.int .i64 p.length) (.str d) (.int .i64 u) (i64 most) h = some (.tup [i64 (numE most (digs r u)).1, .bool (numE most (digs r u)).2], h)
  | [], p, u, hp, hu => by
    rw [P46_0_eq]
    have e : p.length = d.length := by rw [hp]; simp
    have h1 : ((p.length : Int) < (d.length : Int)) = False := by simp; omega
    by_cases hb : most < u
    · have h2 : ((u : Int) > (most : Int)) = True := by simp; omega
      simp only [h1, h2, digs, numE, hb, ↓evD, evU, Nat.reduceAdd, Nat.reduceSub, Nat.reduceMul, Nat.reduceLeDiff, Nat.reduceLT, Nat.reduceEqDiff, Nat.reduceBEq, reduceIte, reduceCtorEq, Int.reduceBEq, Int.reduceEq, Int.reduceLT, Int.reduceLE, Int.reduceGT, Int.reduceGE, Int.reduceAdd, Int.reduceSub, Int.reduceNeg, Int.reduceBNe, List.all_cons, List.all_nil, List.getElem?_cons_zero, List.getElem?_cons_succ, List.getElem?_nil, Option.map_some, List.length_cons, List.length_nil, List.set_cons_zero, List.set_cons_succ, List.map_cons, List.map_nil, List.drop_zero, List.drop_succ_cons, List.drop_nil, List.take_zero, List.take_succ_cons, List.take_nil, ite_true, ite_false, if_true, if_false, implies_true, forall_const, beq_self_eq_true, List.replicate_succ, List.replicate_zero, List.headD_cons, List.cons_append, List.nil_append, bne_self_eq_false]
    · have h2 : ((u : Int) > (most : Int)) = False := by simp; omega
      simp only [h1, h2, digs, numE, hb, ↓evD, evU, Nat.reduceAdd, Nat.reduceSub, Nat.reduceMul, Nat.reduceLeDiff, Nat.reduceLT, Nat.reduceEqDiff, Nat.reduceBEq, reduceIte, reduceCtorEq, Int.reduceBEq, Int.reduceEq, Int.reduceLT, Int.reduceLE, Int.reduceGT, Int.reduceGE, Int.reduceAdd, Int.reduceSub, Int.reduceNeg, Int.reduceBNe, List.all_cons, List.all_nil, List.getElem?_cons_zero, List.getElem?_cons_succ, List.getElem?_nil, Option.map_some, List.length_cons, List.length_nil, List.set_cons_zero, List.set_cons_succ, List.map_cons, List.map_nil, List.drop_zero, List.drop_succ_cons, List.drop_nil, List.take_zero, List.take_succ_cons, List.take_nil, ite_true, ite_false, if_true, if_false, implies_true, forall_const, beq_self_eq_true, List.replicate_succ, List.replicate_zero, List.headD_cons, List.cons_append, List.nil_append, bne_self_eq_false]
  | x :: r, p, u, hp, hu => by
    rw [P46_0_eq]
    have el : d.length = p.length + (r.length + 1) := by rw [hp]; simp
    have h1 : ((p.length : Int) < (d.length : Int)) = True := by simp; omega
    have hx : d[p.length]? = some x := by rw [hp]; simp
    have hix := ix_nat .i64 p.length d.length (by omega)
    have hx256 := x.toNat_lt
    by_cases h2 : x.toNat < 48
    · have h3 : ((x.toNat : Int) < 48) = True := by simp; omega
      simp only [h1, hix, hx, h3, digs, h2, numE, ↓evD, evU, Nat.reduceAdd, Nat.reduceSub, Nat.reduceMul, Nat.reduceLeDiff, Nat.reduceLT, Nat.reduceEqDiff, Nat.reduceBEq, reduceIte, reduceCtorEq, Int.reduceBEq, Int.reduceEq, Int.reduceLT, Int.reduceLE, Int.reduceGT, Int.reduceGE, Int.reduceAdd, Int.reduceSub, Int.reduceNeg, Int.reduceBNe, List.all_cons, List.all_nil, List.getElem?_cons_zero, List.getElem?_cons_succ, List.getElem?_nil, Option.map_some, List.length_cons, List.length_nil, List.set_cons_zero, List.set_cons_succ, List.map_cons, List.map_nil, List.drop_zero, List.drop_succ_cons, List.drop_nil, List.take_zero, List.take_succ_cons, List.take_nil, ite_true, ite_false, if_true, if_false, implies_true, forall_const, beq_self_eq_true, List.replicate_succ, List.replicate_zero, List.headD_cons, List.cons_append, List.nil_append, bne_self_eq_false]
    by_cases h4 : 57 < x.toNat
    · have h3 : ((x.toNat : Int) < 48) = False := by simp; omega
      have h5 : ((x.toNat : Int) > 57) = True := by simp; omega
      simp only [h1, hix, hx, h3, h5, digs, h2, h4, numE, ↓evD, evU, Nat.reduceAdd, Nat.reduceSub, Nat.reduceMul, Nat.reduceLeDiff, Nat.reduceLT, Nat.reduceEqDiff, Nat.reduceBEq, reduceIte, reduceCtorEq, Int.reduceBEq, Int.reduceEq, Int.reduceLT, Int.reduceLE, Int.reduceGT, Int.reduceGE, Int.reduceAdd, Int.reduceSub, Int.reduceNeg, Int.reduceBNe, List.all_cons, List.all_nil, List.getElem?_cons_zero, List.getElem?_cons_succ, List.getElem?_nil, Option.map_some, List.length_cons, List.length_nil, List.set_cons_zero, List.set_cons_succ, List.map_cons, List.map_nil, List.drop_zero, List.drop_succ_cons, List.drop_nil, List.take_zero, List.take_succ_cons, List.take_nil, ite_true, ite_false, if_true, if_false, implies_true, forall_const, beq_self_eq_true, List.replicate_succ, List.replicate_zero, List.headD_cons, List.cons_append, List.nil_append, bne_self_eq_false]
    have h3 : ((x.toNat : Int) < 48) = False := by simp; omega
    have h5 : ((x.toNat : Int) > 57) = False := by simp; omega
    have hp10 : 10 ^ (p.length + 1) ≤ 10 ^ 10 := Nat.pow_le_pow_right (by decide) (by omega)
    have e10 : (10 : Nat) ^ 10 = 10000000000 := by decide
    rw [Nat.pow_succ] at hp10
    have hu2 : u * 10 + 10 ≤ 10000000000 := by omega
    have w1 : IntKind.i64.wrap ((u : Int) * 10) = ((u * 10 : Nat) : Int) := by rw [wrap_small] <;> omega
    have w2 := sub_u8 (x := x.toNat) (by omega) hx256
    have w3 : IntKind.i64.wrap ((x.toNat - 48 : Nat) : Int) = ((x.toNat - 48 : Nat) : Int) := by rw [wrap_small] <;> omega
    have w4 : IntKind.i64.wrap (((u * 10 : Nat) : Int) + ((x.toNat - 48 : Nat) : Int)) = ((u * 10 + (x.toNat - 48) : Nat) : Int) := by rw [wrap_small] <;> omega
    have elp : (p ++ [x]).length = p.length + 1 := by simp
    have w5 : IntKind.i64.wrap ((p.length : Int) + 1) = (((p ++ [x]).length : Nat) : Int) := by rw [elp, wrap_small] <;> omega
    have ih := num_loop (h := h) most d hd r (p ++ [x]) (u * 10 + (x.toNat - 48)) (by rw [hp]; simp) (by rw [elp, Nat.pow_succ]; omega)
    simp only [h1, hix, hx, h3, h5, w1, w2, w3, w4, w5, ih, digs, h2, h4, ↓evD, evU, Nat.reduceAdd, Nat.reduceSub, Nat.reduceMul, Nat.reduceLeDiff, Nat.reduceLT, Nat.reduceEqDiff, Nat.reduceBEq, reduceIte, reduceCtorEq, Int.reduceBEq, Int.reduceEq, Int.reduceLT, Int.reduceLE, Int.reduceGT, Int.reduceGE, Int.reduceAdd, Int.reduceSub, Int.reduceNeg, Int.reduceBNe, List.all_cons, List.all_nil, List.getElem?_cons_zero, List.getElem?_cons_succ, List.getElem?_nil, Option.map_some, List.length_cons, List.length_nil, List.set_cons_zero, List.set_cons_succ, List.map_cons, List.map_nil, List.drop_zero, List.drop_succ_cons, List.drop_nil, List.take_zero, List.take_succ_cons, List.take_nil, ite_true, ite_false, if_true, if_false, implies_true, forall_const, beq_self_eq_true, List.replicate_succ, List.replicate_zero, List.headD_cons, List.cons_append, List.nil_append, bne_self_eq_false]
def numV (s : List UInt8) (most : Nat) : Int := match numN s most with
  | none => 0
  | some u => u
theorem numberR_spec {base : Nat} {h : Hp} (s : List UInt8) (most : Nat) : CallA T base 46 [.str s, i64 most] h = some (.tup [i64 (numV s most), .bool (numN s most).isSome], h) := by
  rw [S46]
  have fin : ∀ (hc : ¬ (s = [] ∨ 10 < s.length ∨ (1 < s.length ∧ s.head? = some 48))), P46_0 (size h) (size h) (.int .i64 0) (.str s) (.int .i64 0) (i64 most) h = some (.tup [i64 (numV s most), .bool (numN s most).isSome], h) := by
    intro hc
    have hl := num_loop (h := h) most s (by have := fun q => hc (.inr (.inl q)); omega) s [] 0 rfl (by decide)
    refine Eq.trans ?_ (hl.trans ?_)
    · rfl
    · unfold numV numN
      rw [if_neg hc]
      cases digs s 0 with
      | none => rfl
      | some u =>
        simp only [numE]
        split <;> rfl
  cases s with
  | nil =>
    have hz : ((0 : Int) == 0) = true := rfl
    have e : numN [] most = none := rfl
    simp only [numV, e, Option.isSome_none, Int.ofNat_zero, Int.natCast_zero, ↓evD, evU, Nat.reduceAdd, Nat.reduceSub, Nat.reduceMul, Nat.reduceLeDiff, Nat.reduceLT, Nat.reduceEqDiff, Nat.reduceBEq, reduceIte, reduceCtorEq, Int.reduceBEq, Int.reduceEq, Int.reduceLT, Int.reduceLE, Int.reduceGT, Int.reduceGE, Int.reduceAdd, Int.reduceSub, Int.reduceNeg, Int.reduceBNe, List.all_cons, List.all_nil, List.getElem?_cons_zero, List.getElem?_cons_succ, List.getElem?_nil, Option.map_some, List.length_cons, List.length_nil, List.set_cons_zero, List.set_cons_succ, List.map_cons, List.map_nil, List.drop_zero, List.drop_succ_cons, List.drop_nil, List.take_zero, List.take_succ_cons, List.take_nil, ite_true, ite_false, if_true, if_false, implies_true, forall_const, beq_self_eq_true, List.replicate_succ, List.replicate_zero, List.headD_cons, List.cons_append, List.nil_append, bne_self_eq_false]
  | cons c r =>
    have e0 : (((r.length + 1 : Nat) : Int) == 0) = false := by rw [beq_eq_false_iff_ne]; omega
    have hix : ix (.int .i64 0) (r.length + 1) = some 0 := by simp [ix]
    by_cases h10 : 10 < r.length + 1
    · have h1 : (((r.length + 1 : Nat) : Int) > 10) = True := by simp; omega
      have e : numN (c :: r) most = none := by unfold numN; rw [if_pos (.inr (.inl (by simpa using h10)))]
      simp only [e0, h1, numV, e, Option.isSome_none, ↓evD, evU, Nat.reduceAdd, Nat.reduceSub, Nat.reduceMul, Nat.reduceLeDiff, Nat.reduceLT, Nat.reduceEqDiff, Nat.reduceBEq, reduceIte, reduceCtorEq, Int.reduceBEq, Int.reduceEq, Int.reduceLT, Int.reduceLE, Int.reduceGT, Int.reduceGE, Int.reduceAdd, Int.reduceSub, Int.reduceNeg, Int.reduceBNe, List.all_cons, List.all_nil, List.getElem?_cons_zero, List.getElem?_cons_succ, List.getElem?_nil, Option.map_some, List.length_cons, List.length_nil, List.set_cons_zero, List.set_cons_succ, List.map_cons, List.map_nil, List.drop_zero, List.drop_succ_cons, List.drop_nil, List.take_zero, List.take_succ_cons, List.take_nil, ite_true, ite_false, if_true, if_false, implies_true, forall_const, beq_self_eq_true, List.replicate_succ, List.replicate_zero, List.headD_cons, List.cons_append, List.nil_append, bne_self_eq_false]
    have h1 : (((r.length + 1 : Nat) : Int) > 10) = False := by simp; omega
    by_cases hr1 : 1 < r.length + 1
    · have h2 : (((r.length + 1 : Nat) : Int) > 1) = True := by simp; omega
      have e48 := u8_beq c 48
      have z48 : (((48 : UInt8).toNat : Nat) : Int) = 48 := rfl
      rw [z48] at e48
      cases hq : (c == 48)
      · rw [hq] at e48
        have hf := fin (by
          rintro (q | q | ⟨_, q⟩)
          · cases q
          · exact h10 (by simpa using q)
          · have : c = 48 := by simpa using q
            simp [this] at hq)
        simp only [e0, h1, h2, hix, e48, hf, ↓evD, evU, Nat.reduceAdd, Nat.reduceSub, Nat.reduceMul, Nat.reduceLeDiff, Nat.reduceLT, Nat.reduceEqDiff, Nat.reduceBEq, reduceIte, reduceCtorEq, Int.reduceBEq, Int.reduceEq, Int.reduceLT, Int.reduceLE, Int.reduceGT, Int.reduceGE, Int.reduceAdd, Int.reduceSub, Int.reduceNeg, Int.reduceBNe, List.all_cons, List.all_nil, List.getElem?_cons_zero, List.getElem?_cons_succ, List.getElem?_nil, Option.map_some, List.length_cons, List.length_nil, List.set_cons_zero, List.set_cons_succ, List.map_cons, List.map_nil, List.drop_zero, List.drop_succ_cons, List.drop_nil, List.take_zero, List.take_succ_cons, List.take_nil, ite_true, ite_false, if_true, if_false, implies_true, forall_const, beq_self_eq_true, List.replicate_succ, List.replicate_zero, List.headD_cons, List.cons_append, List.nil_append, bne_self_eq_false]
      · rw [hq] at e48
        have e : numN (c :: r) most = none := by
          unfold numN
          rw [if_pos (.inr (.inr ⟨by simpa using hr1, by simpa using hq⟩))]
        simp only [e0, h1, h2, hix, e48, numV, e, Option.isSome_none, ↓evD, evU, Nat.reduceAdd, Nat.reduceSub, Nat.reduceMul, Nat.reduceLeDiff, Nat.reduceLT, Nat.reduceEqDiff, Nat.reduceBEq, reduceIte, reduceCtorEq, Int.reduceBEq, Int.reduceEq, Int.reduceLT, Int.reduceLE, Int.reduceGT, Int.reduceGE, Int.reduceAdd, Int.reduceSub, Int.reduceNeg, Int.reduceBNe, List.all_cons, List.all_nil, List.getElem?_cons_zero, List.getElem?_cons_succ, List.getElem?_nil, Option.map_some, List.length_cons, List.length_nil, List.set_cons_zero, List.set_cons_succ, List.map_cons, List.map_nil, List.drop_zero, List.drop_succ_cons, List.drop_nil, List.take_zero, List.take_succ_cons, List.take_nil, ite_true, ite_false, if_true, if_false, implies_true, forall_const, beq_self_eq_true, List.replicate_succ, List.replicate_zero, List.headD_cons, List.cons_append, List.nil_append, bne_self_eq_false]
    · have h2 : (((r.length + 1 : Nat) : Int) > 1) = False := by simp; omega
      have hf := fin (by
        rintro (q | q | ⟨q, _⟩)
        · cases q
        · exact h10 (by simpa using q)
        · exact hr1 (by simpa using q))
      simp only [e0, h1, h2, hf, ↓evD, evU, Nat.reduceAdd, Nat.reduceSub, Nat.reduceMul, Nat.reduceLeDiff, Nat.reduceLT, Nat.reduceEqDiff, Nat.reduceBEq, reduceIte, reduceCtorEq, Int.reduceBEq, Int.reduceEq, Int.reduceLT, Int.reduceLE, Int.reduceGT, Int.reduceGE, Int.reduceAdd, Int.reduceSub, Int.reduceNeg, Int.reduceBNe, List.all_cons, List.all_nil, List.getElem?_cons_zero, List.getElem?_cons_succ, List.getElem?_nil, Option.map_some, List.length_cons, List.length_nil, List.set_cons_zero, List.set_cons_succ, List.map_cons, List.map_nil, List.drop_zero, List.drop_succ_cons, List.drop_nil, List.take_zero, List.take_succ_cons, List.take_nil, ite_true, ite_false, if_true, if_false, implies_true, forall_const, beq_self_eq_true, List.replicate_succ, List.replicate_zero, List.headD_cons, List.cons_append, List.nil_append, bne_self_eq_false]
end Go.Am.YtikgjdmdcpomlaaDoor
namespace Go.Am
set_option linter.unusedVariables false

def rowV (P : Program) (e : TypeId) (r : List PV) : PV :=
  match P.underlying e with
  | some (.struct _) => .agg r
  | _ => r.headD .undef

/-- The cells of a value of a type made of bools, whole numbers, texts, structs and slices of such. -/
inductive Sh (P : Program) : TypeId → List PV → Prop where
  | bool {t} (b : Bool) (ht : P.underlying t = some .bool) : Sh P t [.bool b]
  | int {t} (k : IntKind) (n : Int) (ht : P.underlying t = some (.int k)) (hn : (Lit.int k n).wf = true) : Sh P t [.int k n]
  | str {t} (l : List UInt8) (ht : P.underlying t = some .string) (hl : l.length ≤ reachBytes) : Sh P t [.str l]
  | nils {t e} (ht : P.underlying t = some (.slice e)) : Sh P t [.nils]
  | sl {t e} (rows : List (List PV)) (ht : P.underlying t = some (.slice e)) (hr : ∀ r ∈ rows, Sh P e r) (hl : ∀ r ∈ rows, r.length = P.cellsOf e) (hn : rows.length ≤ maxLen) (hb : rows.length * P.bytesOf e ≤ reachBytes) : Sh P t [.sl .no (P.cellsOf e) (rows.map (rowV P e))]
  | struct {t} (fs : Array Field) (cs : List PV) (ht : P.underlying t = some (.struct fs)) (hn : cs.length = P.cellsOf t)
      (hf : ∀ (i : Nat) (f : Field), fs[i]? = some f → Sh P f.type ((cs.drop f.offset).take (P.cellsOf f.type))) : Sh P t cs

theorem Sh.row {P : Program} {e : TypeId} {r : List PV} (h : Sh P e r) : (rowV P e r).cells = r := by
  cases h with
  | bool b ht => simp [rowV, ht, PV.cells]
  | int k n ht => simp [rowV, ht, PV.cells]
  | str l ht => simp [rowV, ht, PV.cells]
  | nils ht => simp [rowV, ht, PV.cells]
  | sl rows ht => simp [rowV, ht, PV.cells]
  | struct fs cs ht => simp [rowV, ht, PV.cells]

/-- Do a struct's fields lie one behind the other? -/
def tiles (P : Program) : Nat → List Field → Nat → Bool
  | off, [], tot => off == tot
  | off, f :: r, tot => f.offset == off && tiles P (off + P.cellsOf f.type) r tot
theorem tiles_le {P : Program} : ∀ (fl : List Field) (off tot : Nat), tiles P off fl tot = true → off ≤ tot
  | [], off, tot, h => by simp [tiles] at h; omega
  | f :: r, off, tot, h => by
    simp only [tiles, Bool.and_eq_true] at h
    have := tiles_le r _ _ h.2
    omega
/-- Is a type made of these alone? -/
def plainT (P : Program) : Nat → TypeId → Bool
  | 0, _ => false
  | n + 1, t => match P.underlying t with
    | some .bool | some (.int _) | some .string => true
    | some (.slice e) => decide (0 < P.cellsOf e) && plainT P n e
    | some (.struct fs) => tiles P 0 fs.toList (P.cellsOf t) && fs.toList.all fun f => plainT P n f.type
    | _ => false

theorem exists_rows {α : Type} (Q : Nat → α → Prop) : ∀ n, (∀ i, i < n → ∃ r, Q i r) → ∃ rows : List α, rows.length = n ∧ ∀ (i : Nat) r, rows[i]? = some r → Q i r
  | 0, _ => ⟨[], rfl, fun i r h => by simp at h⟩
  | n + 1, h => by
    obtain ⟨rows, h1, h2⟩ := exists_rows Q n (fun i hi => h i (by omega))
    obtain ⟨r, hr⟩ := h n (by omega)
    refine ⟨rows ++ [r], by simp [h1], fun i r' hi => ?_⟩
    by_cases hin : i < n
    · rw [List.getElem?_append_left (by omega)] at hi; exact h2 i r' hi
    · have hlt := (List.getElem?_eq_some_iff.1 hi).1
      simp at hlt
      have : i = n := by omega
      subst this
      rw [List.getElem?_append_right (by omega), h1] at hi
      simp at hi
      subst hi
      exact hr

theorem cell_spot {w : World} {b o : Nat} {sp : Option Nat} {u : Value} (h : w.cell? ⟨b, o, sp⟩ = some u) : sp = none := by
  unfold World.cell? at h
  split at h
  · rename_i c _ _ hq
    cases sp with
    | none => rfl
    | some s => simp at h
  · cases h

theorem weights_all {H : Type} {P : Program} {e : TypeId} : ∀ {l : List (DataW H)} {d : DataW H}, d ∈ l → ∀ n ∈ d.weights P e, n ∈ DataW.weightsAll P e l
  | d0 :: l, d, hd, n, hn => by
    simp only [DataW.weightsAll, List.mem_append]
    simp only [List.mem_cons] at hd
    rcases hd with rfl | hd
    · exact .inl hn
    · exact .inr (weights_all hd n hn)
theorem open_fields {P : Program} {cs : List Value} {R : PV → Value → Prop} : ∀ (fl : List Field) (off : Nat), tiles P off fl cs.length = true →
    (∀ f ∈ fl, ∃ v : List PV, v.length = ((cs.drop f.offset).take (P.cellsOf f.type)).length ∧ (∀ (j : Nat) x, v[j]? = some x → ∃ u, ((cs.drop f.offset).take (P.cellsOf f.type))[j]? = some u ∧ R x u) ∧ Sh P f.type v) →
    ∃ vs : List PV, off + vs.length = cs.length ∧ (∀ (j : Nat) x, vs[j]? = some x → ∃ u, cs[off + j]? = some u ∧ R x u) ∧ ∀ f ∈ fl, off ≤ f.offset ∧ Sh P f.type ((vs.drop (f.offset - off)).take (P.cellsOf f.type))
  | [], off, ht, h => by
    simp [tiles] at ht
    exact ⟨[], by simp [ht], fun j x hx => by simp at hx, fun f hf => by simp at hf⟩
  | f :: fl, off, ht, h => by
    simp only [tiles, Bool.and_eq_true, beq_iff_eq] at ht
    obtain ⟨rfl, ht⟩ := ht
    have hle := tiles_le _ _ _ ht
    obtain ⟨v, h1, h2, h3⟩ := h f (by simp)
    have hv : v.length = P.cellsOf f.type := by rw [h1]; simp; omega
    obtain ⟨vs, q1, q2, q3⟩ := open_fields fl _ ht (fun f' hf' => h f' (by simp [hf']))
    refine ⟨v ++ vs, by simp; omega, fun j x hx => ?_, fun f' hf' => ?_⟩
    · by_cases hj : j < v.length
      · rw [List.getElem?_append_left hj] at hx
        obtain ⟨u, hu, hr⟩ := h2 j x hx
        refine ⟨u, ?_, hr⟩
        rw [List.getElem?_take, if_pos (by omega), List.getElem?_drop] at hu
        exact hu
      · rw [List.getElem?_append_right (by omega)] at hx
        obtain ⟨u, hu, hr⟩ := q2 _ x hx
        refine ⟨u, ?_, hr⟩
        rw [← hu]; congr 1; omega
    · simp only [List.mem_cons] at hf'
      rcases hf' with rfl | hf'
      · refine ⟨Nat.le_refl _, ?_⟩
        rw [Nat.sub_self, List.drop_zero, List.take_append_of_le_length (by omega), ← hv, List.take_length]
        exact h3
      · obtain ⟨r1, r2⟩ := q3 f' hf'
        refine ⟨by omega, ?_⟩
        rw [List.drop_append, List.drop_eq_nil_of_le (by omega), List.nil_append, show f'.offset - f.offset - v.length = f'.offset - (f.offset + P.cellsOf f.type) by omega]
        exact r2

theorem open_cells {H : Type} {enc : TypeId × Value → H} {P : Program} {w : World} {spare : Nat → Bool} {held : Bool} {g : G} : ∀ (n m : Nat) (t : TypeId) (cs : List Value) (x : DataW H × List MemPlace),
    DataW.trod enc P w 0 spare held n t cs = some x → plainT P m t = true → (∀ k ∈ x.1.weights P t, k ≤ reachBytes) →
    ∃ vs : List PV, vs.length = cs.length ∧ (∀ (j : Nat) v, vs[j]? = some v → ∃ u, cs[j]? = some u ∧ RV w.heap.size g w v u) ∧ Sh P t vs
  | 0, m, t, cs, x, h, hp, hwt => by simp [DataW.trod] at h
  | n + 1, 0, t, cs, x, h, hp, hwt => by simp [plainT] at hp
  | n + 1, m + 1, t, cs, x, h, hp, hwt => by
    rw [plainT] at hp
    split at hp
    · rename_i ht
      obtain ⟨b, rfl, _⟩ := DataW.trod_bool ht h
      refine ⟨[.bool b], rfl, fun j v hv => ?_, .bool b ht⟩
      cases j with
      | zero => simp at hv; subst hv; exact ⟨_, rfl, .bool b⟩
      | succ j => simp at hv
    · rename_i k ht
      obtain ⟨z, rfl, _, hwf⟩ := DataW.trod_int ht h
      refine ⟨[.int k z], rfl, fun j v hv => ?_, .int k z ht hwf⟩
      cases j with
      | zero => simp at hv; subst hv; exact ⟨_, rfl, .int k z⟩
      | succ j => simp at hv
    · rename_i ht
      obtain ⟨s, rfl, rfl, hs⟩ := DataW.trod_string ht h
      refine ⟨[.str s.data.toList], rfl, fun j v hv => ?_, .str _ ht (hwt _ (by simp [DataW.weights]))⟩
      cases j with
      | zero => simp at hv; subst hv; exact ⟨_, rfl, .str _ s rfl⟩
      | succ j => simp at hv
    · rename_i e ht
      simp only [Bool.and_eq_true, decide_eq_true_eq] at hp
      rcases DataW.trod_slice ht h with ⟨rfl, _⟩ | ⟨a, len, cap, elems, rest, n', hn', rfl, rfl, _, hlc, hcm, hel, helems, _, _⟩
      · refine ⟨[.nils], rfl, fun j v hv => ?_, .nils ht⟩
        cases j with
        | zero => simp at hv; subst hv; exact ⟨_, rfl, .nils⟩
        | succ j => simp at hv
      · obtain rfl : n' = n := by omega
        have hq : ∀ i, i < len → ∃ r : List PV, r.length = P.cellsOf e ∧ Sh P e r ∧ ∀ (j : Nat) v, r[j]? = some v → ∃ u, w.cell? ((a.add (i * P.cellsOf e)).add j) = some u ∧ RV w.heap.size g w v u := by
          intro i hi
          have hlt : i < elems.length := by omega
          have hei := helems i hi
          rw [List.getElem?_eq_getElem hlt, Option.bind_eq_some_iff] at hei
          obtain ⟨ci, hci, hti⟩ := hei
          obtain ⟨_, hlen, hcell⟩ := World.cells?_some hci
          obtain ⟨r, h1, h2, h3⟩ := open_cells n' m e ci _ hti hp.2 (fun k hk => hwt k (by
            simp only [DataW.weights, ht, List.mem_cons, List.mem_append]
            exact .inr (.inl (weights_all (List.mem_map.2 ⟨_, List.getElem_mem hlt, rfl⟩) k hk))))
          refine ⟨r, by rw [h1, hlen], h3, fun j v hv => ?_⟩
          obtain ⟨u, hu, hr⟩ := h2 j v hv
          have hj : j < P.cellsOf e := by rw [← hlen, ← h1]; exact (List.getElem?_eq_some_iff.1 hv).1
          exact ⟨u, by rw [hcell j hj]; exact hu, hr⟩
        obtain ⟨rows, hrl, hrq⟩ := exists_rows _ len hq
        have hmem : ∀ r ∈ rows, ∃ i, rows[i]? = some r := fun r hr => List.mem_iff_getElem?.1 hr
        have hcl : ∀ (i j : Nat) (r : List PV) (v : PV), rows[i]? = some r → r[j]? = some v → ∃ u, w.cell? ⟨a.block, a.off + (i * P.cellsOf e + j), none⟩ = some u ∧ RV w.heap.size g w v u := by
          intro i j r v hi hj
          obtain ⟨u, hu, hr⟩ := (hrq i r hi).2.2 j v hj
          refine ⟨u, ?_, hr⟩
          have hsp : (a.add (i * P.cellsOf e)).add j = ⟨a.block, a.off + (i * P.cellsOf e + j), ((a.add (i * P.cellsOf e)).add j).spot⟩ := by
            unfold Addr.add
            split <;> split <;> simp_all <;> omega
          rw [hsp] at hu
          have := cell_spot hu
          rw [this] at hu
          exact hu
        have hspot : rows ≠ [] → a.spot = none := by
          intro hne
          obtain ⟨r, hr0⟩ : ∃ r, rows[0]? = some r := by
            cases rows with
            | nil => exact (hne rfl).elim
            | cons r _ => exact ⟨r, rfl⟩
          obtain ⟨q1, _, q3⟩ := hrq 0 r hr0
          obtain ⟨v, hv⟩ : ∃ v, r[0]? = some v := ⟨_, List.getElem?_eq_getElem (by omega)⟩
          obtain ⟨u, hu, _⟩ := q3 0 v hv
          simp only [Nat.zero_mul, Addr.add, if_true] at hu
          exact cell_spot (b := a.block) (o := a.off) hu
        refine ⟨[.sl .no (P.cellsOf e) (rows.map (rowV P e))], rfl, fun j v hv => ?_, .sl rows ht (fun r hr => ?_) (fun r hr => ?_) (by omega) ?_⟩
        · cases j with
          | succ j => simp at hv
          | zero =>
            simp at hv
            subst hv
            refine ⟨_, rfl, ?_⟩
            have hrow : ∀ (i : Nat) (z : PV), (rows.map (rowV P e))[i]? = some z → ∃ r, rows[i]? = some r ∧ z.cells = r := by
              intro i z hz
              rw [List.getElem?_map, Option.map_eq_some_iff] at hz
              obtain ⟨r, hr, rfl⟩ := hz
              exact ⟨r, hr, (hrq i r hr).2.1.row⟩
            have := RV.sl (N0 := w.heap.size) (g := g) (w := w) .no (P.cellsOf e) (rows.map (rowV P e)) a.block a.off cap (fun i j => (w.cell? ⟨a.block, a.off + (i * P.cellsOf e + j), none⟩).getD Go.undef)
              (by simp; omega) (by simp) ?_ ?_ ?_ ?_ a.spot (fun hne => hspot (by simpa using hne)) (by simp)
            · simpa [hrl] using this
            · intro i z hz
              obtain ⟨r, hr, hc⟩ := hrow i z hz
              rw [hc]; exact (hrq i r hr).1
            · intro i j hi hj
              simp at hi
              obtain ⟨r, hr⟩ : ∃ r, rows[i]? = some r := ⟨_, List.getElem?_eq_getElem hi⟩
              obtain ⟨v, hv⟩ : ∃ v, r[j]? = some v := ⟨_, List.getElem?_eq_getElem (by rw [(hrq i r hr).1]; exact hj)⟩
              obtain ⟨u, hu, _⟩ := hcl i j r v hr hv
              rw [hu]; rfl
            · intro i j z y hz hy
              obtain ⟨r, hr, hc⟩ := hrow i z hz
              rw [hc] at hy
              obtain ⟨u, hu, hru⟩ := hcl i j r y hr hy
              rw [hu]; exact hru
            · intro hne
              refine .inl ?_
              obtain ⟨r, hr0⟩ : ∃ r, rows[0]? = some r := by
                cases rows with
                | nil => exact (hne rfl).elim
                | cons r _ => exact ⟨r, rfl⟩
              obtain ⟨v, hv⟩ : ∃ v, r[0]? = some v := ⟨_, List.getElem?_eq_getElem (by rw [(hrq 0 r hr0).1]; exact hp.1)⟩
              obtain ⟨u, hu, _⟩ := hcl 0 0 r v hr0 hv
              exact World.block_lt_of_cell? w ⟨a.block, _, none⟩ hu
        · obtain ⟨i, hi⟩ := hmem r hr; exact (hrq i r hi).2.1
        · obtain ⟨i, hi⟩ := hmem r hr; exact (hrq i r hi).1
        · have := hwt _ (by simp only [DataW.weights, ht]; exact List.mem_cons_self)
          simp only [List.length_map] at this
          refine Nat.le_trans (Nat.mul_le_mul_right _ ?_) this
          omega
    · rename_i fs ht
      simp only [Bool.and_eq_true, List.all_eq_true] at hp
      obtain ⟨xs, n', hn', rfl, hlen, hxl, hx⟩ := DataW.trod_struct ht h
      obtain rfl : n' = n := by omega
      obtain ⟨vs, q1, q2, q3⟩ := open_fields (P := P) (cs := cs) (R := fun v u => RV w.heap.size g w v u) fs.toList 0 (by rw [hlen]; exact hp.1) (fun f hf => by
        obtain ⟨i, hi⟩ := List.mem_iff_getElem?.1 hf
        have hi' : fs[i]? = some f := by simpa using hi
        have hlt : i < xs.length := by rw [hxl]; exact (Array.getElem?_eq_some_iff.1 hi').1
        have := hx i f hi'
        rw [List.getElem?_eq_getElem hlt] at this
        exact open_cells n' m f.type _ _ this (hp.2 f hf) fun k hk => hwt k (by
          simp only [DataW.weights, ht]
          exact DataW.weights_mem_each (j := i) (t := f.type) (d := xs[i].1) (by rw [List.getElem?_map, hi]; rfl) (by rw [List.getElem?_map, List.getElem?_eq_getElem hlt]; rfl) k hk))
      refine ⟨vs, by omega, fun j v hv => by simpa using q2 j v hv, .struct fs vs ht (by omega) fun i f hf => ?_⟩
      have := (q3 f (List.mem_iff_getElem?.2 ⟨i, by simpa using hf⟩)).2
      simpa using this
    · cases hp

/-- An argument of one cell. -/
theorem open_arg {H : Type} {enc : TypeId × Value → H} {P : Program} {w : World} {spare : Nat → Bool} {held : Bool} {g : G} {t : TypeId} {v : Value} {d : DataW H} {ps : List MemPlace}
    (h : DataW.Trod enc P w 0 spare held t v d ps) (hv : v.cells.toList = [v]) (m : Nat) (hp : plainT P m t = true) (hwt : ∀ k ∈ d.weights P t, k ≤ reachBytes) : ∃ x, RV w.heap.size g w x v ∧ Sh P t [x] := by
  obtain ⟨fuel, h⟩ := h
  obtain ⟨vs, h1, h2, h3⟩ := open_cells (g := g) fuel m t _ _ h hp hwt
  rw [hv] at h1 h2
  cases vs with
  | nil => simp at h1
  | cons x r =>
    cases r with
    | cons y r => simp at h1
    | nil =>
      obtain ⟨u, hu, hr⟩ := h2 0 x rfl
      simp at hu
      subst hu
      exact ⟨x, hr, h3⟩

section
variable {P : Program} {t : TypeId} {cs : List PV}
theorem Sh.inv_bool (ht : P.underlying t = some .bool) (h : Sh P t cs) : ∃ b, cs = [.bool b] := by
  cases h with
  | bool b => exact ⟨b, rfl⟩
  | int k n h => rw [ht] at h; cases h
  | str l h => rw [ht] at h; cases h
  | nils h => rw [ht] at h; cases h
  | sl rows h => rw [ht] at h; cases h
  | struct fs cs h => rw [ht] at h; cases h
theorem Sh.inv_int {k : IntKind} (ht : P.underlying t = some (.int k)) (h : Sh P t cs) : ∃ n, cs = [.int k n] ∧ (Lit.int k n).wf = true := by
  cases h with
  | bool b h => rw [ht] at h; cases h
  | int k' n h hn => rw [ht] at h; cases h; exact ⟨n, rfl, hn⟩
  | str l h => rw [ht] at h; cases h
  | nils h => rw [ht] at h; cases h
  | sl rows h => rw [ht] at h; cases h
  | struct fs cs h => rw [ht] at h; cases h
theorem Sh.inv_str (ht : P.underlying t = some .string) (h : Sh P t cs) : ∃ l, cs = [.str l] ∧ l.length ≤ reachBytes := by
  cases h with
  | bool b h => rw [ht] at h; cases h
  | int k n h => rw [ht] at h; cases h
  | str l h hl => exact ⟨l, rfl, hl⟩
  | nils h => rw [ht] at h; cases h
  | sl rows h => rw [ht] at h; cases h
  | struct fs cs h => rw [ht] at h; cases h
theorem Sh.inv_slice {e : TypeId} (ht : P.underlying t = some (.slice e)) (h : Sh P t cs) :
    cs = [.nils] ∨ ∃ rows : List (List PV), cs = [.sl .no (P.cellsOf e) (rows.map (rowV P e))] ∧ (∀ r ∈ rows, Sh P e r ∧ r.length = P.cellsOf e) ∧ rows.length ≤ maxLen ∧ rows.length * P.bytesOf e ≤ reachBytes := by
  cases h with
  | bool b h => rw [ht] at h; cases h
  | int k n h => rw [ht] at h; cases h
  | str l h => rw [ht] at h; cases h
  | nils h => exact .inl rfl
  | sl rows h hr hl hn hb => rw [ht] at h; cases h; exact .inr ⟨rows, rfl, fun r hm => ⟨hr r hm, hl r hm⟩, hn, hb⟩
  | struct fs cs h => rw [ht] at h; cases h
theorem Sh.inv_struct {fs : Array Field} (ht : P.underlying t = some (.struct fs)) (h : Sh P t cs) :
    cs.length = P.cellsOf t ∧ ∀ (i : Nat) (f : Field), fs[i]? = some f → Sh P f.type ((cs.drop f.offset).take (P.cellsOf f.type)) := by
  cases h with
  | bool b h => rw [ht] at h; cases h
  | int k n h => rw [ht] at h; cases h
  | str l h => rw [ht] at h; cases h
  | nils h => rw [ht] at h; cases h
  | sl rows h => rw [ht] at h; cases h
  | struct fs' cs h hn hf => rw [ht] at h; cases h; exact ⟨hn, hf⟩
theorem rowV_struct {fs : Array Field} (ht : P.underlying t = some (.struct fs)) (r : List PV) : rowV P t r = .agg r := by simp [rowV, ht]
theorem rowV_str (ht : P.underlying t = some .string) (r : List PV) : rowV P t r = r.headD .undef := by simp [rowV, ht]
theorem rowV_int {k : IntKind} (ht : P.underlying t = some (.int k)) (r : List PV) : rowV P t r = r.headD .undef := by simp [rowV, ht]
/-- All of a list come of values: the values. -/
theorem exists_map {α β : Type} (f : α → β) (Q : α → Prop) : ∀ l : List β, (∀ x ∈ l, ∃ a, x = f a ∧ Q a) → ∃ qs : List α, l = qs.map f ∧ ∀ a ∈ qs, Q a
  | [], _ => ⟨[], rfl, fun a h => by simp at h⟩
  | x :: l, h => by
    obtain ⟨qs, rfl, h2⟩ := exists_map f Q l (fun y hy => h y (by simp [hy]))
    obtain ⟨a, rfl, ha⟩ := h x (by simp)
    exact ⟨a :: qs, rfl, fun b hb => by
      simp at hb
      rcases hb with rfl | hb
      · exact ha
      · exact h2 b hb⟩
end
end Go.Am
namespace Go.Am
set_option linter.unusedVariables false
theorem open_struct {H : Type} {enc : TypeId × Value → H} {P : Program} {w : World} {spare : Nat → Bool} {held : Bool} {g : G} {t : TypeId} {u : Array Value} {d : DataW H} {ps : List MemPlace}
    (h : DataW.Trod enc P w 0 spare held t (.agg u) d ps) (m : Nat) (hp : plainT P m t = true) (hwt : ∀ k ∈ d.weights P t, k ≤ reachBytes) : ∃ x, RV w.heap.size g w (.agg x) (.agg u) ∧ Sh P t x := by
  obtain ⟨fuel, h⟩ := h
  obtain ⟨vs, h1, h2, h3⟩ := open_cells (g := g) fuel m t _ _ h hp hwt
  have hu : (Value.agg u).cells.toList = u.toList := rfl
  rw [hu] at h1 h2
  refine ⟨vs, .agg vs u (by simpa using h1.symm) fun j x hx => ?_, h3⟩
  obtain ⟨y, hy, hr⟩ := h2 j x hx
  have : u.getD j Go.undef = y := by
    rw [Array.getElem?_toList] at hy
    simp [Array.getD_eq_getD_getElem?, hy]
  rw [this]; exact hr
/-- Bytes. -/
theorem Sh.bytes {P : Program} {t e : TypeId} {x : PV} (ht : P.underlying t = some (.slice e)) (he : P.underlying e = some (.int .u8)) (hc : P.cellsOf e = 1) (h : Sh P t [x]) : ∃ l, Bv x l ∧ l.length ≤ maxLen := by
  rcases h.inv_slice ht with hq | ⟨rows, hq, hr, hn, hb⟩
  · cases hq; exact ⟨[], .nils, by simp⟩
  · cases hq
    obtain ⟨l, hl⟩ : ∃ l : List UInt8, rows.map (rowV P e) = u8s l ∧ l.length = rows.length := by
      clear hn hb h
      induction rows with
      | nil => exact ⟨[], rfl, rfl⟩
      | cons r rows ih =>
        obtain ⟨l, hl, hl2⟩ := ih fun q hq => hr q (List.mem_cons_of_mem _ hq)
        obtain ⟨n, rfl, hw⟩ := (hr r (List.mem_cons_self ..)).1.inv_int he
        have hm : IntKind.u8.min = 0 := rfl
        have hM : IntKind.u8.max = 255 := rfl
        simp only [Lit.wf, hm, hM, Bool.and_eq_true, decide_eq_true_eq] at hw
        refine ⟨UInt8.ofNat n.toNat :: l, ?_, by simp [hl2]⟩
        rw [List.map_cons, hl, rowV_int he]
        show _ :: _ = PV.int .u8 ((UInt8.ofNat n.toNat).toNat : Int) :: u8s l
        have hv : ((UInt8.ofNat n.toNat).toNat : Int) = n := by rw [UInt8.toNat_ofNat']; omega
        rw [hv]; rfl
    rw [hc, hl.1]
    exact ⟨l, .no l, by rw [hl.2]; exact hn⟩
theorem len1_of {α : Type} : ∀ {l : List α}, l.length = 1 → ∃ a, l = [a]
  | [a], _ => ⟨a, rfl⟩
theorem len2_of {α : Type} : ∀ {l : List α}, l.length = 2 → ∃ a b, l = [a, b]
  | [a, b], _ => ⟨a, b, rfl⟩
theorem len3_of {α : Type} : ∀ {l : List α}, l.length = 3 → ∃ a b c, l = [a, b, c]
  | [a, b, c], _ => ⟨a, b, c, rfl⟩
theorem len4_of {α : Type} : ∀ {l : List α}, l.length = 4 → ∃ a b c d, l = [a, b, c, d]
  | [a, b, c, d], _ => ⟨a, b, c, d, rfl⟩
theorem len5_of {α : Type} : ∀ {l : List α}, l.length = 5 → ∃ a b c d e, l = [a, b, c, d, e]
  | [a, b, c, d, e], _ => ⟨a, b, c, d, e, rfl⟩
theorem len6_of {α : Type} : ∀ {l : List α}, l.length = 6 → ∃ a b c d e f, l = [a, b, c, d, e, f]
  | [a, b, c, d, e, f], _ => ⟨a, b, c, d, e, f, rfl⟩
end Go.Am
namespace Go.Am
theorem Sh.lst {α : Type} {P : Program} {t e : TypeId} {x : PV} {el : α → PV} {Q : α → Prop} (ht : P.underlying t = some (.slice e)) (hE : ∀ r, Sh P e r → ∃ a, rowV P e r = el a ∧ Q a) (h : Sh P t [x]) :
    ∃ l, Lv el (P.cellsOf e) x l ∧ l.length ≤ maxLen ∧ ∀ a ∈ l, Q a := by
  rcases h.inv_slice ht with hq | ⟨rows, hq, hr, hn, hb⟩
  · cases hq; exact ⟨[], .nils, by simp, by simp⟩
  · cases hq
    obtain ⟨l, hl, hl2, hl3⟩ : ∃ l : List α, rows.map (rowV P e) = l.map el ∧ l.length = rows.length ∧ ∀ a ∈ l, Q a := by
      clear hn hb h
      induction rows with
      | nil => exact ⟨[], rfl, rfl, by simp⟩
      | cons r rows ih =>
        obtain ⟨l, hl, hl2, hl3⟩ := ih fun q hq => hr q (List.mem_cons_of_mem _ hq)
        obtain ⟨a, ha, hQ⟩ := hE r (hr r (List.mem_cons_self ..)).1
        refine ⟨a :: l, ?_, by simp [hl2], ?_⟩
        · rw [List.map_cons, hl, ha]; rfl
        · intro b hb
          rcases List.mem_cons.1 hb with rfl | hb
          · exact hQ
          · exact hl3 b hb
    rw [hl]
    exact ⟨l, .no l, by rw [hl2]; exact hn, hl3⟩
end Go.Am
namespace Go.Am.YtikgjdmdcpomlaaDoor
open Go.RowKit (Below)
set_option linter.unusedSimpArgs false
set_option linter.unusedVariables false
open Go.Proofs
theorem gl_ok (N0 : Nat) (w0 : World) : GlobOk gl N0 w0 := fun n cs h => by simp [gl, glob] at h
theorem in64_of {n : Int} (h : (Lit.int IntKind.i64 n).wf = true) : in64 n := by
  have h1 : IntKind.i64.min = -9223372036854775808 := rfl
  have h2 : IntKind.i64.max = 9223372036854775807 := rfl
  unfold in64
  simp [Lit.wf, h1, h2] at h
  omega
theorem ints_arg {x : PV} (h : Sh Tryd.prog 22 [x]) : ∃ l, Lv eI 1 x l ∧ l.length ≤ maxLen ∧ ∀ n ∈ l, in64 n := by
  have hc : Tryd.prog.cellsOf 3 = 1 := by kernel_rfl
  have := h.lst (el := eI) (Q := in64) Tryd.underlying22 (fun r hr => by
    obtain ⟨n, rfl, hw⟩ := hr.inv_int Tryd.underlying3
    exact ⟨n, rowV_int Tryd.underlying3 _, in64_of hw⟩)
  rw [hc] at this
  exact this
end Go.Am.YtikgjdmdcpomlaaDoor
namespace Go.Am.YtikgjdmdcpomlaaDoor
set_option maxRecDepth 100000
set_option linter.unusedSimpArgs false
set_option linter.unusedVariables false
/-- A heap with a builder on top that holds a text. -/
def bld (h : Hp) (out : List UInt8) : Hp := if out = [] then ext h [.cells [.bnil 64, .nils]] else ext h [.cells [.ptr (size h) 0, .sl (.tok (size h + 1)) 1 (u8s out)], .tok out.length 5]
theorem trunc_bld (h : Hp) (out : List UInt8) : trunc (bld h out) (size h) = h := by
  unfold bld
  split <;> exact trunc_ext
theorem growT_tok {h : Hp} {T' t : Nat} {l m : List UInt8} (ht : getTok h t = some (l.length, T')) (hl : l.length + m.length ≤ lim2) :
    growT h T' 1 (.sl (.tok t) 1 (u8s l)) (u8s m) = some (.sl (.tok t) 1 (u8s (l ++ m)), setBx h t (.tok (l.length + m.length) T')) := by
  unfold growT
  rw [if_pos (Bu.fits m)]
  simp only [ht, Option.bnd_some, Bu.len, Bu.strips, Bu.append]
  rw [if_pos ⟨trivial, trivial, hl⟩]
theorem growT_new {h : Hp} {T' : Nat} {m : List UInt8} (hm : m ≠ []) (hl : m.length ≤ lim2) :
    growT h T' 1 .nils (u8s m) = some (.sl (.tok (size h)) 1 (u8s m), ext h [.tok m.length T']) := by
  unfold growT
  rw [if_pos (Bu.fits m)]
  simp only [Bu.len, Bu.strips]
  rw [if_pos hl]
  have : (u8s m).isEmpty = false := by cases m <;> simp_all [u8s]
  rw [this]; rfl
theorem check_new {h : Hp} {base : Nat} (hb : base ≤ size h) : CallA T base 47 [.ptr (size h) 0] (ext h [.cells [.bnil 64, .nils]]) = some (.tup [], ext h [.cells [.ptr (size h) 0, .nils]]) := by
  have hlt : ¬ size h < base := by omega
  rw [CallA_prim T_47]
  simp only [pCopyCheck, primEnd, hlt, Option.isSome_some, ↓evD, evU, Nat.reduceAdd, Nat.reduceSub, Nat.reduceMul, Nat.reduceLeDiff, Nat.reduceLT, Nat.reduceEqDiff, Nat.reduceBEq, reduceIte, reduceCtorEq, Int.reduceBEq, Int.reduceEq, Int.reduceLT, Int.reduceLE, Int.reduceGT, Int.reduceGE, Int.reduceAdd, Int.reduceSub, Int.reduceNeg, Int.reduceBNe, List.all_cons, List.all_nil, List.getElem?_cons_zero, List.getElem?_cons_succ, List.getElem?_nil, Option.map_some, List.length_cons, List.length_nil, List.set_cons_zero, List.set_cons_succ, List.map_cons, List.map_nil, List.drop_zero, List.drop_succ_cons, List.drop_nil, List.take_zero, List.take_succ_cons, List.take_nil, ite_true, ite_false, if_true, if_false, implies_true, forall_const, beq_self_eq_true, List.replicate_succ, List.replicate_zero, List.headD_cons, List.cons_append, List.nil_append, bne_self_eq_false]
theorem check_old {h : Hp} {base : Nat} (hb : base ≤ size h) (v : PV) (l : List Box) : CallA T base 47 [.ptr (size h) 0] (ext h (.cells [.ptr (size h) 0, v] :: l)) = some (.tup [], ext h (.cells [.ptr (size h) 0, v] :: l)) := by
  have hlt : ¬ size h < base := by omega
  rw [CallA_prim T_47]
  simp only [pCopyCheck, primEnd, hlt, Option.isSome_some, ↓evD, evU, Nat.reduceAdd, Nat.reduceSub, Nat.reduceMul, Nat.reduceLeDiff, Nat.reduceLT, Nat.reduceEqDiff, Nat.reduceBEq, reduceIte, reduceCtorEq, Int.reduceBEq, Int.reduceEq, Int.reduceLT, Int.reduceLE, Int.reduceGT, Int.reduceGE, Int.reduceAdd, Int.reduceSub, Int.reduceNeg, Int.reduceBNe, List.all_cons, List.all_nil, List.getElem?_cons_zero, List.getElem?_cons_succ, List.getElem?_nil, Option.map_some, List.length_cons, List.length_nil, List.set_cons_zero, List.set_cons_succ, List.map_cons, List.map_nil, List.drop_zero, List.drop_succ_cons, List.drop_nil, List.take_zero, List.take_succ_cons, List.take_nil, ite_true, ite_false, if_true, if_false, implies_true, forall_const, beq_self_eq_true, List.replicate_succ, List.replicate_zero, List.headD_cons, List.cons_append, List.nil_append, bne_self_eq_false]
theorem string_of {h : Hp} {base : Nat} (out : List UInt8) (hl : out.length ≤ lim2) : CallA T base 36 [.ptr (size h) 0] (bld h out) = some (.str out, bld h out) := by
  unfold bld
  rw [CallA_prim T_36]
  by_cases ho : out = []
  · subst ho
    rw [if_pos rfl]
    simp only [pString, primEnd, ↓evD, evU, Nat.reduceAdd, Nat.reduceSub, Nat.reduceMul, Nat.reduceLeDiff, Nat.reduceLT, Nat.reduceEqDiff, Nat.reduceBEq, reduceIte, reduceCtorEq, Int.reduceBEq, Int.reduceEq, Int.reduceLT, Int.reduceLE, Int.reduceGT, Int.reduceGE, Int.reduceAdd, Int.reduceSub, Int.reduceNeg, Int.reduceBNe, List.all_cons, List.all_nil, List.getElem?_cons_zero, List.getElem?_cons_succ, List.getElem?_nil, Option.map_some, List.length_cons, List.length_nil, List.set_cons_zero, List.set_cons_succ, List.map_cons, List.map_nil, List.drop_zero, List.drop_succ_cons, List.drop_nil, List.take_zero, List.take_succ_cons, List.take_nil, ite_true, ite_false, if_true, if_false, implies_true, forall_const, beq_self_eq_true, List.replicate_succ, List.replicate_zero, List.headD_cons, List.cons_append, List.nil_append, bne_self_eq_false]
  · rw [if_neg ho]
    have h1 := Bu.ne ho
    have h2 := Bu.bytesOf out
    simp only [pString, primEnd, Bu.len, h1, h2, hl, ne_eq, ↓evD, evU, Nat.reduceAdd, Nat.reduceSub, Nat.reduceMul, Nat.reduceLeDiff, Nat.reduceLT, Nat.reduceEqDiff, Nat.reduceBEq, reduceIte, reduceCtorEq, Int.reduceBEq, Int.reduceEq, Int.reduceLT, Int.reduceLE, Int.reduceGT, Int.reduceGE, Int.reduceAdd, Int.reduceSub, Int.reduceNeg, Int.reduceBNe, List.all_cons, List.all_nil, List.getElem?_cons_zero, List.getElem?_cons_succ, List.getElem?_nil, Option.map_some, List.length_cons, List.length_nil, List.set_cons_zero, List.set_cons_succ, List.map_cons, List.map_nil, List.drop_zero, List.drop_succ_cons, List.drop_nil, List.take_zero, List.take_succ_cons, List.take_nil, ite_true, ite_false, if_true, if_false, implies_true, forall_const, beq_self_eq_true, List.replicate_succ, List.replicate_zero, List.headD_cons, List.cons_append, List.nil_append, bne_self_eq_false]
end Go.Am.YtikgjdmdcpomlaaDoor
namespace Go.Am.YtikgjdmdcpomlaaDoor
set_option maxRecDepth 100000
set_option linter.unusedSimpArgs false
set_option linter.unusedVariables false
open Go.Lib (decDigits itoa)
theorem write_byte {h : Hp} {base : Nat} (hb : base ≤ size h) (out : List UInt8) (c : UInt8) (hl : out.length + 1 ≤ lim2) :
    CallA T base 33 [.ptr (size h) 0, .int .u8 c.toNat] (bld h out) = some (.nilif, bld h (out ++ [c])) := by
  have hlt : (size h < base) = False := by simp; omega
  rw [S33]
  unfold bld
  rw [if_neg (by simp : out ++ [c] ≠ [])]
  by_cases ho : out = []
  · subst ho
    have hg := fun k => growT_new (h := k) (T' := 5) (m := [c]) (by simp) (by simp [lim2])
    rw [if_pos rfl]
    simp only [check_new hb, hlt, Bu.one, hg, ↓evD, evU, Nat.reduceAdd, Nat.reduceSub, Nat.reduceMul, Nat.reduceLeDiff, Nat.reduceLT, Nat.reduceEqDiff, Nat.reduceBEq, reduceIte, reduceCtorEq, Int.reduceBEq, Int.reduceEq, Int.reduceLT, Int.reduceLE, Int.reduceGT, Int.reduceGE, Int.reduceAdd, Int.reduceSub, Int.reduceNeg, Int.reduceBNe, List.all_cons, List.all_nil, List.getElem?_cons_zero, List.getElem?_cons_succ, List.getElem?_nil, Option.map_some, List.length_cons, List.length_nil, List.set_cons_zero, List.set_cons_succ, List.map_cons, List.map_nil, List.drop_zero, List.drop_succ_cons, List.drop_nil, List.take_zero, List.take_succ_cons, List.take_nil, ite_true, ite_false, if_true, if_false, implies_true, forall_const, beq_self_eq_true, List.replicate_succ, List.replicate_zero, List.headD_cons, List.cons_append, List.nil_append, bne_self_eq_false]
    rfl
  · rw [if_neg ho]
    have hg := growT_tok (h := ext h [.cells [.ptr (size h) 0, .sl (.tok (size h + 1)) 1 (u8s out)], .tok out.length 5]) (T' := 5) (t := size h + 1) (l := out) (m := [c]) (by simp only [↓evD, evU, Nat.reduceAdd, Nat.reduceSub, Nat.reduceMul, Nat.reduceLeDiff, Nat.reduceLT, Nat.reduceEqDiff, Nat.reduceBEq, reduceIte, reduceCtorEq, Int.reduceBEq, Int.reduceEq, Int.reduceLT, Int.reduceLE, Int.reduceGT, Int.reduceGE, Int.reduceAdd, Int.reduceSub, Int.reduceNeg, Int.reduceBNe, List.all_cons, List.all_nil, List.getElem?_cons_zero, List.getElem?_cons_succ, List.getElem?_nil, Option.map_some, List.length_cons, List.length_nil, List.set_cons_zero, List.set_cons_succ, List.map_cons, List.map_nil, List.drop_zero, List.drop_succ_cons, List.drop_nil, List.take_zero, List.take_succ_cons, List.take_nil, ite_true, ite_false, if_true, if_false, implies_true, forall_const, beq_self_eq_true, List.replicate_succ, List.replicate_zero, List.headD_cons, List.cons_append, List.nil_append, bne_self_eq_false]) (by simpa using hl)
    rw [← Bu.one] at hg
    simp only [check_old hb, hlt, hg, ↓evD, evU, Nat.reduceAdd, Nat.reduceSub, Nat.reduceMul, Nat.reduceLeDiff, Nat.reduceLT, Nat.reduceEqDiff, Nat.reduceBEq, reduceIte, reduceCtorEq, Int.reduceBEq, Int.reduceEq, Int.reduceLT, Int.reduceLE, Int.reduceGT, Int.reduceGE, Int.reduceAdd, Int.reduceSub, Int.reduceNeg, Int.reduceBNe, List.all_cons, List.all_nil, List.getElem?_cons_zero, List.getElem?_cons_succ, List.getElem?_nil, Option.map_some, List.length_cons, List.length_nil, List.set_cons_zero, List.set_cons_succ, List.map_cons, List.map_nil, List.drop_zero, List.drop_succ_cons, List.drop_nil, List.take_zero, List.take_succ_cons, List.take_nil, ite_true, ite_false, if_true, if_false, implies_true, forall_const, beq_self_eq_true, List.replicate_succ, List.replicate_zero, List.headD_cons, List.cons_append, List.nil_append, bne_self_eq_false]
    simp
theorem write_str {h : Hp} {base : Nat} (hb : base ≤ size h) (out s : List UInt8) (hs : s ≠ []) (hl : out.length + s.length ≤ lim2) :
    CallA T base 34 [.ptr (size h) 0, .str s] (bld h out) = some (.tup [i64 s.length, .nilif], bld h (out ++ s)) := by
  have hlt : (size h < base) = False := by simp; omega
  have hel : (s.map fun c => PV.int .u8 (c.toNat : Int)) = u8s s := rfl
  rw [S34]
  unfold bld
  rw [if_neg (by simp [hs] : out ++ s ≠ [])]
  by_cases ho : out = []
  · subst ho
    have hg := fun k => growT_new (h := k) (T' := 5) (m := s) hs (by simpa using hl)
    rw [if_pos rfl]
    simp only [check_new hb, hlt, hel, hg, ↓evD, evU, Nat.reduceAdd, Nat.reduceSub, Nat.reduceMul, Nat.reduceLeDiff, Nat.reduceLT, Nat.reduceEqDiff, Nat.reduceBEq, reduceIte, reduceCtorEq, Int.reduceBEq, Int.reduceEq, Int.reduceLT, Int.reduceLE, Int.reduceGT, Int.reduceGE, Int.reduceAdd, Int.reduceSub, Int.reduceNeg, Int.reduceBNe, List.all_cons, List.all_nil, List.getElem?_cons_zero, List.getElem?_cons_succ, List.getElem?_nil, Option.map_some, List.length_cons, List.length_nil, List.set_cons_zero, List.set_cons_succ, List.map_cons, List.map_nil, List.drop_zero, List.drop_succ_cons, List.drop_nil, List.take_zero, List.take_succ_cons, List.take_nil, ite_true, ite_false, if_true, if_false, implies_true, forall_const, beq_self_eq_true, List.replicate_succ, List.replicate_zero, List.headD_cons, List.cons_append, List.nil_append, bne_self_eq_false]
  · rw [if_neg ho]
    have hg := growT_tok (h := ext h [.cells [.ptr (size h) 0, .sl (.tok (size h + 1)) 1 (u8s out)], .tok out.length 5]) (T' := 5) (t := size h + 1) (l := out) (m := s) (by simp only [↓evD, evU, Nat.reduceAdd, Nat.reduceSub, Nat.reduceMul, Nat.reduceLeDiff, Nat.reduceLT, Nat.reduceEqDiff, Nat.reduceBEq, reduceIte, reduceCtorEq, Int.reduceBEq, Int.reduceEq, Int.reduceLT, Int.reduceLE, Int.reduceGT, Int.reduceGE, Int.reduceAdd, Int.reduceSub, Int.reduceNeg, Int.reduceBNe, List.all_cons, List.all_nil, List.getElem?_cons_zero, List.getElem?_cons_succ, List.getElem?_nil, Option.map_some, List.length_cons, List.length_nil, List.set_cons_zero, List.set_cons_succ, List.map_cons, List.map_nil, List.drop_zero, List.drop_succ_cons, List.drop_nil, List.take_zero, List.take_succ_cons, List.take_nil, ite_true, ite_false, if_true, if_false, implies_true, forall_const, beq_self_eq_true, List.replicate_succ, List.replicate_zero, List.headD_cons, List.cons_append, List.nil_append, bne_self_eq_false]) hl
    simp only [check_old hb, hlt, hel, hg, List.length_append, ↓evD, evU, Nat.reduceAdd, Nat.reduceSub, Nat.reduceMul, Nat.reduceLeDiff, Nat.reduceLT, Nat.reduceEqDiff, Nat.reduceBEq, reduceIte, reduceCtorEq, Int.reduceBEq, Int.reduceEq, Int.reduceLT, Int.reduceLE, Int.reduceGT, Int.reduceGE, Int.reduceAdd, Int.reduceSub, Int.reduceNeg, Int.reduceBNe, List.all_cons, List.all_nil, List.getElem?_cons_zero, List.getElem?_cons_succ, List.getElem?_nil, Option.map_some, List.length_cons, List.length_nil, List.set_cons_zero, List.set_cons_succ, List.map_cons, List.map_nil, List.drop_zero, List.drop_succ_cons, List.drop_nil, List.take_zero, List.take_succ_cons, List.take_nil, ite_true, ite_false, if_true, if_false, implies_true, forall_const, beq_self_eq_true, List.replicate_succ, List.replicate_zero, List.headD_cons, List.cons_append, List.nil_append, bne_self_eq_false]
def numOk (n : Int) : Bool := decide (0 ≤ n ∧ n ≤ 65535)
def rightB (p : List Int) : Bool := decide (p.length ≤ 3) && p.all numOk
theorem right_loop {h : Hp} {b : PV} {p : List Int} (hb : Rl eI 1 b p) (hl : p.length ≤ 1000000) : ∀ (r q : List Int), p = q ++ r →
    P10_0 (size h) (size h) (i64 q.length) b b (i64 p.length) h = some (.bool (decide (p.length ≤ 3) && r.all numOk), h)
  | [], q, hp => by
    rw [P10_0_eq]
    have e : q.length = p.length := by rw [hp]; simp
    have h1 : ((q.length : Int) < (p.length : Int)) = False := by simp; omega
    have h3 : decide ((p.length : Int) ≤ 3) = decide (p.length ≤ 3) := by
      by_cases hq : p.length ≤ 3
      · rw [decide_eq_true hq, decide_eq_true (by omega)]
      · rw [decide_eq_false hq, decide_eq_false (by omega)]
    simp only [h1, hb.len, h3, ↓evD, evU, Nat.reduceAdd, Nat.reduceSub, Nat.reduceMul, Nat.reduceLeDiff, Nat.reduceLT, Nat.reduceEqDiff, Nat.reduceBEq, reduceIte, reduceCtorEq, Int.reduceBEq, Int.reduceEq, Int.reduceLT, Int.reduceLE, Int.reduceGT, Int.reduceGE, Int.reduceAdd, Int.reduceSub, Int.reduceNeg, Int.reduceBNe, List.all_cons, List.all_nil, List.getElem?_cons_zero, List.getElem?_cons_succ, List.getElem?_nil, Option.map_some, List.length_cons, List.length_nil, List.set_cons_zero, List.set_cons_succ, List.map_cons, List.map_nil, List.drop_zero, List.drop_succ_cons, List.drop_nil, List.take_zero, List.take_succ_cons, List.take_nil, ite_true, ite_false, if_true, if_false, implies_true, forall_const, beq_self_eq_true, List.replicate_succ, List.replicate_zero, List.headD_cons, List.cons_append, List.nil_append, bne_self_eq_false]
  | x :: r, q, hp => by
    rw [P10_0_eq]
    have el : p.length = q.length + (r.length + 1) := by rw [hp]; simp
    have h1 : ((q.length : Int) < (p.length : Int)) = True := by simp; omega
    have hx : p[q.length]? = some x := by rw [hp]; simp
    have hec : (eI x).cells = [i64 x] := rfl
    have w1 : IntKind.i64.wrap ((q.length : Int) + 1) = (((q ++ [x]).length : Nat) : Int) := by rw [show (q ++ [x]).length = q.length + 1 by simp, wrap_small] <;> omega
    have ih := right_loop (h := h) hb hl r (q ++ [x]) (by rw [hp]; simp)
    by_cases c1 : x < 0
    · have : numOk x = false := by simp [numOk]; omega
      simp only [h1, hb.idx hx, hec, c1, this, ↓evD, evU, Nat.reduceAdd, Nat.reduceSub, Nat.reduceMul, Nat.reduceLeDiff, Nat.reduceLT, Nat.reduceEqDiff, Nat.reduceBEq, reduceIte, reduceCtorEq, Int.reduceBEq, Int.reduceEq, Int.reduceLT, Int.reduceLE, Int.reduceGT, Int.reduceGE, Int.reduceAdd, Int.reduceSub, Int.reduceNeg, Int.reduceBNe, List.all_cons, List.all_nil, List.getElem?_cons_zero, List.getElem?_cons_succ, List.getElem?_nil, Option.map_some, List.length_cons, List.length_nil, List.set_cons_zero, List.set_cons_succ, List.map_cons, List.map_nil, List.drop_zero, List.drop_succ_cons, List.drop_nil, List.take_zero, List.take_succ_cons, List.take_nil, ite_true, ite_false, if_true, if_false, implies_true, forall_const, beq_self_eq_true, List.replicate_succ, List.replicate_zero, List.headD_cons, List.cons_append, List.nil_append, bne_self_eq_false]
    by_cases c2 : x > 65535
    · have : numOk x = false := by simp [numOk]; omega
      simp only [h1, hb.idx hx, hec, c1, c2, this, ↓evD, evU, Nat.reduceAdd, Nat.reduceSub, Nat.reduceMul, Nat.reduceLeDiff, Nat.reduceLT, Nat.reduceEqDiff, Nat.reduceBEq, reduceIte, reduceCtorEq, Int.reduceBEq, Int.reduceEq, Int.reduceLT, Int.reduceLE, Int.reduceGT, Int.reduceGE, Int.reduceAdd, Int.reduceSub, Int.reduceNeg, Int.reduceBNe, List.all_cons, List.all_nil, List.getElem?_cons_zero, List.getElem?_cons_succ, List.getElem?_nil, Option.map_some, List.length_cons, List.length_nil, List.set_cons_zero, List.set_cons_succ, List.map_cons, List.map_nil, List.drop_zero, List.drop_succ_cons, List.drop_nil, List.take_zero, List.take_succ_cons, List.take_nil, ite_true, ite_false, if_true, if_false, implies_true, forall_const, beq_self_eq_true, List.replicate_succ, List.replicate_zero, List.headD_cons, List.cons_append, List.nil_append, bne_self_eq_false]
    have : numOk x = true := by simp [numOk]; omega
    simp only [h1, hb.idx hx, hec, c1, c2, this, w1, ih, ↓evD, evU, Nat.reduceAdd, Nat.reduceSub, Nat.reduceMul, Nat.reduceLeDiff, Nat.reduceLT, Nat.reduceEqDiff, Nat.reduceBEq, reduceIte, reduceCtorEq, Int.reduceBEq, Int.reduceEq, Int.reduceLT, Int.reduceLE, Int.reduceGT, Int.reduceGE, Int.reduceAdd, Int.reduceSub, Int.reduceNeg, Int.reduceBNe, List.all_cons, List.all_nil, List.getElem?_cons_zero, List.getElem?_cons_succ, List.getElem?_nil, Option.map_some, List.length_cons, List.length_nil, List.set_cons_zero, List.set_cons_succ, List.map_cons, List.map_nil, List.drop_zero, List.drop_succ_cons, List.drop_nil, List.take_zero, List.take_succ_cons, List.take_nil, ite_true, ite_false, if_true, if_false, implies_true, forall_const, beq_self_eq_true, List.replicate_succ, List.replicate_zero, List.headD_cons, List.cons_append, List.nil_append, bne_self_eq_false]
theorem right_spec {base : Nat} {h : Hp} {b : PV} {p : List Int} (hb : Rl eI 1 b p) (hl : p.length ≤ 1000000) : CallA T base 10 [b] h = some (.bool (rightB p), h) := by
  rw [S10]
  have := right_loop (h := h) hb hl p [] rfl
  simp only [hb.len, ↓evD, evU, Nat.reduceAdd, Nat.reduceSub, Nat.reduceMul, Nat.reduceLeDiff, Nat.reduceLT, Nat.reduceEqDiff, Nat.reduceBEq, reduceIte, reduceCtorEq, Int.reduceBEq, Int.reduceEq, Int.reduceLT, Int.reduceLE, Int.reduceGT, Int.reduceGE, Int.reduceAdd, Int.reduceSub, Int.reduceNeg, Int.reduceBNe, List.all_cons, List.all_nil, List.getElem?_cons_zero, List.getElem?_cons_succ, List.getElem?_nil, Option.map_some, List.length_cons, List.length_nil, List.set_cons_zero, List.set_cons_succ, List.map_cons, List.map_nil, List.drop_zero, List.drop_succ_cons, List.drop_nil, List.take_zero, List.take_succ_cons, List.take_nil, ite_true, ite_false, if_true, if_false, implies_true, forall_const, beq_self_eq_true, List.replicate_succ, List.replicate_zero, List.headD_cons, List.cons_append, List.nil_append, bne_self_eq_false]
  exact this
theorem rightR_loop {h : Hp} {b : PV} {p : List Int} (hb : Rl eI 1 b p) (hl : p.length ≤ 1000000) : ∀ (r q : List Int), p = q ++ r →
    P11_0 (size h) (size h) (i64 q.length) b h = some (.bool (r.all numOk), h)
  | [], q, hp => by
    rw [P11_0_eq]
    have e : q.length = p.length := by rw [hp]; simp
    have h1 : ((q.length : Int) < (p.length : Int)) = False := by simp; omega
    simp only [h1, hb.len, ↓evD, evU, Nat.reduceAdd, Nat.reduceSub, Nat.reduceMul, Nat.reduceLeDiff, Nat.reduceLT, Nat.reduceEqDiff, Nat.reduceBEq, reduceIte, reduceCtorEq, Int.reduceBEq, Int.reduceEq, Int.reduceLT, Int.reduceLE, Int.reduceGT, Int.reduceGE, Int.reduceAdd, Int.reduceSub, Int.reduceNeg, Int.reduceBNe, List.all_cons, List.all_nil, List.getElem?_cons_zero, List.getElem?_cons_succ, List.getElem?_nil, Option.map_some, List.length_cons, List.length_nil, List.set_cons_zero, List.set_cons_succ, List.map_cons, List.map_nil, List.drop_zero, List.drop_succ_cons, List.drop_nil, List.take_zero, List.take_succ_cons, List.take_nil, ite_true, ite_false, if_true, if_false, implies_true, forall_const, beq_self_eq_true, List.replicate_succ, List.replicate_zero, List.headD_cons, List.cons_append, List.nil_append, bne_self_eq_false]
  | x :: r, q, hp => by
    rw [P11_0_eq]
    have el : p.length = q.length + (r.length + 1) := by rw [hp]; simp
    have h1 : ((q.length : Int) < (p.length : Int)) = True := by simp; omega
    have hx : p[q.length]? = some x := by rw [hp]; simp
    have hec : (eI x).cells = [i64 x] := rfl
    have w1 : IntKind.i64.wrap ((q.length : Int) + 1) = (((q ++ [x]).length : Nat) : Int) := by rw [show (q ++ [x]).length = q.length + 1 by simp, wrap_small] <;> omega
    have ih := rightR_loop (h := h) hb hl r (q ++ [x]) (by rw [hp]; simp)
    by_cases c1 : x < 0
    · have : numOk x = false := by simp [numOk]; omega
      simp only [h1, hb.len, hb.idx hx, hec, c1, this, ↓evD, evU, Nat.reduceAdd, Nat.reduceSub, Nat.reduceMul, Nat.reduceLeDiff, Nat.reduceLT, Nat.reduceEqDiff, Nat.reduceBEq, reduceIte, reduceCtorEq, Int.reduceBEq, Int.reduceEq, Int.reduceLT, Int.reduceLE, Int.reduceGT, Int.reduceGE, Int.reduceAdd, Int.reduceSub, Int.reduceNeg, Int.reduceBNe, List.all_cons, List.all_nil, List.getElem?_cons_zero, List.getElem?_cons_succ, List.getElem?_nil, Option.map_some, List.length_cons, List.length_nil, List.set_cons_zero, List.set_cons_succ, List.map_cons, List.map_nil, List.drop_zero, List.drop_succ_cons, List.drop_nil, List.take_zero, List.take_succ_cons, List.take_nil, ite_true, ite_false, if_true, if_false, implies_true, forall_const, beq_self_eq_true, List.replicate_succ, List.replicate_zero, List.headD_cons, List.cons_append, List.nil_append, bne_self_eq_false]
    by_cases c2 : x > 65535
    · have : numOk x = false := by simp [numOk]; omega
      simp only [h1, hb.len, hb.idx hx, hec, c1, c2, this, ↓evD, evU, Nat.reduceAdd, Nat.reduceSub, Nat.reduceMul, Nat.reduceLeDiff, Nat.reduceLT, Nat.reduceEqDiff, Nat.reduceBEq, reduceIte, reduceCtorEq, Int.reduceBEq, Int.reduceEq, Int.reduceLT, Int.reduceLE, Int.reduceGT, Int.reduceGE, Int.reduceAdd, Int.reduceSub, Int.reduceNeg, Int.reduceBNe, List.all_cons, List.all_nil, List.getElem?_cons_zero, List.getElem?_cons_succ, List.getElem?_nil, Option.map_some, List.length_cons, List.length_nil, List.set_cons_zero, List.set_cons_succ, List.map_cons, List.map_nil, List.drop_zero, List.drop_succ_cons, List.drop_nil, List.take_zero, List.take_succ_cons, List.take_nil, ite_true, ite_false, if_true, if_false, implies_true, forall_const, beq_self_eq_true, List.replicate_succ, List.replicate_zero, List.headD_cons, List.cons_append, List.nil_append, bne_self_eq_false]
    have : numOk x = true := by simp [numOk]; omega
    simp only [h1, hb.len, hb.idx hx, hec, c1, c2, this, w1, ih, ↓evD, evU, Nat.reduceAdd, Nat.reduceSub, Nat.reduceMul, Nat.reduceLeDiff, Nat.reduceLT, Nat.reduceEqDiff, Nat.reduceBEq, reduceIte, reduceCtorEq, Int.reduceBEq, Int.reduceEq, Int.reduceLT, Int.reduceLE, Int.reduceGT, Int.reduceGE, Int.reduceAdd, Int.reduceSub, Int.reduceNeg, Int.reduceBNe, List.all_cons, List.all_nil, List.getElem?_cons_zero, List.getElem?_cons_succ, List.getElem?_nil, Option.map_some, List.length_cons, List.length_nil, List.set_cons_zero, List.set_cons_succ, List.map_cons, List.map_nil, List.drop_zero, List.drop_succ_cons, List.drop_nil, List.take_zero, List.take_succ_cons, List.take_nil, ite_true, ite_false, if_true, if_false, implies_true, forall_const, beq_self_eq_true, List.replicate_succ, List.replicate_zero, List.headD_cons, List.cons_append, List.nil_append, bne_self_eq_false]
theorem rightR_spec {base : Nat} {h : Hp} {b : PV} {p : List Int} (hb : Rl eI 1 b p) (hl : p.length ≤ 1000000) : CallA T base 11 [b] h = some (.bool (rightB p), h) := by
  rw [S11]
  unfold rightB
  by_cases h3 : p.length ≤ 3
  · have h1 : ((p.length : Int) > 3) = False := by simp; omega
    have := rightR_loop (h := h) hb hl p [] rfl
    rw [decide_eq_true h3]
    simp only [hb.len, h1, ↓evD, evU, Nat.reduceAdd, Nat.reduceSub, Nat.reduceMul, Nat.reduceLeDiff, Nat.reduceLT, Nat.reduceEqDiff, Nat.reduceBEq, reduceIte, reduceCtorEq, Int.reduceBEq, Int.reduceEq, Int.reduceLT, Int.reduceLE, Int.reduceGT, Int.reduceGE, Int.reduceAdd, Int.reduceSub, Int.reduceNeg, Int.reduceBNe, List.all_cons, List.all_nil, List.getElem?_cons_zero, List.getElem?_cons_succ, List.getElem?_nil, Option.map_some, List.length_cons, List.length_nil, List.set_cons_zero, List.set_cons_succ, List.map_cons, List.map_nil, List.drop_zero, List.drop_succ_cons, List.drop_nil, List.take_zero, List.take_succ_cons, List.take_nil, ite_true, ite_false, if_true, if_false, implies_true, forall_const, beq_self_eq_true, List.replicate_succ, List.replicate_zero, List.headD_cons, List.cons_append, List.nil_append, bne_self_eq_false]
    exact this
  · have h1 : ((p.length : Int) > 3) = True := by simp; omega
    rw [decide_eq_false h3]
    simp only [hb.len, h1, ↓evD, evU, Nat.reduceAdd, Nat.reduceSub, Nat.reduceMul, Nat.reduceLeDiff, Nat.reduceLT, Nat.reduceEqDiff, Nat.reduceBEq, reduceIte, reduceCtorEq, Int.reduceBEq, Int.reduceEq, Int.reduceLT, Int.reduceLE, Int.reduceGT, Int.reduceGE, Int.reduceAdd, Int.reduceSub, Int.reduceNeg, Int.reduceBNe, List.all_cons, List.all_nil, List.getElem?_cons_zero, List.getElem?_cons_succ, List.getElem?_nil, Option.map_some, List.length_cons, List.length_nil, List.set_cons_zero, List.set_cons_succ, List.map_cons, List.map_nil, List.drop_zero, List.drop_succ_cons, List.drop_nil, List.take_zero, List.take_succ_cons, List.take_nil, ite_true, ite_false, if_true, if_false, implies_true, forall_const, beq_self_eq_true, List.replicate_succ, List.replicate_zero, List.headD_cons, List.cons_append, List.nil_append, bne_self_eq_false]
theorem ints_loop {h : Hp} {a b : PV} {l m : List Int} (ha : Rl eI 1 a l) (hb : Rl eI 1 b m) (hlm : l.length = m.length) (hl : l.length ≤ 1000000) : ∀ (k i : Nat), i + k = l.length →
    P14_0 (size h) (size h) (.int .i64 i) b a h = some (.bool (l.drop i == m.drop i), h)
  | 0, i, hk => by
    rw [P14_0_eq]
    have h1 : ((i : Int) < (l.length : Int)) = False := by simp; omega
    have e1 : l.drop i = [] := List.drop_eq_nil_of_le (by omega)
    have e2 : m.drop i = [] := List.drop_eq_nil_of_le (by omega)
    simp only [ha.len, h1, e1, e2, ↓evD, evU, Nat.reduceAdd, Nat.reduceSub, Nat.reduceMul, Nat.reduceLeDiff, Nat.reduceLT, Nat.reduceEqDiff, Nat.reduceBEq, reduceIte, reduceCtorEq, Int.reduceBEq, Int.reduceEq, Int.reduceLT, Int.reduceLE, Int.reduceGT, Int.reduceGE, Int.reduceAdd, Int.reduceSub, Int.reduceNeg, Int.reduceBNe, List.all_cons, List.all_nil, List.getElem?_cons_zero, List.getElem?_cons_succ, List.getElem?_nil, Option.map_some, List.length_cons, List.length_nil, List.set_cons_zero, List.set_cons_succ, List.map_cons, List.map_nil, List.drop_zero, List.drop_succ_cons, List.drop_nil, List.take_zero, List.take_succ_cons, List.take_nil, ite_true, ite_false, if_true, if_false, implies_true, forall_const, beq_self_eq_true, List.replicate_succ, List.replicate_zero, List.headD_cons, List.cons_append, List.nil_append, bne_self_eq_false]
  | k + 1, i, hk => by
    rw [P14_0_eq]
    have h1 : ((i : Int) < (l.length : Int)) = True := by simp; omega
    obtain ⟨x, hx⟩ : ∃ x, l[i]? = some x := ⟨_, List.getElem?_eq_getElem (by omega)⟩
    obtain ⟨y, hy⟩ : ∃ y, m[i]? = some y := ⟨_, List.getElem?_eq_getElem (by omega)⟩
    have e1 : l.drop i = x :: l.drop (i + 1) := by
      obtain ⟨hi, rfl⟩ := List.getElem?_eq_some_iff.1 hx
      exact List.drop_eq_getElem_cons hi
    have e2 : m.drop i = y :: m.drop (i + 1) := by
      obtain ⟨hi, rfl⟩ := List.getElem?_eq_some_iff.1 hy
      exact List.drop_eq_getElem_cons hi
    have hec : ∀ x, (eI x).cells = [i64 x] := fun _ => rfl
    have w1 : IntKind.i64.wrap ((i : Int) + 1) = ((i + 1 : Nat) : Int) := by rw [wrap_small] <;> omega
    have ih := ints_loop (h := h) ha hb hlm hl k (i + 1) (by omega)
    cases hq : (x == y)
    · have hq' : (x != y) = true := by simp [bne, hq]
      have e3 : (x :: l.drop (i + 1) == y :: m.drop (i + 1)) = false := by rw [List.cons_beq_cons, hq]; rfl
      simp only [ha.len, ha.idx hx, hb.idx hy, hec, h1, hq', e1, e2, e3, ↓evD, evU, Nat.reduceAdd, Nat.reduceSub, Nat.reduceMul, Nat.reduceLeDiff, Nat.reduceLT, Nat.reduceEqDiff, Nat.reduceBEq, reduceIte, reduceCtorEq, Int.reduceBEq, Int.reduceEq, Int.reduceLT, Int.reduceLE, Int.reduceGT, Int.reduceGE, Int.reduceAdd, Int.reduceSub, Int.reduceNeg, Int.reduceBNe, List.all_cons, List.all_nil, List.getElem?_cons_zero, List.getElem?_cons_succ, List.getElem?_nil, Option.map_some, List.length_cons, List.length_nil, List.set_cons_zero, List.set_cons_succ, List.map_cons, List.map_nil, List.drop_zero, List.drop_succ_cons, List.drop_nil, List.take_zero, List.take_succ_cons, List.take_nil, ite_true, ite_false, if_true, if_false, implies_true, forall_const, beq_self_eq_true, List.replicate_succ, List.replicate_zero, List.headD_cons, List.cons_append, List.nil_append, bne_self_eq_false]
    · have hq' : (x != y) = false := by simp [bne, hq]
      have e3 : (x :: l.drop (i + 1) == y :: m.drop (i + 1)) = (l.drop (i + 1) == m.drop (i + 1)) := by rw [List.cons_beq_cons, hq]; rfl
      simp only [ha.len, ha.idx hx, hb.idx hy, hec, h1, hq', e1, e2, e3, w1, ih, ↓evD, evU, Nat.reduceAdd, Nat.reduceSub, Nat.reduceMul, Nat.reduceLeDiff, Nat.reduceLT, Nat.reduceEqDiff, Nat.reduceBEq, reduceIte, reduceCtorEq, Int.reduceBEq, Int.reduceEq, Int.reduceLT, Int.reduceLE, Int.reduceGT, Int.reduceGE, Int.reduceAdd, Int.reduceSub, Int.reduceNeg, Int.reduceBNe, List.all_cons, List.all_nil, List.getElem?_cons_zero, List.getElem?_cons_succ, List.getElem?_nil, Option.map_some, List.length_cons, List.length_nil, List.set_cons_zero, List.set_cons_succ, List.map_cons, List.map_nil, List.drop_zero, List.drop_succ_cons, List.drop_nil, List.take_zero, List.take_succ_cons, List.take_nil, ite_true, ite_false, if_true, if_false, implies_true, forall_const, beq_self_eq_true, List.replicate_succ, List.replicate_zero, List.headD_cons, List.cons_append, List.nil_append, bne_self_eq_false]
theorem ints_spec {base : Nat} {h : Hp} {a b : PV} {l m : List Int} (ha : Rl eI 1 a l) (hb : Rl eI 1 b m) (hl : l.length ≤ 1000000) : CallA T base 14 [a, b] h = some (.bool (l == m), h) := by
  rw [S14]
  by_cases hlm : l.length = m.length
  · have e1 : ((l.length : Int) != (m.length : Int)) = false := by rw [hlm]; simp
    have := ints_loop (h := h) ha hb hlm hl l.length 0 (by omega)
    rw [List.drop_zero, List.drop_zero] at this
    simp only [ha.len, hb.len, e1, ↓evD, evU, Nat.reduceAdd, Nat.reduceSub, Nat.reduceMul, Nat.reduceLeDiff, Nat.reduceLT, Nat.reduceEqDiff, Nat.reduceBEq, reduceIte, reduceCtorEq, Int.reduceBEq, Int.reduceEq, Int.reduceLT, Int.reduceLE, Int.reduceGT, Int.reduceGE, Int.reduceAdd, Int.reduceSub, Int.reduceNeg, Int.reduceBNe, List.all_cons, List.all_nil, List.getElem?_cons_zero, List.getElem?_cons_succ, List.getElem?_nil, Option.map_some, List.length_cons, List.length_nil, List.set_cons_zero, List.set_cons_succ, List.map_cons, List.map_nil, List.drop_zero, List.drop_succ_cons, List.drop_nil, List.take_zero, List.take_succ_cons, List.take_nil, ite_true, ite_false, if_true, if_false, implies_true, forall_const, beq_self_eq_true, List.replicate_succ, List.replicate_zero, List.headD_cons, List.cons_append, List.nil_append, bne_self_eq_false]
    exact this
  · have e1 : ((l.length : Int) != (m.length : Int)) = true := by rw [bne_iff_ne]; omega
    have e2 : (l == m) = false := by rw [beq_eq_false_iff_ne]; rintro rfl; exact hlm rfl
    simp only [ha.len, hb.len, e1, e2, ↓evD, evU, Nat.reduceAdd, Nat.reduceSub, Nat.reduceMul, Nat.reduceLeDiff, Nat.reduceLT, Nat.reduceEqDiff, Nat.reduceBEq, reduceIte, reduceCtorEq, Int.reduceBEq, Int.reduceEq, Int.reduceLT, Int.reduceLE, Int.reduceGT, Int.reduceGE, Int.reduceAdd, Int.reduceSub, Int.reduceNeg, Int.reduceBNe, List.all_cons, List.all_nil, List.getElem?_cons_zero, List.getElem?_cons_succ, List.getElem?_nil, Option.map_some, List.length_cons, List.length_nil, List.set_cons_zero, List.set_cons_succ, List.map_cons, List.map_nil, List.drop_zero, List.drop_succ_cons, List.drop_nil, List.take_zero, List.take_succ_cons, List.take_nil, ite_true, ite_false, if_true, if_false, implies_true, forall_const, beq_self_eq_true, List.replicate_succ, List.replicate_zero, List.headD_cons, List.cons_append, List.nil_append, bne_self_eq_false]
/-- A path's text. -/
def segsS : List Int → List UInt8
  | [] => []
  | n :: p => 47 :: itoa n ++ segsS p
def textS (p : List Int) : List UInt8 := if rightB p = false then [] else if p = [] then [47] else segsS p
theorem itoa_ne (n : Int) : itoa n ≠ [] := by
  unfold itoa
  split
  · simp
  · exact digits_ne _
theorem in64_ok {n : Int} (h : numOk n = true) : in64 n := by
  simp [numOk] at h
  unfold in64; omega
theorem itoa_len {n : Int} (h : in64 n) : (itoa n).length ≤ 21 := Lib.itoa_length_le n h.1 h.2
theorem text_loop {h : Hp} {b : PV} {p : List Int} (hb : Rl eI 1 b p) (hl : p.length ≤ 3) (ho : p.all numOk = true) : ∀ (r q : List Int) (out : List UInt8), p = q ++ r → out.length ≤ 30 * q.length →
    P12_0 (size h) (size h) (i64 q.length) (.ptr (size h) 0) b (i64 p.length) (bld h out) = some (.str (out ++ segsS r), h)
  | [], q, out, hp, hout => by
    rw [P12_0_eq]
    have e : q.length = p.length := by rw [hp]; simp
    have h1 : ((q.length : Int) < (p.length : Int)) = False := by simp; omega
    have hs : ∀ base, _ := fun base => string_of (base := base) (h := h) out (by unfold lim2; omega)
    simp only [h1, hs, trunc_bld, segsS, List.append_nil, ↓evD, evU, Nat.reduceAdd, Nat.reduceSub, Nat.reduceMul, Nat.reduceLeDiff, Nat.reduceLT, Nat.reduceEqDiff, Nat.reduceBEq, reduceIte, reduceCtorEq, Int.reduceBEq, Int.reduceEq, Int.reduceLT, Int.reduceLE, Int.reduceGT, Int.reduceGE, Int.reduceAdd, Int.reduceSub, Int.reduceNeg, Int.reduceBNe, List.all_cons, List.all_nil, List.getElem?_cons_zero, List.getElem?_cons_succ, List.getElem?_nil, Option.map_some, List.length_cons, List.length_nil, List.set_cons_zero, List.set_cons_succ, List.map_cons, List.map_nil, List.drop_zero, List.drop_succ_cons, List.drop_nil, List.take_zero, List.take_succ_cons, List.take_nil, ite_true, ite_false, if_true, if_false, implies_true, forall_const, beq_self_eq_true, List.replicate_succ, List.replicate_zero, List.headD_cons, List.cons_append, List.nil_append, bne_self_eq_false]
  | x :: r, q, out, hp, hout => by
    rw [P12_0_eq]
    have el : p.length = q.length + (r.length + 1) := by rw [hp]; simp
    have h1 : ((q.length : Int) < (p.length : Int)) = True := by simp; omega
    have hx : p[q.length]? = some x := by rw [hp]; simp
    have hox : numOk x = true := List.all_eq_true.1 ho x (by rw [hp]; simp)
    have hec : (eI x).cells = [i64 x] := rfl
    have w1 : IntKind.i64.wrap ((q.length : Int) + 1) = (((q ++ [x]).length : Nat) : Int) := by rw [show (q ++ [x]).length = q.length + 1 by simp, wrap_small] <;> omega
    have hin := in64_ok hox
    have hil := itoa_len hin
    have hI : ∀ base h, _ := fun base h => itoa_spec (base := base) (h := h) x hin
    have hw1 := write_byte (h := h) (Nat.le_refl (size h)) out 47 (by unfold lim2; omega)
    have hw2 := write_str (h := h) (Nat.le_refl (size h)) (out ++ [47]) (itoa x) (itoa_ne x) (by unfold lim2; simp; omega)
    have z47 : (((47 : UInt8).toNat : Nat) : Int) = 47 := rfl
    rw [z47] at hw1
    have ih := text_loop (h := h) hb hl ho r (q ++ [x]) (out ++ [47] ++ itoa x) (by rw [hp]; simp) (by simp; omega)
    simp only [h1, hb.idx hx, hec, hw1, hI, hw2, w1, ih, ↓evD, evU, Nat.reduceAdd, Nat.reduceSub, Nat.reduceMul, Nat.reduceLeDiff, Nat.reduceLT, Nat.reduceEqDiff, Nat.reduceBEq, reduceIte, reduceCtorEq, Int.reduceBEq, Int.reduceEq, Int.reduceLT, Int.reduceLE, Int.reduceGT, Int.reduceGE, Int.reduceAdd, Int.reduceSub, Int.reduceNeg, Int.reduceBNe, List.all_cons, List.all_nil, List.getElem?_cons_zero, List.getElem?_cons_succ, List.getElem?_nil, Option.map_some, List.length_cons, List.length_nil, List.set_cons_zero, List.set_cons_succ, List.map_cons, List.map_nil, List.drop_zero, List.drop_succ_cons, List.drop_nil, List.take_zero, List.take_succ_cons, List.take_nil, ite_true, ite_false, if_true, if_false, implies_true, forall_const, beq_self_eq_true, List.replicate_succ, List.replicate_zero, List.headD_cons, List.cons_append, List.nil_append, bne_self_eq_false]
    simp [segsS]
theorem text_spec {base : Nat} {h : Hp} {b : PV} {p : List Int} (hb : Rl eI 1 b p) (hl : p.length ≤ 1000000) : CallA T base 12 [b] h = some (.str (textS p), h) := by
  rw [S12]
  have hR : ∀ base h, _ := fun base h => right_spec (base := base) (h := h) hb hl
  unfold textS
  cases hr : rightB p
  · rw [hr] at hR
    simp only [hR, ↓evD, evU, Nat.reduceAdd, Nat.reduceSub, Nat.reduceMul, Nat.reduceLeDiff, Nat.reduceLT, Nat.reduceEqDiff, Nat.reduceBEq, reduceIte, reduceCtorEq, Int.reduceBEq, Int.reduceEq, Int.reduceLT, Int.reduceLE, Int.reduceGT, Int.reduceGE, Int.reduceAdd, Int.reduceSub, Int.reduceNeg, Int.reduceBNe, List.all_cons, List.all_nil, List.getElem?_cons_zero, List.getElem?_cons_succ, List.getElem?_nil, Option.map_some, List.length_cons, List.length_nil, List.set_cons_zero, List.set_cons_succ, List.map_cons, List.map_nil, List.drop_zero, List.drop_succ_cons, List.drop_nil, List.take_zero, List.take_succ_cons, List.take_nil, ite_true, ite_false, if_true, if_false, implies_true, forall_const, beq_self_eq_true, List.replicate_succ, List.replicate_zero, List.headD_cons, List.cons_append, List.nil_append, bne_self_eq_false]
  · rw [hr] at hR
    by_cases h0 : p = []
    · have e0 : ((p.length : Int) == 0) = true := by rw [h0]; rfl
      rw [if_pos h0]
      simp only [hR, hb.len, e0, ↓evD, evU, Nat.reduceAdd, Nat.reduceSub, Nat.reduceMul, Nat.reduceLeDiff, Nat.reduceLT, Nat.reduceEqDiff, Nat.reduceBEq, reduceIte, reduceCtorEq, Int.reduceBEq, Int.reduceEq, Int.reduceLT, Int.reduceLE, Int.reduceGT, Int.reduceGE, Int.reduceAdd, Int.reduceSub, Int.reduceNeg, Int.reduceBNe, List.all_cons, List.all_nil, List.getElem?_cons_zero, List.getElem?_cons_succ, List.getElem?_nil, Option.map_some, List.length_cons, List.length_nil, List.set_cons_zero, List.set_cons_succ, List.map_cons, List.map_nil, List.drop_zero, List.drop_succ_cons, List.drop_nil, List.take_zero, List.take_succ_cons, List.take_nil, ite_true, ite_false, if_true, if_false, implies_true, forall_const, beq_self_eq_true, List.replicate_succ, List.replicate_zero, List.headD_cons, List.cons_append, List.nil_append, bne_self_eq_false]
    · have hp0 : 0 < p.length := List.length_pos_iff.2 h0
      have e0 : ((p.length : Int) == 0) = false := by rw [beq_eq_false_iff_ne]; omega
      unfold rightB at hr
      rw [Bool.and_eq_true, decide_eq_true_eq] at hr
      have hb0 : ext h [.cells [.bnil 64, .nils]] = bld h [] := rfl
      have := text_loop (h := h) hb hr.1 hr.2 p [] [] rfl (by simp)
      simp only [hR, hb.len, e0, h0, hb0, ↓evD, evU, Nat.reduceAdd, Nat.reduceSub, Nat.reduceMul, Nat.reduceLeDiff, Nat.reduceLT, Nat.reduceEqDiff, Nat.reduceBEq, reduceIte, reduceCtorEq, Int.reduceBEq, Int.reduceEq, Int.reduceLT, Int.reduceLE, Int.reduceGT, Int.reduceGE, Int.reduceAdd, Int.reduceSub, Int.reduceNeg, Int.reduceBNe, List.all_cons, List.all_nil, List.getElem?_cons_zero, List.getElem?_cons_succ, List.getElem?_nil, Option.map_some, List.length_cons, List.length_nil, List.set_cons_zero, List.set_cons_succ, List.map_cons, List.map_nil, List.drop_zero, List.drop_succ_cons, List.drop_nil, List.take_zero, List.take_succ_cons, List.take_nil, ite_true, ite_false, if_true, if_false, implies_true, forall_const, beq_self_eq_true, List.replicate_succ, List.replicate_zero, List.headD_cons, List.cons_append, List.nil_append, bne_self_eq_false]
      exact this
theorem textR_loop {h : Hp} {b : PV} {p : List Int} (hb : Rl eI 1 b p) (hl : p.length ≤ 3) (ho : p.all numOk = true) : ∀ (r q : List Int) (out : List UInt8), p = q ++ r → out.length ≤ 30 * q.length →
    P13_0 (size h) (size h) (i64 q.length) b (.str out) h = some (.str (if out ++ segsS r = [] then [47] else out ++ segsS r), h)
  | [], q, out, hp, hout => by
    rw [P13_0_eq]
    have e : q.length = p.length := by rw [hp]; simp
    have h1 : ((q.length : Int) < (p.length : Int)) = False := by simp; omega
    by_cases ho : out = []
    · have e1 : (out == []) = true := by simp [ho]
      simp only [h1, hb.len, e1, ho, segsS, List.append_nil, ↓evD, evU, Nat.reduceAdd, Nat.reduceSub, Nat.reduceMul, Nat.reduceLeDiff, Nat.reduceLT, Nat.reduceEqDiff, Nat.reduceBEq, reduceIte, reduceCtorEq, Int.reduceBEq, Int.reduceEq, Int.reduceLT, Int.reduceLE, Int.reduceGT, Int.reduceGE, Int.reduceAdd, Int.reduceSub, Int.reduceNeg, Int.reduceBNe, List.all_cons, List.all_nil, List.getElem?_cons_zero, List.getElem?_cons_succ, List.getElem?_nil, Option.map_some, List.length_cons, List.length_nil, List.set_cons_zero, List.set_cons_succ, List.map_cons, List.map_nil, List.drop_zero, List.drop_succ_cons, List.drop_nil, List.take_zero, List.take_succ_cons, List.take_nil, ite_true, ite_false, if_true, if_false, implies_true, forall_const, beq_self_eq_true, List.replicate_succ, List.replicate_zero, List.headD_cons, List.cons_append, List.nil_append, bne_self_eq_false]
    · have e1 : (out == []) = false := by simp [ho]
      simp only [h1, hb.len, e1, ho, segsS, List.append_nil, ↓evD, evU, Nat.reduceAdd, Nat.reduceSub, Nat.reduceMul, Nat.reduceLeDiff, Nat.reduceLT, Nat.reduceEqDiff, Nat.reduceBEq, reduceIte, reduceCtorEq, Int.reduceBEq, Int.reduceEq, Int.reduceLT, Int.reduceLE, Int.reduceGT, Int.reduceGE, Int.reduceAdd, Int.reduceSub, Int.reduceNeg, Int.reduceBNe, List.all_cons, List.all_nil, List.getElem?_cons_zero, List.getElem?_cons_succ, List.getElem?_nil, Option.map_some, List.length_cons, List.length_nil, List.set_cons_zero, List.set_cons_succ, List.map_cons, List.map_nil, List.drop_zero, List.drop_succ_cons, List.drop_nil, List.take_zero, List.take_succ_cons, List.take_nil, ite_true, ite_false, if_true, if_false, implies_true, forall_const, beq_self_eq_true, List.replicate_succ, List.replicate_zero, List.headD_cons, List.cons_append, List.nil_append, bne_self_eq_false]
  | x :: r, q, out, hp, hout => by
    rw [P13_0_eq]
    have el : p.length = q.length + (r.length + 1) := by rw [hp]; simp
    have h1 : ((q.length : Int) < (p.length : Int)) = True := by simp; omega
    have hx : p[q.length]? = some x := by rw [hp]; simp
    have hox : numOk x = true := List.all_eq_true.1 ho x (by rw [hp]; simp)
    have hec : (eI x).cells = [i64 x] := rfl
    have w1 : IntKind.i64.wrap ((q.length : Int) + 1) = (((q ++ [x]).length : Nat) : Int) := by rw [show (q ++ [x]).length = q.length + 1 by simp, wrap_small] <;> omega
    have hin := in64_ok hox
    have hil := itoa_len hin
    have hI : ∀ base h, _ := fun base h => itoa_spec (base := base) (h := h) x hin
    have l1 : out.length + 1 ≤ limS := by unfold limS; omega
    have l2 : (out ++ [47]).length + (itoa x).length ≤ limS := by unfold limS; simp; omega
    have ih := textR_loop (h := h) hb hl ho r (q ++ [x]) (out ++ [47] ++ itoa x) (by rw [hp]; simp) (by simp; omega)
    have e3 : out ++ [47] ++ itoa x ++ segsS r = out ++ segsS (x :: r) := by simp [segsS]
    rw [e3] at ih
    generalize hO : out ++ [47] = O at *
    simp only [h1, hb.len, hb.idx hx, hec, hI, l1, hO, l2, w1, ih, ↓evD, evU, Nat.reduceAdd, Nat.reduceSub, Nat.reduceMul, Nat.reduceLeDiff, Nat.reduceLT, Nat.reduceEqDiff, Nat.reduceBEq, reduceIte, reduceCtorEq, Int.reduceBEq, Int.reduceEq, Int.reduceLT, Int.reduceLE, Int.reduceGT, Int.reduceGE, Int.reduceAdd, Int.reduceSub, Int.reduceNeg, Int.reduceBNe, List.all_cons, List.all_nil, List.getElem?_cons_zero, List.getElem?_cons_succ, List.getElem?_nil, Option.map_some, List.length_cons, List.length_nil, List.set_cons_zero, List.set_cons_succ, List.map_cons, List.map_nil, List.drop_zero, List.drop_succ_cons, List.drop_nil, List.take_zero, List.take_succ_cons, List.take_nil, ite_true, ite_false, if_true, if_false, implies_true, forall_const, beq_self_eq_true, List.replicate_succ, List.replicate_zero, List.headD_cons, List.cons_append, List.nil_append, bne_self_eq_false]
theorem textR_spec {base : Nat} {h : Hp} {b : PV} {p : List Int} (hb : Rl eI 1 b p) (hl : p.length ≤ 1000000) : CallA T base 13 [b] h = some (.str (textS p), h) := by
  rw [S13]
  have hR : ∀ base h, _ := fun base h => rightR_spec (base := base) (h := h) hb hl
  unfold textS
  cases hr : rightB p
  · rw [hr] at hR
    simp only [hR, ↓evD, evU, Nat.reduceAdd, Nat.reduceSub, Nat.reduceMul, Nat.reduceLeDiff, Nat.reduceLT, Nat.reduceEqDiff, Nat.reduceBEq, reduceIte, reduceCtorEq, Int.reduceBEq, Int.reduceEq, Int.reduceLT, Int.reduceLE, Int.reduceGT, Int.reduceGE, Int.reduceAdd, Int.reduceSub, Int.reduceNeg, Int.reduceBNe, List.all_cons, List.all_nil, List.getElem?_cons_zero, List.getElem?_cons_succ, List.getElem?_nil, Option.map_some, List.length_cons, List.length_nil, List.set_cons_zero, List.set_cons_succ, List.map_cons, List.map_nil, List.drop_zero, List.drop_succ_cons, List.drop_nil, List.take_zero, List.take_succ_cons, List.take_nil, ite_true, ite_false, if_true, if_false, implies_true, forall_const, beq_self_eq_true, List.replicate_succ, List.replicate_zero, List.headD_cons, List.cons_append, List.nil_append, bne_self_eq_false]
  · rw [hr] at hR
    unfold rightB at hr
    rw [Bool.and_eq_true, decide_eq_true_eq] at hr
    have := textR_loop (h := h) hb hr.1 hr.2 p [] [] rfl (by simp)
    have e : (if ([] : List UInt8) ++ segsS p = [] then [47] else [] ++ segsS p) = if p = [] then [47] else segsS p := by
      cases p with
      | nil => rfl
      | cons x p => simp [segsS]
    rw [e] at this
    simp only [hR, ↓evD, evU, Nat.reduceAdd, Nat.reduceSub, Nat.reduceMul, Nat.reduceLeDiff, Nat.reduceLT, Nat.reduceEqDiff, Nat.reduceBEq, reduceIte, reduceCtorEq, Int.reduceBEq, Int.reduceEq, Int.reduceLT, Int.reduceLE, Int.reduceGT, Int.reduceGE, Int.reduceAdd, Int.reduceSub, Int.reduceNeg, Int.reduceBNe, List.all_cons, List.all_nil, List.getElem?_cons_zero, List.getElem?_cons_succ, List.getElem?_nil, Option.map_some, List.length_cons, List.length_nil, List.set_cons_zero, List.set_cons_succ, List.map_cons, List.map_nil, List.drop_zero, List.drop_succ_cons, List.drop_nil, List.take_zero, List.take_succ_cons, List.take_nil, ite_true, ite_false, if_true, if_false, implies_true, forall_const, beq_self_eq_true, List.replicate_succ, List.replicate_zero, List.headD_cons, List.cons_append, List.nil_append, bne_self_eq_false]
    exact this
end Go.Am.YtikgjdmdcpomlaaDoor
namespace Go.Am
set_option linter.unusedSimpArgs false
set_option linter.unusedVariables false
def splitL (c : UInt8) : List UInt8 → List (List UInt8)
  | [] => [[]]
  | x :: r => if x = c then [] :: splitL c r else match splitL c r with
    | y :: ys => (x :: y) :: ys
    | [] => [[x]]
theorem splitL_ne (c : UInt8) : ∀ l, splitL c l ≠ []
  | [] => by simp [splitL]
  | x :: r => by
    rw [splitL]
    split
    · simp
    · split <;> simp
theorem splitL_none {c : UInt8} : ∀ {l : List UInt8}, c ∉ l → splitL c l = [l]
  | [], _ => rfl
  | x :: r, h => by
    have hx : ¬ x = c := fun q => h (by simp [q])
    have hr : c ∉ r := fun q => h (by simp [q])
    rw [splitL, if_neg hx, splitL_none hr]
theorem splitL_app {c : UInt8} : ∀ {a : List UInt8} (b : List UInt8), c ∉ a → splitL c (a ++ c :: b) = a :: splitL c b
  | [], b, _ => by rw [List.nil_append, splitL, if_pos rfl]
  | x :: a, b, h => by
    have hx : ¬ x = c := fun q => h (by simp [q])
    have ha : c ∉ a := fun q => h (by simp [q])
    rw [List.cons_append, splitL, if_neg hx, splitL_app b ha]
theorem splitL_len (c : UInt8) : ∀ l : List UInt8, (splitL c l).length = l.count c + 1
  | [] => rfl
  | x :: r => by
    have ih := splitL_len c r
    rw [splitL]
    by_cases hx : x = c
    · subst hx
      rw [if_pos rfl, List.length_cons, ih, List.count_cons_self]
    · rw [if_neg hx, List.count_cons_of_ne (by simpa using hx)]
      cases hq : splitL c r with
      | nil => exact (splitL_ne c r hq).elim
      | cons y ys => rw [hq] at ih; simpa using ih
/-- Where a sign is first. -/
theorem index_split (c : UInt8) : ∀ l : List UInt8, (c ∉ l ∧ Lib.indexByte l c = -1) ∨ ∃ a b, l = a ++ c :: b ∧ c ∉ a ∧ Lib.indexByte l c = a.length
  | [] => .inl ⟨by simp, rfl⟩
  | x :: r => by
    by_cases hx : x = c
    · exact .inr ⟨[], r, by simp [hx], by simp, by simp [Lib.indexByte, hx]⟩
    · have hxc : (x == c) = false := by simpa using hx
      rcases index_split c r with ⟨h1, h2⟩ | ⟨a, b, rfl, h2, h3⟩
      · refine .inl ⟨?_, ?_⟩
        · simp only [List.mem_cons, not_or]
          exact ⟨fun q => hx q.symm, h1⟩
        · rw [Lib.indexByte, hxc, h2]; rfl
      · refine .inr ⟨x :: a, b, rfl, ?_, ?_⟩
        · simp only [List.mem_cons, not_or]
          exact ⟨fun q => hx q.symm, h2⟩
        · rw [Lib.indexByte, hxc, h3]
          have : ((a.length : Int) == -1) = false := by rw [beq_eq_false_iff_ne]; omega
          rw [this]
          simp
theorem flat_one {α : Type} (x : α) : ∀ n, List.flatten (List.replicate n [x]) = List.replicate n x
  | 0 => rfl
  | n + 1 => by rw [List.replicate_succ, List.flatten_cons, flat_one x n]; rfl
end Go.Am
namespace Go.Am.YtikgjdmdcpomlaaDoor
set_option maxRecDepth 100000
set_option linter.unusedSimpArgs false
set_option linter.unusedVariables false
open Go.Lib (decDigits itoa)
theorem hasPrefix_spec {base : Nat} {h : Hp} (s p : List UInt8) (hs : s.length ≤ 1000000) (hp : p.length ≤ 1000000) : CallA T base 55 [.str s, .str p] h = some (.bool (s.take p.length == p), h) := by
  rw [S55]
  by_cases h1 : p.length ≤ s.length
  · have c1 : ((s.length : Int) ≥ (p.length : Int)) = True := by simp; omega
    have hb := bdV_nat s.length .i64 p.length h1
    simp only [c1, hb, List.drop_zero, Nat.sub_zero, ↓evD, evU, Nat.reduceAdd, Nat.reduceSub, Nat.reduceMul, Nat.reduceLeDiff, Nat.reduceLT, Nat.reduceEqDiff, Nat.reduceBEq, reduceIte, reduceCtorEq, Int.reduceBEq, Int.reduceEq, Int.reduceLT, Int.reduceLE, Int.reduceGT, Int.reduceGE, Int.reduceAdd, Int.reduceSub, Int.reduceNeg, Int.reduceBNe, List.all_cons, List.all_nil, List.getElem?_cons_zero, List.getElem?_cons_succ, List.getElem?_nil, Option.map_some, List.length_cons, List.length_nil, List.set_cons_zero, List.set_cons_succ, List.map_cons, List.map_nil, List.drop_zero, List.drop_succ_cons, List.drop_nil, List.take_zero, List.take_succ_cons, List.take_nil, ite_true, ite_false, if_true, if_false, implies_true, forall_const, beq_self_eq_true, List.replicate_succ, List.replicate_zero, List.headD_cons, List.cons_append, List.nil_append, bne_self_eq_false]
  · have c1 : ((s.length : Int) ≥ (p.length : Int)) = False := by simp; omega
    have e : (s.take p.length == p) = false := by
      rw [beq_eq_false_iff_ne]
      intro q
      have := congrArg List.length q
      simp at this
      omega
    simp only [c1, e, ↓evD, evU, Nat.reduceAdd, Nat.reduceSub, Nat.reduceMul, Nat.reduceLeDiff, Nat.reduceLT, Nat.reduceEqDiff, Nat.reduceBEq, reduceIte, reduceCtorEq, Int.reduceBEq, Int.reduceEq, Int.reduceLT, Int.reduceLE, Int.reduceGT, Int.reduceGE, Int.reduceAdd, Int.reduceSub, Int.reduceNeg, Int.reduceBNe, List.all_cons, List.all_nil, List.getElem?_cons_zero, List.getElem?_cons_succ, List.getElem?_nil, Option.map_some, List.length_cons, List.length_nil, List.set_cons_zero, List.set_cons_succ, List.map_cons, List.map_nil, List.drop_zero, List.drop_succ_cons, List.drop_nil, List.take_zero, List.take_succ_cons, List.take_nil, ite_true, ite_false, if_true, if_false, implies_true, forall_const, beq_self_eq_true, List.replicate_succ, List.replicate_zero, List.headD_cons, List.cons_append, List.nil_append, bne_self_eq_false]
theorem cutPrefix_spec {base : Nat} {h : Hp} (s p : List UInt8) (hs : s.length ≤ 1000000) (hp : p.length ≤ 1000000) :
    CallA T base 29 [.str s, .str p] h = some (.tup [.str (if s.take p.length == p then s.drop p.length else s), .bool (s.take p.length == p)], h) := by
  have hH : ∀ base h, _ := fun base h => hasPrefix_spec (base := base) (h := h) s p hs hp
  have h43 : ∀ base h, CallA T base 43 [.str s, .str p] h = some (.tup [.str (if s.take p.length == p then s.drop p.length else s), .bool (s.take p.length == p)], h) := by
    intro base h
    rw [S43]
    cases hq : (s.take p.length == p)
    · simp only [hH, hq, ↓evD, evU, Nat.reduceAdd, Nat.reduceSub, Nat.reduceMul, Nat.reduceLeDiff, Nat.reduceLT, Nat.reduceEqDiff, Nat.reduceBEq, reduceIte, reduceCtorEq, Int.reduceBEq, Int.reduceEq, Int.reduceLT, Int.reduceLE, Int.reduceGT, Int.reduceGE, Int.reduceAdd, Int.reduceSub, Int.reduceNeg, Int.reduceBNe, List.all_cons, List.all_nil, List.getElem?_cons_zero, List.getElem?_cons_succ, List.getElem?_nil, Option.map_some, List.length_cons, List.length_nil, List.set_cons_zero, List.set_cons_succ, List.map_cons, List.map_nil, List.drop_zero, List.drop_succ_cons, List.drop_nil, List.take_zero, List.take_succ_cons, List.take_nil, ite_true, ite_false, if_true, if_false, implies_true, forall_const, beq_self_eq_true, List.replicate_succ, List.replicate_zero, List.headD_cons, List.cons_append, List.nil_append, bne_self_eq_false]
    · have hl : p.length ≤ s.length := by
        have := congrArg List.length (beq_iff_eq.1 hq)
        simp at this
        omega
      have hb := bdV_nat s.length .i64 p.length hl
      have ht : (s.drop p.length).take (s.length - p.length) = s.drop p.length := List.take_of_length_le (by simp)
      simp only [hH, hq, hb, ht, ↓evD, evU, Nat.reduceAdd, Nat.reduceSub, Nat.reduceMul, Nat.reduceLeDiff, Nat.reduceLT, Nat.reduceEqDiff, Nat.reduceBEq, reduceIte, reduceCtorEq, Int.reduceBEq, Int.reduceEq, Int.reduceLT, Int.reduceLE, Int.reduceGT, Int.reduceGE, Int.reduceAdd, Int.reduceSub, Int.reduceNeg, Int.reduceBNe, List.all_cons, List.all_nil, List.getElem?_cons_zero, List.getElem?_cons_succ, List.getElem?_nil, Option.map_some, List.length_cons, List.length_nil, List.set_cons_zero, List.set_cons_succ, List.map_cons, List.map_nil, List.drop_zero, List.drop_succ_cons, List.drop_nil, List.take_zero, List.take_succ_cons, List.take_nil, ite_true, ite_false, if_true, if_false, implies_true, forall_const, beq_self_eq_true, List.replicate_succ, List.replicate_zero, List.headD_cons, List.cons_append, List.nil_append, bne_self_eq_false]
  rw [S29]
  simp only [h43, ↓evD, evU, Nat.reduceAdd, Nat.reduceSub, Nat.reduceMul, Nat.reduceLeDiff, Nat.reduceLT, Nat.reduceEqDiff, Nat.reduceBEq, reduceIte, reduceCtorEq, Int.reduceBEq, Int.reduceEq, Int.reduceLT, Int.reduceLE, Int.reduceGT, Int.reduceGE, Int.reduceAdd, Int.reduceSub, Int.reduceNeg, Int.reduceBNe, List.all_cons, List.all_nil, List.getElem?_cons_zero, List.getElem?_cons_succ, List.getElem?_nil, Option.map_some, List.length_cons, List.length_nil, List.set_cons_zero, List.set_cons_succ, List.map_cons, List.map_nil, List.drop_zero, List.drop_succ_cons, List.drop_nil, List.take_zero, List.take_succ_cons, List.take_nil, ite_true, ite_false, if_true, if_false, implies_true, forall_const, beq_self_eq_true, List.replicate_succ, List.replicate_zero, List.headD_cons, List.cons_append, List.nil_append, bne_self_eq_false]
theorem index_spec {base : Nat} {h : Hp} (s : List UInt8) (c : UInt8) : CallA T base 59 [.str s, .str [c]] h = some (i64 (Lib.indexByte s c), h) := by
  rw [CallA_prim T_59]; rfl
theorem count_spec {base : Nat} {h : Hp} (s : List UInt8) (c : UInt8) : CallA T base 58 [.str s, .str [c]] h = some (i64 (s.count c), h) := by
  rw [CallA_prim T_58]; rfl
theorem eS_scalars (l : List (List UInt8)) : (l.map eS).all scalar = true := elS.scalars (fun _ => rfl) l
theorem set_at (p : List (List UInt8)) (k : Nat) (s : List UInt8) : (p.map eS ++ List.replicate (k + 1) (PV.str [])).set p.length (.str s) = (p ++ [s]).map eS ++ List.replicate k (PV.str []) := by
  rw [List.replicate_succ]
  have : (p.map eS).length = p.length := by simp
  rw [← this, List.set_append]
  simp [eS]
theorem split_loop {h : Hp} (c : UInt8) (n : Nat) (hn : n ≤ 1000001) : ∀ (k : Nat) (p : List (List UInt8)) (t : List UInt8), p.length + (k + 1) = n → t.count c = k → t.length ≤ 1000000 →
    P45_1 (size h) (size h) (i64 p.length) (.bsl true (size h) 0 n 1) (.str t) (.str [c]) (i64 0) (i64 ((n - 1 : Nat) : Int)) (ext h [.cells (p.map eS ++ List.replicate (k + 1) (PV.str []))]) = some (.sl .full 1 ((p ++ splitL c t).map eS), h)
  | 0, p, t, hp, hc, ht => by
    rw [P45_1_eq]
    have h1 : ((p.length : Int) < ((n - 1 : Nat) : Int)) = False := by simp; omega
    have hix := ix_nat .i64 p.length n (by omega)
    have hlt : (size h < size h) = False := by simp
    have hle : (p.length + 1 ≤ (p.map eS ++ List.replicate 1 (PV.str [])).length) = True := by simp
    have w1 : IntKind.i64.wrap ((p.length : Int) + 1) = (n : Int) := by rw [wrap_small] <;> omega
    have hset := set_at p 0 t
    have hsp : splitL c t = [t] := splitL_none (by rw [← List.count_eq_zero]; exact hc)
    have hbn := bdV_nat n .i64 n (Nat.le_refl _)
    have hz : (n = 0) = False := by simp; omega
    have hbe : (n == n) = true := by simp
    have hln : ((p ++ [t]).map eS).length = n := by simp; omega
    have htk : ((p ++ [t]).map eS).take n = (p ++ [t]).map eS := List.take_of_length_le (by rw [hln]; exact Nat.le_refl _)
    have hle2 : (n ≤ ((p ++ [t]).map eS).length) = True := by rw [hln]; simp
    have hsc := eS_scalars (p ++ [t])
    have hst := elS.strips (p ++ [t])
    have hbl := elS.belows (size h) (p ++ [t])
    have e0 : (p ++ [t]).map eS ++ List.replicate 0 (PV.str []) = (p ++ [t]).map eS := by simp
    rw [e0] at hset
    rw [hsp]
    generalize (p ++ [t]).map eS = Y at *
    have z1 : (0 + 1 : Nat) = 1 := rfl
    rw [z1] at *
    generalize hX : p.map eS ++ List.replicate 1 (PV.str []) = X at *
    simp only [h1, hix, hlt, hle, hset, w1, hbn, hz, hbe, htk, hle2, hsc, hst, hbl, Nat.mul_one, Nat.zero_add, Nat.sub_zero, Nat.zero_mul, ↓evD, evU, Nat.reduceAdd, Nat.reduceSub, Nat.reduceMul, Nat.reduceLeDiff, Nat.reduceLT, Nat.reduceEqDiff, Nat.reduceBEq, reduceIte, reduceCtorEq, Int.reduceBEq, Int.reduceEq, Int.reduceLT, Int.reduceLE, Int.reduceGT, Int.reduceGE, Int.reduceAdd, Int.reduceSub, Int.reduceNeg, Int.reduceBNe, List.all_cons, List.all_nil, List.getElem?_cons_zero, List.getElem?_cons_succ, List.getElem?_nil, Option.map_some, List.length_cons, List.length_nil, List.set_cons_zero, List.set_cons_succ, List.map_cons, List.map_nil, List.drop_zero, List.drop_succ_cons, List.drop_nil, List.take_zero, List.take_succ_cons, List.take_nil, ite_true, ite_false, if_true, if_false, implies_true, forall_const, beq_self_eq_true, List.replicate_succ, List.replicate_zero, List.headD_cons, List.cons_append, List.nil_append, bne_self_eq_false]
  | k + 1, p, t, hp, hc, ht => by
    rw [P45_1_eq]
    have h1 : ((p.length : Int) < ((n - 1 : Nat) : Int)) = True := by simp; omega
    rcases index_split c t with ⟨q1, _⟩ | ⟨a, b, rfl, q2, q3⟩
    · rw [List.count_eq_zero.2 q1] at hc; omega
    · have hI : ∀ base h, _ := fun base h => index_spec (base := base) (h := h) (a ++ c :: b) c
      rw [q3] at hI
      have hlab : (a ++ c :: b).length = a.length + (b.length + 1) := by simp
      have h2 : ((a.length : Int) < 0) = False := by simp
      have w0 : IntKind.i64.wrap ((a.length : Int) + 0) = (a.length : Int) := by rw [wrap_small] <;> omega
      have hb1 := bdV_nat (a ++ c :: b).length .i64 a.length (by simp)
      have ht1 : (a ++ c :: b).take a.length = a := by simp
      have w2 : IntKind.i64.wrap ((a.length : Int) + 1) = ((a.length + 1 : Nat) : Int) := by rw [wrap_small] <;> omega
      have w2' : IntKind.i64.wrap ((a.length : Int) + ((1 : Nat) : Int)) = ((a.length + 1 : Nat) : Int) := by rw [wrap_small] <;> omega
      have hb2 := bdV_nat (a ++ c :: b).length .i64 (a.length + 1) (by simp)
      have ht2 : ((a ++ c :: b).drop (a.length + 1)).take ((a ++ c :: b).length - (a.length + 1)) = b := by
        rw [List.take_of_length_le (by rw [List.length_drop]; exact Nat.le_refl _), ← List.drop_drop, List.drop_left]; rfl
      have hix := ix_nat .i64 p.length n (by omega)
      have hlt : (size h < size h) = False := by simp
      have hle : (p.length + 1 ≤ (p.map eS ++ List.replicate (k + 1 + 1) (PV.str [])).length) = True := by simp
      have w1 : IntKind.i64.wrap ((p.length : Int) + 1) = (((p ++ [a]).length : Nat) : Int) := by rw [show (p ++ [a]).length = p.length + 1 by simp, wrap_small] <;> omega
      have hset := set_at p (k + 1) a
      have ih := split_loop (h := h) c n hn k (p ++ [a]) b (by simp; omega) (by
        rw [List.count_append, List.count_eq_zero.2 q2, List.count_cons_self] at hc; omega) (by simp at ht; omega)
      have e3 : p ++ splitL c (a ++ c :: b) = p ++ [a] ++ splitL c b := by rw [splitL_app b q2]; simp
      rw [e3]
      generalize hX : p.map eS ++ List.replicate (k + 1 + 1) (PV.str []) = X at *
      generalize hY : (p ++ [a]).map eS ++ List.replicate (k + 1) (PV.str []) = Y at *
      generalize hL : a ++ c :: b = L at *
      simp only [h1, hI, h2, w0, hb1, ht1, w2, w2', hb2, ht2, hix, hlt, hle, hset, w1, ih, List.drop_zero, Nat.sub_zero, Nat.mul_one, Nat.zero_add, ↓evD, evU, Nat.reduceAdd, Nat.reduceSub, Nat.reduceMul, Nat.reduceLeDiff, Nat.reduceLT, Nat.reduceEqDiff, Nat.reduceBEq, reduceIte, reduceCtorEq, Int.reduceBEq, Int.reduceEq, Int.reduceLT, Int.reduceLE, Int.reduceGT, Int.reduceGE, Int.reduceAdd, Int.reduceSub, Int.reduceNeg, Int.reduceBNe, List.all_cons, List.all_nil, List.getElem?_cons_zero, List.getElem?_cons_succ, List.getElem?_nil, Option.map_some, List.length_cons, List.length_nil, List.set_cons_zero, List.set_cons_succ, List.map_cons, List.map_nil, List.drop_zero, List.drop_succ_cons, List.drop_nil, List.take_zero, List.take_succ_cons, List.take_nil, ite_true, ite_false, if_true, if_false, implies_true, forall_const, beq_self_eq_true, List.replicate_succ, List.replicate_zero, List.headD_cons, List.cons_append, List.nil_append, bne_self_eq_false]
theorem split_spec {base : Nat} {h : Hp} (s : List UInt8) (c : UInt8) (hs : s.length ≤ 1000000) : CallA T base 31 [.str s, .str [c]] h = some (.sl .full 1 ((splitL c s).map eS), h) := by
  have hc := List.count_le_length (a := c) (l := s)
  have h45 : ∀ base h, CallA T base 45 [.str s, .str [c], i64 0, i64 (-1)] h = some (.sl .full 1 ((splitL c s).map eS), h) := by
    intro base h
    rw [S45]
    have e1 : (([c] : List UInt8) == []) = false := rfl
    have hC : ∀ base h, _ := fun base h => count_spec (base := base) (h := h) s c
    have w1 : IntKind.i64.wrap (((s.count c : Nat) : Int) + 1) = ((s.count c + 1 : Nat) : Int) := by rw [wrap_small] <;> omega
    have w2 : IntKind.i64.wrap ((s.length : Int) + 1) = ((s.length + 1 : Nat) : Int) := by rw [wrap_small] <;> omega
    have hm : (if ((s.length + 1 : Nat) : Int) < ((s.count c + 1 : Nat) : Int) then ((s.length + 1 : Nat) : Int) else ((s.count c + 1 : Nat) : Int)) = ((s.count c + 1 : Nat) : Int) := if_neg (by omega)
    have hN := makeN_nat .i64 .i64 (s.count c + 1) (by unfold lim2; omega)
    have w3 : IntKind.i64.wrap (((s.count c + 1 : Nat) : Int) - 1) = ((s.count c + 1 - 1 : Nat) : Int) := by rw [wrap_small] <;> omega
    have hB := fun h => makeB_eq 9 [PV.str []] (s.count c + 1) h
    have hL := split_loop (h := h) c (s.count c + 1) (by omega) (s.count c) [] s (by simp) rfl hs
    generalize s.count c + 1 = n at *
    simp only [e1, hC, w1, P45_0_eq, w2, hm, makeV_eq, hN, hB, flat_one, w3, ↓evD, evU, Nat.reduceAdd, Nat.reduceSub, Nat.reduceMul, Nat.reduceLeDiff, Nat.reduceLT, Nat.reduceEqDiff, Nat.reduceBEq, reduceIte, reduceCtorEq, Int.reduceBEq, Int.reduceEq, Int.reduceLT, Int.reduceLE, Int.reduceGT, Int.reduceGE, Int.reduceAdd, Int.reduceSub, Int.reduceNeg, Int.reduceBNe, List.all_cons, List.all_nil, List.getElem?_cons_zero, List.getElem?_cons_succ, List.getElem?_nil, Option.map_some, List.length_cons, List.length_nil, List.set_cons_zero, List.set_cons_succ, List.map_cons, List.map_nil, List.drop_zero, List.drop_succ_cons, List.drop_nil, List.take_zero, List.take_succ_cons, List.take_nil, ite_true, ite_false, if_true, if_false, implies_true, forall_const, beq_self_eq_true, List.replicate_succ, List.replicate_zero, List.headD_cons, List.cons_append, List.nil_append, bne_self_eq_false]
    exact hL
  rw [S31]
  simp only [h45, elS.belows, ↓evD, evU, Nat.reduceAdd, Nat.reduceSub, Nat.reduceMul, Nat.reduceLeDiff, Nat.reduceLT, Nat.reduceEqDiff, Nat.reduceBEq, reduceIte, reduceCtorEq, Int.reduceBEq, Int.reduceEq, Int.reduceLT, Int.reduceLE, Int.reduceGT, Int.reduceGE, Int.reduceAdd, Int.reduceSub, Int.reduceNeg, Int.reduceBNe, List.all_cons, List.all_nil, List.getElem?_cons_zero, List.getElem?_cons_succ, List.getElem?_nil, Option.map_some, List.length_cons, List.length_nil, List.set_cons_zero, List.set_cons_succ, List.map_cons, List.map_nil, List.drop_zero, List.drop_succ_cons, List.drop_nil, List.take_zero, List.take_succ_cons, List.take_nil, ite_true, ite_false, if_true, if_false, implies_true, forall_const, beq_self_eq_true, List.replicate_succ, List.replicate_zero, List.headD_cons, List.cons_append, List.nil_append, bne_self_eq_false]
/-- Texts as numbers. -/
def numsO : List (List UInt8) → Option (List Int)
  | [] => some []
  | s :: l => match numN s 65535 with
    | none => none
    | some u => (numsO l).map ((u : Int) :: ·)
def numsV (z : PV) (l : List (List UInt8)) : PV := if 3 < l.length then .tup [.nils, i64 3] else match numsO l with
  | none => .tup [.nils, i64 20]
  | some p => .tup [gD z 1 (p.map eI), i64 0]
theorem numsO_len : ∀ {l : List (List UInt8)} {p : List Int}, numsO l = some p → p.length = l.length
  | [], p, h => by cases h; rfl
  | s :: l, p, h => by
    simp only [numsO] at h
    split at h
    · cases h
    · rw [Option.map_eq_some_iff] at h
      obtain ⟨q, hq, rfl⟩ := h
      simp [numsO_len hq]
theorem nums_loop {h : Hp} {b : PV} {l : List (List UInt8)} (hb : Rl eS 1 b l) (hl : l.length ≤ 3) (hs : ∀ s ∈ l, s.length ≤ 1000000) : ∀ (r q : List (List UInt8)) (out : List Int), l = q ++ r → out.length ≤ q.length →
    P30_0 (size h) (size h) (i64 q.length) (gV h .nils 1 (out.map eI)) b (i64 l.length) (gH h 3 (out.map eI)) =
      some (match numsO r with | none => .tup [.nils, i64 20] | some p => .tup [gD .nils 1 ((out ++ p).map eI), i64 0], h)
  | [], q, out, hp, hout => by
    rw [P30_0_eq]
    have e : q.length = l.length := by rw [hp]; simp
    have h1 : ((q.length : Int) < (l.length : Int)) = False := by simp; omega
    have gz := gZ_nils 1
    simp only [h1, numsO, frz_gV gz, below_gD gz _ _ (elI.belows _ _), trunc_gH, List.append_nil, ↓evD, evU, Nat.reduceAdd, Nat.reduceSub, Nat.reduceMul, Nat.reduceLeDiff, Nat.reduceLT, Nat.reduceEqDiff, Nat.reduceBEq, reduceIte, reduceCtorEq, Int.reduceBEq, Int.reduceEq, Int.reduceLT, Int.reduceLE, Int.reduceGT, Int.reduceGE, Int.reduceAdd, Int.reduceSub, Int.reduceNeg, Int.reduceBNe, List.all_cons, List.all_nil, List.getElem?_cons_zero, List.getElem?_cons_succ, List.getElem?_nil, Option.map_some, List.length_cons, List.length_nil, List.set_cons_zero, List.set_cons_succ, List.map_cons, List.map_nil, List.drop_zero, List.drop_succ_cons, List.drop_nil, List.take_zero, List.take_succ_cons, List.take_nil, ite_true, ite_false, if_true, if_false, implies_true, forall_const, beq_self_eq_true, List.replicate_succ, List.replicate_zero, List.headD_cons, List.cons_append, List.nil_append, bne_self_eq_false]
  | s :: r, q, out, hp, hout => by
    rw [P30_0_eq]
    have el : l.length = q.length + (r.length + 1) := by rw [hp]; simp
    have h1 : ((q.length : Int) < (l.length : Int)) = True := by simp; omega
    have hx : l[q.length]? = some s := by rw [hp]; simp
    have hec : (eS s).cells = [.str s] := rfl
    have hsl := hs s (by rw [hp]; simp)
    have w1 : IntKind.i64.wrap ((q.length : Int) + 1) = (((q ++ [s]).length : Nat) : Int) := by rw [show (q ++ [s]).length = q.length + 1 by simp, wrap_small] <;> omega
    have hv : ∀ base h, _ := fun base h => number_spec (base := base) (h := h) (s := s) (by omega) (most := 65535) (by omega)
    have z5 : (((65535 : Nat)) : Int) = 65535 := rfl
    rw [z5] at hv
    cases hn : numN s 65535 with
    | none =>
      have hN := hv
      rw [hn] at hN
      simp only [h1, hb.idx hx, hec, hN, numsO, hn, trunc_gH, Option.isSome_none, ↓evD, evU, Nat.reduceAdd, Nat.reduceSub, Nat.reduceMul, Nat.reduceLeDiff, Nat.reduceLT, Nat.reduceEqDiff, Nat.reduceBEq, reduceIte, reduceCtorEq, Int.reduceBEq, Int.reduceEq, Int.reduceLT, Int.reduceLE, Int.reduceGT, Int.reduceGE, Int.reduceAdd, Int.reduceSub, Int.reduceNeg, Int.reduceBNe, List.all_cons, List.all_nil, List.getElem?_cons_zero, List.getElem?_cons_succ, List.getElem?_nil, Option.map_some, List.length_cons, List.length_nil, List.set_cons_zero, List.set_cons_succ, List.map_cons, List.map_nil, List.drop_zero, List.drop_succ_cons, List.drop_nil, List.take_zero, List.take_succ_cons, List.take_nil, ite_true, ite_false, if_true, if_false, implies_true, forall_const, beq_self_eq_true, List.replicate_succ, List.replicate_zero, List.headD_cons, List.cons_append, List.nil_append, bne_self_eq_false]
    | some u =>
      have hN := hv
      rw [hn, atoV_of (by omega) hn] at hN
      have gz := gZ_nils 1
      have gg := gOneL (h := h) (T := 3) elI gz out (u : Int) (by unfold lim2; omega)
      have e1 : (eI (u : Int)) = i64 u := rfl
      rw [e1] at gg
      have ih := nums_loop (h := h) hb hl hs r (q ++ [s]) (out ++ [(u : Int)]) (by rw [hp]; simp) (by simp; omega)
      simp only [h1, hb.idx hx, hec, hN, numsO, hn, gg, w1, ih, Option.isSome_some, ↓evD, evU, Nat.reduceAdd, Nat.reduceSub, Nat.reduceMul, Nat.reduceLeDiff, Nat.reduceLT, Nat.reduceEqDiff, Nat.reduceBEq, reduceIte, reduceCtorEq, Int.reduceBEq, Int.reduceEq, Int.reduceLT, Int.reduceLE, Int.reduceGT, Int.reduceGE, Int.reduceAdd, Int.reduceSub, Int.reduceNeg, Int.reduceBNe, List.all_cons, List.all_nil, List.getElem?_cons_zero, List.getElem?_cons_succ, List.getElem?_nil, Option.map_some, List.length_cons, List.length_nil, List.set_cons_zero, List.set_cons_succ, List.map_cons, List.map_nil, List.drop_zero, List.drop_succ_cons, List.drop_nil, List.take_zero, List.take_succ_cons, List.take_nil, ite_true, ite_false, if_true, if_false, implies_true, forall_const, beq_self_eq_true, List.replicate_succ, List.replicate_zero, List.headD_cons, List.cons_append, List.nil_append, bne_self_eq_false]
      cases numsO r with
      | none => rfl
      | some p => simp
end Go.Am.YtikgjdmdcpomlaaDoor
namespace Go.Am.YtikgjdmdcpomlaaDoor
set_option maxRecDepth 100000
theorem alive_run : call T 400 0 7 [] [] = some (.bool true, []) := by kernel_rfl
theorem alive_spec : CallA T (size []) 7 [] [] = some (.bool true, []) := CallA_iff.2 ⟨400, alive_run⟩
theorem alive_run1 (x : Box) : call T 400 0 7 [] [x] = some (.bool true, [x]) := by kernel_rfl
theorem alive_spec1 (x : Box) : CallA T (size []) 7 [] (ext [] [x]) = some (.bool true, ext [] [x]) := CallA_iff.2 ⟨400, alive_run1 x⟩
end Go.Am.YtikgjdmdcpomlaaDoor
