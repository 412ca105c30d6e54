/- What the functions do from point to point, as equations. Printed by wip/v2/shcode.sh, mksh.py. | Evaluating equations of the plain functions. | The evaluating equations, bundled. Printed by a program of this work. By the session's AI agent. | Slices that grow on top of a heap; bytes. | Slices of values of one form, by value. | Digits: what is written is read. No program in sight. | Numbers as texts: path's number and the reference's, on the abstract machine. | 'Am': what an argument that is read as data is to the machine. | Arguments that are structs, or bytes. | Arguments of the seat: lists of numbers; for the walks. | A builder of texts: what its writes do, on the abstract machine. | Paths as texts, on the abstract machine. | A text parted at a sign. No program in sight. | Texts parted, and read as paths, on the abstract machine. | The document's examples: the machine runs them. | Paths read, and PathTexts, on the abstract machine. | A slice that grows, in a heap where boxes come between. | Signs, names, values: what may stand in a link's text.
   By the session's AI agent. -/
import Derived.Test.YtdnbedldmkagmaaGreatDoorLr3
import Derived.KernelRfl
import Derived.Lib.ItoaLen
import Derived.Lib.AtoiAll
import GoSem.ClaimChange
import Derived.ChangeArms
import Derived.ChangeOld
import Derived.DataReads
import Derived.SizedLaws
import Derived.Lib.Bytealg
namespace Go.Am.YtdnbedldmkagmaaGreatDoor
set_option maxRecDepth 100000
set_option linter.unusedVariables false
theorem S3 (base : Nat) (a0 : PV) (h : Hp) : CallA T base 3 [a0] h =
 bnd2 (CallA T (size h) 6 [] h) fun x1 h2 =>
 (unOp .not x1).bnd fun x3 =>
 condB x3 (
 finV false false (size h) [(.bool false)] h2) (
 bnd2 (CallA T (size h) 7 [a0] h2) fun x6 h7 =>
 (unOp .not x6).bnd fun x8 =>
 condB x8 (
 finV false false (size h) [(.bool true)] h7) (
 bnd2 (CallA T (size h) 8 [a0] h7) fun x11 h12 =>
 (extractB x11 0).bnd fun x14 =>
 (extractB x11 1).bnd fun x15 =>
 bnd2 (CallA T (size h) 9 [a0] h12) fun x19 h20 =>
 (extractB x19 0).bnd fun x22 =>
 (extractB x19 1).bnd fun x23 =>
 bnd2 (CallA T (size h) 10 [a0] h20) fun x27 h28 =>
 bnd2 (CallA T (size h) 11 [a0] h28) fun x30 h31 =>
 (boolB false x27 x30).bnd fun x32 =>
 (wantB x32 true).bnd fun b35 => (whenB b35 (some x14) (some .undef)).bnd fun x34 =>
 (wantB x32 true).bnd fun b39 => (whenB b39 (some x22) (some .undef)).bnd fun x38 =>
 (wantB x32 true).bnd fun b43 => (whenB b43 ((binOp .eql x34 x38).bnd some) (some .undef)).bnd fun x42 =>
 (condB x32 (some x42) (some (.bool false))).bnd fun x46 =>
 (wantB x46 true).bnd fun b49 => (whenB b49 (some x15) (some .undef)).bnd fun x48 =>
 (wantB x46 true).bnd fun b53 => (whenB b53 (some x23) (some .undef)).bnd fun x52 =>
 (wantB x46 true).bnd fun b57 => (whenB b57 ((binOp .eql x48 x52).bnd some) (some .undef)).bnd fun x56 =>
 (condB x46 (some x56) (some (.bool false))).bnd fun x60 =>
 finV false false (size h) [x60] h31)) := (Pt_enter T_3 base _ h).trans (by kernel_rfl)
theorem S4 (base : Nat) (a0 : PV) (h : Hp) : CallA T base 4 [a0] h =
 bnd2 (CallA T (size h) 6 [] h) fun x1 h2 =>
 (unOp .not x1).bnd fun x3 =>
 condB x3 (
 finV false false (size h) [(.bool false)] h2) (
 (lenB true a0).bnd fun x6 =>
 (binOp .gtr x6 (.int .i64 4000)).bnd fun x7 =>
 condB x7 (
 finV false false (size h) [(.bool true)] h2) (
 bnd2 (CallA T (size h) 12 [a0] h2) fun x10 h11 =>
 (extractB x10 0).bnd fun x13 =>
 (extractB x10 1).bnd fun x14 =>
 bnd2 (CallA T (size h) 13 [a0] h11) fun x18 h19 =>
 (extractB x18 0).bnd fun x21 =>
 (extractB x18 1).bnd fun x22 =>
 (binOp .eql x14 x22).bnd fun x27 =>
 (wantB x27 true).bnd fun b30 => (whenB b30 (some x13) (some .undef)).bnd fun x29 =>
 (wantB x27 true).bnd fun b34 => (whenB b34 (some x21) (some .undef)).bnd fun x33 =>
 (wantB x27 true).bnd fun b38 => bnd2 (whenB b38 (bnd2 (CallA T (size h) 14 [x29, x33] h19) fun x40 h39 => some (x40, h39)) (some (.undef, h19))) fun x37 h39 =>
 (condB x27 (some x37) (some (.bool false))).bnd fun x41 =>
 finV false false (size h) [x41] h39)) := (Pt_enter T_4 base _ h).trans (by kernel_rfl)
noncomputable def P5_0 (base n0 : Nat) (v11 v10 v8 v2 v7 v9 : PV) (h : Hp) : Option (PV × Hp) := Pt T F5 [1, 1, 1, 1, 1, 1, 1, 0, 1, 0, 1] base n0 [(11, v11), (10, v10), (8, v8), (2, v2), (7, v7), (9, v9)] h
theorem P5_0_eq (base n0 : Nat) (v11 v10 v8 v2 v7 v9 : PV) (h : Hp) : P5_0 base n0 v11 v10 v8 v2 v7 v9 h =
 (lenB true v8).bnd fun x2 =>
 (binOp .lss v11 x2).bnd fun x3 =>
 condB x3 (
 (idxStrB v8 v11).bnd fun x6 =>
 (binOp .eql x6 (.int .u8 34)).bnd fun x7 =>
 condB x7 (
 (binOp .add v10 (.int .i64 1)).bnd fun x9 =>
 (binOp .add v11 (.int .i64 1)).bnd fun x12 =>
 P5_0 base n0 x12 x9 v8 v2 v7 v9 h) (
 (binOp .add v11 (.int .i64 1)).bnd fun x15 =>
 P5_0 base n0 x15 v10 v8 v2 v7 v9 h)) (
 bnd2 (CallA T base 12 [v8] h) fun x18 h19 =>
 (extractB x18 0).bnd fun x21 =>
 (extractB x18 1).bnd fun x22 =>
 (binOp .eql v9 (.int .i64 0)).bnd fun x26 =>
 (wantB x26 true).bnd fun b29 => (whenB b29 (some x22) (some .undef)).bnd fun x28 =>
 (wantB x26 true).bnd fun b33 => (whenB b33 ((binOp .eql x28 (.int .i64 0)).bnd some) (some .undef)).bnd fun x32 =>
 (condB x26 (some x32) (some (.bool false))).bnd fun x36 =>
 (wantB x36 true).bnd fun b39 => (whenB b39 (some x21) (some .undef)).bnd fun x38 =>
 (wantB x36 true).bnd fun b43 => (whenB b43 (some v7) (some .undef)).bnd fun x42 =>
 (wantB x36 true).bnd fun b47 => bnd2 (whenB b47 (bnd2 (CallA T base 14 [x38, x42] h19) fun x49 h48 => some (x49, h48)) (some (.undef, h19))) fun x46 h48 =>
 (condB x36 (some x46) (some (.bool false))).bnd fun x50 =>
 (wantB x50 true).bnd fun b53 => (whenB b53 (some v10) (some .undef)).bnd fun x52 =>
 (wantB x50 true).bnd fun b57 => (whenB b57 ((binOp .eql x52 (.int .i64 0)).bnd some) (some .undef)).bnd fun x56 =>
 (wantB x50 true).bnd fun b61 => (whenB b61 (some v2) (some .undef)).bnd fun x60 =>
 (wantB x50 true).bnd fun b65 => bnd2 (whenB b65 (bnd2 (CallA T base 15 [x60] h48) fun x67 h66 => some (x67, h66)) (some (.undef, h48))) fun x64 h66 =>
 (wantB x50 true).bnd fun b69 => (whenB b69 ((boolB false x56 x64).bnd some) (some .undef)).bnd fun x68 =>
 (condB x50 (some x68) (some (.bool false))).bnd fun x72 =>
 (wantB x72 true).bnd fun b75 => (whenB b75 (some v10) (some .undef)).bnd fun x74 =>
 (wantB x72 true).bnd fun b79 => (whenB b79 ((binOp .eql x74 (.int .i64 0)).bnd some) (some .undef)).bnd fun x78 =>
 (wantB x72 true).bnd fun b83 => (whenB b83 (some x78) (some .undef)).bnd fun x82 =>
 (wantB x82 false).bnd fun b87 => (whenB b87 (some v10) (some .undef)).bnd fun x86 =>
 (wantB x82 false).bnd fun b91 => (whenB b91 ((binOp .eql x86 (.int .i64 2)).bnd some) (some .undef)).bnd fun x90 =>
 (wantB x72 true).bnd fun b95 => (whenB b95 ((condB x82 (some (.bool true)) (some x90)).bnd some) (some .undef)).bnd fun x94 =>
 (condB x72 (some x94) (some (.bool false))).bnd fun x98 =>
 finV false false n0 [x98] h66) := (Pt_eq T F5 [1, 1, 1, 1, 1, 1, 1, 0, 1, 0, 1] base n0 [(11, v11), (10, v10), (8, v8), (2, v2), (7, v7), (9, v9)] h).trans (by kernel_rfl)
theorem S5 (base : Nat) (a0 a1 a2 : PV) (h : Hp) : CallA T base 5 [a0, a1, a2] h =
 bnd2 (CallA T (size h) 6 [] h) fun x1 h2 =>
 (unOp .not x1).bnd fun x3 =>
 condB x3 (
 finV false false (size h) [(.bool false)] h2) (
 (lenB true a2).bnd fun x6 =>
 (binOp .gtr x6 (.int .i64 100)).bnd fun x7 =>
 (wantB x7 false).bnd fun b10 => (whenB b10 (some a1) (some .undef)).bnd fun x9 =>
 (wantB x7 false).bnd fun b14 => (whenB b14 ((lenB true x9).bnd some) (some .undef)).bnd fun x13 =>
 (wantB x7 false).bnd fun b18 => (whenB b18 ((binOp .gtr x13 (.int .i64 100)).bnd some) (some .undef)).bnd fun x17 =>
 (condB x7 (some (.bool true)) (some x17)).bnd fun x21 =>
 (wantB x21 false).bnd fun b24 => (whenB b24 (some a0) (some .undef)).bnd fun x23 =>
 (wantB x21 false).bnd fun b28 => (whenB b28 ((lenB false x23).bnd some) (some .undef)).bnd fun x27 =>
 (wantB x21 false).bnd fun b32 => (whenB b32 ((binOp .gtr x27 (.int .i64 10)).bnd some) (some .undef)).bnd fun x31 =>
 (condB x21 (some (.bool true)) (some x31)).bnd fun x35 =>
 condB x35 (
 finV false false (size h) [(.bool true)] h2) (
 (buildV [(.str []), (.str []), (.bool false)] [(0, 1, a1), (1, 1, a2)]).bnd fun x40 =>
 (buildSlV 3 true [(.str []), (.str []), (.bool false)] 1 [(0, strip x40)]).bnd fun x41 =>
 (buildV [.nils, .nils] [(0, 1, a0), (1, 1, x41)]).bnd fun x42 =>
 (buildSlV 2 true [.nils, .nils] 1 [(0, strip x42)]).bnd fun x43 =>
 bnd2 (CallA T (size h) 8 [x43] h2) fun x46 h47 =>
 (extractB x46 0).bnd fun x49 =>
 (extractB x46 1).bnd fun x50 =>
 bnd2 (CallA T (size h) 11 [x43] h47) fun x54 h55 =>
 (unOp .not x54).bnd fun x56 =>
 condB x56 (
 (binOp .eql x50 (.int .i64 1)).bnd fun x58 =>
 (wantB x58 true).bnd fun b61 => (whenB b61 (some x49) (some .undef)).bnd fun x60 =>
 (wantB x58 true).bnd fun b65 => (whenB b65 ((binOp .eql x60 (.str [])).bnd some) (some .undef)).bnd fun x64 =>
 (condB x58 (some x64) (some (.bool false))).bnd fun x68 =>
 finV false false (size h) [x68] h55) (
 P5_0 (size h) (size h) (.int .i64 0) (.int .i64 0) x49 a2 x43 x50 h55))) := (Pt_enter T_5 base _ h).trans (by kernel_rfl)
theorem S6 (base : Nat) (h : Hp) : CallA T base 6 [] h =
 (buildSlV 1 false [(.int .i64 0)] 2 [(0, strip (.int .i64 5)), (1, strip (.int .i64 0))]).bnd fun x1 =>
 (buildV [(.str []), (.str []), (.bool false)] [(0, 1, (.str [118, 101, 114])), (1, 1, (.str [49, 46, 48]))]).bnd fun x2 =>
 (buildSlV 3 true [(.str []), (.str []), (.bool false)] 1 [(0, strip x2)]).bnd fun x3 =>
 (buildV [.nils, .nils] [(0, 1, x1), (1, 1, x3)]).bnd fun x4 =>
 (buildV [.nils, .nils] []).bnd fun x5 =>
 (buildSlV 2 true [.nils, .nils] 2 [(0, strip x4), (1, strip x5)]).bnd fun x6 =>
 bnd2 (CallA T (size h) 8 [x6] h) fun x9 h10 =>
 (extractB x9 0).bnd fun x12 =>
 (extractB x9 1).bnd fun x13 =>
 bnd2 (CallA T (size h) 12 [x12] h10) fun x17 h18 =>
 (extractB x17 0).bnd fun x20 =>
 (extractB x17 1).bnd fun x21 =>
 bnd2 (CallA T (size h) 12 [(.str [60, 47, 53])] h18) fun x24 h25 =>
 (extractB x24 0).bnd fun x27 =>
 (extractB x24 1).bnd fun x28 =>
 (buildV [(.str []), (.str []), (.bool false)] [(0, 1, (.str [114, 116])), (1, 1, (.str [97, 32, 98]))]).bnd fun x31 =>
 (buildV [(.str []), (.str []), (.bool false)] [(0, 1, (.str [111, 98, 115])), (2, 1, (.bool true))]).bnd fun x32 =>
 (buildSlV 3 true [(.str []), (.str []), (.bool false)] 2 [(0, strip x31), (1, strip x32)]).bnd fun x33 =>
 (buildV [.nils, .nils] [(1, 1, x33)]).bnd fun x34 =>
 (buildSlV 2 true [.nils, .nils] 1 [(0, strip x34)]).bnd fun x35 =>
 bnd2 (CallA T (size h) 8 [x35] h25) fun x36 h37 =>
 (extractB x36 0).bnd fun x39 =>
 (extractB x36 1).bnd fun x40 =>
 (binOp .eql x13 (.int .i64 0)).bnd fun x44 =>
 (wantB x44 true).bnd fun b47 => (whenB b47 (some x12) (some .undef)).bnd fun x46 =>
 (wantB x44 true).bnd fun b51 => (whenB b51 ((binOp .eql x46 (.str [60, 47, 53, 47, 48, 62, 59, 118, 101, 114, 61, 49, 46, 48, 44, 60, 47, 62])).bnd some) (some .undef)).bnd fun x50 =>
 (condB x44 (some x50) (some (.bool false))).bnd fun x54 =>
 (wantB x54 true).bnd fun b57 => (whenB b57 (some x21) (some .undef)).bnd fun x56 =>
 (wantB x54 true).bnd fun b61 => (whenB b61 ((binOp .eql x56 (.int .i64 0)).bnd some) (some .undef)).bnd fun x60 =>
 (condB x54 (some x60) (some (.bool false))).bnd fun x64 =>
 (wantB x64 true).bnd fun b67 => (whenB b67 (some x20) (some .undef)).bnd fun x66 =>
 (wantB x64 true).bnd fun b71 => (whenB b71 (some x6) (some .undef)).bnd fun x70 =>
 (wantB x64 true).bnd fun b75 => bnd2 (whenB b75 (bnd2 (CallA T (size h) 16 [x66, x70] h37) fun x77 h76 => some (x77, h76)) (some (.undef, h37))) fun x74 h76 =>
 (condB x64 (some x74) (some (.bool false))).bnd fun x78 =>
 (wantB x78 true).bnd fun b81 => (whenB b81 (some x28) (some .undef)).bnd fun x80 =>
 (wantB x78 true).bnd fun b85 => (whenB b85 ((binOp .eql x80 (.int .i64 20)).bnd some) (some .undef)).bnd fun x84 =>
 (condB x78 (some x84) (some (.bool false))).bnd fun x88 =>
 (wantB x88 true).bnd fun b91 => (whenB b91 (some x40) (some .undef)).bnd fun x90 =>
 (wantB x88 true).bnd fun b95 => (whenB b95 ((binOp .eql x90 (.int .i64 0)).bnd some) (some .undef)).bnd fun x94 =>
 (condB x88 (some x94) (some (.bool false))).bnd fun x98 =>
 (wantB x98 true).bnd fun b101 => (whenB b101 (some x39) (some .undef)).bnd fun x100 =>
 (wantB x98 true).bnd fun b105 => (whenB b105 ((binOp .eql x100 (.str [60, 47, 62, 59, 114, 116, 61, 34, 97, 32, 98, 34, 59, 111, 98, 115])).bnd some) (some .undef)).bnd fun x104 =>
 (condB x98 (some x104) (some (.bool false))).bnd fun x108 =>
 (wantB x108 true).bnd fun b111 => (whenB b111 (some x6) (some .undef)).bnd fun x110 =>
 (wantB x108 true).bnd fun b115 => bnd2 (whenB b115 (bnd2 (CallA T (size h) 10 [x110] h76) fun x117 h116 => some (x117, h116)) (some (.undef, h76))) fun x114 h116 =>
 (condB x108 (some x114) (some (.bool false))).bnd fun x118 =>
 (wantB x118 true).bnd fun b121 => bnd2 (whenB b121 ((buildSlV 1 false [(.int .i64 0)] 1 [(0, strip (.int .i64 (-1)))]).bnd fun x123 => some (x123, h116)) (some (.undef, h116))) fun x120 h122 =>
 (wantB x118 true).bnd fun b125 => (whenB b125 ((buildV [.nils, .nils] [(0, 1, x120)]).bnd some) (some .undef)).bnd fun x124 =>
 (wantB x118 true).bnd fun b129 => bnd2 (whenB b129 ((buildSlV 2 true [.nils, .nils] 1 [(0, strip x124)]).bnd fun x131 => some (x131, h122)) (some (.undef, h122))) fun x128 h130 =>
 (wantB x118 true).bnd fun b133 => bnd2 (whenB b133 (bnd2 (CallA T (size h) 10 [x128] h130) fun x135 h134 => some (x135, h134)) (some (.undef, h130))) fun x132 h134 =>
 (wantB x118 true).bnd fun b137 => (whenB b137 ((unOp .not x132).bnd some) (some .undef)).bnd fun x136 =>
 (condB x118 (some x136) (some (.bool false))).bnd fun x140 =>
 finV false false (size h) [x140] h134 := (Pt_enter T_6 base _ h).trans (by kernel_rfl)
noncomputable def P7_0 (base n0 : Nat) (v3 v0 : PV) (h : Hp) : Option (PV × Hp) := Pt T F7 [1, 1, 0, 1, 0, 1] base n0 [(3, v3), (0, v0)] h
noncomputable def P7_1 (base n0 : Nat) (v4 v3 v0 : PV) (h : Hp) : Option (PV × Hp) := Pt T F7 [1, 1, 0, 1, 0, 1, 0, 0, 1, 0, 0, 1, 1, 0, 1] base n0 [(4, v4), (3, v3), (0, v0)] h
theorem P7_0_eq (base n0 : Nat) (v3 v0 : PV) (h : Hp) : P7_0 base n0 v3 v0 h =
 (lenB false v0).bnd fun x2 =>
 (binOp .lss v3 x2).bnd fun x3 =>
 condB x3 (
 (idxAB v0 v3 2).bnd fun x6 =>
 (fieldAB x6 1).bnd fun x7 =>
 (loadV 1 false x7 h).bnd fun x8 =>
 (lenB false x8).bnd fun x9 =>
 (binOp .gtr x9 (.int .i64 20)).bnd fun x10 =>
 (wantB x10 false).bnd fun b13 => (whenB b13 (some v0) (some .undef)).bnd fun x12 =>
 (wantB x10 false).bnd fun b17 => (whenB b17 (some v3) (some .undef)).bnd fun x16 =>
 (wantB x10 false).bnd fun b21 => (whenB b21 ((idxAB x12 x16 2).bnd some) (some .undef)).bnd fun x20 =>
 (wantB x10 false).bnd fun b25 => (whenB b25 ((fieldAB x20 0).bnd some) (some .undef)).bnd fun x24 =>
 (wantB x10 false).bnd fun b29 => (whenB b29 ((loadV 1 false x24 h).bnd some) (some .undef)).bnd fun x28 =>
 (wantB x10 false).bnd fun b33 => (whenB b33 ((lenB false x28).bnd some) (some .undef)).bnd fun x32 =>
 (wantB x10 false).bnd fun b37 => (whenB b37 ((binOp .gtr x32 (.int .i64 100)).bnd some) (some .undef)).bnd fun x36 =>
 (condB x10 (some (.bool true)) (some x36)).bnd fun x40 =>
 condB x40 (
 finV false false n0 [(.bool false)] h) (
 P7_1 base n0 (.int .i64 0) v3 v0 h)) (
 finV false false n0 [(.bool true)] h) := (Pt_eq T F7 [1, 1, 0, 1, 0, 1] base n0 [(3, v3), (0, v0)] h).trans (by kernel_rfl)
theorem P7_1_eq (base n0 : Nat) (v4 v3 v0 : PV) (h : Hp) : P7_1 base n0 v4 v3 v0 h =
 (idxAB v0 v3 2).bnd fun x3 =>
 (fieldAB x3 1).bnd fun x4 =>
 (loadV 1 false x4 h).bnd fun x5 =>
 (lenB false x5).bnd fun x6 =>
 (binOp .lss v4 x6).bnd fun x7 =>
 condB x7 (
 (idxAB v0 v3 2).bnd fun x10 =>
 (fieldAB x10 1).bnd fun x11 =>
 (loadV 1 false x11 h).bnd fun x12 =>
 (idxAB x12 v4 3).bnd fun x14 =>
 (fieldAB x14 0).bnd fun x15 =>
 (loadV 1 false x15 h).bnd fun x16 =>
 (lenB true x16).bnd fun x17 =>
 (binOp .gtr x17 (.int .i64 100)).bnd fun x18 =>
 (wantB x18 false).bnd fun b21 => (whenB b21 (some v0) (some .undef)).bnd fun x20 =>
 (wantB x18 false).bnd fun b25 => (whenB b25 (some v3) (some .undef)).bnd fun x24 =>
 (wantB x18 false).bnd fun b29 => (whenB b29 ((idxAB x20 x24 2).bnd some) (some .undef)).bnd fun x28 =>
 (wantB x18 false).bnd fun b33 => (whenB b33 ((fieldAB x28 1).bnd some) (some .undef)).bnd fun x32 =>
 (wantB x18 false).bnd fun b37 => (whenB b37 ((loadV 1 false x32 h).bnd some) (some .undef)).bnd fun x36 =>
 (wantB x18 false).bnd fun b41 => (whenB b41 (some v4) (some .undef)).bnd fun x40 =>
 (wantB x18 false).bnd fun b45 => (whenB b45 ((idxAB x36 x40 3).bnd some) (some .undef)).bnd fun x44 =>
 (wantB x18 false).bnd fun b49 => (whenB b49 ((fieldAB x44 1).bnd some) (some .undef)).bnd fun x48 =>
 (wantB x18 false).bnd fun b53 => (whenB b53 ((loadV 1 false x48 h).bnd some) (some .undef)).bnd fun x52 =>
 (wantB x18 false).bnd fun b57 => (whenB b57 ((lenB true x52).bnd some) (some .undef)).bnd fun x56 =>
 (wantB x18 false).bnd fun b61 => (whenB b61 ((binOp .gtr x56 (.int .i64 200)).bnd some) (some .undef)).bnd fun x60 =>
 (condB x18 (some (.bool true)) (some x60)).bnd fun x64 =>
 condB x64 (
 finV false false n0 [(.bool false)] h) (
 (binOp .add v4 (.int .i64 1)).bnd fun x67 =>
 P7_1 base n0 x67 v3 v0 h)) (
 (binOp .add v3 (.int .i64 1)).bnd fun x70 =>
 P7_0 base n0 x70 v0 h) := (Pt_eq T F7 [1, 1, 0, 1, 0, 1, 0, 0, 1, 0, 0, 1, 1, 0, 1] base n0 [(4, v4), (3, v3), (0, v0)] h).trans (by kernel_rfl)
theorem S7 (base : Nat) (a0 : PV) (h : Hp) : CallA T base 7 [a0] h =
 (lenB false a0).bnd fun x2 =>
 (binOp .gtr x2 (.int .i64 80)).bnd fun x3 =>
 condB x3 (
 finV false false (size h) [(.bool false)] h) (
 P7_0 (size h) (size h) (.int .i64 0) a0 h) := (Pt_enter T_7 base _ h).trans (by kernel_rfl)
noncomputable def P8_0 (base n0 : Nat) (v12 v4 v10 v11 : PV) (h : Hp) : Option (PV × Hp) := Pt T F8 [1, 1, 1, 0, 1, 0, 1] base n0 [(12, v12), (4, v4), (10, v10), (11, v11)] h
theorem P8_0_eq (base n0 : Nat) (v12 v4 v10 v11 : PV) (h : Hp) : P8_0 base n0 v12 v4 v10 v11 h =
 (binOp .lss v12 v11).bnd fun x0 =>
 condB x0 (
 (idxAB v10 v12 2).bnd fun x1 =>
 (loadV 2 true x1 h).bnd fun x2 =>
 allocK [.nils, .nils] h fun x3 h4 =>
 (storeV base 2 x3 x2 h4).bnd fun h5 =>
 (loadV 2 true x3 h5).bnd fun x7 =>
 bnd2 (CallA T base 17 [x7] h5) fun x8 h9 =>
 (buildSlV 1 false [(.str [])] 1 [(0, strip x8)]).bnd fun x10 =>
 bnd2 (appTV 9 1 v4 x10 h9) fun x11 h12 =>
 (binOp .add v12 (.int .i64 1)).bnd fun x14 =>
 P8_0 base n0 x14 x11 v10 v11 h12) (
 bnd2 (CallA T base 18 [v4, (.str [44])] h) fun x17 h18 =>
 finV false false n0 [x17, (.int .i64 0)] h18) := (Pt_eq T F8 [1, 1, 1, 0, 1, 0, 1] base n0 [(12, v12), (4, v4), (10, v10), (11, v11)] h).trans (by kernel_rfl)
theorem S8 (base : Nat) (a0 : PV) (h : Hp) : CallA T base 8 [a0] h =
 bnd2 (CallA T (size h) 10 [a0] h) fun x3 h4 =>
 (unOp .not x3).bnd fun x5 =>
 condB x5 (
 finV false false (size h) [(.str []), (.int .i64 1)] h4) (
 (lenB false a0).bnd fun x10 =>
 P8_0 (size h) (size h) (.int .i64 0) .nils a0 x10 h4) := (Pt_enter T_8 base _ h).trans (by kernel_rfl)
noncomputable def P9_0 (base n0 : Nat) (v5 v0 v4 : PV) (h : Hp) : Option (PV × Hp) := Pt T F9 [1, 1, 1, 0, 1, 0, 1] base n0 [(5, v5), (0, v0), (4, v4)] h
noncomputable def P9_1 (base n0 : Nat) (v5 v0 v4 : PV) (h : Hp) : Option (PV × Hp) := Pt T F9 [1, 1, 1, 0, 1, 0, 1, 0, 0, 1, 0, 0, 1, 1] base n0 [(5, v5), (0, v0), (4, v4)] h
noncomputable def P9_2 (base n0 : Nat) (v6 v4 v5 v0 : PV) (h : Hp) : Option (PV × Hp) := Pt T F9 [1, 1, 1, 0, 1, 0, 1, 0, 0, 1, 0, 0, 1, 1, 1, 1, 0, 1] base n0 [(6, v6), (4, v4), (5, v5), (0, v0)] h
theorem P9_0_eq (base n0 : Nat) (v5 v0 v4 : PV) (h : Hp) : P9_0 base n0 v5 v0 v4 h =
 (lenB false v0).bnd fun x2 =>
 (binOp .lss v5 x2).bnd fun x3 =>
 condB x3 (
 (binOp .gtr v5 (.int .i64 0)).bnd fun x5 =>
 condB x5 (
 (binOp .add v4 (.str [44])).bnd fun x7 =>
 P9_1 base n0 v5 v0 x7 h) (
 P9_1 base n0 v5 v0 v4 h)) (
 finV false false n0 [v4, (.int .i64 0)] h) := (Pt_eq T F9 [1, 1, 1, 0, 1, 0, 1] base n0 [(5, v5), (0, v0), (4, v4)] h).trans (by kernel_rfl)
theorem P9_1_eq (base n0 : Nat) (v5 v0 v4 : PV) (h : Hp) : P9_1 base n0 v5 v0 v4 h =
 (binOp .add v4 (.str [60])).bnd fun x1 =>
 (idxAB v0 v5 2).bnd fun x4 =>
 (fieldAB x4 0).bnd fun x5 =>
 (loadV 1 false x5 h).bnd fun x6 =>
 bnd2 (CallA T base 19 [x6] h) fun x7 h8 =>
 (binOp .add x1 x7).bnd fun x9 =>
 (binOp .add x9 (.str [62])).bnd fun x10 =>
 P9_2 base n0 (.int .i64 0) x10 v5 v0 h8 := (Pt_eq T F9 [1, 1, 1, 0, 1, 0, 1, 0, 0, 1, 0, 0, 1, 1] base n0 [(5, v5), (0, v0), (4, v4)] h).trans (by kernel_rfl)
theorem P9_2_eq (base n0 : Nat) (v6 v4 v5 v0 : PV) (h : Hp) : P9_2 base n0 v6 v4 v5 v0 h =
 (idxAB v0 v5 2).bnd fun x3 =>
 (fieldAB x3 1).bnd fun x4 =>
 (loadV 1 false x4 h).bnd fun x5 =>
 (lenB false x5).bnd fun x6 =>
 (binOp .lss v6 x6).bnd fun x7 =>
 condB x7 (
 (idxAB v0 v5 2).bnd fun x10 =>
 (fieldAB x10 1).bnd fun x11 =>
 (loadV 1 false x11 h).bnd fun x12 =>
 (idxAB x12 v6 3).bnd fun x14 =>
 (loadV 3 true x14 h).bnd fun x15 =>
 allocK [(.str []), (.str []), (.bool false)] h fun x16 h17 =>
 (storeV base 3 x16 x15 h17).bnd fun h18 =>
 (binOp .add v4 (.str [59])).bnd fun x20 =>
 (fieldAB x16 0).bnd fun x21 =>
 (loadV 1 false x21 h18).bnd fun x22 =>
 (binOp .add x20 x22).bnd fun x23 =>
 (fieldAB x16 2).bnd fun x25 =>
 (loadV 1 false x25 h18).bnd fun x26 =>
 condB x26 (
 (binOp .add v6 (.int .i64 1)).bnd fun x28 =>
 P9_2 base n0 x28 x23 v5 v0 h18) (
 (fieldAB x16 1).bnd fun x30 =>
 (loadV 1 false x30 h18).bnd fun x31 =>
 bnd2 (CallA T base 15 [x31] h18) fun x32 h33 =>
 condB x32 (
 (binOp .add x23 (.str [61])).bnd fun x35 =>
 (fieldAB x16 1).bnd fun x36 =>
 (loadV 1 false x36 h33).bnd fun x37 =>
 (binOp .add x35 x37).bnd fun x38 =>
 (binOp .add v6 (.int .i64 1)).bnd fun x41 =>
 P9_2 base n0 x41 x38 v5 v0 h33) (
 (binOp .add x23 (.str [61, 34])).bnd fun x44 =>
 (fieldAB x16 1).bnd fun x45 =>
 (loadV 1 false x45 h33).bnd fun x46 =>
 (binOp .add x44 x46).bnd fun x47 =>
 (binOp .add x47 (.str [34])).bnd fun x48 =>
 (binOp .add v6 (.int .i64 1)).bnd fun x51 =>
 P9_2 base n0 x51 x48 v5 v0 h33))) (
 (binOp .add v5 (.int .i64 1)).bnd fun x54 =>
 P9_0 base n0 x54 v0 v4 h) := (Pt_eq T F9 [1, 1, 1, 0, 1, 0, 1, 0, 0, 1, 0, 0, 1, 1, 1, 1, 0, 1] base n0 [(6, v6), (4, v4), (5, v5), (0, v0)] h).trans (by kernel_rfl)
theorem S9 (base : Nat) (a0 : PV) (h : Hp) : CallA T base 9 [a0] h =
 bnd2 (CallA T (size h) 11 [a0] h) fun x3 h4 =>
 (unOp .not x3).bnd fun x5 =>
 condB x5 (
 finV false false (size h) [(.str []), (.int .i64 1)] h4) (
 P9_0 (size h) (size h) (.int .i64 0) a0 (.str []) h4) := (Pt_enter T_9 base _ h).trans (by kernel_rfl)
theorem S10 (base : Nat) (a0 : PV) (h : Hp) : CallA T base 10 [a0] h =
 bnd2 (CallA T (size h) 20 [a0, (.fn 21 [])] h) fun x2 h3 =>
 (lenB false a0).bnd fun x6 =>
 (binOp .leq x6 (.int .i64 64)).bnd fun x7 =>
 (wantB x7 true).bnd fun b10 => (whenB b10 (some x2) (some .undef)).bnd fun x9 =>
 (wantB x7 true).bnd fun b14 => (whenB b14 ((unOp .not x9).bnd some) (some .undef)).bnd fun x13 =>
 (condB x7 (some x13) (some (.bool false))).bnd fun x17 =>
 finV false false (size h) [x17] h3 := (Pt_enter T_10 base _ h).trans (by kernel_rfl)
noncomputable def P11_0 (base n0 : Nat) (v3 v0 : PV) (h : Hp) : Option (PV × Hp) := Pt T F11 [1, 1, 0, 1, 0, 1] base n0 [(3, v3), (0, v0)] h
noncomputable def P11_1 (base n0 : Nat) (v4 v3 v0 : PV) (h : Hp) : Option (PV × Hp) := Pt T F11 [1, 1, 0, 1, 0, 1, 0, 0, 1, 0, 0, 1, 1, 0, 1] base n0 [(4, v4), (3, v3), (0, v0)] h
theorem P11_0_eq (base n0 : Nat) (v3 v0 : PV) (h : Hp) : P11_0 base n0 v3 v0 h =
 (lenB false v0).bnd fun x2 =>
 (binOp .lss v3 x2).bnd fun x3 =>
 condB x3 (
 (idxAB v0 v3 2).bnd fun x6 =>
 (fieldAB x6 0).bnd fun x7 =>
 (loadV 1 false x7 h).bnd fun x8 =>
 bnd2 (CallA T base 23 [x8] h) fun x9 h10 =>
 (unOp .not x9).bnd fun x11 =>
 (wantB x11 false).bnd fun b14 => (whenB b14 (some v0) (some .undef)).bnd fun x13 =>
 (wantB x11 false).bnd fun b18 => (whenB b18 (some v3) (some .undef)).bnd fun x17 =>
 (wantB x11 false).bnd fun b22 => (whenB b22 ((idxAB x13 x17 2).bnd some) (some .undef)).bnd fun x21 =>
 (wantB x11 false).bnd fun b26 => (whenB b26 ((fieldAB x21 1).bnd some) (some .undef)).bnd fun x25 =>
 (wantB x11 false).bnd fun b30 => (whenB b30 ((loadV 1 false x25 h10).bnd some) (some .undef)).bnd fun x29 =>
 (wantB x11 false).bnd fun b34 => (whenB b34 ((lenB false x29).bnd some) (some .undef)).bnd fun x33 =>
 (wantB x11 false).bnd fun b38 => (whenB b38 ((binOp .gtr x33 (.int .i64 8)).bnd some) (some .undef)).bnd fun x37 =>
 (condB x11 (some (.bool true)) (some x37)).bnd fun x41 =>
 condB x41 (
 finV false false n0 [(.bool false)] h10) (
 P11_1 base n0 (.int .i64 0) v3 v0 h10)) (
 finV false false n0 [(.bool true)] h) := (Pt_eq T F11 [1, 1, 0, 1, 0, 1] base n0 [(3, v3), (0, v0)] h).trans (by kernel_rfl)
theorem P11_1_eq (base n0 : Nat) (v4 v3 v0 : PV) (h : Hp) : P11_1 base n0 v4 v3 v0 h =
 (idxAB v0 v3 2).bnd fun x3 =>
 (fieldAB x3 1).bnd fun x4 =>
 (loadV 1 false x4 h).bnd fun x5 =>
 (lenB false x5).bnd fun x6 =>
 (binOp .lss v4 x6).bnd fun x7 =>
 condB x7 (
 (idxAB v0 v3 2).bnd fun x10 =>
 (fieldAB x10 1).bnd fun x11 =>
 (loadV 1 false x11 h).bnd fun x12 =>
 (idxAB x12 v4 3).bnd fun x14 =>
 (loadV 3 true x14 h).bnd fun x15 =>
 allocK [(.str []), (.str []), (.bool false)] h fun x16 h17 =>
 (storeV base 3 x16 x15 h17).bnd fun h18 =>
 (fieldAB x16 0).bnd fun x19 =>
 (loadV 1 false x19 h18).bnd fun x20 =>
 bnd2 (CallA T base 24 [x20] h18) fun x21 h22 =>
 (unOp .not x21).bnd fun x23 =>
 (wantB x23 false).bnd fun b26 => (whenB b26 ((fieldAB x16 1).bnd some) (some .undef)).bnd fun x25 =>
 (wantB x23 false).bnd fun b30 => (whenB b30 ((loadV 1 false x25 h22).bnd some) (some .undef)).bnd fun x29 =>
 (wantB x23 false).bnd fun b34 => bnd2 (whenB b34 (bnd2 (CallA T base 25 [x29] h22) fun x36 h35 => some (x36, h35)) (some (.undef, h22))) fun x33 h35 =>
 (wantB x23 false).bnd fun b38 => (whenB b38 ((unOp .not x33).bnd some) (some .undef)).bnd fun x37 =>
 (condB x23 (some (.bool true)) (some x37)).bnd fun x41 =>
 (wantB x41 false).bnd fun b44 => (whenB b44 ((fieldAB x16 2).bnd some) (some .undef)).bnd fun x43 =>
 (wantB x41 false).bnd fun b48 => (whenB b48 ((loadV 1 false x43 h35).bnd some) (some .undef)).bnd fun x47 =>
 (wantB x41 false).bnd fun b52 => (whenB b52 (some x47) (some .undef)).bnd fun x51 =>
 (wantB x51 true).bnd fun b56 => (whenB b56 ((fieldAB x16 1).bnd some) (some .undef)).bnd fun x55 =>
 (wantB x51 true).bnd fun b60 => (whenB b60 ((loadV 1 false x55 h35).bnd some) (some .undef)).bnd fun x59 =>
 (wantB x51 true).bnd fun b64 => (whenB b64 ((binOp .neq x59 (.str [])).bnd some) (some .undef)).bnd fun x63 =>
 (wantB x41 false).bnd fun b68 => (whenB b68 ((condB x51 (some x63) (some (.bool false))).bnd some) (some .undef)).bnd fun x67 =>
 (condB x41 (some (.bool true)) (some x67)).bnd fun x71 =>
 condB x71 (
 finV false false n0 [(.bool false)] h35) (
 (binOp .add v4 (.int .i64 1)).bnd fun x74 =>
 P11_1 base n0 x74 v3 v0 h35)) (
 (binOp .add v3 (.int .i64 1)).bnd fun x77 =>
 P11_0 base n0 x77 v0 h) := (Pt_eq T F11 [1, 1, 0, 1, 0, 1, 0, 0, 1, 0, 0, 1, 1, 0, 1] base n0 [(4, v4), (3, v3), (0, v0)] h).trans (by kernel_rfl)
theorem S11 (base : Nat) (a0 : PV) (h : Hp) : CallA T base 11 [a0] h =
 (lenB false a0).bnd fun x2 =>
 (binOp .gtr x2 (.int .i64 64)).bnd fun x3 =>
 condB x3 (
 finV false false (size h) [(.bool false)] h) (
 P11_0 (size h) (size h) (.int .i64 0) a0 h) := (Pt_enter T_11 base _ h).trans (by kernel_rfl)
noncomputable def P12_0 (base n0 : Nat) (v4 v5 : PV) (h : Hp) : Option (PV × Hp) := Pt T F12 [1, 1, 1, 1, 0, 1] base n0 [(4, v4), (5, v5)] h
theorem P12_0_eq (base n0 : Nat) (v4 v5 : PV) (h : Hp) : P12_0 base n0 v4 v5 h =
 (lenB false v5).bnd fun x1 =>
 (binOp .eql x1 (.int .i64 64)).bnd fun x2 =>
 condB x2 (
 finV false false n0 [.nils, (.int .i64 3)] h) (
 bnd2 (CallA T base 26 [v4] h) fun x6 h7 =>
 (extractB x6 0).bnd fun x9 =>
 (extractB x6 1).bnd fun x10 =>
 allocK [.nils, .nils] h7 fun x11 h12 =>
 (storeV base 2 x11 x9 h12).bnd fun h13 =>
 (unOp .not x10).bnd fun x16 =>
 condB x16 (
 finV false false n0 [.nils, (.int .i64 20)] h13) (
 (loadV 2 true x11 h13).bnd fun x20 =>
 (buildSlV 2 true [.nils, .nils] 1 [(0, strip x20)]).bnd fun x21 =>
 bnd2 (appTV 41 2 v5 x21 h13) fun x22 h23 =>
 (nilckV v4).bnd fun x26 =>
 (fieldAB x26 0).bnd fun x27 =>
 (loadV 1 false x27 h23).bnd fun x28 =>
 (binOp .eql x28 (.str [])).bnd fun x29 =>
 condB x29 (
 finV false false n0 [x22, (.int .i64 0)] h23) (
 bnd2 (CallA T base 27 [v4, (.str [44])] h23) fun x34 h35 =>
 (unOp .not x34).bnd fun x36 =>
 condB x36 (
 finV false false n0 [.nils, (.int .i64 20)] h35) (
 P12_0 base n0 v4 x22 h35)))) := (Pt_eq T F12 [1, 1, 1, 1, 0, 1] base n0 [(4, v4), (5, v5)] h).trans (by kernel_rfl)
theorem S12 (base : Nat) (a0 : PV) (h : Hp) : CallA T base 12 [a0] h =
 (binOp .eql a0 (.str [])).bnd fun x3 =>
 condB x3 (
 finV false false (size h) [.nils, (.int .i64 0)] h) (
 (buildV [(.str [])] [(0, 1, a0)]).bnd fun x7 =>
 bnd2 (boxV 1 x7 h) fun x8 h9 =>
 P12_0 (size h) (size h) x8 .nils h9) := (Pt_enter T_12 base _ h).trans (by kernel_rfl)
noncomputable def P13_0 (base n0 : Nat) (v0 v4 v5 : PV) (h : Hp) : Option (PV × Hp) := Pt T F13 [1, 1, 1, 0, 0, 1] base n0 [(0, v0), (4, v4), (5, v5)] h
noncomputable def P13_1 (base n0 : Nat) (v6 v0 v4 v5 : PV) (h : Hp) : Option (PV × Hp) := Pt T F13 [1, 1, 1, 0, 0, 1, 0, 0, 1, 0, 1, 1, 1, 0, 0, 1] base n0 [(6, v6), (0, v0), (4, v4), (5, v5)] h
noncomputable def P13_2 (base n0 : Nat) (v9 v5 v0 v4 : PV) (h : Hp) : Option (PV × Hp) := Pt T F13 [1, 1, 1, 0, 0, 1, 0, 0, 1, 0, 1, 1, 1, 1, 1, 1, 1, 1, 0, 0, 1] base n0 [(9, v9), (5, v5), (0, v0), (4, v4)] h
theorem P13_0_eq (base n0 : Nat) (v0 v4 v5 : PV) (h : Hp) : P13_0 base n0 v0 v4 v5 h =
 (lenB true v0).bnd fun x2 =>
 (binOp .lss v5 x2).bnd fun x3 =>
 (wantB x3 false).bnd fun b6 => (whenB b6 (some v4) (some .undef)).bnd fun x5 =>
 (wantB x3 false).bnd fun b10 => (whenB b10 ((lenB false x5).bnd some) (some .undef)).bnd fun x9 =>
 (wantB x3 false).bnd fun b14 => (whenB b14 ((binOp .gtr x9 (.int .i64 0)).bnd some) (some .undef)).bnd fun x13 =>
 (condB x3 (some (.bool true)) (some x13)).bnd fun x17 =>
 condB x17 (
 (lenB false v4).bnd fun x19 =>
 (binOp .eql x19 (.int .i64 64)).bnd fun x20 =>
 condB x20 (
 finV false false n0 [.nils, (.int .i64 3)] h) (
 (lenB true v0).bnd fun x25 =>
 (binOp .geq v5 x25).bnd fun x26 =>
 (wantB x26 false).bnd fun b29 => (whenB b29 (some v0) (some .undef)).bnd fun x28 =>
 (wantB x26 false).bnd fun b33 => (whenB b33 (some v5) (some .undef)).bnd fun x32 =>
 (wantB x26 false).bnd fun b37 => (whenB b37 ((idxStrB x28 x32).bnd some) (some .undef)).bnd fun x36 =>
 (wantB x26 false).bnd fun b41 => (whenB b41 ((binOp .neq x36 (.int .u8 60)).bnd some) (some .undef)).bnd fun x40 =>
 (condB x26 (some (.bool true)) (some x40)).bnd fun x44 =>
 condB x44 (
 finV false false n0 [.nils, (.int .i64 20)] h) (
 (binOp .add v5 (.int .i64 1)).bnd fun x48 =>
 P13_1 base n0 x48 v0 v4 v5 h))) (
 finV false false n0 [v4, (.int .i64 0)] h) := (Pt_eq T F13 [1, 1, 1, 0, 0, 1] base n0 [(0, v0), (4, v4), (5, v5)] h).trans (by kernel_rfl)
theorem P13_1_eq (base n0 : Nat) (v6 v0 v4 v5 : PV) (h : Hp) : P13_1 base n0 v6 v0 v4 v5 h =
 (lenB true v0).bnd fun x2 =>
 (binOp .lss v6 x2).bnd fun x3 =>
 (wantB x3 true).bnd fun b6 => (whenB b6 (some v0) (some .undef)).bnd fun x5 =>
 (wantB x3 true).bnd fun b10 => (whenB b10 (some v6) (some .undef)).bnd fun x9 =>
 (wantB x3 true).bnd fun b14 => (whenB b14 ((idxStrB x5 x9).bnd some) (some .undef)).bnd fun x13 =>
 (wantB x3 true).bnd fun b18 => (whenB b18 ((binOp .neq x13 (.int .u8 62)).bnd some) (some .undef)).bnd fun x17 =>
 (condB x3 (some x17) (some (.bool false))).bnd fun x21 =>
 condB x21 (
 (binOp .add v6 (.int .i64 1)).bnd fun x23 =>
 P13_1 base n0 x23 v0 v4 v5 h) (
 (binOp .add v5 (.int .i64 1)).bnd fun x27 =>
 (sliceV none (some x27) (some v6) none v0).bnd fun x29 =>
 bnd2 (CallA T base 28 [x29] h) fun x30 h31 =>
 (extractB x30 0).bnd fun x33 =>
 (extractB x30 1).bnd fun x34 =>
 (binOp .neq x34 (.int .i64 0)).bnd fun x38 =>
 (wantB x38 false).bnd fun b41 => (whenB b41 (some v6) (some .undef)).bnd fun x40 =>
 (wantB x38 false).bnd fun b45 => (whenB b45 (some v0) (some .undef)).bnd fun x44 =>
 (wantB x38 false).bnd fun b49 => (whenB b49 ((lenB true x44).bnd some) (some .undef)).bnd fun x48 =>
 (wantB x38 false).bnd fun b53 => (whenB b53 ((binOp .eql x40 x48).bnd some) (some .undef)).bnd fun x52 =>
 (condB x38 (some (.bool true)) (some x52)).bnd fun x56 =>
 condB x56 (
 finV false false n0 [.nils, (.int .i64 20)] h31) (
 (buildV [.nils, .nils] [(0, 1, x33)]).bnd fun x60 =>
 allocK [.nils, .nils] h31 fun x61 h62 =>
 (storeV base 2 x61 x60 h62).bnd fun h63 =>
 (binOp .add v6 (.int .i64 1)).bnd fun x65 =>
 P13_2 base n0 x61 x65 v0 v4 h63)) := (Pt_eq T F13 [1, 1, 1, 0, 0, 1, 0, 0, 1, 0, 1, 1, 1, 0, 0, 1] base n0 [(6, v6), (0, v0), (4, v4), (5, v5)] h).trans (by kernel_rfl)
theorem P13_2_eq (base n0 : Nat) (v9 v5 v0 v4 : PV) (h : Hp) : P13_2 base n0 v9 v5 v0 v4 h =
 (lenB true v0).bnd fun x2 =>
 (binOp .lss v5 x2).bnd fun x3 =>
 (wantB x3 true).bnd fun b6 => (whenB b6 (some v0) (some .undef)).bnd fun x5 =>
 (wantB x3 true).bnd fun b10 => (whenB b10 (some v5) (some .undef)).bnd fun x9 =>
 (wantB x3 true).bnd fun b14 => (whenB b14 ((idxStrB x5 x9).bnd some) (some .undef)).bnd fun x13 =>
 (wantB x3 true).bnd fun b18 => (whenB b18 ((binOp .eql x13 (.int .u8 59)).bnd some) (some .undef)).bnd fun x17 =>
 (condB x3 (some x17) (some (.bool false))).bnd fun x21 =>
 condB x21 (
 (binOp .add v5 (.int .i64 1)).bnd fun x24 =>
 bnd2 (CallA T base 29 [v0, x24] h) fun x25 h26 =>
 (extractB x25 0).bnd fun x28 =>
 (extractB x25 1).bnd fun x29 =>
 (extractB x25 2).bnd fun x30 =>
 allocK [(.str []), (.str []), (.bool false)] h26 fun x31 h32 =>
 (storeV base 3 x31 x28 h32).bnd fun h33 =>
 (unOp .not x30).bnd fun x37 =>
 (wantB x37 false).bnd fun b40 => (whenB b40 ((fieldAB v9 1).bnd some) (some .undef)).bnd fun x39 =>
 (wantB x37 false).bnd fun b44 => (whenB b44 ((loadV 1 false x39 h33).bnd some) (some .undef)).bnd fun x43 =>
 (wantB x37 false).bnd fun b48 => (whenB b48 ((lenB false x43).bnd some) (some .undef)).bnd fun x47 =>
 (wantB x37 false).bnd fun b52 => (whenB b52 ((binOp .eql x47 (.int .i64 8)).bnd some) (some .undef)).bnd fun x51 =>
 (condB x37 (some (.bool true)) (some x51)).bnd fun x55 =>
 condB x55 (
 finV false false n0 [.nils, (.int .i64 20)] h33) (
 (fieldAB v9 1).bnd fun x58 =>
 (loadV 1 false x58 h33).bnd fun x59 =>
 (loadV 3 true x31 h33).bnd fun x60 =>
 (buildSlV 3 true [(.str []), (.str []), (.bool false)] 1 [(0, strip x60)]).bnd fun x61 =>
 bnd2 (appTV 38 3 x59 x61 h33) fun x62 h63 =>
 (fieldAB v9 1).bnd fun x64 =>
 (storeV base 1 x64 x62 h63).bnd fun h65 =>
 P13_2 base n0 v9 x29 v0 v4 h65)) (
 (loadV 2 true v9 h).bnd fun x69 =>
 (buildSlV 2 true [.nils, .nils] 1 [(0, strip x69)]).bnd fun x70 =>
 bnd2 (appTV 41 2 v4 x70 h) fun x71 h72 =>
 (lenB true v0).bnd fun x76 =>
 (binOp .eql v5 x76).bnd fun x77 =>
 condB x77 (
 finV false false n0 [x71, (.int .i64 0)] h72) (
 (idxStrB v0 v5).bnd fun x83 =>
 (binOp .neq x83 (.int .u8 44)).bnd fun x84 =>
 condB x84 (
 finV false false n0 [.nils, (.int .i64 20)] h72) (
 (binOp .add v5 (.int .i64 1)).bnd fun x88 =>
 P13_0 base n0 v0 x71 x88 h72))) := (Pt_eq T F13 [1, 1, 1, 0, 0, 1, 0, 0, 1, 0, 1, 1, 1, 1, 1, 1, 1, 1, 0, 0, 1] base n0 [(9, v9), (5, v5), (0, v0), (4, v4)] h).trans (by kernel_rfl)
theorem S13 (base : Nat) (a0 : PV) (h : Hp) : CallA T base 13 [a0] h =
 (buildSlV 2 true [.nils, .nils] 0 []).bnd fun x2 =>
 P13_0 (size h) (size h) a0 x2 (.int .i64 0) h := (Pt_enter T_13 base _ h).trans (by kernel_rfl)
noncomputable def P14_0 (base n0 : Nat) (v5 v1 v0 : PV) (h : Hp) : Option (PV × Hp) := Pt T F14 [1, 1, 0, 1, 0, 1] base n0 [(5, v5), (1, v1), (0, v0)] h
theorem P14_0_eq (base n0 : Nat) (v5 v1 v0 : PV) (h : Hp) : P14_0 base n0 v5 v1 v0 h =
 (lenB false v0).bnd fun x2 =>
 (binOp .lss v5 x2).bnd fun x3 =>
 condB x3 (
 (idxAB v0 v5 2).bnd fun x6 =>
 (fieldAB x6 0).bnd fun x7 =>
 (loadV 1 false x7 h).bnd fun x8 =>
 (idxAB v1 v5 2).bnd fun x11 =>
 (fieldAB x11 0).bnd fun x12 =>
 (loadV 1 false x12 h).bnd fun x13 =>
 bnd2 (CallA T base 30 [x8, x13] h) fun x14 h15 =>
 (unOp .not x14).bnd fun x16 =>
 (wantB x16 false).bnd fun b19 => (whenB b19 (some v0) (some .undef)).bnd fun x18 =>
 (wantB x16 false).bnd fun b23 => (whenB b23 (some v5) (some .undef)).bnd fun x22 =>
 (wantB x16 false).bnd fun b27 => (whenB b27 ((idxAB x18 x22 2).bnd some) (some .undef)).bnd fun x26 =>
 (wantB x16 false).bnd fun b31 => (whenB b31 ((fieldAB x26 1).bnd some) (some .undef)).bnd fun x30 =>
 (wantB x16 false).bnd fun b35 => (whenB b35 ((loadV 1 false x30 h15).bnd some) (some .undef)).bnd fun x34 =>
 (wantB x16 false).bnd fun b39 => (whenB b39 (some v1) (some .undef)).bnd fun x38 =>
 (wantB x16 false).bnd fun b43 => (whenB b43 (some v5) (some .undef)).bnd fun x42 =>
 (wantB x16 false).bnd fun b47 => (whenB b47 ((idxAB x38 x42 2).bnd some) (some .undef)).bnd fun x46 =>
 (wantB x16 false).bnd fun b51 => (whenB b51 ((fieldAB x46 1).bnd some) (some .undef)).bnd fun x50 =>
 (wantB x16 false).bnd fun b55 => (whenB b55 ((loadV 1 false x50 h15).bnd some) (some .undef)).bnd fun x54 =>
 (wantB x16 false).bnd fun b59 => bnd2 (whenB b59 (bnd2 (CallA T base 31 [x34, x54] h15) fun x61 h60 => some (x61, h60)) (some (.undef, h15))) fun x58 h60 =>
 (wantB x16 false).bnd fun b63 => (whenB b63 ((unOp .not x58).bnd some) (some .undef)).bnd fun x62 =>
 (condB x16 (some (.bool true)) (some x62)).bnd fun x66 =>
 condB x66 (
 finV false false n0 [(.bool false)] h60) (
 (binOp .add v5 (.int .i64 1)).bnd fun x69 =>
 P14_0 base n0 x69 v1 v0 h60)) (
 finV false false n0 [(.bool true)] h) := (Pt_eq T F14 [1, 1, 0, 1, 0, 1] base n0 [(5, v5), (1, v1), (0, v0)] h).trans (by kernel_rfl)
theorem S14 (base : Nat) (a0 a1 : PV) (h : Hp) : CallA T base 14 [a0, a1] h =
 (lenB false a0).bnd fun x2 =>
 (lenB false a1).bnd fun x4 =>
 (binOp .neq x2 x4).bnd fun x5 =>
 condB x5 (
 finV false false (size h) [(.bool false)] h) (
 P14_0 (size h) (size h) (.int .i64 0) a1 a0 h) := (Pt_enter T_14 base _ h).trans (by kernel_rfl)
noncomputable def P15_0 (base n0 : Nat) (v3 v0 : PV) (h : Hp) : Option (PV × Hp) := Pt T F15 [1, 0, 1, 0, 1] base n0 [(3, v3), (0, v0)] h
theorem P15_0_eq (base n0 : Nat) (v3 v0 : PV) (h : Hp) : P15_0 base n0 v3 v0 h =
 (lenB true v0).bnd fun x2 =>
 (binOp .lss v3 x2).bnd fun x3 =>
 condB x3 (
 (idxStrB v0 v3).bnd fun x6 =>
 bnd2 (CallA T base 32 [x6] h) fun x7 h8 =>
 (unOp .not x7).bnd fun x9 =>
 condB x9 (
 finV false false n0 [(.bool false)] h8) (
 (binOp .add v3 (.int .i64 1)).bnd fun x12 =>
 P15_0 base n0 x12 v0 h8)) (
 (lenB true v0).bnd fun x15 =>
 (binOp .gtr x15 (.int .i64 0)).bnd fun x16 =>
 finV false false n0 [x16] h) := (Pt_eq T F15 [1, 0, 1, 0, 1] base n0 [(3, v3), (0, v0)] h).trans (by kernel_rfl)
theorem S15 (base : Nat) (a0 : PV) (h : Hp) : CallA T base 15 [a0] h =
 P15_0 (size h) (size h) (.int .i64 0) a0 h := (Pt_enter T_15 base _ h).trans (by kernel_rfl)
theorem S16 (base : Nat) (a0 a1 : PV) (h : Hp) : CallA T base 16 [a0, a1] h =
 bnd2 (CallA T (size h) 33 [a0, a1, (.fn 34 [])] h) fun x3 h4 =>
 finV false false (size h) [x3] h4 := (Pt_enter T_16 base _ h).trans (by kernel_rfl)
noncomputable def P17_0 (base n0 : Nat) (v14 v3 v12 v13 : PV) (h : Hp) : Option (PV × Hp) := Pt T F17 [1, 1, 0, 1, 0, 1] base n0 [(14, v14), (3, v3), (12, v12), (13, v13)] h
theorem P17_0_eq (base n0 : Nat) (v14 v3 v12 v13 : PV) (h : Hp) : P17_0 base n0 v14 v3 v12 v13 h =
 (binOp .lss v14 v13).bnd fun x0 =>
 condB x0 (
 (idxAB v12 v14 3).bnd fun x1 =>
 (loadV 3 true x1 h).bnd fun x2 =>
 allocK [(.str []), (.str []), (.bool false)] h fun x3 h4 =>
 (storeV base 3 x3 x2 h4).bnd fun h5 =>
 (fieldAB x3 0).bnd fun x7 =>
 (loadV 1 false x7 h5).bnd fun x8 =>
 (binOp .add (.str [59]) x8).bnd fun x9 =>
 (binOp .add v3 x9).bnd fun x10 =>
 (fieldAB x3 2).bnd fun x12 =>
 (loadV 1 false x12 h5).bnd fun x13 =>
 (unOp .not x13).bnd fun x14 =>
 condB x14 (
 (fieldAB x3 1).bnd fun x16 =>
 (loadV 1 false x16 h5).bnd fun x17 =>
 bnd2 (CallA T base 38 [x17] h5) fun x18 h19 =>
 (binOp .add (.str [61]) x18).bnd fun x20 =>
 (binOp .add x10 x20).bnd fun x21 =>
 (binOp .add v14 (.int .i64 1)).bnd fun x23 =>
 P17_0 base n0 x23 x21 v12 v13 h19) (
 (binOp .add v14 (.int .i64 1)).bnd fun x25 =>
 P17_0 base n0 x25 x10 v12 v13 h5)) (
 finV false false n0 [v3] h) := (Pt_eq T F17 [1, 1, 0, 1, 0, 1] base n0 [(14, v14), (3, v3), (12, v12), (13, v13)] h).trans (by kernel_rfl)
theorem S17 (base : Nat) (a0 : PV) (h : Hp) : CallA T base 17 [a0] h =
 bnd2 (boxV 2 a0 h) fun x0 h1 =>
 (fieldAB x0 0).bnd fun x3 =>
 (loadV 1 false x3 h1).bnd fun x4 =>
 bnd2 (CallA T (size h) 37 [x4] h1) fun x5 h6 =>
 (binOp .add (.str [60]) x5).bnd fun x7 =>
 (binOp .add x7 (.str [62])).bnd fun x8 =>
 (fieldAB x0 1).bnd fun x10 =>
 (loadV 1 false x10 h6).bnd fun x11 =>
 (lenB false x11).bnd fun x12 =>
 P17_0 (size h) (size h) (.int .i64 0) x8 x11 x12 h6 := (Pt_enter T_17 base _ h).trans (by kernel_rfl)
noncomputable def P19_0 (base n0 : Nat) (v4 v0 v3 : PV) (h : Hp) : Option (PV × Hp) := Pt T F19 [1, 1, 1, 0, 1, 0, 1] base n0 [(4, v4), (0, v0), (3, v3)] h
theorem P19_0_eq (base n0 : Nat) (v4 v0 v3 : PV) (h : Hp) : P19_0 base n0 v4 v0 v3 h =
 (lenB false v0).bnd fun x2 =>
 (binOp .lss v4 x2).bnd fun x3 =>
 condB x3 (
 (binOp .add v3 (.str [47])).bnd fun x5 =>
 (idxAB v0 v4 1).bnd fun x8 =>
 (loadV 1 false x8 h).bnd fun x9 =>
 bnd2 (CallA T base 42 [x9] h) fun x10 h11 =>
 (binOp .add x5 x10).bnd fun x12 =>
 (binOp .add v4 (.int .i64 1)).bnd fun x15 =>
 P19_0 base n0 x15 v0 x12 h11) (
 (binOp .eql v3 (.str [])).bnd fun x18 =>
 condB x18 (
 finV false false n0 [(.str [47])] h) (
 finV false false n0 [v3] h)) := (Pt_eq T F19 [1, 1, 1, 0, 1, 0, 1] base n0 [(4, v4), (0, v0), (3, v3)] h).trans (by kernel_rfl)
theorem S19 (base : Nat) (a0 : PV) (h : Hp) : CallA T base 19 [a0] h =
 bnd2 (CallA T (size h) 23 [a0] h) fun x2 h3 =>
 (unOp .not x2).bnd fun x4 =>
 condB x4 (
 finV false false (size h) [(.str [])] h3) (
 P19_0 (size h) (size h) (.int .i64 0) a0 (.str []) h3) := (Pt_enter T_19 base _ h).trans (by kernel_rfl)
theorem S20 (base : Nat) (a0 a1 : PV) (h : Hp) : CallA T base 20 [a0, a1] h =
 bnd2 (CallA T (size h) 43 [a0, a1] h) fun x3 h4 =>
 (binOp .geq x3 (.int .i64 0)).bnd fun x5 =>
 finV false false (size h) [x5] h4 := (Pt_enter T_20 base _ h).trans (by kernel_rfl)
theorem S21 (base : Nat) (a0 : PV) (h : Hp) : CallA T base 21 [a0] h =
 bnd2 (boxV 2 a0 h) fun x0 h1 =>
 (loadV 2 true x0 h1).bnd fun x3 =>
 bnd2 (CallA T (size h) 22 [x3] h1) fun x4 h5 =>
 (unOp .not x4).bnd fun x6 =>
 finV false false (size h) [x6] h5 := (Pt_enter T_21 base _ h).trans (by kernel_rfl)
theorem S22 (base : Nat) (a0 : PV) (h : Hp) : CallA T base 22 [a0] h =
 bnd2 (boxV 2 a0 h) fun x0 h1 =>
 (fieldAB x0 1).bnd fun x3 =>
 (loadV 1 false x3 h1).bnd fun x4 =>
 bnd2 (CallA T (size h) 44 [x4, (.fn 45 [])] h1) fun x5 h6 =>
 (fieldAB x0 0).bnd fun x8 =>
 (loadV 1 false x8 h6).bnd fun x9 =>
 bnd2 (CallA T (size h) 47 [x9] h6) fun x10 h11 =>
 (wantB x10 true).bnd fun b14 => (whenB b14 ((fieldAB x0 1).bnd some) (some .undef)).bnd fun x13 =>
 (wantB x10 true).bnd fun b18 => (whenB b18 ((loadV 1 false x13 h11).bnd some) (some .undef)).bnd fun x17 =>
 (wantB x10 true).bnd fun b22 => (whenB b22 ((lenB false x17).bnd some) (some .undef)).bnd fun x21 =>
 (wantB x10 true).bnd fun b26 => (whenB b26 ((binOp .leq x21 (.int .i64 8)).bnd some) (some .undef)).bnd fun x25 =>
 (condB x10 (some x25) (some (.bool false))).bnd fun x29 =>
 (wantB x29 true).bnd fun b32 => (whenB b32 (some x5) (some .undef)).bnd fun x31 =>
 (wantB x29 true).bnd fun b36 => (whenB b36 ((unOp .not x31).bnd some) (some .undef)).bnd fun x35 =>
 (condB x29 (some x35) (some (.bool false))).bnd fun x39 =>
 finV false false (size h) [x39] h11 := (Pt_enter T_22 base _ h).trans (by kernel_rfl)
noncomputable def P23_0 (base n0 : Nat) (v3 v0 : PV) (h : Hp) : Option (PV × Hp) := Pt T F23 [1, 1, 0, 1, 0, 1] base n0 [(3, v3), (0, v0)] h
theorem P23_0_eq (base n0 : Nat) (v3 v0 : PV) (h : Hp) : P23_0 base n0 v3 v0 h =
 (lenB false v0).bnd fun x2 =>
 (binOp .lss v3 x2).bnd fun x3 =>
 condB x3 (
 (idxAB v0 v3 1).bnd fun x6 =>
 (loadV 1 false x6 h).bnd fun x7 =>
 (binOp .lss x7 (.int .i64 0)).bnd fun x8 =>
 (wantB x8 false).bnd fun b11 => (whenB b11 (some v0) (some .undef)).bnd fun x10 =>
 (wantB x8 false).bnd fun b15 => (whenB b15 (some v3) (some .undef)).bnd fun x14 =>
 (wantB x8 false).bnd fun b19 => (whenB b19 ((idxAB x10 x14 1).bnd some) (some .undef)).bnd fun x18 =>
 (wantB x8 false).bnd fun b23 => (whenB b23 ((loadV 1 false x18 h).bnd some) (some .undef)).bnd fun x22 =>
 (wantB x8 false).bnd fun b27 => (whenB b27 ((binOp .gtr x22 (.int .i64 65535)).bnd some) (some .undef)).bnd fun x26 =>
 (condB x8 (some (.bool true)) (some x26)).bnd fun x30 =>
 condB x30 (
 finV false false n0 [(.bool false)] h) (
 (binOp .add v3 (.int .i64 1)).bnd fun x33 =>
 P23_0 base n0 x33 v0 h)) (
 finV false false n0 [(.bool true)] h) := (Pt_eq T F23 [1, 1, 0, 1, 0, 1] base n0 [(3, v3), (0, v0)] h).trans (by kernel_rfl)
theorem S23 (base : Nat) (a0 : PV) (h : Hp) : CallA T base 23 [a0] h =
 (lenB false a0).bnd fun x2 =>
 (binOp .gtr x2 (.int .i64 3)).bnd fun x3 =>
 condB x3 (
 finV false false (size h) [(.bool false)] h) (
 P23_0 (size h) (size h) (.int .i64 0) a0 h) := (Pt_enter T_23 base _ h).trans (by kernel_rfl)
noncomputable def P24_0 (base n0 : Nat) (v3 v0 : PV) (h : Hp) : Option (PV × Hp) := Pt T F24 [1, 0, 1, 0, 1] base n0 [(3, v3), (0, v0)] h
theorem P24_0_eq (base n0 : Nat) (v3 v0 : PV) (h : Hp) : P24_0 base n0 v3 v0 h =
 (lenB true v0).bnd fun x2 =>
 (binOp .lss v3 x2).bnd fun x3 =>
 condB x3 (
 (idxStrB v0 v3).bnd fun x6 =>
 bnd2 (CallA T base 48 [x6] h) fun x7 h8 =>
 (unOp .not x7).bnd fun x9 =>
 condB x9 (
 finV false false n0 [(.bool false)] h8) (
 (binOp .add v3 (.int .i64 1)).bnd fun x12 =>
 P24_0 base n0 x12 v0 h8)) (
 (lenB true v0).bnd fun x15 =>
 (binOp .geq x15 (.int .i64 1)).bnd fun x16 =>
 (wantB x16 true).bnd fun b19 => (whenB b19 (some v0) (some .undef)).bnd fun x18 =>
 (wantB x16 true).bnd fun b23 => (whenB b23 ((lenB true x18).bnd some) (some .undef)).bnd fun x22 =>
 (wantB x16 true).bnd fun b27 => (whenB b27 ((binOp .leq x22 (.int .i64 16)).bnd some) (some .undef)).bnd fun x26 =>
 (condB x16 (some x26) (some (.bool false))).bnd fun x30 =>
 finV false false n0 [x30] h) := (Pt_eq T F24 [1, 0, 1, 0, 1] base n0 [(3, v3), (0, v0)] h).trans (by kernel_rfl)
theorem S24 (base : Nat) (a0 : PV) (h : Hp) : CallA T base 24 [a0] h =
 P24_0 (size h) (size h) (.int .i64 0) a0 h := (Pt_enter T_24 base _ h).trans (by kernel_rfl)
noncomputable def P25_0 (base n0 : Nat) (v3 v0 : PV) (h : Hp) : Option (PV × Hp) := Pt T F25 [1, 0, 1, 0, 1] base n0 [(3, v3), (0, v0)] h
theorem P25_0_eq (base n0 : Nat) (v3 v0 : PV) (h : Hp) : P25_0 base n0 v3 v0 h =
 (lenB true v0).bnd fun x2 =>
 (binOp .lss v3 x2).bnd fun x3 =>
 condB x3 (
 (idxStrB v0 v3).bnd fun x6 =>
 bnd2 (CallA T base 49 [x6] h) fun x7 h8 =>
 (unOp .not x7).bnd fun x9 =>
 condB x9 (
 finV false false n0 [(.bool false)] h8) (
 (binOp .add v3 (.int .i64 1)).bnd fun x12 =>
 P25_0 base n0 x12 v0 h8)) (
 (lenB true v0).bnd fun x15 =>
 (binOp .leq x15 (.int .i64 60)).bnd fun x16 =>
 finV false false n0 [x16] h) := (Pt_eq T F25 [1, 0, 1, 0, 1] base n0 [(3, v3), (0, v0)] h).trans (by kernel_rfl)
theorem S25 (base : Nat) (a0 : PV) (h : Hp) : CallA T base 25 [a0] h =
 P25_0 (size h) (size h) (.int .i64 0) a0 h := (Pt_enter T_25 base _ h).trans (by kernel_rfl)
noncomputable def P26_0 (base n0 : Nat) (v2 v6 v0 v5 : PV) (h : Hp) : Option (PV × Hp) := Pt T F26 [1, 1, 1, 0, 0, 1] base n0 [(2, v2), (6, v6), (0, v0), (5, v5)] h
theorem P26_0_eq (base n0 : Nat) (v2 v6 v0 v5 : PV) (h : Hp) : P26_0 base n0 v2 v6 v0 v5 h =
 (wantB v5 true).bnd fun b3 => (whenB b3 (some v0) (some .undef)).bnd fun x2 =>
 (wantB v5 true).bnd fun b7 => bnd2 (whenB b7 (bnd2 (CallA T base 27 [x2, (.str [59])] h) fun x9 h8 => some (x9, h8)) (some (.undef, h))) fun x6 h8 =>
 (condB v5 (some x6) (some (.bool false))).bnd fun x10 =>
 condB x10 (
 (fieldAB v6 1).bnd fun x11 =>
 (loadV 1 false x11 h8).bnd fun x12 =>
 (lenB false x12).bnd fun x13 =>
 (binOp .eql x13 (.int .i64 8)).bnd fun x14 =>
 condB x14 (
 (loadV 2 true v6 h8).bnd fun x15 =>
 (storeV base 2 v2 x15 h8).bnd fun h16 =>
 (resB v2 h16 2 true).bnd fun r18 =>
 finV false false n0 [r18, (.bool false)] h16) (
 allocK [(.str []), (.str []), (.bool false)] h8 fun x19 h20 =>
 bnd2 (CallA T base 51 [v0] h20) fun x22 h23 =>
 (extractB x22 0).bnd fun x25 =>
 (extractB x22 1).bnd fun x26 =>
 (storeV base 3 x19 x25 h23).bnd fun h27 =>
 (fieldAB v6 1).bnd fun x29 =>
 (loadV 1 false x29 h27).bnd fun x30 =>
 (loadV 3 true x19 h27).bnd fun x31 =>
 (buildSlV 3 true [(.str []), (.str []), (.bool false)] 1 [(0, strip x31)]).bnd fun x32 =>
 bnd2 (appTV 38 3 x30 x32 h27) fun x33 h34 =>
 (fieldAB v6 1).bnd fun x35 =>
 (storeV base 1 x35 x33 h34).bnd fun h36 =>
 P26_0 base n0 v2 v6 v0 x26 h36)) (
 (loadV 2 true v6 h8).bnd fun x37 =>
 (storeV base 2 v2 x37 h8).bnd fun h39 =>
 (resB v2 h39 2 true).bnd fun r41 =>
 finV false false n0 [r41, v5] h39) := (Pt_eq T F26 [1, 1, 1, 0, 0, 1] base n0 [(2, v2), (6, v6), (0, v0), (5, v5)] h).trans (by kernel_rfl)
theorem S26 (base : Nat) (a0 : PV) (h : Hp) : CallA T base 26 [a0] h =
 allocK [.nils, .nils] h fun x0 h1 =>
 bnd2 (CallA T (size h) 50 [a0] h1) fun x4 h5 =>
 (extractB x4 0).bnd fun x7 =>
 (extractB x4 1).bnd fun x8 =>
 (buildV [.nils, .nils] [(0, 1, x7)]).bnd fun x12 =>
 allocK [.nils, .nils] h5 fun x13 h14 =>
 (storeV (size h) 2 x13 x12 h14).bnd fun h15 =>
 P26_0 (size h) (size h) x0 x13 a0 x8 h15 := (Pt_enter T_26 base _ h).trans (by kernel_rfl)
theorem S27 (base : Nat) (a0 a1 : PV) (h : Hp) : CallA T base 27 [a0, a1] h =
 (nilckV a0).bnd fun x2 =>
 (fieldAB x2 0).bnd fun x3 =>
 (loadV 1 false x3 h).bnd fun x4 =>
 bnd2 (CallA T (size h) 52 [x4, a1] h) fun x6 h7 =>
 (extractB x6 0).bnd fun x9 =>
 (extractB x6 1).bnd fun x10 =>
 condB x10 (
 (nilckV a0).bnd fun x16 =>
 (fieldAB x16 0).bnd fun x17 =>
 (storeV (size h) 1 x17 x9 h7).bnd fun h18 =>
 finV false false (size h) [x10] h18) (
 finV false false (size h) [x10] h7) := (Pt_enter T_27 base _ h).trans (by kernel_rfl)
noncomputable def P28_0 (base n0 : Nat) (v6 v5 v0 v4 : PV) (h : Hp) : Option (PV × Hp) := Pt T F28 [1, 1, 1, 1, 1, 0, 1, 0, 1] base n0 [(6, v6), (5, v5), (0, v0), (4, v4)] h
theorem P28_0_eq (base n0 : Nat) (v6 v5 v0 v4 : PV) (h : Hp) : P28_0 base n0 v6 v5 v0 v4 h =
 (lenB true v0).bnd fun x2 =>
 (binOp .leq v6 x2).bnd fun x3 =>
 condB x3 (
 (lenB true v0).bnd fun x6 =>
 (binOp .eql v6 x6).bnd fun x7 =>
 (wantB x7 false).bnd fun b10 => (whenB b10 (some v0) (some .undef)).bnd fun x9 =>
 (wantB x7 false).bnd fun b14 => (whenB b14 (some v6) (some .undef)).bnd fun x13 =>
 (wantB x7 false).bnd fun b18 => (whenB b18 ((idxStrB x9 x13).bnd some) (some .undef)).bnd fun x17 =>
 (wantB x7 false).bnd fun b22 => (whenB b22 ((binOp .eql x17 (.int .u8 47)).bnd some) (some .undef)).bnd fun x21 =>
 (condB x7 (some (.bool true)) (some x21)).bnd fun x25 =>
 condB x25 (
 (sliceV none (some v5) (some v6) none v0).bnd fun x30 =>
 (buildSlV 1 false [(.str [])] 1 [(0, strip x30)]).bnd fun x31 =>
 bnd2 (appTV 9 1 v4 x31 h) fun x32 h33 =>
 (binOp .add v6 (.int .i64 1)).bnd fun x36 =>
 (binOp .add v6 (.int .i64 1)).bnd fun x39 =>
 P28_0 base n0 x39 x36 v0 x32 h33) (
 (binOp .add v6 (.int .i64 1)).bnd fun x42 =>
 P28_0 base n0 x42 v5 v0 v4 h)) (
 bnd2 (CallA T base 53 [v4] h) fun x45 h46 =>
 (extractB x45 0).bnd fun x48 =>
 (extractB x45 1).bnd fun x49 =>
 (binOp .neq x49 (.int .i64 0)).bnd fun x53 =>
 condB x53 (
 finV false false n0 [.nils, (.int .i64 20)] h46) (
 finV false false n0 [x48, (.int .i64 0)] h46)) := (Pt_eq T F28 [1, 1, 1, 1, 1, 0, 1, 0, 1] base n0 [(6, v6), (5, v5), (0, v0), (4, v4)] h).trans (by kernel_rfl)
theorem S28 (base : Nat) (a0 : PV) (h : Hp) : CallA T base 28 [a0] h =
 (binOp .eql a0 (.str [47])).bnd fun x3 =>
 condB x3 (
 (buildSlV 1 false [(.int .i64 0)] 0 []).bnd fun x4 =>
 finV false false (size h) [x4, (.int .i64 0)] h) (
 (binOp .eql a0 (.str [])).bnd fun x8 =>
 (wantB x8 false).bnd fun b11 => (whenB b11 (some a0) (some .undef)).bnd fun x10 =>
 (wantB x8 false).bnd fun b15 => (whenB b15 ((idxStrB x10 (.int .i64 0)).bnd some) (some .undef)).bnd fun x14 =>
 (wantB x8 false).bnd fun b19 => (whenB b19 ((binOp .neq x14 (.int .u8 47)).bnd some) (some .undef)).bnd fun x18 =>
 (condB x8 (some (.bool true)) (some x18)).bnd fun x22 =>
 condB x22 (
 finV false false (size h) [.nils, (.int .i64 20)] h) (
 (buildSlV 1 false [(.str [])] 0 []).bnd fun x25 =>
 P28_0 (size h) (size h) (.int .i64 1) (.int .i64 1) a0 x25 h)) := (Pt_enter T_28 base _ h).trans (by kernel_rfl)
noncomputable def P29_0 (base n0 : Nat) (v1 v4 v0 v7 : PV) (h : Hp) : Option (PV × Hp) := Pt T F29 [1, 1, 0, 0, 1] base n0 [(1, v1), (4, v4), (0, v0), (7, v7)] h
noncomputable def P29_1 (base n0 : Nat) (v1 v4 v8 v0 v7 : PV) (h : Hp) : Option (PV × Hp) := Pt T F29 [1, 1, 1, 1, 1, 1, 1, 0, 1, 0, 1, 1, 0, 0, 1] base n0 [(1, v1), (4, v4), (8, v8), (0, v0), (7, v7)] h
noncomputable def P29_2 (base n0 : Nat) (v1 v4 v8 v7 v0 : PV) (h : Hp) : Option (PV × Hp) := Pt T F29 [1, 1, 1, 1, 1, 1, 1, 1, 1, 0, 0, 1] base n0 [(1, v1), (4, v4), (8, v8), (7, v7), (0, v0)] h
theorem P29_0_eq (base n0 : Nat) (v1 v4 v0 v7 : PV) (h : Hp) : P29_0 base n0 v1 v4 v0 v7 h =
 (lenB true v0).bnd fun x2 =>
 (binOp .lss v1 x2).bnd fun x3 =>
 (wantB x3 true).bnd fun b6 => (whenB b6 (some v0) (some .undef)).bnd fun x5 =>
 (wantB x3 true).bnd fun b10 => (whenB b10 (some v1) (some .undef)).bnd fun x9 =>
 (wantB x3 true).bnd fun b14 => (whenB b14 ((idxStrB x5 x9).bnd some) (some .undef)).bnd fun x13 =>
 (wantB x3 true).bnd fun b18 => bnd2 (whenB b18 (bnd2 (CallA T base 48 [x13] h) fun x20 h19 => some (x20, h19)) (some (.undef, h))) fun x17 h19 =>
 (condB x3 (some x17) (some (.bool false))).bnd fun x21 =>
 condB x21 (
 (binOp .add v1 (.int .i64 1)).bnd fun x23 =>
 P29_0 base n0 x23 v4 v0 v7 h19) (
 (sliceV none (some v7) (some v1) none v0).bnd fun x28 =>
 (buildV [(.str []), (.str []), (.bool false)] [(0, 1, x28), (2, 1, (.bool true))]).bnd fun x29 =>
 allocK [(.str []), (.str []), (.bool false)] h19 fun x30 h31 =>
 (storeV base 3 x30 x29 h31).bnd fun h32 =>
 (fieldAB x30 0).bnd fun x33 =>
 (loadV 1 false x33 h32).bnd fun x34 =>
 bnd2 (CallA T base 24 [x34] h32) fun x35 h36 =>
 (unOp .not x35).bnd fun x37 =>
 (wantB x37 false).bnd fun b40 => (whenB b40 (some v1) (some .undef)).bnd fun x39 =>
 (wantB x37 false).bnd fun b44 => (whenB b44 (some v0) (some .undef)).bnd fun x43 =>
 (wantB x37 false).bnd fun b48 => (whenB b48 ((lenB true x43).bnd some) (some .undef)).bnd fun x47 =>
 (wantB x37 false).bnd fun b52 => (whenB b52 ((binOp .eql x39 x47).bnd some) (some .undef)).bnd fun x51 =>
 (condB x37 (some (.bool true)) (some x51)).bnd fun x55 =>
 (wantB x55 false).bnd fun b58 => (whenB b58 (some v0) (some .undef)).bnd fun x57 =>
 (wantB x55 false).bnd fun b62 => (whenB b62 (some v1) (some .undef)).bnd fun x61 =>
 (wantB x55 false).bnd fun b66 => (whenB b66 ((idxStrB x57 x61).bnd some) (some .undef)).bnd fun x65 =>
 (wantB x55 false).bnd fun b70 => (whenB b70 ((binOp .neq x65 (.int .u8 61)).bnd some) (some .undef)).bnd fun x69 =>
 (condB x55 (some (.bool true)) (some x69)).bnd fun x73 =>
 condB x73 (
 (loadV 3 true x30 h36).bnd fun x74 =>
 (fieldAB x30 0).bnd fun x76 =>
 (loadV 1 false x76 h36).bnd fun x77 =>
 bnd2 (orcQ (CallA T base) 24 [x77] h36) fun x78 h79 => (fun y => if h79 = h36 then y else none) <|
 (storeV base 3 v4 x74 h36).bnd fun h80 =>
 (resB v4 h80 3 true).bnd fun r83 =>
 finV false false n0 [r83, v1, x78] h80) (
 (fieldAB x30 2).bnd fun x84 =>
 (storeV base 1 x84 (.bool false) h36).bnd fun h85 =>
 (binOp .add v1 (.int .i64 1)).bnd fun x87 =>
 (lenB true v0).bnd fun x91 =>
 (binOp .lss x87 x91).bnd fun x92 =>
 (wantB x92 true).bnd fun b95 => (whenB b95 (some v0) (some .undef)).bnd fun x94 =>
 (wantB x92 true).bnd fun b99 => (whenB b99 (some x87) (some .undef)).bnd fun x98 =>
 (wantB x92 true).bnd fun b103 => (whenB b103 ((idxStrB x94 x98).bnd some) (some .undef)).bnd fun x102 =>
 (wantB x92 true).bnd fun b107 => (whenB b107 ((binOp .eql x102 (.int .u8 34)).bnd some) (some .undef)).bnd fun x106 =>
 (condB x92 (some x106) (some (.bool false))).bnd fun x110 =>
 condB x110 (
 (binOp .add x87 (.int .i64 1)).bnd fun x112 =>
 P29_1 base n0 x112 v4 x30 v0 x112 h85) (
 P29_2 base n0 x87 v4 x30 x87 v0 h85))) := (Pt_eq T F29 [1, 1, 0, 0, 1] base n0 [(1, v1), (4, v4), (0, v0), (7, v7)] h).trans (by kernel_rfl)
theorem P29_1_eq (base n0 : Nat) (v1 v4 v8 v0 v7 : PV) (h : Hp) : P29_1 base n0 v1 v4 v8 v0 v7 h =
 (lenB true v0).bnd fun x2 =>
 (binOp .lss v1 x2).bnd fun x3 =>
 (wantB x3 true).bnd fun b6 => (whenB b6 (some v0) (some .undef)).bnd fun x5 =>
 (wantB x3 true).bnd fun b10 => (whenB b10 (some v1) (some .undef)).bnd fun x9 =>
 (wantB x3 true).bnd fun b14 => (whenB b14 ((idxStrB x5 x9).bnd some) (some .undef)).bnd fun x13 =>
 (wantB x3 true).bnd fun b18 => bnd2 (whenB b18 (bnd2 (CallA T base 49 [x13] h) fun x20 h19 => some (x20, h19)) (some (.undef, h))) fun x17 h19 =>
 (condB x3 (some x17) (some (.bool false))).bnd fun x21 =>
 condB x21 (
 (binOp .add v1 (.int .i64 1)).bnd fun x23 =>
 P29_1 base n0 x23 v4 v8 v0 v7 h19) (
 (sliceV none (some v7) (some v1) none v0).bnd fun x28 =>
 (fieldAB v8 1).bnd fun x29 =>
 (storeV base 1 x29 x28 h19).bnd fun h30 =>
 (loadV 3 true v8 h30).bnd fun x31 =>
 (binOp .add v1 (.int .i64 1)).bnd fun x33 =>
 (lenB true v0).bnd fun x36 =>
 (binOp .lss v1 x36).bnd fun x37 =>
 (wantB x37 true).bnd fun b40 => (whenB b40 (some v0) (some .undef)).bnd fun x39 =>
 (wantB x37 true).bnd fun b44 => (whenB b44 (some v1) (some .undef)).bnd fun x43 =>
 (wantB x37 true).bnd fun b48 => (whenB b48 ((idxStrB x39 x43).bnd some) (some .undef)).bnd fun x47 =>
 (wantB x37 true).bnd fun b52 => (whenB b52 ((binOp .eql x47 (.int .u8 34)).bnd some) (some .undef)).bnd fun x51 =>
 (condB x37 (some x51) (some (.bool false))).bnd fun x55 =>
 (wantB x55 true).bnd fun b58 => (whenB b58 ((fieldAB v8 1).bnd some) (some .undef)).bnd fun x57 =>
 (wantB x55 true).bnd fun b62 => (whenB b62 ((loadV 1 false x57 h30).bnd some) (some .undef)).bnd fun x61 =>
 (wantB x55 true).bnd fun b66 => bnd2 (whenB b66 (bnd2 (orcQ (CallA T base) 25 [x61] h30) fun x68 h67 => (fun y => if h67 = h30 then y else none) <| some (x68, h30)) (some (.undef, h30))) fun x65 h67 =>
 (condB x55 (some x65) (some (.bool false))).bnd fun x69 =>
 (storeV base 3 v4 x31 h67).bnd fun h70 =>
 (resB v4 h70 3 true).bnd fun r73 =>
 finV false false n0 [r73, x33, x69] h70) := (Pt_eq T F29 [1, 1, 1, 1, 1, 1, 1, 0, 1, 0, 1, 1, 0, 0, 1] base n0 [(1, v1), (4, v4), (8, v8), (0, v0), (7, v7)] h).trans (by kernel_rfl)
theorem P29_2_eq (base n0 : Nat) (v1 v4 v8 v7 v0 : PV) (h : Hp) : P29_2 base n0 v1 v4 v8 v7 v0 h =
 (lenB true v0).bnd fun x2 =>
 (binOp .lss v1 x2).bnd fun x3 =>
 (wantB x3 true).bnd fun b6 => (whenB b6 (some v0) (some .undef)).bnd fun x5 =>
 (wantB x3 true).bnd fun b10 => (whenB b10 (some v1) (some .undef)).bnd fun x9 =>
 (wantB x3 true).bnd fun b14 => (whenB b14 ((idxStrB x5 x9).bnd some) (some .undef)).bnd fun x13 =>
 (wantB x3 true).bnd fun b18 => bnd2 (whenB b18 (bnd2 (CallA T base 32 [x13] h) fun x20 h19 => some (x20, h19)) (some (.undef, h))) fun x17 h19 =>
 (condB x3 (some x17) (some (.bool false))).bnd fun x21 =>
 condB x21 (
 (binOp .add v1 (.int .i64 1)).bnd fun x23 =>
 P29_2 base n0 x23 v4 v8 v7 v0 h19) (
 (sliceV none (some v7) (some v1) none v0).bnd fun x28 =>
 (fieldAB v8 1).bnd fun x29 =>
 (storeV base 1 x29 x28 h19).bnd fun h30 =>
 (loadV 3 true v8 h30).bnd fun x31 =>
 (fieldAB v8 1).bnd fun x33 =>
 (loadV 1 false x33 h30).bnd fun x34 =>
 bnd2 (orcQ (CallA T base) 15 [x34] h30) fun x35 h36 => (fun y => if h36 = h30 then y else none) <|
 (wantB x35 true).bnd fun b39 => (whenB b39 ((fieldAB v8 1).bnd some) (some .undef)).bnd fun x38 =>
 (wantB x35 true).bnd fun b43 => (whenB b43 ((loadV 1 false x38 h30).bnd some) (some .undef)).bnd fun x42 =>
 (wantB x35 true).bnd fun b47 => bnd2 (whenB b47 (bnd2 (orcQ (CallA T base) 25 [x42] h30) fun x49 h48 => (fun y => if h48 = h30 then y else none) <| some (x49, h30)) (some (.undef, h30))) fun x46 h48 =>
 (condB x35 (some x46) (some (.bool false))).bnd fun x50 =>
 (storeV base 3 v4 x31 h48).bnd fun h51 =>
 (resB v4 h51 3 true).bnd fun r54 =>
 finV false false n0 [r54, v1, x50] h51) := (Pt_eq T F29 [1, 1, 1, 1, 1, 1, 1, 1, 1, 0, 0, 1] base n0 [(1, v1), (4, v4), (8, v8), (7, v7), (0, v0)] h).trans (by kernel_rfl)
theorem S29 (base : Nat) (a0 a1 : PV) (h : Hp) : CallA T base 29 [a0, a1] h =
 allocK [(.str []), (.str []), (.bool false)] h fun x0 h1 =>
 P29_0 (size h) (size h) a1 x0 a0 a1 h1 := (Pt_enter T_29 base _ h).trans (by kernel_rfl)
noncomputable def P30_0 (base n0 : Nat) (v5 v1 v0 : PV) (h : Hp) : Option (PV × Hp) := Pt T F30 [1, 1, 0, 1, 0, 1] base n0 [(5, v5), (1, v1), (0, v0)] h
theorem P30_0_eq (base n0 : Nat) (v5 v1 v0 : PV) (h : Hp) : P30_0 base n0 v5 v1 v0 h =
 (lenB false v0).bnd fun x2 =>
 (binOp .lss v5 x2).bnd fun x3 =>
 condB x3 (
 (idxAB v0 v5 1).bnd fun x6 =>
 (loadV 1 false x6 h).bnd fun x7 =>
 (idxAB v1 v5 1).bnd fun x10 =>
 (loadV 1 false x10 h).bnd fun x11 =>
 (binOp .neq x7 x11).bnd fun x12 =>
 condB x12 (
 finV false false n0 [(.bool false)] h) (
 (binOp .add v5 (.int .i64 1)).bnd fun x15 =>
 P30_0 base n0 x15 v1 v0 h)) (
 finV false false n0 [(.bool true)] h) := (Pt_eq T F30 [1, 1, 0, 1, 0, 1] base n0 [(5, v5), (1, v1), (0, v0)] h).trans (by kernel_rfl)
theorem S30 (base : Nat) (a0 a1 : PV) (h : Hp) : CallA T base 30 [a0, a1] h =
 (lenB false a0).bnd fun x2 =>
 (lenB false a1).bnd fun x4 =>
 (binOp .neq x2 x4).bnd fun x5 =>
 condB x5 (
 finV false false (size h) [(.bool false)] h) (
 P30_0 (size h) (size h) (.int .i64 0) a1 a0 h) := (Pt_enter T_30 base _ h).trans (by kernel_rfl)
noncomputable def P31_0 (base n0 : Nat) (v5 v1 v0 : PV) (h : Hp) : Option (PV × Hp) := Pt T F31 [1, 1, 0, 1, 0, 1] base n0 [(5, v5), (1, v1), (0, v0)] h
theorem P31_0_eq (base n0 : Nat) (v5 v1 v0 : PV) (h : Hp) : P31_0 base n0 v5 v1 v0 h =
 (lenB false v0).bnd fun x2 =>
 (binOp .lss v5 x2).bnd fun x3 =>
 condB x3 (
 (idxAB v0 v5 3).bnd fun x6 =>
 (fieldAB x6 0).bnd fun x7 =>
 (loadV 1 false x7 h).bnd fun x8 =>
 (idxAB v1 v5 3).bnd fun x11 =>
 (fieldAB x11 0).bnd fun x12 =>
 (loadV 1 false x12 h).bnd fun x13 =>
 (binOp .neq x8 x13).bnd fun x14 =>
 (wantB x14 false).bnd fun b17 => (whenB b17 (some v0) (some .undef)).bnd fun x16 =>
 (wantB x14 false).bnd fun b21 => (whenB b21 (some v5) (some .undef)).bnd fun x20 =>
 (wantB x14 false).bnd fun b25 => (whenB b25 ((idxAB x16 x20 3).bnd some) (some .undef)).bnd fun x24 =>
 (wantB x14 false).bnd fun b29 => (whenB b29 ((fieldAB x24 1).bnd some) (some .undef)).bnd fun x28 =>
 (wantB x14 false).bnd fun b33 => (whenB b33 ((loadV 1 false x28 h).bnd some) (some .undef)).bnd fun x32 =>
 (wantB x14 false).bnd fun b37 => (whenB b37 (some v1) (some .undef)).bnd fun x36 =>
 (wantB x14 false).bnd fun b41 => (whenB b41 (some v5) (some .undef)).bnd fun x40 =>
 (wantB x14 false).bnd fun b45 => (whenB b45 ((idxAB x36 x40 3).bnd some) (some .undef)).bnd fun x44 =>
 (wantB x14 false).bnd fun b49 => (whenB b49 ((fieldAB x44 1).bnd some) (some .undef)).bnd fun x48 =>
 (wantB x14 false).bnd fun b53 => (whenB b53 ((loadV 1 false x48 h).bnd some) (some .undef)).bnd fun x52 =>
 (wantB x14 false).bnd fun b57 => (whenB b57 ((binOp .neq x32 x52).bnd some) (some .undef)).bnd fun x56 =>
 (condB x14 (some (.bool true)) (some x56)).bnd fun x60 =>
 (wantB x60 false).bnd fun b63 => (whenB b63 (some v0) (some .undef)).bnd fun x62 =>
 (wantB x60 false).bnd fun b67 => (whenB b67 (some v5) (some .undef)).bnd fun x66 =>
 (wantB x60 false).bnd fun b71 => (whenB b71 ((idxAB x62 x66 3).bnd some) (some .undef)).bnd fun x70 =>
 (wantB x60 false).bnd fun b75 => (whenB b75 ((fieldAB x70 2).bnd some) (some .undef)).bnd fun x74 =>
 (wantB x60 false).bnd fun b79 => (whenB b79 ((loadV 1 false x74 h).bnd some) (some .undef)).bnd fun x78 =>
 (wantB x60 false).bnd fun b83 => (whenB b83 (some v1) (some .undef)).bnd fun x82 =>
 (wantB x60 false).bnd fun b87 => (whenB b87 (some v5) (some .undef)).bnd fun x86 =>
 (wantB x60 false).bnd fun b91 => (whenB b91 ((idxAB x82 x86 3).bnd some) (some .undef)).bnd fun x90 =>
 (wantB x60 false).bnd fun b95 => (whenB b95 ((fieldAB x90 2).bnd some) (some .undef)).bnd fun x94 =>
 (wantB x60 false).bnd fun b99 => (whenB b99 ((loadV 1 false x94 h).bnd some) (some .undef)).bnd fun x98 =>
 (wantB x60 false).bnd fun b103 => (whenB b103 ((boolB true x78 x98).bnd some) (some .undef)).bnd fun x102 =>
 (condB x60 (some (.bool true)) (some x102)).bnd fun x106 =>
 condB x106 (
 finV false false n0 [(.bool false)] h) (
 (binOp .add v5 (.int .i64 1)).bnd fun x109 =>
 P31_0 base n0 x109 v1 v0 h)) (
 finV false false n0 [(.bool true)] h) := (Pt_eq T F31 [1, 1, 0, 1, 0, 1] base n0 [(5, v5), (1, v1), (0, v0)] h).trans (by kernel_rfl)
theorem S31 (base : Nat) (a0 a1 : PV) (h : Hp) : CallA T base 31 [a0, a1] h =
 (lenB false a0).bnd fun x2 =>
 (lenB false a1).bnd fun x4 =>
 (binOp .neq x2 x4).bnd fun x5 =>
 condB x5 (
 finV false false (size h) [(.bool false)] h) (
 P31_0 (size h) (size h) (.int .i64 0) a1 a0 h) := (Pt_enter T_31 base _ h).trans (by kernel_rfl)
theorem S32 (base : Nat) (a0 : PV) (h : Hp) : CallA T base 32 [a0] h =
 bnd2 (CallA T (size h) 48 [a0] h) fun x2 h3 =>
 (wantB x2 false).bnd fun b6 => (whenB b6 (some a0) (some .undef)).bnd fun x5 =>
 (wantB x2 false).bnd fun b10 => (whenB b10 ((binOp .eql x5 (.int .u8 46)).bnd some) (some .undef)).bnd fun x9 =>
 (condB x2 (some (.bool true)) (some x9)).bnd fun x13 =>
 (wantB x13 false).bnd fun b16 => (whenB b16 (some a0) (some .undef)).bnd fun x15 =>
 (wantB x13 false).bnd fun b20 => (whenB b20 ((binOp .eql x15 (.int .u8 45)).bnd some) (some .undef)).bnd fun x19 =>
 (condB x13 (some (.bool true)) (some x19)).bnd fun x23 =>
 finV false false (size h) [x23] h3 := (Pt_enter T_32 base _ h).trans (by kernel_rfl)
noncomputable def P33_0 (base n0 : Nat) (v17 v2 v1 v15 v16 : PV) (h : Hp) : Option (PV × Hp) := Pt T F33 [1, 1, 0, 1, 0, 1] base n0 [(17, v17), (2, v2), (1, v1), (15, v15), (16, v16)] h
theorem P33_0_eq (base n0 : Nat) (v17 v2 v1 v15 v16 : PV) (h : Hp) : P33_0 base n0 v17 v2 v1 v15 v16 h =
 (binOp .lss v17 v16).bnd fun x0 =>
 condB x0 (
 (idxAB v15 v17 2).bnd fun x2 =>
 (loadV 2 true x2 h).bnd fun x3 =>
 allocK [.nils, .nils] h fun x4 h5 =>
 (storeV base 2 x4 x3 h5).bnd fun h7 =>
 (idxAB v1 v17 2).bnd fun x10 =>
 (loadV 2 true x10 h7).bnd fun x11 =>
 allocK [.nils, .nils] h7 fun x12 h13 =>
 (storeV base 2 x12 x11 h13).bnd fun h14 =>
 (loadV 2 true x4 h14).bnd fun x16 =>
 (loadV 2 true x12 h14).bnd fun x17 =>
 bnd2 (callvV (CallA T base) v2 [x16, x17] h14) fun x18 h19 =>
 (unOp .not x18).bnd fun x20 =>
 condB x20 (
 finV false false n0 [(.bool false)] h19) (
 (binOp .add v17 (.int .i64 1)).bnd fun x22 =>
 P33_0 base n0 x22 v2 v1 v15 v16 h19)) (
 finV false false n0 [(.bool true)] h) := (Pt_eq T F33 [1, 1, 0, 1, 0, 1] base n0 [(17, v17), (2, v2), (1, v1), (15, v15), (16, v16)] h).trans (by kernel_rfl)
theorem S33 (base : Nat) (a0 a1 a2 : PV) (h : Hp) : CallA T base 33 [a0, a1, a2] h =
 (lenB false a0).bnd fun x2 =>
 (lenB false a1).bnd fun x4 =>
 (binOp .neq x2 x4).bnd fun x5 =>
 condB x5 (
 finV false false (size h) [(.bool false)] h) (
 (lenB false a0).bnd fun x8 =>
 P33_0 (size h) (size h) (.int .i64 0) a2 a1 a0 x8 h) := (Pt_enter T_33 base _ h).trans (by kernel_rfl)
theorem S34 (base : Nat) (a0 a1 : PV) (h : Hp) : CallA T base 34 [a0, a1] h =
 bnd2 (boxV 2 a0 h) fun x0 h1 =>
 bnd2 (boxV 2 a1 h1) fun x2 h3 =>
 (fieldAB x0 0).bnd fun x5 =>
 (loadV 1 false x5 h3).bnd fun x6 =>
 (fieldAB x2 0).bnd fun x7 =>
 (loadV 1 false x7 h3).bnd fun x8 =>
 bnd2 (CallA T (size h) 35 [x6, x8] h3) fun x9 h10 =>
 (wantB x9 true).bnd fun b13 => (whenB b13 ((fieldAB x0 1).bnd some) (some .undef)).bnd fun x12 =>
 (wantB x9 true).bnd fun b17 => (whenB b17 ((loadV 1 false x12 h10).bnd some) (some .undef)).bnd fun x16 =>
 (wantB x9 true).bnd fun b21 => (whenB b21 ((fieldAB x2 1).bnd some) (some .undef)).bnd fun x20 =>
 (wantB x9 true).bnd fun b25 => (whenB b25 ((loadV 1 false x20 h10).bnd some) (some .undef)).bnd fun x24 =>
 (wantB x9 true).bnd fun b29 => bnd2 (whenB b29 (bnd2 (CallA T (size h) 36 [x16, x24] h10) fun x31 h30 => some (x31, h30)) (some (.undef, h10))) fun x28 h30 =>
 (condB x9 (some x28) (some (.bool false))).bnd fun x32 =>
 finV false false (size h) [x32] h30 := (Pt_enter T_34 base _ h).trans (by kernel_rfl)
noncomputable def P35_0 (base n0 : Nat) (v13 v1 v0 v12 : PV) (h : Hp) : Option (PV × Hp) := Pt T F35 [1, 1, 0, 1, 0, 1] base n0 [(13, v13), (1, v1), (0, v0), (12, v12)] h
theorem P35_0_eq (base n0 : Nat) (v13 v1 v0 v12 : PV) (h : Hp) : P35_0 base n0 v13 v1 v0 v12 h =
 (binOp .lss v13 v12).bnd fun x0 =>
 condB x0 (
 (idxAB v0 v13 1).bnd fun x5 =>
 (loadV 1 false x5 h).bnd fun x6 =>
 (idxAB v1 v13 1).bnd fun x9 =>
 (loadV 1 false x9 h).bnd fun x10 =>
 (binOp .neq x6 x10).bnd fun x11 =>
 condB x11 (
 finV false false n0 [(.bool false)] h) (
 (binOp .add v13 (.int .i64 1)).bnd fun x13 =>
 P35_0 base n0 x13 v1 v0 v12 h)) (
 finV false false n0 [(.bool true)] h) := (Pt_eq T F35 [1, 1, 0, 1, 0, 1] base n0 [(13, v13), (1, v1), (0, v0), (12, v12)] h).trans (by kernel_rfl)
theorem S35 (base : Nat) (a0 a1 : PV) (h : Hp) : CallA T base 35 [a0, a1] h =
 (lenB false a0).bnd fun x2 =>
 (lenB false a1).bnd fun x4 =>
 (binOp .neq x2 x4).bnd fun x5 =>
 condB x5 (
 finV false false (size h) [(.bool false)] h) (
 (lenB false a0).bnd fun x8 =>
 P35_0 (size h) (size h) (.int .i64 0) a1 a0 x8 h) := (Pt_enter T_35 base _ h).trans (by kernel_rfl)
noncomputable def P36_0 (base n0 : Nat) (v13 v1 v0 v12 : PV) (h : Hp) : Option (PV × Hp) := Pt T F36 [1, 1, 0, 1, 0, 1] base n0 [(13, v13), (1, v1), (0, v0), (12, v12)] h
theorem P36_0_eq (base n0 : Nat) (v13 v1 v0 v12 : PV) (h : Hp) : P36_0 base n0 v13 v1 v0 v12 h =
 (binOp .lss v13 v12).bnd fun x0 =>
 condB x0 (
 (idxAB v0 v13 3).bnd fun x5 =>
 (loadV 3 true x5 h).bnd fun x6 =>
 (idxAB v1 v13 3).bnd fun x9 =>
 (loadV 3 true x9 h).bnd fun x10 =>
 (eqvB true [2, 2, 0] x6 x10).bnd fun x11 =>
 condB x11 (
 finV false false n0 [(.bool false)] h) (
 (binOp .add v13 (.int .i64 1)).bnd fun x13 =>
 P36_0 base n0 x13 v1 v0 v12 h)) (
 finV false false n0 [(.bool true)] h) := (Pt_eq T F36 [1, 1, 0, 1, 0, 1] base n0 [(13, v13), (1, v1), (0, v0), (12, v12)] h).trans (by kernel_rfl)
theorem S36 (base : Nat) (a0 a1 : PV) (h : Hp) : CallA T base 36 [a0, a1] h =
 (lenB false a0).bnd fun x2 =>
 (lenB false a1).bnd fun x4 =>
 (binOp .neq x2 x4).bnd fun x5 =>
 condB x5 (
 finV false false (size h) [(.bool false)] h) (
 (lenB false a0).bnd fun x8 =>
 P36_0 (size h) (size h) (.int .i64 0) a1 a0 x8 h) := (Pt_enter T_36 base _ h).trans (by kernel_rfl)
noncomputable def P37_0 (base n0 : Nat) (v16 v3 v14 v15 : PV) (h : Hp) : Option (PV × Hp) := Pt T F37 [1, 1, 1, 0, 1, 0, 1] base n0 [(16, v16), (3, v3), (14, v14), (15, v15)] h
theorem P37_0_eq (base n0 : Nat) (v16 v3 v14 v15 : PV) (h : Hp) : P37_0 base n0 v16 v3 v14 v15 h =
 (binOp .lss v16 v15).bnd fun x0 =>
 condB x0 (
 (idxAB v14 v16 1).bnd fun x1 =>
 (loadV 1 false x1 h).bnd fun x2 =>
 bnd2 (CallA T base 54 [v3, (.int .u8 47)] h) fun x4 h5 =>
 bnd2 (CallA T base 42 [x2] h5) fun x7 h8 =>
 bnd2 (CallA T base 40 [v3, x7] h8) fun x9 h10 =>
 (binOp .add v16 (.int .i64 1)).bnd fun x11 =>
 P37_0 base n0 x11 v3 v14 v15 h10) (
 bnd2 (CallA T base 41 [v3] h) fun x13 h14 =>
 finV false false n0 [x13] h14) := (Pt_eq T F37 [1, 1, 1, 0, 1, 0, 1] base n0 [(16, v16), (3, v3), (14, v14), (15, v15)] h).trans (by kernel_rfl)
theorem S37 (base : Nat) (a0 : PV) (h : Hp) : CallA T base 37 [a0] h =
 bnd2 (CallA T (size h) 47 [a0] h) fun x2 h3 =>
 (unOp .not x2).bnd fun x4 =>
 condB x4 (
 finV false false (size h) [(.str [])] h3) (
 (lenB false a0).bnd fun x8 =>
 (binOp .eql x8 (.int .i64 0)).bnd fun x9 =>
 condB x9 (
 finV false false (size h) [(.str [47])] h3) (
 allocK [(.bnil 68), .nils] h3 fun x12 h13 =>
 (lenB false a0).bnd fun x15 =>
 P37_0 (size h) (size h) (.int .i64 0) x12 a0 x15 h13)) := (Pt_enter T_37 base _ h).trans (by kernel_rfl)
theorem S38 (base : Nat) (a0 : PV) (h : Hp) : CallA T base 38 [a0] h =
 (binOp .neq a0 (.str [])).bnd fun x2 =>
 (wantB x2 true).bnd fun b5 => (whenB b5 (some a0) (some .undef)).bnd fun x4 =>
 (wantB x2 true).bnd fun b9 => bnd2 (whenB b9 (bnd2 (CallA T (size h) 55 [x4, (.fn 56 [])] h) fun x11 h10 => some (x11, h10)) (some (.undef, h))) fun x8 h10 =>
 (wantB x2 true).bnd fun b13 => (whenB b13 (some a0) (some .undef)).bnd fun x12 =>
 (wantB x2 true).bnd fun b17 => (whenB b17 ((lenB true x12).bnd some) (some .undef)).bnd fun x16 =>
 (wantB x2 true).bnd fun b21 => (whenB b21 ((binOp .eql x8 x16).bnd some) (some .undef)).bnd fun x20 =>
 (condB x2 (some x20) (some (.bool false))).bnd fun x24 =>
 condB x24 (
 finV false false (size h) [a0] h10) (
 (binOp .add (.str [34]) a0).bnd fun x28 =>
 (binOp .add x28 (.str [34])).bnd fun x29 =>
 finV false false (size h) [x29] h10) := (Pt_enter T_38 base _ h).trans (by kernel_rfl)
theorem S40 (base : Nat) (a0 a1 : PV) (h : Hp) : CallA T base 40 [a0, a1] h =
 bnd2 (CallA T base 57 [a0] h) fun x3 h4 =>
 (nilckV a0).bnd fun x7 =>
 (fieldAB x7 1).bnd fun x8 =>
 (loadV 1 false x8 h4).bnd fun x9 =>
 bnd2 (appTV 5 1 x9 a1 h4) fun x11 h12 =>
 (nilckV a0).bnd fun x13 =>
 (fieldAB x13 1).bnd fun x14 =>
 (storeV base 1 x14 x11 h12).bnd fun h15 =>
 (lenB true a1).bnd fun x17 =>
 finV true false (size h) [x17, .nilif] h15 := (Pt_enterK T_40 base _ h).trans (by kernel_rfl)
noncomputable def P43_0 (base n0 : Nat) (v8 v0 v1 v7 : PV) (h : Hp) : Option (PV × Hp) := Pt T F43 [1, 0, 1, 0, 1] base n0 [(8, v8), (0, v0), (1, v1), (7, v7)] h
theorem P43_0_eq (base n0 : Nat) (v8 v0 v1 v7 : PV) (h : Hp) : P43_0 base n0 v8 v0 v1 v7 h =
 (binOp .lss v8 v7).bnd fun x0 =>
 condB x0 (
 (idxAB v0 v8 2).bnd fun x6 =>
 (loadV 2 true x6 h).bnd fun x7 =>
 bnd2 (callvV (CallA T base) v1 [x7] h) fun x8 h9 =>
 condB x8 (
 finV false false n0 [v8] h9) (
 (binOp .add v8 (.int .i64 1)).bnd fun x12 =>
 P43_0 base n0 x12 v0 v1 v7 h9)) (
 finV false false n0 [(.int .i64 (-1))] h) := (Pt_eq T F43 [1, 0, 1, 0, 1] base n0 [(8, v8), (0, v0), (1, v1), (7, v7)] h).trans (by kernel_rfl)
theorem S43 (base : Nat) (a0 a1 : PV) (h : Hp) : CallA T base 43 [a0, a1] h =
 (lenB false a0).bnd fun x2 =>
 P43_0 (size h) (size h) (.int .i64 0) a0 a1 x2 h := (Pt_enter T_43 base _ h).trans (by kernel_rfl)
theorem S44 (base : Nat) (a0 a1 : PV) (h : Hp) : CallA T base 44 [a0, a1] h =
 bnd2 (CallA T (size h) 60 [a0, a1] h) fun x3 h4 =>
 (binOp .geq x3 (.int .i64 0)).bnd fun x5 =>
 finV false false (size h) [x5] h4 := (Pt_enter T_44 base _ h).trans (by kernel_rfl)
theorem S45 (base : Nat) (a0 : PV) (h : Hp) : CallA T base 45 [a0] h =
 bnd2 (boxV 3 a0 h) fun x0 h1 =>
 (loadV 3 true x0 h1).bnd fun x3 =>
 bnd2 (CallA T (size h) 46 [x3] h1) fun x4 h5 =>
 (unOp .not x4).bnd fun x6 =>
 finV false false (size h) [x6] h5 := (Pt_enter T_45 base _ h).trans (by kernel_rfl)
theorem S46 (base : Nat) (a0 : PV) (h : Hp) : CallA T base 46 [a0] h =
 bnd2 (boxV 3 a0 h) fun x0 h1 =>
 (fieldAB x0 2).bnd fun x3 =>
 (loadV 1 false x3 h1).bnd fun x4 =>
 condB x4 (
 (fieldAB x0 0).bnd fun x5 =>
 (loadV 1 false x5 h1).bnd fun x6 =>
 bnd2 (CallA T (size h) 61 [x6] h1) fun x7 h8 =>
 (wantB x7 true).bnd fun b11 => (whenB b11 ((fieldAB x0 1).bnd some) (some .undef)).bnd fun x10 =>
 (wantB x7 true).bnd fun b15 => (whenB b15 ((loadV 1 false x10 h8).bnd some) (some .undef)).bnd fun x14 =>
 (wantB x7 true).bnd fun b19 => (whenB b19 ((binOp .eql x14 (.str [])).bnd some) (some .undef)).bnd fun x18 =>
 (condB x7 (some x18) (some (.bool false))).bnd fun x22 =>
 finV false false (size h) [x22] h8) (
 (fieldAB x0 0).bnd fun x24 =>
 (loadV 1 false x24 h1).bnd fun x25 =>
 bnd2 (CallA T (size h) 61 [x25] h1) fun x26 h27 =>
 (wantB x26 true).bnd fun b30 => (whenB b30 ((fieldAB x0 1).bnd some) (some .undef)).bnd fun x29 =>
 (wantB x26 true).bnd fun b34 => (whenB b34 ((loadV 1 false x29 h27).bnd some) (some .undef)).bnd fun x33 =>
 (wantB x26 true).bnd fun b38 => (whenB b38 ((lenB true x33).bnd some) (some .undef)).bnd fun x37 =>
 (wantB x26 true).bnd fun b42 => (whenB b42 ((binOp .leq x37 (.int .i64 60)).bnd some) (some .undef)).bnd fun x41 =>
 (condB x26 (some x41) (some (.bool false))).bnd fun x45 =>
 (wantB x45 true).bnd fun b48 => (whenB b48 ((fieldAB x0 1).bnd some) (some .undef)).bnd fun x47 =>
 (wantB x45 true).bnd fun b52 => (whenB b52 ((loadV 1 false x47 h27).bnd some) (some .undef)).bnd fun x51 =>
 (wantB x45 true).bnd fun b56 => bnd2 (whenB b56 (bnd2 (orcQ (CallA T (size h)) 55 [x51, (.fn 62 [])] h27) fun x58 h57 => (fun y => if h57 = h27 then y else none) <| some (x58, h27)) (some (.undef, h27))) fun x55 h57 =>
 (wantB x45 true).bnd fun b60 => (whenB b60 ((fieldAB x0 1).bnd some) (some .undef)).bnd fun x59 =>
 (wantB x45 true).bnd fun b64 => (whenB b64 ((loadV 1 false x59 h57).bnd some) (some .undef)).bnd fun x63 =>
 (wantB x45 true).bnd fun b68 => (whenB b68 ((lenB true x63).bnd some) (some .undef)).bnd fun x67 =>
 (wantB x45 true).bnd fun b72 => (whenB b72 ((binOp .eql x55 x67).bnd some) (some .undef)).bnd fun x71 =>
 (condB x45 (some x71) (some (.bool false))).bnd fun x75 =>
 finV false false (size h) [x75] h57) := (Pt_enter T_46 base _ h).trans (by kernel_rfl)
noncomputable def P47_0 (base n0 : Nat) (v7 v5 v0 v6 : PV) (h : Hp) : Option (PV × Hp) := Pt T F47 [1, 0, 1, 0, 1] base n0 [(7, v7), (5, v5), (0, v0), (6, v6)] h
theorem P47_0_eq (base n0 : Nat) (v7 v5 v0 v6 : PV) (h : Hp) : P47_0 base n0 v7 v5 v0 v6 h =
 (binOp .lss v7 v6).bnd fun x0 =>
 condB x0 (
 (idxAB v5 v7 1).bnd fun x1 =>
 (loadV 1 false x1 h).bnd fun x2 =>
 (binOp .lss x2 (.int .i64 0)).bnd fun x5 =>
 (wantB x5 false).bnd fun b8 => (whenB b8 (some x2) (some .undef)).bnd fun x7 =>
 (wantB x5 false).bnd fun b12 => (whenB b12 ((binOp .gtr x7 (.int .i64 65535)).bnd some) (some .undef)).bnd fun x11 =>
 (condB x5 (some (.bool true)) (some x11)).bnd fun x15 =>
 condB x15 (
 finV false false n0 [(.bool false)] h) (
 (binOp .add v7 (.int .i64 1)).bnd fun x17 =>
 P47_0 base n0 x17 v5 v0 v6 h)) (
 (lenB false v0).bnd fun x20 =>
 (binOp .leq x20 (.int .i64 3)).bnd fun x21 =>
 finV false false n0 [x21] h) := (Pt_eq T F47 [1, 0, 1, 0, 1] base n0 [(7, v7), (5, v5), (0, v0), (6, v6)] h).trans (by kernel_rfl)
theorem S47 (base : Nat) (a0 : PV) (h : Hp) : CallA T base 47 [a0] h =
 (lenB false a0).bnd fun x2 =>
 P47_0 (size h) (size h) (.int .i64 0) a0 a0 x2 h := (Pt_enter T_47 base _ h).trans (by kernel_rfl)
theorem S48 (base : Nat) (a0 : PV) (h : Hp) : CallA T base 48 [a0] h =
 (binOp .geq a0 (.int .u8 97)).bnd fun x2 =>
 (wantB x2 true).bnd fun b5 => (whenB b5 (some a0) (some .undef)).bnd fun x4 =>
 (wantB x2 true).bnd fun b9 => (whenB b9 ((binOp .leq x4 (.int .u8 122)).bnd some) (some .undef)).bnd fun x8 =>
 (condB x2 (some x8) (some (.bool false))).bnd fun x12 =>
 (wantB x12 false).bnd fun b15 => (whenB b15 (some a0) (some .undef)).bnd fun x14 =>
 (wantB x12 false).bnd fun b19 => (whenB b19 ((binOp .geq x14 (.int .u8 48)).bnd some) (some .undef)).bnd fun x18 =>
 (wantB x12 false).bnd fun b23 => (whenB b23 (some x18) (some .undef)).bnd fun x22 =>
 (wantB x22 true).bnd fun b27 => (whenB b27 (some a0) (some .undef)).bnd fun x26 =>
 (wantB x22 true).bnd fun b31 => (whenB b31 ((binOp .leq x26 (.int .u8 57)).bnd some) (some .undef)).bnd fun x30 =>
 (wantB x12 false).bnd fun b35 => (whenB b35 ((condB x22 (some x30) (some (.bool false))).bnd some) (some .undef)).bnd fun x34 =>
 (condB x12 (some (.bool true)) (some x34)).bnd fun x38 =>
 finV false false (size h) [x38] h := (Pt_enter T_48 base _ h).trans (by kernel_rfl)
theorem S49 (base : Nat) (a0 : PV) (h : Hp) : CallA T base 49 [a0] h =
 (binOp .geq a0 (.int .u8 32)).bnd fun x2 =>
 (wantB x2 true).bnd fun b5 => (whenB b5 (some a0) (some .undef)).bnd fun x4 =>
 (wantB x2 true).bnd fun b9 => (whenB b9 ((binOp .leq x4 (.int .u8 126)).bnd some) (some .undef)).bnd fun x8 =>
 (condB x2 (some x8) (some (.bool false))).bnd fun x12 =>
 (wantB x12 true).bnd fun b15 => (whenB b15 (some a0) (some .undef)).bnd fun x14 =>
 (wantB x12 true).bnd fun b19 => (whenB b19 ((binOp .neq x14 (.int .u8 34)).bnd some) (some .undef)).bnd fun x18 =>
 (condB x12 (some x18) (some (.bool false))).bnd fun x22 =>
 (wantB x22 true).bnd fun b25 => (whenB b25 (some a0) (some .undef)).bnd fun x24 =>
 (wantB x22 true).bnd fun b29 => (whenB b29 ((binOp .neq x24 (.int .u8 92)).bnd some) (some .undef)).bnd fun x28 =>
 (condB x22 (some x28) (some (.bool false))).bnd fun x32 =>
 finV false false (size h) [x32] h := (Pt_enter T_49 base _ h).trans (by kernel_rfl)
theorem S50 (base : Nat) (a0 : PV) (h : Hp) : CallA T base 50 [a0] h =
 bnd2 (CallA T (size h) 27 [a0, (.str [60])] h) fun x3 h4 =>
 (unOp .not x3).bnd fun x5 =>
 condB x5 (
 finV false false (size h) [.nils, (.bool false)] h4) (
 bnd2 (CallA T (size h) 63 [a0, (.fn 64 [])] h4) fun x9 h10 =>
 bnd2 (CallA T (size h) 65 [x9] h10) fun x13 h14 =>
 (extractB x13 0).bnd fun x16 =>
 (extractB x13 1).bnd fun x17 =>
 (binOp .eql x17 (.int .i64 0)).bnd fun x22 =>
 (wantB x22 true).bnd fun b25 => (whenB b25 (some a0) (some .undef)).bnd fun x24 =>
 (wantB x22 true).bnd fun b29 => bnd2 (whenB b29 (bnd2 (CallA T (size h) 27 [x24, (.str [62])] h14) fun x31 h30 => some (x31, h30)) (some (.undef, h14))) fun x28 h30 =>
 (condB x22 (some x28) (some (.bool false))).bnd fun x32 =>
 finV false false (size h) [x16, x32] h30) := (Pt_enter T_50 base _ h).trans (by kernel_rfl)
theorem S51 (base : Nat) (a0 : PV) (h : Hp) : CallA T base 51 [a0] h =
 allocK [(.str []), (.str []), (.bool false)] h fun x0 h1 =>
 bnd2 (CallA T (size h) 63 [a0, (.fn 66 [])] h1) fun x4 h5 =>
 (buildV [(.str []), (.str []), (.bool false)] [(0, 1, x4)]).bnd fun x6 =>
 allocK [(.str []), (.str []), (.bool false)] h5 fun x7 h8 =>
 (storeV (size h) 3 x7 x6 h8).bnd fun h9 =>
 (fieldAB x7 0).bnd fun x10 =>
 (loadV 1 false x10 h9).bnd fun x11 =>
 bnd2 (CallA T (size h) 61 [x11] h9) fun x12 h13 =>
 (unOp .not x12).bnd fun x14 =>
 condB x14 (
 (loadV 3 true x7 h13).bnd fun x15 =>
 (storeV (size h) 3 x0 x15 h13).bnd fun h16 =>
 (resB x0 h16 3 true).bnd fun r18 =>
 finV false false (size h) [r18, (.bool false)] h16) (
 bnd2 (CallA T (size h) 27 [a0, (.str [61])] h13) fun x20 h21 =>
 (unOp .not x20).bnd fun x22 =>
 condB x22 (
 (fieldAB x7 2).bnd fun x23 =>
 (storeV (size h) 1 x23 (.bool true) h21).bnd fun h24 =>
 (loadV 3 true x7 h24).bnd fun x25 =>
 (storeV (size h) 3 x0 x25 h24).bnd fun h26 =>
 (resB x0 h26 3 true).bnd fun r28 =>
 finV false false (size h) [r28, (.bool true)] h26) (
 bnd2 (CallA T (size h) 67 [a0] h21) fun x31 h32 =>
 (extractB x31 0).bnd fun x34 =>
 (extractB x31 1).bnd fun x35 =>
 (fieldAB x7 1).bnd fun x36 =>
 (storeV (size h) 1 x36 x34 h32).bnd fun h37 =>
 (loadV 3 true x7 h37).bnd fun x39 =>
 (storeV (size h) 3 x0 x39 h37).bnd fun h41 =>
 (resB x0 h41 3 true).bnd fun r43 =>
 finV false false (size h) [r43, x35] h41)) := (Pt_enter T_51 base _ h).trans (by kernel_rfl)
theorem S52 (base : Nat) (a0 a1 : PV) (h : Hp) : CallA T base 52 [a0, a1] h =
 bnd2 (CallA T (size h) 68 [a0, a1] h) fun x4 h5 =>
 (extractB x4 0).bnd fun x6 =>
 (extractB x4 1).bnd fun x7 =>
 finV false false (size h) [x6, x7] h5 := (Pt_enter T_52 base _ h).trans (by kernel_rfl)
noncomputable def P53_0 (base n0 : Nat) (v5 v4 v0 : PV) (h : Hp) : Option (PV × Hp) := Pt T F53 [1, 1, 1, 0, 1, 0, 1] base n0 [(5, v5), (4, v4), (0, v0)] h
theorem P53_0_eq (base n0 : Nat) (v5 v4 v0 : PV) (h : Hp) : P53_0 base n0 v5 v4 v0 h =
 (lenB false v0).bnd fun x2 =>
 (binOp .lss v5 x2).bnd fun x3 =>
 condB x3 (
 (idxAB v0 v5 1).bnd fun x6 =>
 (loadV 1 false x6 h).bnd fun x7 =>
 bnd2 (CallA T base 69 [x7, (.int .i64 65535)] h) fun x8 h9 =>
 (extractB x8 0).bnd fun x11 =>
 (extractB x8 1).bnd fun x12 =>
 (unOp .not x12).bnd fun x16 =>
 condB x16 (
 finV false false n0 [.nils, (.int .i64 20)] h9) (
 (buildSlV 1 false [(.int .i64 0)] 1 [(0, strip x11)]).bnd fun x21 =>
 bnd2 (appTV 3 1 v4 x21 h9) fun x22 h23 =>
 (binOp .add v5 (.int .i64 1)).bnd fun x26 =>
 P53_0 base n0 x26 x22 v0 h23)) (
 finV false false n0 [v4, (.int .i64 0)] h) := (Pt_eq T F53 [1, 1, 1, 0, 1, 0, 1] base n0 [(5, v5), (4, v4), (0, v0)] h).trans (by kernel_rfl)
theorem S53 (base : Nat) (a0 : PV) (h : Hp) : CallA T base 53 [a0] h =
 (lenB false a0).bnd fun x3 =>
 (binOp .gtr x3 (.int .i64 3)).bnd fun x4 =>
 condB x4 (
 finV false false (size h) [.nils, (.int .i64 3)] h) (
 (buildSlV 1 false [(.int .i64 0)] 0 []).bnd fun x7 =>
 P53_0 (size h) (size h) (.int .i64 0) x7 a0 h) := (Pt_enter T_53 base _ h).trans (by kernel_rfl)
theorem S54 (base : Nat) (a0 a1 : PV) (h : Hp) : CallA T base 54 [a0, a1] h =
 bnd2 (CallA T base 57 [a0] h) fun x2 h3 =>
 (nilckV a0).bnd fun x6 =>
 (fieldAB x6 1).bnd fun x7 =>
 (loadV 1 false x7 h3).bnd fun x8 =>
 (buildSlV 1 false [(.int .u8 0)] 1 [(0, strip a1)]).bnd fun x10 =>
 bnd2 (appTV 5 1 x8 x10 h3) fun x11 h12 =>
 (nilckV a0).bnd fun x13 =>
 (fieldAB x13 1).bnd fun x14 =>
 (storeV base 1 x14 x11 h12).bnd fun h15 =>
 finV true false (size h) [.nilif] h15 := (Pt_enterK T_54 base _ h).trans (by kernel_rfl)
noncomputable def P55_0 (base n0 : Nat) (v8 v0 v1 v7 : PV) (h : Hp) : Option (PV × Hp) := Pt T F55 [1, 0, 1, 0, 1] base n0 [(8, v8), (0, v0), (1, v1), (7, v7)] h
theorem P55_0_eq (base n0 : Nat) (v8 v0 v1 v7 : PV) (h : Hp) : P55_0 base n0 v8 v0 v1 v7 h =
 (binOp .lss v8 v7).bnd fun x0 =>
 condB x0 (
 (idxStrB v0 v8).bnd fun x6 =>
 bnd2 (callvV (CallA T base) v1 [x6] h) fun x7 h8 =>
 (unOp .not x7).bnd fun x9 =>
 condB x9 (
 finV false false n0 [v8] h8) (
 (binOp .add v8 (.int .i64 1)).bnd fun x12 =>
 P55_0 base n0 x12 v0 v1 v7 h8)) (
 (lenB true v0).bnd fun x15 =>
 finV false false n0 [x15] h) := (Pt_eq T F55 [1, 0, 1, 0, 1] base n0 [(8, v8), (0, v0), (1, v1), (7, v7)] h).trans (by kernel_rfl)
theorem S55 (base : Nat) (a0 a1 : PV) (h : Hp) : CallA T base 55 [a0, a1] h =
 (lenB true a0).bnd fun x2 =>
 P55_0 (size h) (size h) (.int .i64 0) a0 a1 x2 h := (Pt_enter T_55 base _ h).trans (by kernel_rfl)
theorem S56 (base : Nat) (a0 : PV) (h : Hp) : CallA T base 56 [a0] h =
 bnd2 (CallA T (size h) 66 [a0] h) fun x2 h3 =>
 (wantB x2 false).bnd fun b6 => (whenB b6 (some a0) (some .undef)).bnd fun x5 =>
 (wantB x2 false).bnd fun b10 => (whenB b10 ((binOp .eql x5 (.int .u8 46)).bnd some) (some .undef)).bnd fun x9 =>
 (condB x2 (some (.bool true)) (some x9)).bnd fun x13 =>
 (wantB x13 false).bnd fun b16 => (whenB b16 (some a0) (some .undef)).bnd fun x15 =>
 (wantB x13 false).bnd fun b20 => (whenB b20 ((binOp .eql x15 (.int .u8 45)).bnd some) (some .undef)).bnd fun x19 =>
 (condB x13 (some (.bool true)) (some x19)).bnd fun x23 =>
 finV false false (size h) [x23] h3 := (Pt_enter T_56 base _ h).trans (by kernel_rfl)
noncomputable def P60_0 (base n0 : Nat) (v8 v0 v1 v7 : PV) (h : Hp) : Option (PV × Hp) := Pt T F60 [1, 0, 1, 0, 1] base n0 [(8, v8), (0, v0), (1, v1), (7, v7)] h
theorem P60_0_eq (base n0 : Nat) (v8 v0 v1 v7 : PV) (h : Hp) : P60_0 base n0 v8 v0 v1 v7 h =
 (binOp .lss v8 v7).bnd fun x0 =>
 condB x0 (
 (idxAB v0 v8 3).bnd fun x6 =>
 (loadV 3 true x6 h).bnd fun x7 =>
 bnd2 (callvV (CallA T base) v1 [x7] h) fun x8 h9 =>
 condB x8 (
 finV false false n0 [v8] h9) (
 (binOp .add v8 (.int .i64 1)).bnd fun x12 =>
 P60_0 base n0 x12 v0 v1 v7 h9)) (
 finV false false n0 [(.int .i64 (-1))] h) := (Pt_eq T F60 [1, 0, 1, 0, 1] base n0 [(8, v8), (0, v0), (1, v1), (7, v7)] h).trans (by kernel_rfl)
theorem S60 (base : Nat) (a0 a1 : PV) (h : Hp) : CallA T base 60 [a0, a1] h =
 (lenB false a0).bnd fun x2 =>
 P60_0 (size h) (size h) (.int .i64 0) a0 a1 x2 h := (Pt_enter T_60 base _ h).trans (by kernel_rfl)
theorem S61 (base : Nat) (a0 : PV) (h : Hp) : CallA T base 61 [a0] h =
 (binOp .neq a0 (.str [])).bnd fun x2 =>
 (wantB x2 true).bnd fun b5 => (whenB b5 (some a0) (some .undef)).bnd fun x4 =>
 (wantB x2 true).bnd fun b9 => (whenB b9 ((lenB true x4).bnd some) (some .undef)).bnd fun x8 =>
 (wantB x2 true).bnd fun b13 => (whenB b13 ((binOp .leq x8 (.int .i64 16)).bnd some) (some .undef)).bnd fun x12 =>
 (condB x2 (some x12) (some (.bool false))).bnd fun x16 =>
 (wantB x16 true).bnd fun b19 => (whenB b19 (some a0) (some .undef)).bnd fun x18 =>
 (wantB x16 true).bnd fun b23 => bnd2 (whenB b23 (bnd2 (CallA T (size h) 55 [x18, (.fn 66 [])] h) fun x25 h24 => some (x25, h24)) (some (.undef, h))) fun x22 h24 =>
 (wantB x16 true).bnd fun b27 => (whenB b27 (some a0) (some .undef)).bnd fun x26 =>
 (wantB x16 true).bnd fun b31 => (whenB b31 ((lenB true x26).bnd some) (some .undef)).bnd fun x30 =>
 (wantB x16 true).bnd fun b35 => (whenB b35 ((binOp .eql x22 x30).bnd some) (some .undef)).bnd fun x34 =>
 (condB x16 (some x34) (some (.bool false))).bnd fun x38 =>
 finV false false (size h) [x38] h24 := (Pt_enter T_61 base _ h).trans (by kernel_rfl)
theorem S62 (base : Nat) (a0 : PV) (h : Hp) : CallA T base 62 [a0] h =
 (binOp .geq a0 (.int .u8 32)).bnd fun x2 =>
 (wantB x2 true).bnd fun b5 => (whenB b5 (some a0) (some .undef)).bnd fun x4 =>
 (wantB x2 true).bnd fun b9 => (whenB b9 ((binOp .leq x4 (.int .u8 126)).bnd some) (some .undef)).bnd fun x8 =>
 (condB x2 (some x8) (some (.bool false))).bnd fun x12 =>
 (wantB x12 true).bnd fun b15 => (whenB b15 (some a0) (some .undef)).bnd fun x14 =>
 (wantB x12 true).bnd fun b19 => (whenB b19 ((binOp .neq x14 (.int .u8 34)).bnd some) (some .undef)).bnd fun x18 =>
 (condB x12 (some x18) (some (.bool false))).bnd fun x22 =>
 (wantB x22 true).bnd fun b25 => (whenB b25 (some a0) (some .undef)).bnd fun x24 =>
 (wantB x22 true).bnd fun b29 => (whenB b29 ((binOp .neq x24 (.int .u8 92)).bnd some) (some .undef)).bnd fun x28 =>
 (condB x22 (some x28) (some (.bool false))).bnd fun x32 =>
 finV false false (size h) [x32] h := (Pt_enter T_62 base _ h).trans (by kernel_rfl)
theorem S63 (base : Nat) (a0 a1 : PV) (h : Hp) : CallA T base 63 [a0, a1] h =
 (nilckV a0).bnd fun x2 =>
 (fieldAB x2 0).bnd fun x3 =>
 (loadV 1 false x3 h).bnd fun x4 =>
 bnd2 (CallA T (size h) 55 [x4, a1] h) fun x6 h7 =>
 (nilckV a0).bnd fun x10 =>
 (fieldAB x10 0).bnd fun x11 =>
 (loadV 1 false x11 h7).bnd fun x12 =>
 (sliceV none none (some x6) none x12).bnd fun x14 =>
 (nilckV a0).bnd fun x18 =>
 (fieldAB x18 0).bnd fun x19 =>
 (loadV 1 false x19 h7).bnd fun x20 =>
 (sliceV none (some x6) none none x20).bnd fun x22 =>
 (nilckV a0).bnd fun x23 =>
 (fieldAB x23 0).bnd fun x24 =>
 (storeV (size h) 1 x24 x22 h7).bnd fun h25 =>
 finV false false (size h) [x14] h25 := (Pt_enter T_63 base _ h).trans (by kernel_rfl)
theorem S64 (base : Nat) (a0 : PV) (h : Hp) : CallA T base 64 [a0] h =
 (binOp .neq a0 (.int .u8 62)).bnd fun x2 =>
 finV false false (size h) [x2] h := (Pt_enter T_64 base _ h).trans (by kernel_rfl)
theorem S65 (base : Nat) (a0 : PV) (h : Hp) : CallA T base 65 [a0] h =
 bnd2 (CallA T (size h) 52 [a0, (.str [47])] h) fun x3 h4 =>
 (extractB x3 0).bnd fun x6 =>
 (extractB x3 1).bnd fun x7 =>
 (unOp .not x7).bnd fun x11 =>
 condB x11 (
 finV false false (size h) [.nils, (.int .i64 20)] h4) (
 (binOp .eql x6 (.str [])).bnd fun x16 =>
 condB x16 (
 finV false false (size h) [.nils, (.int .i64 0)] h4) (
 bnd2 (CallA T (size h) 74 [x6, (.str [47])] h4) fun x21 h22 =>
 bnd2 (CallA T (size h) 73 [x21] h22) fun x23 h24 =>
 (extractB x23 0).bnd fun x26 =>
 (extractB x23 1).bnd fun x27 =>
 (binOp .neq x27 (.int .i64 0)).bnd fun x31 =>
 condB x31 (
 finV false false (size h) [.nils, (.int .i64 20)] h24) (
 finV false false (size h) [x26, (.int .i64 0)] h24))) := (Pt_enter T_65 base _ h).trans (by kernel_rfl)
theorem S66 (base : Nat) (a0 : PV) (h : Hp) : CallA T base 66 [a0] h =
 (binOp .geq a0 (.int .u8 97)).bnd fun x2 =>
 (wantB x2 true).bnd fun b5 => (whenB b5 (some a0) (some .undef)).bnd fun x4 =>
 (wantB x2 true).bnd fun b9 => (whenB b9 ((binOp .leq x4 (.int .u8 122)).bnd some) (some .undef)).bnd fun x8 =>
 (condB x2 (some x8) (some (.bool false))).bnd fun x12 =>
 (wantB x12 false).bnd fun b15 => (whenB b15 (some a0) (some .undef)).bnd fun x14 =>
 (wantB x12 false).bnd fun b19 => (whenB b19 ((binOp .geq x14 (.int .u8 48)).bnd some) (some .undef)).bnd fun x18 =>
 (wantB x12 false).bnd fun b23 => (whenB b23 (some x18) (some .undef)).bnd fun x22 =>
 (wantB x22 true).bnd fun b27 => (whenB b27 (some a0) (some .undef)).bnd fun x26 =>
 (wantB x22 true).bnd fun b31 => (whenB b31 ((binOp .leq x26 (.int .u8 57)).bnd some) (some .undef)).bnd fun x30 =>
 (wantB x12 false).bnd fun b35 => (whenB b35 ((condB x22 (some x30) (some (.bool false))).bnd some) (some .undef)).bnd fun x34 =>
 (condB x12 (some (.bool true)) (some x34)).bnd fun x38 =>
 finV false false (size h) [x38] h := (Pt_enter T_66 base _ h).trans (by kernel_rfl)
theorem S67 (base : Nat) (a0 : PV) (h : Hp) : CallA T base 67 [a0] h =
 bnd2 (CallA T (size h) 27 [a0, (.str [34])] h) fun x3 h4 =>
 (unOp .not x3).bnd fun x5 =>
 condB x5 (
 bnd2 (CallA T (size h) 63 [a0, (.fn 56 [])] h4) fun x7 h8 =>
 (binOp .neq x7 (.str [])).bnd fun x12 =>
 (wantB x12 true).bnd fun b15 => (whenB b15 (some x7) (some .undef)).bnd fun x14 =>
 (wantB x12 true).bnd fun b19 => (whenB b19 ((lenB true x14).bnd some) (some .undef)).bnd fun x18 =>
 (wantB x12 true).bnd fun b23 => (whenB b23 ((binOp .leq x18 (.int .i64 60)).bnd some) (some .undef)).bnd fun x22 =>
 (condB x12 (some x22) (some (.bool false))).bnd fun x26 =>
 finV false false (size h) [x7, x26] h8) (
 bnd2 (CallA T (size h) 63 [a0, (.fn 62 [])] h4) fun x30 h31 =>
 (lenB true x30).bnd fun x35 =>
 (binOp .leq x35 (.int .i64 60)).bnd fun x36 =>
 (wantB x36 true).bnd fun b39 => (whenB b39 (some a0) (some .undef)).bnd fun x38 =>
 (wantB x36 true).bnd fun b43 => bnd2 (whenB b43 (bnd2 (CallA T (size h) 27 [x38, (.str [34])] h31) fun x45 h44 => some (x45, h44)) (some (.undef, h31))) fun x42 h44 =>
 (condB x36 (some x42) (some (.bool false))).bnd fun x46 =>
 finV false false (size h) [x30, x46] h44) := (Pt_enter T_67 base _ h).trans (by kernel_rfl)
theorem S68 (base : Nat) (a0 a1 : PV) (h : Hp) : CallA T base 68 [a0, a1] h =
 bnd2 (CallA T (size h) 75 [a0, a1] h) fun x4 h5 =>
 (unOp .not x4).bnd fun x6 =>
 condB x6 (
 finV false false (size h) [a0, (.bool false)] h5) (
 (lenB true a1).bnd fun x12 =>
 (sliceV none (some x12) none none a0).bnd fun x13 =>
 finV false false (size h) [x13, (.bool true)] h5) := (Pt_enter T_68 base _ h).trans (by kernel_rfl)
noncomputable def P69_0 (base n0 : Nat) (v7 v0 v6 v1 : PV) (h : Hp) : Option (PV × Hp) := Pt T F69 [1, 1, 1, 0, 1, 0, 1] base n0 [(7, v7), (0, v0), (6, v6), (1, v1)] h
theorem P69_0_eq (base n0 : Nat) (v7 v0 v6 v1 : PV) (h : Hp) : P69_0 base n0 v7 v0 v6 v1 h =
 (lenB true v0).bnd fun x2 =>
 (binOp .lss v7 x2).bnd fun x3 =>
 condB x3 (
 (idxStrB v0 v7).bnd fun x6 =>
 (binOp .lss x6 (.int .u8 48)).bnd fun x7 =>
 (wantB x7 false).bnd fun b10 => (whenB b10 (some v0) (some .undef)).bnd fun x9 =>
 (wantB x7 false).bnd fun b14 => (whenB b14 (some v7) (some .undef)).bnd fun x13 =>
 (wantB x7 false).bnd fun b18 => (whenB b18 ((idxStrB x9 x13).bnd some) (some .undef)).bnd fun x17 =>
 (wantB x7 false).bnd fun b22 => (whenB b22 ((binOp .gtr x17 (.int .u8 57)).bnd some) (some .undef)).bnd fun x21 =>
 (condB x7 (some (.bool true)) (some x21)).bnd fun x25 =>
 condB x25 (
 finV false false n0 [(.int .i64 0), (.bool false)] h) (
 (binOp .mul v6 (.int .i64 10)).bnd fun x29 =>
 (idxStrB v0 v7).bnd fun x32 =>
 (binOp .sub x32 (.int .u8 48)).bnd fun x33 =>
 (toIntB x33 .i64).bnd fun x34 =>
 (binOp .add x29 x34).bnd fun x35 =>
 (binOp .add v7 (.int .i64 1)).bnd fun x38 =>
 P69_0 base n0 x38 v0 x35 v1 h)) (
 (binOp .gtr v6 v1).bnd fun x42 =>
 condB x42 (
 finV false false n0 [(.int .i64 0), (.bool false)] h) (
 finV false false n0 [v6, (.bool true)] h)) := (Pt_eq T F69 [1, 1, 1, 0, 1, 0, 1] base n0 [(7, v7), (0, v0), (6, v6), (1, v1)] h).trans (by kernel_rfl)
theorem S69 (base : Nat) (a0 a1 : PV) (h : Hp) : CallA T base 69 [a0, a1] h =
 (lenB true a0).bnd fun x3 =>
 (binOp .eql x3 (.int .i64 0)).bnd fun x4 =>
 (wantB x4 false).bnd fun b7 => (whenB b7 (some a0) (some .undef)).bnd fun x6 =>
 (wantB x4 false).bnd fun b11 => (whenB b11 ((lenB true x6).bnd some) (some .undef)).bnd fun x10 =>
 (wantB x4 false).bnd fun b15 => (whenB b15 ((binOp .gtr x10 (.int .i64 10)).bnd some) (some .undef)).bnd fun x14 =>
 (condB x4 (some (.bool true)) (some x14)).bnd fun x18 =>
 (wantB x18 false).bnd fun b21 => (whenB b21 (some a0) (some .undef)).bnd fun x20 =>
 (wantB x18 false).bnd fun b25 => (whenB b25 ((lenB true x20).bnd some) (some .undef)).bnd fun x24 =>
 (wantB x18 false).bnd fun b29 => (whenB b29 ((binOp .gtr x24 (.int .i64 1)).bnd some) (some .undef)).bnd fun x28 =>
 (wantB x18 false).bnd fun b33 => (whenB b33 (some x28) (some .undef)).bnd fun x32 =>
 (wantB x32 true).bnd fun b37 => (whenB b37 (some a0) (some .undef)).bnd fun x36 =>
 (wantB x32 true).bnd fun b41 => (whenB b41 ((idxStrB x36 (.int .i64 0)).bnd some) (some .undef)).bnd fun x40 =>
 (wantB x32 true).bnd fun b45 => (whenB b45 ((binOp .eql x40 (.int .u8 48)).bnd some) (some .undef)).bnd fun x44 =>
 (wantB x18 false).bnd fun b49 => (whenB b49 ((condB x32 (some x44) (some (.bool false))).bnd some) (some .undef)).bnd fun x48 =>
 (condB x18 (some (.bool true)) (some x48)).bnd fun x52 =>
 condB x52 (
 finV false false (size h) [(.int .i64 0), (.bool false)] h) (
 P69_0 (size h) (size h) (.int .i64 0) a0 (.int .i64 0) a1 h) := (Pt_enter T_69 base _ h).trans (by kernel_rfl)
noncomputable def P73_0 (base n0 : Nat) (v14 v4 v12 v13 : PV) (h : Hp) : Option (PV × Hp) := Pt T F73 [1, 1, 1, 0, 1, 0, 1] base n0 [(14, v14), (4, v4), (12, v12), (13, v13)] h
theorem P73_0_eq (base n0 : Nat) (v14 v4 v12 v13 : PV) (h : Hp) : P73_0 base n0 v14 v4 v12 v13 h =
 (binOp .lss v14 v13).bnd fun x0 =>
 condB x0 (
 (idxAB v12 v14 1).bnd fun x1 =>
 (loadV 1 false x1 h).bnd fun x2 =>
 bnd2 (CallA T base 80 [x2, (.int .i64 65535)] h) fun x5 h6 =>
 (extractB x5 0).bnd fun x8 =>
 (extractB x5 1).bnd fun x9 =>
 (unOp .not x9).bnd fun x13 =>
 condB x13 (
 finV false false n0 [.nils, (.int .i64 20)] h6) (
 (buildSlV 1 false [(.int .i64 0)] 1 [(0, strip x8)]).bnd fun x18 =>
 bnd2 (appTV 3 1 v4 x18 h6) fun x19 h20 =>
 (binOp .add v14 (.int .i64 1)).bnd fun x22 =>
 P73_0 base n0 x22 x19 v12 v13 h20)) (
 finV false false n0 [v4, (.int .i64 0)] h) := (Pt_eq T F73 [1, 1, 1, 0, 1, 0, 1] base n0 [(14, v14), (4, v4), (12, v12), (13, v13)] h).trans (by kernel_rfl)
theorem S73 (base : Nat) (a0 : PV) (h : Hp) : CallA T base 73 [a0] h =
 (lenB false a0).bnd fun x3 =>
 (binOp .gtr x3 (.int .i64 3)).bnd fun x4 =>
 condB x4 (
 finV false false (size h) [.nils, (.int .i64 3)] h) (
 (lenB false a0).bnd fun x9 =>
 P73_0 (size h) (size h) (.int .i64 0) .nils a0 x9 h) := (Pt_enter T_73 base _ h).trans (by kernel_rfl)
theorem S74 (base : Nat) (a0 a1 : PV) (h : Hp) : CallA T base 74 [a0, a1] h =
 bnd2 (CallA T (size h) 81 [a0, a1, (.int .i64 0), (.int .i64 (-1))] h) fun x3 h4 =>
 finV false false (size h) [x3] h4 := (Pt_enter T_74 base _ h).trans (by kernel_rfl)
theorem S75 (base : Nat) (a0 a1 : PV) (h : Hp) : CallA T base 75 [a0, a1] h =
 (lenB true a0).bnd fun x2 =>
 (lenB true a1).bnd fun x4 =>
 (binOp .geq x2 x4).bnd fun x5 =>
 (wantB x5 true).bnd fun b8 => (whenB b8 (some a0) (some .undef)).bnd fun x7 =>
 (wantB x5 true).bnd fun b12 => (whenB b12 (some a1) (some .undef)).bnd fun x11 =>
 (wantB x5 true).bnd fun b16 => (whenB b16 ((lenB true x11).bnd some) (some .undef)).bnd fun x15 =>
 (wantB x5 true).bnd fun b20 => (whenB b20 ((sliceV none none (some x15) none x7).bnd some) (some .undef)).bnd fun x19 =>
 (wantB x5 true).bnd fun b24 => (whenB b24 (some a1) (some .undef)).bnd fun x23 =>
 (wantB x5 true).bnd fun b28 => (whenB b28 ((binOp .eql x19 x23).bnd some) (some .undef)).bnd fun x27 =>
 (condB x5 (some x27) (some (.bool false))).bnd fun x31 =>
 finV false false (size h) [x31] h := (Pt_enter T_75 base _ h).trans (by kernel_rfl)
theorem S80 (base : Nat) (a0 a1 : PV) (h : Hp) : CallA T base 80 [a0, a1] h =
 bnd2 (CallA T (size h) 87 [a0] h) fun x3 h4 =>
 (extractB x3 0).bnd fun x6 =>
 (extractB x3 1).bnd fun x7 =>
 (isnilV 2 false x7).bnd fun x12 =>
 (wantB x12 true).bnd fun b15 => (whenB b15 (some x6) (some .undef)).bnd fun x14 =>
 (wantB x12 true).bnd fun b19 => (whenB b19 ((binOp .geq x14 (.int .i64 0)).bnd some) (some .undef)).bnd fun x18 =>
 (condB x12 (some x18) (some (.bool false))).bnd fun x22 =>
 (wantB x22 true).bnd fun b25 => (whenB b25 (some x6) (some .undef)).bnd fun x24 =>
 (wantB x22 true).bnd fun b29 => (whenB b29 (some a1) (some .undef)).bnd fun x28 =>
 (wantB x22 true).bnd fun b33 => (whenB b33 ((binOp .leq x24 x28).bnd some) (some .undef)).bnd fun x32 =>
 (condB x22 (some x32) (some (.bool false))).bnd fun x36 =>
 (wantB x36 true).bnd fun b39 => (whenB b39 (some x6) (some .undef)).bnd fun x38 =>
 (wantB x36 true).bnd fun b43 => bnd2 (whenB b43 (bnd2 (CallA T (size h) 42 [x38] h4) fun x45 h44 => some (x45, h44)) (some (.undef, h4))) fun x42 h44 =>
 (wantB x36 true).bnd fun b47 => (whenB b47 (some a0) (some .undef)).bnd fun x46 =>
 (wantB x36 true).bnd fun b51 => (whenB b51 ((binOp .eql x42 x46).bnd some) (some .undef)).bnd fun x50 =>
 (condB x36 (some x50) (some (.bool false))).bnd fun x54 =>
 finV false false (size h) [x6, x54] h44 := (Pt_enter T_80 base _ h).trans (by kernel_rfl)
noncomputable def P81_0 (base n0 : Nat) (v0 v1 v2 v3 : PV) (h : Hp) : Option (PV × Hp) := Pt T F81 [1, 1, 1, 1, 1] base n0 [(0, v0), (1, v1), (2, v2), (3, v3)] h
noncomputable def P81_1 (base n0 : Nat) (v10 v9 v0 v1 v2 v3 : PV) (h : Hp) : Option (PV × Hp) := Pt T F81 [1, 1, 1, 1, 1, 1, 1, 1, 1, 0, 0, 1] base n0 [(10, v10), (9, v9), (0, v0), (1, v1), (2, v2), (3, v3)] h
theorem P81_0_eq (base n0 : Nat) (v0 v1 v2 v3 : PV) (h : Hp) : P81_0 base n0 v0 v1 v2 v3 h =
 (lenB true v0).bnd fun x2 =>
 (binOp .add x2 (.int .i64 1)).bnd fun x3 =>
 (minmaxV false [v3, x3]).bnd fun x4 =>
 bnd2 (makeV 9 [(.str [])] x4 x4 h) fun x7 h8 =>
 (binOp .sub x4 (.int .i64 1)).bnd fun x11 =>
 P81_1 base n0 (.int .i64 0) x7 v0 v1 v2 x11 h8 := (Pt_eq T F81 [1, 1, 1, 1, 1] base n0 [(0, v0), (1, v1), (2, v2), (3, v3)] h).trans (by kernel_rfl)
theorem P81_1_eq (base n0 : Nat) (v10 v9 v0 v1 v2 v3 : PV) (h : Hp) : P81_1 base n0 v10 v9 v0 v1 v2 v3 h =
 (binOp .lss v10 v3).bnd fun x2 =>
 condB x2 (
 bnd2 (CallA T base 90 [v0, v1] h) fun x5 h6 =>
 (binOp .lss x5 (.int .i64 0)).bnd fun x9 =>
 condB x9 (
 (idxAB v9 v10 1).bnd fun x13 =>
 (storeV base 1 x13 v0 h6).bnd fun h14 =>
 (binOp .add v10 (.int .i64 1)).bnd fun x17 =>
 (sliceV (some 1) none (some x17) none v9).bnd fun x18 =>
 finV false false n0 [x18] h14) (
 (binOp .add x5 v2).bnd fun x25 =>
 (sliceV none none (some x25) none v0).bnd fun x26 =>
 (idxAB v9 v10 1).bnd fun x27 =>
 (storeV base 1 x27 x26 h6).bnd fun h28 =>
 (lenB true v1).bnd fun x32 =>
 (binOp .add x5 x32).bnd fun x33 =>
 (sliceV none (some x33) none none v0).bnd fun x34 =>
 (binOp .add v10 (.int .i64 1)).bnd fun x37 =>
 P81_1 base n0 x37 v9 x34 v1 v2 v3 h28)) (
 (idxAB v9 v10 1).bnd fun x42 =>
 (storeV base 1 x42 v0 h).bnd fun h43 =>
 (binOp .add v10 (.int .i64 1)).bnd fun x46 =>
 (sliceV (some 1) none (some x46) none v9).bnd fun x47 =>
 finV false false n0 [x47] h43) := (Pt_eq T F81 [1, 1, 1, 1, 1, 1, 1, 1, 1, 0, 0, 1] base n0 [(10, v10), (9, v9), (0, v0), (1, v1), (2, v2), (3, v3)] h).trans (by kernel_rfl)
theorem S81 (base : Nat) (a0 a1 a2 a3 : PV) (h : Hp) : CallA T base 81 [a0, a1, a2, a3] h =
 (binOp .eql a3 (.int .i64 0)).bnd fun x2 =>
 condB x2 (
 finV false false (size h) [.nils] h) (
 (binOp .eql a1 (.str [])).bnd fun x5 =>
 condB x5 (
 bnd2 (CallA T (size h) 88 [a0, a3] h) fun x8 h9 =>
 finV false false (size h) [x8] h9) (
 (binOp .lss a3 (.int .i64 0)).bnd fun x12 =>
 condB x12 (
 bnd2 (CallA T (size h) 89 [a0, a1] h) fun x15 h16 =>
 (binOp .add x15 (.int .i64 1)).bnd fun x17 =>
 P81_0 (size h) (size h) a0 a1 a2 x17 h16) (
 P81_0 (size h) (size h) a0 a1 a2 a3 h))) := (Pt_enter T_81 base _ h).trans (by kernel_rfl)
noncomputable def P88_0 (base n0 : Nat) (v0 v1 : PV) (h : Hp) : Option (PV × Hp) := Pt T F88 [1, 1, 1, 1] base n0 [(0, v0), (1, v1)] h
noncomputable def P88_1 (base n0 : Nat) (v7 v0 v6 v1 : PV) (h : Hp) : Option (PV × Hp) := Pt T F88 [1, 1, 1, 1, 1, 0, 1, 0, 1] base n0 [(7, v7), (0, v0), (6, v6), (1, v1)] h
theorem P88_0_eq (base n0 : Nat) (v0 v1 : PV) (h : Hp) : P88_0 base n0 v0 v1 h =
 bnd2 (makeV 9 [(.str [])] v1 v1 h) fun x1 h2 =>
 P88_1 base n0 (.int .i64 0) v0 x1 v1 h2 := (Pt_eq T F88 [1, 1, 1, 1] base n0 [(0, v0), (1, v1)] h).trans (by kernel_rfl)
theorem P88_1_eq (base n0 : Nat) (v7 v0 v6 v1 : PV) (h : Hp) : P88_1 base n0 v7 v0 v6 v1 h =
 (binOp .sub v1 (.int .i64 1)).bnd fun x2 =>
 (binOp .lss v7 x2).bnd fun x3 =>
 condB x3 (
 bnd2 (CallA T base 96 [v0] h) fun x5 h6 =>
 (extractB x5 0).bnd fun x8 =>
 (extractB x5 1).bnd fun x9 =>
 (sliceV none none (some x9) none v0).bnd fun x16 =>
 (idxAB v6 v7 1).bnd fun x17 =>
 (storeV base 1 x17 x16 h6).bnd fun h18 =>
 (sliceV none (some x9) none none v0).bnd fun x21 =>
 (binOp .add v7 (.int .i64 1)).bnd fun x24 =>
 P88_1 base n0 x24 x21 v6 v1 h18) (
 (binOp .gtr v1 (.int .i64 0)).bnd fun x27 =>
 condB x27 (
 (binOp .sub v1 (.int .i64 1)).bnd fun x30 =>
 (idxAB v6 x30 1).bnd fun x32 =>
 (storeV base 1 x32 v0 h).bnd fun h33 =>
 finV false false n0 [v6] h33) (
 finV false false n0 [v6] h)) := (Pt_eq T F88 [1, 1, 1, 1, 1, 0, 1, 0, 1] base n0 [(7, v7), (0, v0), (6, v6), (1, v1)] h).trans (by kernel_rfl)
theorem S88 (base : Nat) (a0 a1 : PV) (h : Hp) : CallA T base 88 [a0, a1] h =
 bnd2 (CallA T (size h) 95 [a0] h) fun x2 h3 =>
 (binOp .lss a1 (.int .i64 0)).bnd fun x6 =>
 (wantB x6 false).bnd fun b9 => (whenB b9 (some a1) (some .undef)).bnd fun x8 =>
 (wantB x6 false).bnd fun b13 => (whenB b13 (some x2) (some .undef)).bnd fun x12 =>
 (wantB x6 false).bnd fun b17 => (whenB b17 ((binOp .gtr x8 x12).bnd some) (some .undef)).bnd fun x16 =>
 (condB x6 (some (.bool true)) (some x16)).bnd fun x20 =>
 condB x20 (
 P88_0 (size h) (size h) a0 x2 h3) (
 P88_0 (size h) (size h) a0 a1 h3) := (Pt_enter T_88 base _ h).trans (by kernel_rfl)
end Go.Am.YtdnbedldmkagmaaGreatDoor
namespace Go.Am
set_option linter.unusedVariables false
set_option linter.unusedSimpArgs false
theorem loadV_ptr (n g b off h) : loadV n g (.ptr b off) h = (getBox h b).bnd fun cs => part cs off n g := (rfl)
theorem loadV_ep (n g cs off h) : loadV n g (.ep cs off) h = part cs off n g := (rfl)
theorem storeV_ptr (base n b off u h) : storeV base n (.ptr b off) u h = (getBox h b).bnd fun cs =>
      if u.cells.length = n ∧ off + n ≤ cs.length ∧ u.cells.all scalar = true ∧ (b < base → belows 0 (strips u.cells) = true)
      then some (setBox h b (setRange cs off (if b < base then strips u.cells else u.cells))) else none := (rfl)
theorem allocK_eq {α : Type} (z h) (K : PV → Hp → Option α) : allocK z h K = K (.ptr (size h) 0) (ext h [.cells z]) := (rfl)
theorem boxV_eq (n v h) : boxV n v h = if v.cells.length = n ∧ v.cells.all scalar = true then some (.ptr (size h) 0, ext h [.cells v.cells]) else none := (rfl)
theorem buildV_eq (z l) : buildV z l = (buildAgg l z).bnd fun cs => some (.agg cs) := (rfl)
theorem buildSlV_eq (sz g z len l) : buildSlV sz g z len l = (fillParts sz l (List.replicate len (if g then .agg z else z.headD .undef))).bnd fun es => some (.sl .full sz es) := (rfl)
theorem nilckV_eq (v) : nilckV v = (isNil v).bnd fun b => if b then none else some v := (rfl)
theorem isnilV_eq (kd neg v) : isnilV kd neg v = (nilK kd v).bnd fun b => some (.bool (if neg then !b else b)) := (rfl)
theorem makeV_eq (T z l c h) : makeV T z l c h = (makeN l c).bnd fun n => makeB T z n h := (rfl)
theorem copyV_bsl (base f b off len sz u h) : copyV base (.bsl f b off len sz) u h = (elems h u).bnd fun xs => (getBox h b).bnd fun cs =>
        if sz = 1 ∧ off + len ≤ cs.length ∧ xs.all scalar = true ∧ (b < base → belows 0 (xs.take len) = true)
        then some (.int .i64 (min xs.length len : Nat), setBox h b (setRange cs off (xs.take len))) else none := (rfl)
theorem copyV_nils (base u h) : copyV base .nils u h = (elems h u).bnd fun xs => some (.int .i64 0, h) := (rfl)
theorem bdW_none (n d) : bdW n d none = some d := (rfl)
theorem bdW_some (n d v) : bdW n d (some v) = bdV n v := (rfl)
theorem sliceV_str (lo hi s) : sliceV none lo hi none (.str s) = (bdW s.length s.length hi).bnd fun hh => (bdW hh 0 lo).bnd fun l => some (.str ((s.drop l).take (hh - l))) := (rfl)
theorem sliceV_nils (n lo hi mx) : sliceV (some n) lo hi mx .nils = (bdW 0 0 mx).bnd fun m => (bdW 0 0 hi).bnd fun hh => (bdW 0 0 lo).bnd fun l => some .nils := (rfl)
theorem sliceV_sl (n lo hi o es) : sliceV (some n) lo hi none (.sl o n es) = (bdW es.length es.length hi).bnd fun hh => (bdW hh 0 lo).bnd fun l =>
      some (.sl (if isFull o && hh == es.length then .full else .no) n ((es.drop l).take (hh - l))) := by
  simp [sliceV, bdW_none, Option.bnd_some]
theorem sliceV_bsl (n lo hi f b off len) : sliceV (some n) lo hi none (.bsl f b off len n) = (bdW len len hi).bnd fun hh => (bdW hh 0 lo).bnd fun l =>
      if hh - l = 0 then some (.sl .no n []) else some (.bsl (f && hh == len) b (off + l * n) (hh - l) n) := by
  simp [sliceV, bdW_none, Option.bnd_some]
theorem idxArrV_ptr (sz len b o i) : idxArrV sz len (.ptr b o) i = (ix i len).bnd fun i => some (.ptr b (o + i * sz)) := (rfl)
theorem idxArrV_ep (sz len b o i) : idxArrV sz len (.ep b o) i = (ix i len).bnd fun i => some (.ep b (o + i * sz)) := (rfl)
theorem idxAggV_agg (sz g len cs i) : idxAggV sz g len (.agg cs) i = (ix i len).bnd fun i => part cs (i * sz) sz g := (rfl)
theorem minmaxV_cons (m x r) : minmaxV m (x :: r) = minMax m x r := (rfl)
theorem appTV_eq (T sz v u h) : appTV T sz v u h = (elems h u).bnd fun xs => growT h T sz v xs := (rfl)
theorem loadNV_ptr (n g c o b off h) : loadNV n g (.ptr c o) (.ptr b off) h = if b = c then none else loadV n g (.ptr b off) h := (rfl)
theorem loadNV_ep (n g c o cs off h) : loadNV n g (.ptr c o) (.ep cs off) h = loadV n g (.ep cs off) h := (rfl)
theorem storeNV_ptr (base n c o b off u h) : storeNV base n (.ptr c o) (.ptr b off) u h = if b = c then storeV base n (.ptr b off) u h else none := (rfl)
theorem callvV_fn (orc f cap vs h) : callvV orc (.fn f cap) vs h = orc f (vs ++ cap) h := (rfl)
theorem forget_same (v : PV) (h : Hp) : forget h (v, h) = some (v, h) := by simp [forget]
theorem orcQ_eq (orc : Orc) (f vs h) : orcQ orc f vs h = (orc f vs h).bnd (forget h) := (rfl)
theorem chkK_eq {α : Type} (h) (y : Option α) : chkK h h y = y := by simp [chkK]
theorem finV_code (n0 vs h) : finV false false n0 vs h = (frzs n0 h vs).bnd fun vs => if belows n0 vs = true then some (result1 vs, trunc h n0) else none := (rfl)
theorem finV_keep (o n0 vs h) : finV true o n0 vs h = some (result1 vs, h) := (rfl)
theorem finV_own (n0 vs h) : finV false true n0 vs h = (ownEnd n0 h vs).bnd fun r => some (result1 r.1, r.2) := (rfl)
theorem appV_nils (sz u h) : appV sz .nils u h = (elems h u).bnd fun xs => if xs.all (fun x => x.cells.length == sz) then (if xs.length ≤ lim2 then some (if xs.isEmpty then .nils else .sl .no sz (strips xs)) else none) else none := (rfl)
theorem appV_full (sz es u h) : appV sz (.sl .full sz es) u h = (elems h u).bnd fun xs => if xs.all (fun x => x.cells.length == sz) then (if es.length + xs.length ≤ lim2 then some (if xs.isEmpty then .sl .full sz es else .sl .no sz (es ++ strips xs)) else none) else none := by
  unfold appV; simp
theorem bnd_some_id {α : Type} (x : Option α) : x.bnd some = x := by cases x <;> rfl
end Go.Am
namespace Go.Am
set_option maxRecDepth 100000
set_option linter.defProp false
def evD :=
  And.intro @bnd2_some <|
  And.intro @bnd2_none <|
  And.intro @bnd2_ite <|
  And.intro @Option.bnd_some <|
  And.intro @Option.bnd_none <|
  And.intro @Option.bnd_ite <|
  And.intro @condB_true <|
  And.intro @condB_false <|
  And.intro @condB_b <|
  And.intro @whenB_true <|
  And.intro @whenB_false <|
  @allocK_eq
def evU :=
  And.intro @Int.toNat_natCast <|
  And.intro @Nat.zero_add <|
  And.intro @Nat.add_zero <|
  And.intro @Nat.le_refl <|
  And.intro @Nat.succ_eq_add_one <|
  And.intro @Nat.add_eq_zero_iff <|
  And.intro @Nat.succ_ne_self <|
  And.intro @and_true <|
  And.intro @true_and <|
  And.intro @and_self <|
  And.intro @Bool.false_eq_true <|
  And.intro @Bool.true_and <|
  And.intro @Bool.and_true <|
  And.intro @Bool.and_self <|
  And.intro @Bool.not_true <|
  And.intro @Bool.not_false <|
  And.intro @Bool.not_not <|
  And.intro @Bool.true_beq <|
  And.intro @Bool.false_beq <|
  And.intro @beq_true <|
  And.intro @beq_false <|
  And.intro @imp_self <|
  And.intro @false_implies <|
  And.intro @decide_eq_true_eq <|
  And.intro @not_true_eq_false <|
  And.intro @not_false_eq_true <|
  And.intro @Bool.not_eq_true' <|
  And.intro @decide_true <|
  And.intro @decide_false <|
  And.intro @Bool.true_or <|
  And.intro @Bool.false_or <|
  And.intro @Bool.or_true <|
  And.intro @Bool.or_false <|
  And.intro @Bool.false_and <|
  And.intro @Bool.and_false <|
  And.intro @true_or <|
  And.intro @or_true <|
  And.intro @false_or <|
  And.intro @or_false <|
  And.intro @or_self <|
  And.intro @false_and <|
  And.intro @and_false <|
  And.intro @Nat.add_eq_left <|
  And.intro @Nat.left_eq_add <|
  And.intro @Nat.add_left_cancel_iff <|
  And.intro @size_ext <|
  And.intro @size_setBox <|
  And.intro @getBox_ext_0 <|
  And.intro @getBox_ext_n <|
  And.intro @ext_ext <|
  And.intro @trunc_ext <|
  And.intro @trunc_self <|
  And.intro @trunc_exts <|
  And.intro @trunc_set <|
  And.intro @not_lt_size <|
  And.intro @size_add_lt <|
  And.intro @strip_undef <|
  And.intro @strip_bool <|
  And.intro @strip_int <|
  And.intro @strip_str <|
  And.intro @strip_nilp <|
  And.intro @strip_bnil <|
  And.intro @strip_ptr <|
  And.intro @strip_ep <|
  And.intro @strip_nils <|
  And.intro @strip_bsl <|
  And.intro @strip_nilif <|
  And.intro @strip_iface <|
  And.intro @strip_nilf <|
  And.intro @strip_fn <|
  And.intro @strip_agg <|
  And.intro @strip_tup <|
  And.intro @cells_agg <|
  And.intro @cells_bool <|
  And.intro @cells_int <|
  And.intro @cells_str <|
  And.intro @cells_nilp <|
  And.intro @cells_bnil <|
  And.intro @cells_ptr <|
  And.intro @cells_nils <|
  And.intro @cells_sl <|
  And.intro @cells_bsl <|
  And.intro @cells_nilif <|
  And.intro @cells_iface <|
  And.intro @cells_nilf <|
  And.intro @cells_fn <|
  And.intro @isNil_nilp <|
  And.intro @isNil_bnil <|
  And.intro @isNil_nils <|
  And.intro @isNil_nilif <|
  And.intro @isNil_nilf <|
  And.intro @isNil_ptr <|
  And.intro @isNil_ep <|
  And.intro @isNil_sl <|
  And.intro @isNil_bsl <|
  And.intro @isNil_iface <|
  And.intro @isNil_fn <|
  And.intro @wantB_bool <|
  And.intro @wantB_undef <|
  And.intro @boolB_eq <|
  And.intro @boolB_ne <|
  And.intro @nilK_00 <|
  And.intro @nilK_0b <|
  And.intro @nilK_01 <|
  And.intro @nilK_10 <|
  And.intro @nilK_11 <|
  And.intro @nilK_12 <|
  And.intro @nilK_20 <|
  And.intro @nilK_21 <|
  And.intro @nilK_30 <|
  And.intro @nilK_31 <|
  And.intro @scalar_bool <|
  And.intro @scalar_int <|
  And.intro @scalar_str <|
  And.intro @scalar_nilp <|
  And.intro @scalar_bnil <|
  And.intro @scalar_ptr <|
  And.intro @scalar_nils <|
  And.intro @scalar_sl <|
  And.intro @scalar_bsl <|
  And.intro @scalar_nilif <|
  And.intro @scalar_iface <|
  And.intro @scalar_nilf <|
  And.intro @scalar_fn <|
  And.intro @bdV_int <|
  And.intro @isFull_no <|
  And.intro @isFull_full <|
  And.intro @isFull_tok <|
  And.intro @toIntB_int <|
  And.intro @extractB_tup <|
  And.intro @fieldAB_ptr <|
  And.intro @fieldAB_ep <|
  And.intro @fieldB_agg <|
  And.intro @lenB_str <|
  And.intro @lenB_nils <|
  And.intro @lenB_sl <|
  And.intro @lenB_bsl <|
  And.intro @idxAB_sl <|
  And.intro @idxAB_bsl <|
  And.intro @idxStrB_str <|
  And.intro @binOp_int <|
  And.intro @binOp_str <|
  And.intro @isShift_add <|
  And.intro @isShift_sub <|
  And.intro @isShift_mul <|
  And.intro @isShift_quo <|
  And.intro @isShift_rem <|
  And.intro @isShift_and <|
  And.intro @isShift_or <|
  And.intro @isShift_xor <|
  And.intro @isShift_andNot <|
  And.intro @isShift_eql <|
  And.intro @isShift_neq <|
  And.intro @isShift_lss <|
  And.intro @isShift_leq <|
  And.intro @isShift_gtr <|
  And.intro @isShift_geq <|
  And.intro @isShift_shl <|
  And.intro @isShift_shr <|
  And.intro @intOp_add <|
  And.intro @intOp_sub <|
  And.intro @intOp_mul <|
  And.intro @intOp_quo <|
  And.intro @intOp_rem <|
  And.intro @intOp_eql <|
  And.intro @intOp_neq <|
  And.intro @intOp_lss <|
  And.intro @intOp_leq <|
  And.intro @intOp_gtr <|
  And.intro @intOp_geq <|
  And.intro @strOp_eql <|
  And.intro @strOp_neq <|
  And.intro @strOp_add <|
  And.intro @unOp_not <|
  And.intro @unOp_neg <|
  And.intro @part_agg <|
  And.intro @part_one <|
  And.intro @minMax_nil <|
  And.intro @minMax_cons <|
  And.intro @minMax2_max <|
  And.intro @minMax2_min <|
  And.intro @belows_nil <|
  And.intro @belows_cons <|
  And.intro @below_undef <|
  And.intro @below_bool <|
  And.intro @below_int <|
  And.intro @below_str <|
  And.intro @below_nilp <|
  And.intro @below_bnil <|
  And.intro @below_nils <|
  And.intro @below_nilif <|
  And.intro @below_nilf <|
  And.intro @below_ptr <|
  And.intro @below_sl <|
  And.intro @below_iface <|
  And.intro @below_agg <|
  And.intro @below_tup <|
  And.intro @resB_ptr <|
  And.intro @result1_one <|
  And.intro @result1_nil <|
  And.intro @result1_two <|
  And.intro @setRange_nil <|
  And.intro @setRange_cons <|
  And.intro @fillParts_nil <|
  And.intro @fillParts_cons <|
  And.intro @buildAgg_nil <|
  And.intro @buildAgg_cons <|
  And.intro @elems_nils <|
  And.intro @elems_sl <|
  And.intro @elems_bsl <|
  And.intro @setBox_eq <|
  And.intro @size_setBx <|
  And.intro @cellsOf_cells <|
  And.intro @tokOf_tok <|
  And.intro @iterOf_iter <|
  And.intro @getBox_exts_0 <|
  And.intro @getBox_exts_n <|
  And.intro @setBx_ext_0 <|
  And.intro @setBx_ext_n <|
  And.intro @setBx_exts_0 <|
  And.intro @setBx_exts_n <|
  And.intro @setBx_setBx <|
  And.intro @getTok_ext_0 <|
  And.intro @getTok_ext_n <|
  And.intro @getTok_exts_0 <|
  And.intro @getTok_exts_n <|
  And.intro @getIter_ext_0 <|
  And.intro @getIter_ext_n <|
  And.intro @getIter_exts_0 <|
  And.intro @getIter_exts_n <|
  And.intro @strip_sl <|
  And.intro @ostrip_no <|
  And.intro @ostrip_full <|
  And.intro @ostrip_tok <|
  And.intro @obelow_no <|
  And.intro @obelow_full <|
  And.intro @obelow_tok <|
  And.intro @strips_nil <|
  And.intro @strips_cons <|
  And.intro @below_bsl <|
  And.intro @below_fn <|
  And.intro @below_ep <|
  And.intro @frzs_nil <|
  And.intro @frzs_cons <|
  And.intro @frz_sl <|
  And.intro @frz_bsl <|
  And.intro @frz_agg <|
  And.intro @frz_tup <|
  And.intro @frz_iface <|
  And.intro @frz_undef <|
  And.intro @frz_bool <|
  And.intro @frz_int <|
  And.intro @frz_str <|
  And.intro @frz_nilp <|
  And.intro @frz_bnil <|
  And.intro @frz_ptr <|
  And.intro @frz_ep <|
  And.intro @frz_nils <|
  And.intro @frz_nilif <|
  And.intro @frz_nilf <|
  And.intro @frz_fn <|
  And.intro @ownEnd_tok <|
  And.intro @ownEnd_bsl <|
  And.intro @ownEnd_nils <|
  And.intro @ownEnd_no <|
  And.intro @ownEnd_full <|
  And.intro @elemsOf_one <|
  And.intro @elems_str <|
  And.intro @fits_def <|
  And.intro @rangeB_str <|
  And.intro @nextB_it <|
  And.intro @tassertB_iface <|
  And.intro @tassertB_nil <|
  And.intro @eqvB_agg <|
  And.intro @eqCells_nil <|
  And.intro @eqCells_cons <|
  And.intro @eqCell_bool <|
  And.intro @eqCell_int <|
  And.intro @eqCell_str <|
  And.intro @makeB_eq <|
  And.intro @bytesStrB_sl <|
  And.intro @bytesStrB_nils <|
  And.intro @bytesStrB_bsl <|
  And.intro @bytesOf_bytes <|
  And.intro @loadV_ptr <|
  And.intro @loadV_ep <|
  And.intro @storeV_ptr <|
  And.intro @boxV_eq <|
  And.intro @buildV_eq <|
  And.intro @buildSlV_eq <|
  And.intro @nilckV_eq <|
  And.intro @isnilV_eq <|
  And.intro @makeV_eq <|
  And.intro @copyV_bsl <|
  And.intro @copyV_nils <|
  And.intro @bdW_none <|
  And.intro @bdW_some <|
  And.intro @sliceV_str <|
  And.intro @sliceV_nils <|
  And.intro @sliceV_sl <|
  And.intro @sliceV_bsl <|
  And.intro @idxArrV_ptr <|
  And.intro @idxArrV_ep <|
  And.intro @idxAggV_agg <|
  And.intro @minmaxV_cons <|
  And.intro @appTV_eq <|
  And.intro @loadNV_ptr <|
  And.intro @loadNV_ep <|
  And.intro @storeNV_ptr <|
  And.intro @callvV_fn <|
  And.intro @chkK_eq <|
  And.intro @forget_same <|
  And.intro @orcQ_eq <|
  And.intro @finV_code <|
  And.intro @finV_keep <|
  And.intro @finV_own <|
  And.intro @appV_nils <|
  And.intro @appV_full <|
  @bnd_some_id
/-- Lists and the like, of plain types. -/
def evL :=
  And.intro @List.all_cons.{0} <|
  And.intro @List.all_nil.{0} <|
  And.intro @List.getElem?_cons_zero.{0} <|
  And.intro @List.getElem?_cons_succ.{0} <|
  And.intro @List.getElem?_nil.{0} <|
  And.intro @List.length_cons.{0} <|
  And.intro @List.length_nil.{0} <|
  And.intro @List.set_cons_zero.{0} <|
  And.intro @List.set_cons_succ.{0} <|
  And.intro @List.drop_zero.{0} <|
  And.intro @List.drop_succ_cons.{0} <|
  And.intro @List.drop_nil.{0} <|
  And.intro @List.take_zero.{0} <|
  And.intro @List.take_succ_cons.{0} <|
  And.intro @List.take_nil.{0} <|
  And.intro @List.replicate_succ.{0} <|
  And.intro @List.replicate_zero.{0} <|
  And.intro @List.headD_cons.{0} <|
  And.intro @List.cons_append.{0} <|
  And.intro @List.nil_append.{0} <|
  And.intro @bne_self_eq_false.{0} <|
  And.intro @beq_self_eq_true.{0} <|
  And.intro @Option.map_some.{0, 0} <|
  And.intro @List.map_cons.{0, 0} <|
  @List.map_nil.{0, 0}
end Go.Am
namespace Go.Am
set_option linter.unusedVariables false
set_option linter.unusedSimpArgs false
theorem Bu.strips : ∀ l : List UInt8, strips (u8s l) = u8s l
  | [] => rfl
  | c :: l => by show strip _ :: Go.Am.strips (u8s l) = _; rw [Bu.strips l]; rfl
theorem Bu.len (l : List UInt8) : (u8s l).length = l.length := by simp [u8s]
theorem Bu.append (a b : List UInt8) : u8s a ++ u8s b = u8s (a ++ b) := by simp [u8s]
theorem Bu.bytesOf (l : List UInt8) : bytesOf (u8s l) = some l := bytesOf_bytes l
theorem Bu.ne {l : List UInt8} (h : l ≠ []) : u8s l ≠ [] := by cases l <;> simp_all [u8s]
theorem Bu.nil : u8s [] = [] := rfl
theorem Bu.cons (c : UInt8) (l : List UInt8) : u8s (c :: l) = .int .u8 c.toNat :: u8s l := rfl
theorem Bu.one (c : UInt8) : [PV.int .u8 (c.toNat : Int)] = u8s [c] := rfl
theorem Bu.eq_nil {l : List UInt8} : u8s l = [] ↔ l = [] := by cases l <;> simp [u8s]
theorem Bu.fits : ∀ l : List UInt8, (u8s l).all (fits 1) = true
  | [] => rfl
  | c :: l => by show (_ && List.all (u8s l) _) = true; rw [Bu.fits l]; rfl
theorem Bu.scalar : ∀ l : List UInt8, (u8s l).all scalar = true
  | [] => rfl
  | c :: l => by show (_ && List.all (u8s l) _) = true; rw [Bu.scalar l]; rfl
theorem Bu.below (n : Nat) : ∀ l : List UInt8, belows n (u8s l) = true
  | [] => rfl
  | c :: l => by show (_ && belows n (u8s l)) = true; rw [Bu.below n l]; rfl
theorem Bu.get {l : List UInt8} {i : Nat} {c : UInt8} (h : l[i]? = some c) : (u8s l)[i]? = some (.int .u8 c.toNat) := by simp [u8s, h]
theorem Bu.drop (l : List UInt8) (n : Nat) : (u8s l).drop n = u8s (l.drop n) := by simp [u8s]
theorem Bu.take (l : List UInt8) (n : Nat) : (u8s l).take n = u8s (l.take n) := by simp [u8s]
theorem Bu.ix {k : IntKind} {l : List UInt8} {i : Nat} (h : i < l.length) : ix (.int k i) (u8s l).length = some i := ix_nat k i _ (by rw [Bu.len]; exact h)

/-- A slice that grows: what it is (z: while there is nothing in it), and its token on top of the heap. -/
def gV (h : Hp) (z : PV) (sz : Nat) (es : List PV) : PV := if es.isEmpty then z else .sl (.tok (size h)) sz es
def gH (h : Hp) (T : Nat) (es : List PV) : Hp := if es.isEmpty then h else ext h [.tok es.length T]
/-- What may stand for nothing. -/
def gZ (sz : Nat) (z : PV) : Prop := z = .nils ∨ z = .sl .full sz []
theorem gZ_nils (sz : Nat) : gZ sz .nils := .inl rfl
theorem gZ_full (sz : Nat) : gZ sz (.sl .full sz []) := .inr rfl
theorem gV_nil (h z sz) : gV h z sz [] = z := rfl
theorem gH_nil (h T) : gH h T [] = h := rfl
theorem gGrow {h : Hp} {T sz : Nat} {z : PV} (hz : gZ sz z) (es xs : List PV) (hf : xs.all (fits sz) = true) (hs : strips xs = xs) (hl : es.length + xs.length ≤ lim2) :
    growT (gH h T es) T sz (gV h z sz es) xs = some (gV h z sz (es ++ xs), gH h T (es ++ xs)) := by
  unfold growT
  rw [if_pos hf]
  cases es with
  | nil =>
    simp only [gV_nil, gH_nil, List.nil_append]
    simp only [List.length_nil] at hl
    rcases hz with rfl | rfl
    · simp only
      rw [if_pos (by omega)]
      cases xs with
      | nil => rfl
      | cons x xs => simp only [List.isEmpty_cons, Bool.false_eq_true, if_false, gV, gH, hs]
    · simp only
      rw [if_pos (by simp; omega)]
      cases xs with
      | nil => rfl
      | cons x xs => simp only [List.isEmpty_cons, Bool.false_eq_true, if_false, gV, gH, hs, List.nil_append, List.length_nil, Nat.zero_add]
  | cons e es =>
    have e1 : gV h z sz (e :: es) = .sl (.tok (size h)) sz (e :: es) := rfl
    have e2 : gH h T (e :: es) = ext h [.tok (e :: es).length T] := rfl
    rw [e1, e2]
    simp only [getTok_ext_0, tokOf_tok, Option.bnd_some, hs]
    rw [if_pos ⟨trivial, trivial, hl⟩, setBx_ext_0]
    simp only [gV, gH, List.cons_append, List.isEmpty_cons, Bool.false_eq_true, if_false, List.length_cons, List.length_append, Nat.add_right_comm]
theorem gOne {h : Hp} {T : Nat} {z : PV} (hz : gZ 1 z) (out : List UInt8) (c : UInt8) (hl : out.length + 1 ≤ lim2) :
    growT (gH h T (u8s out)) T 1 (gV h z 1 (u8s out)) [.int .u8 c.toNat] = some (gV h z 1 (u8s (out ++ [c])), gH h T (u8s (out ++ [c]))) := by
  have := gGrow (h := h) (T := T) hz (u8s out) (u8s [c]) (Bu.fits [c]) (Bu.strips [c]) (by rw [Bu.len]; exact hl)
  rw [Bu.append] at this
  exact this
theorem gU8 {h : Hp} {T : Nat} {z : PV} (hz : gZ 1 z) (out l : List UInt8) (hl : out.length + l.length ≤ lim2) :
    growT (gH h T (u8s out)) T 1 (gV h z 1 (u8s out)) (u8s l) = some (gV h z 1 (u8s (out ++ l)), gH h T (u8s (out ++ l))) := by
  have := gGrow (h := h) (T := T) hz (u8s out) (u8s l) (Bu.fits l) (Bu.strips l) (by rw [Bu.len, Bu.len]; exact hl)
  rw [Bu.append] at this
  exact this
theorem size_gH (h T es) : size h ≤ size (gH h T es) := by
  unfold gH; split
  · exact Nat.le_refl _
  · rw [size_ext]; omega
theorem trunc_gH (h T es) : trunc (gH h T es) (size h) = h := by
  unfold gH; split
  · exact trunc_self
  · exact trunc_ext
/-- What has grown, behind its frame. -/
def gD (z : PV) (sz : Nat) (es : List PV) : PV := if es.isEmpty then z else .sl .no sz es
theorem frz_gV {sz : Nat} {z : PV} (hz : gZ sz z) (n : Nat) (h k : Hp) (es : List PV) : frz n k (gV h z sz es) = some (gD z sz es) := by
  unfold gV gD
  cases es with
  | nil => rcases hz with rfl | rfl <;> rfl
  | cons x xs => rfl
theorem below_gD {sz : Nat} {z : PV} (hz : gZ sz z) (n : Nat) (es : List PV) (hb : belows n es = true) : below n (gD z sz es) = true := by
  unfold gD
  cases es with
  | nil => rcases hz with rfl | rfl <;> rfl
  | cons x xs => simp only [List.isEmpty_cons, Bool.false_eq_true, if_false, below_sl, obelow_no, Bool.true_and, hb]
theorem elems_gV {sz : Nat} {z : PV} (hz : gZ sz z) (h k : Hp) (es : List PV) : elems k (gV h z sz es) = some es := by
  unfold gV
  cases es with
  | nil => rcases hz with rfl | rfl <;> rfl
  | cons x xs => rfl
theorem elems_gD {sz : Nat} {z : PV} (hz : gZ sz z) (k : Hp) (es : List PV) : elems k (gD z sz es) = some es := by
  unfold gD
  cases es with
  | nil => rcases hz with rfl | rfl <;> rfl
  | cons x xs => rfl
theorem len_gV {sz : Nat} {z : PV} (hz : gZ sz z) (h : Hp) (es : List PV) : lenB false (gV h z sz es) = some (.int .i64 es.length) := by
  unfold gV
  cases es with
  | nil => rcases hz with rfl | rfl <;> rfl
  | cons x xs => rfl
theorem len_gD {sz : Nat} {z : PV} (hz : gZ sz z) (es : List PV) : lenB false (gD z sz es) = some (.int .i64 es.length) := by
  unfold gD
  cases es with
  | nil => rcases hz with rfl | rfl <;> rfl
  | cons x xs => rfl
theorem bytes_gV {z : PV} (hz : gZ 1 z) (h k : Hp) (l : List UInt8) : bytesStrB k (gV h z 1 (u8s l)) = some (.str l) := by
  unfold gV
  cases l with
  | nil => rcases hz with rfl | rfl <;> rfl
  | cons x xs =>
    show (Go.Am.bytesOf (u8s (x :: xs))).bnd _ = _
    rw [Bu.bytesOf]; rfl
/-- Bytes as a value: nil, or a slice by value. -/
def Bv (b : PV) (l : List UInt8) : Prop := (b = .nils ∧ l = []) ∨ b = .sl .no 1 (u8s l) ∨ b = .sl .full 1 (u8s l)
theorem Bv.nils : Bv .nils [] := .inl ⟨rfl, rfl⟩
theorem Bv.no (l) : Bv (.sl .no 1 (u8s l)) l := .inr (.inl rfl)
theorem Bv.full (l) : Bv (.sl .full 1 (u8s l)) l := .inr (.inr rfl)
section
variable {b : PV} {l : List UInt8} (hb : Bv b l)
include hb
theorem Bv.len : lenB false b = some (.int .i64 l.length) := by
  rcases hb with ⟨rfl, rfl⟩ | rfl | rfl
  · rfl
  · rw [lenB_sl, Bu.len]
  · rw [lenB_sl, Bu.len]
theorem Bv.elems (h : Hp) : Go.Am.elems h b = some (u8s l) := by rcases hb with ⟨rfl, rfl⟩ | rfl | rfl <;> rfl
theorem Bv.idx {k : IntKind} {i : Nat} {c : UInt8} (hc : l[i]? = some c) : idxAB b (.int k i) 1 = some (.ep [.int .u8 c.toNat] 0) := by
  have hi := (List.getElem?_eq_some_iff.1 hc).1
  rcases hb with ⟨rfl, rfl⟩ | rfl | rfl
  · simp at hc
  · rw [idxAB_sl, if_pos rfl, Bu.ix hi, Option.bnd_some, Bu.get hc]; rfl
  · rw [idxAB_sl, if_pos rfl, Bu.ix hi, Option.bnd_some, Bu.get hc]; rfl
theorem Bv.scalar : Go.Am.scalar b = true := by rcases hb with ⟨rfl, rfl⟩ | rfl | rfl <;> rfl
theorem Bv.frz (n : Nat) (h : Hp) : Go.Am.frz n h b = some b := by rcases hb with ⟨rfl, rfl⟩ | rfl | rfl <;> rfl
theorem Bv.strip : Go.Am.strip b = b := by rcases hb with ⟨rfl, rfl⟩ | rfl | rfl <;> rfl
theorem Bv.below (n : Nat) : Go.Am.below n b = true := by
  rcases hb with ⟨rfl, rfl⟩ | rfl | rfl
  · rfl
  · rw [below_sl, Bu.below]; rfl
  · rw [below_sl, Bu.below]; rfl
theorem Bv.cells : b.cells = [b] := by rcases hb with ⟨rfl, rfl⟩ | rfl | rfl <;> rfl
end
theorem Bv.done {z : PV} (hz : gZ 1 z) (l : List UInt8) : Bv (gD z 1 (u8s l)) l := by
  unfold gD
  cases l with
  | nil => rcases hz with rfl | rfl
           · exact .inl ⟨rfl, rfl⟩
           · exact .inr (.inr rfl)
  | cons x xs => exact .inr (.inl rfl)
/-- Bytes that can be read. -/
structure Rd (b : PV) (l : List UInt8) : Prop where
  len : lenB false b = some (.int .i64 l.length)
  idx : ∀ {k : IntKind} {i : Nat} {c : UInt8}, l[i]? = some c → idxAB b (.int k i) 1 = some (.ep [.int .u8 c.toNat] 0)
  elems : ∀ h, Go.Am.elems h b = some (u8s l)
theorem Bv.rd {b : PV} {l : List UInt8} (hb : Bv b l) : Rd b l := ⟨hb.len, hb.idx, hb.elems⟩
theorem rd_sl (o : Own) (l : List UInt8) : Rd (.sl o 1 (u8s l)) l := by
  refine ⟨by rw [lenB_sl, Bu.len], fun {k i c} hc => ?_, fun h => rfl⟩
  have hi := (List.getElem?_eq_some_iff.1 hc).1
  rw [idxAB_sl, if_pos rfl, Bu.ix hi, Option.bnd_some, Bu.get hc]; rfl
theorem gV_rd {z : PV} (hz : gZ 1 z) (h : Hp) (l : List UInt8) : Rd (gV h z 1 (u8s l)) l := by
  cases l with
  | nil =>
    rcases hz with rfl | rfl
    · exact Bv.nils.rd
    · exact (Bv.full []).rd
  | cons x l => exact rd_sl _ (x :: l)
end Go.Am
namespace Go.Am
set_option linter.unusedVariables false
set_option linter.unusedSimpArgs false
/-- A form of elements: so many cells, no box. -/
structure El {α : Type} (e : α → PV) (sz : Nat) : Prop where
  len : ∀ a, (e a).cells.length = sz
  sc : ∀ a, (e a).cells.all scalar = true
  st : ∀ a, strip (e a) = e a
  be : ∀ n a, below n (e a) = true
def eI (n : Int) : PV := .int .i64 n
def eS (s : List UInt8) : PV := .str s
def eB (c : UInt8) : PV := .int .u8 c.toNat
theorem elI : El eI 1 := ⟨fun _ => rfl, fun _ => rfl, fun _ => rfl, fun _ _ => rfl⟩
theorem elS : El eS 1 := ⟨fun _ => rfl, fun _ => rfl, fun _ => rfl, fun _ _ => rfl⟩
theorem elB : El eB 1 := ⟨fun _ => rfl, fun _ => rfl, fun _ => rfl, fun _ _ => rfl⟩
section
variable {α : Type} {e : α → PV} {sz : Nat}
theorem El.fits (he : El e sz) (l : List α) : (l.map e).all (fits sz) = true := by
  induction l with
  | nil => rfl
  | cons a l ih =>
    simp only [List.map_cons, List.all_cons, ih, Bool.and_true, fits_def, he.len, he.sc, beq_self_eq_true]
theorem El.strips (he : El e sz) (l : List α) : strips (l.map e) = l.map e := by
  induction l with
  | nil => rfl
  | cons a l ih => simp only [List.map_cons, strips_cons, he.st, ih]
theorem El.belows (he : El e sz) (n : Nat) (l : List α) : belows n (l.map e) = true := by
  induction l with
  | nil => rfl
  | cons a l ih => simp only [List.map_cons, belows_cons, he.be, ih, Bool.and_self]
theorem El.scalars (he : El e 1) (hc : ∀ a, (e a).cells = [e a]) (l : List α) : (l.map e).all scalar = true := by
  induction l with
  | nil => rfl
  | cons a l ih =>
    have := he.sc a
    rw [hc a] at this
    simp only [List.all_cons, List.all_nil, Bool.and_true] at this
    simp only [List.map_cons, List.all_cons, ih, this, Bool.and_self]
/-- A list as a value: nil, or a slice by value. -/
def Lv (e : α → PV) (sz : Nat) (b : PV) (l : List α) : Prop := (b = .nils ∧ l = []) ∨ b = .sl .no sz (l.map e) ∨ b = .sl .full sz (l.map e)
theorem Lv.nils : Lv e sz .nils [] := .inl ⟨rfl, rfl⟩
theorem Lv.no (l : List α) : Lv e sz (.sl .no sz (l.map e)) l := .inr (.inl rfl)
theorem Lv.full (l : List α) : Lv e sz (.sl .full sz (l.map e)) l := .inr (.inr rfl)
/-- A list that can be read. -/
structure Rl (e : α → PV) (sz : Nat) (b : PV) (l : List α) : Prop where
  len : lenB false b = some (.int .i64 l.length)
  idx : ∀ {k : IntKind} {i : Nat} {a : α}, l[i]? = some a → idxAB b (.int k i) sz = some (.ep (e a).cells 0)
  elems : ∀ h, Go.Am.elems h b = some (l.map e)
theorem rl_sl (o : Own) (l : List α) : Rl e sz (.sl o sz (l.map e)) l := by
  refine ⟨by rw [lenB_sl, List.length_map], fun {k i a} hc => ?_, fun h => rfl⟩
  have hi := (List.getElem?_eq_some_iff.1 hc).1
  rw [idxAB_sl, if_pos rfl, ix_nat k i _ (by rw [List.length_map]; exact hi), Option.bnd_some, List.getElem?_map, hc]; rfl
theorem rl_nils : Rl e sz .nils [] := ⟨rfl, fun {k i a} hc => by simp at hc, fun h => rfl⟩
section
variable {b : PV} {l : List α} (hb : Lv e sz b l)
include hb
theorem Lv.rl : Rl e sz b l := by
  rcases hb with ⟨rfl, rfl⟩ | rfl | rfl
  · exact rl_nils
  · exact rl_sl _ _
  · exact rl_sl _ _
theorem Lv.len : lenB false b = some (.int .i64 l.length) := hb.rl.len
theorem Lv.idx {k : IntKind} {i : Nat} {a : α} (ha : l[i]? = some a) : idxAB b (.int k i) sz = some (.ep (e a).cells 0) := hb.rl.idx ha
theorem Lv.elems (h : Hp) : Go.Am.elems h b = some (l.map e) := hb.rl.elems h
theorem Lv.scalar : Go.Am.scalar b = true := by rcases hb with ⟨rfl, rfl⟩ | rfl | rfl <;> rfl
theorem Lv.frz (n : Nat) (h : Hp) : Go.Am.frz n h b = some b := by rcases hb with ⟨rfl, rfl⟩ | rfl | rfl <;> rfl
theorem Lv.strip : Go.Am.strip b = b := by rcases hb with ⟨rfl, rfl⟩ | rfl | rfl <;> rfl
theorem Lv.cells : b.cells = [b] := by rcases hb with ⟨rfl, rfl⟩ | rfl | rfl <;> rfl
theorem Lv.below (he : El e sz) (n : Nat) : Go.Am.below n b = true := by
  rcases hb with ⟨rfl, rfl⟩ | rfl | rfl
  · rfl
  · rw [below_sl, he.belows]; rfl
  · rw [below_sl, he.belows]; rfl
end
theorem gV_rl {z : PV} (hz : gZ sz z) (h : Hp) (l : List α) : Rl e sz (gV h z sz (l.map e)) l := by
  cases l with
  | nil =>
    rcases hz with rfl | rfl
    · exact rl_nils
    · exact rl_sl .full []
  | cons x l => exact rl_sl _ (x :: l)
theorem Lv.done {z : PV} (hz : gZ sz z) (l : List α) : Lv e sz (gD z sz (l.map e)) l := by
  unfold gD
  cases l with
  | nil =>
    rcases hz with rfl | rfl
    · exact .inl ⟨rfl, rfl⟩
    · exact .inr (.inr rfl)
  | cons x xs => exact .inr (.inl rfl)
theorem gOneL {h : Hp} {T : Nat} {z : PV} (he : El e sz) (hz : gZ sz z) (l : List α) (a : α) (hl : l.length + 1 ≤ lim2) :
    growT (gH h T (l.map e)) T sz (gV h z sz (l.map e)) [e a] = some (gV h z sz ((l ++ [a]).map e), gH h T ((l ++ [a]).map e)) := by
  have := gGrow (h := h) (T := T) hz (l.map e) ([a].map e) (he.fits [a]) (he.strips [a]) (by simpa using hl)
  rw [← List.map_append] at this
  exact this
theorem gAllL {h : Hp} {T : Nat} {z : PV} (he : El e sz) (hz : gZ sz z) (l m : List α) (hl : l.length + m.length ≤ lim2) :
    growT (gH h T (l.map e)) T sz (gV h z sz (l.map e)) (m.map e) = some (gV h z sz ((l ++ m).map e), gH h T ((l ++ m).map e)) := by
  have := gGrow (h := h) (T := T) hz (l.map e) (m.map e) (he.fits m) (he.strips m) (by simpa using hl)
  rw [← List.map_append] at this
  exact this
end
theorem beq_false' {a b : Int} (h : a ≠ b) : (a == b) = false := by simpa using h
theorem bne_true' {a b : Int} (h : a ≠ b) : (a != b) = true := by simpa using h
theorem u8_beq (x y : UInt8) : ((x.toNat : Int) == (y.toNat : Int)) = (x == y) := by
  by_cases h : x = y
  · subst h; simp
  · have h1 : (x == y) = false := by simpa using h
    rw [h1, beq_eq_false_iff_ne]
    intro q
    exact h (UInt8.toNat_inj.1 (by omega))
theorem u8_bne (x y : UInt8) : ((x.toNat : Int) != (y.toNat : Int)) = (x != y) := by
  show (!((x.toNat : Int) == (y.toNat : Int))) = _
  rw [u8_beq]; rfl
theorem tmodN (a b : Nat) : (a : Int).tmod (b : Int) = ((a % b : Nat) : Int) := (Int.ofNat_tmod a b).symm
theorem trunc_ext_ge {k : Hp} (l : List Box) {n : Nat} (hn : n ≤ size k) : trunc (ext k l) n = trunc k n := by
  simp only [trunc, ext, size] at *
  exact List.take_append_of_le_length hn
end Go.Am
namespace Go.Am
set_option linter.unusedSimpArgs false
set_option linter.unusedVariables false
set_option maxRecDepth 100000
open Go.Lib
theorem ofNat_toNatB (u : Nat) (h : u < 256) : (UInt8.ofNat u).toNat = u := by simp [Nat.mod_eq_of_lt h]
theorem digits_ne (u : Nat) : decDigits u ≠ [] := by
  intro h
  have := congrArg List.length h
  rw [decDigits_length] at this
  have := nDigits_pos u
  simp at *
  omega
theorem digits_mem (u : Nat) : ∀ c ∈ decDigits u, 48 ≤ c.toNat ∧ c.toNat ≤ 57 := by
  induction u using Nat.strongRecOn with
  | _ u ih =>
    intro c hc
    by_cases h : u < 10
    · rw [decDigits, dif_pos h] at hc
      rw [List.mem_singleton] at hc
      subst hc
      rw [ofNat_toNatB _ (by omega)]; omega
    · rw [decDigits, dif_neg h] at hc
      simp only [List.mem_append, List.mem_singleton] at hc
      rcases hc with hc | rfl
      · exact ih _ (by omega) c hc
      · rw [ofNat_toNatB _ (by omega)]; omega
theorem digits_head (u : Nat) : ∃ c r, decDigits u = c :: r ∧ (c.toNat = 48 ↔ u = 0) := by
  induction u using Nat.strongRecOn with
  | _ u ih =>
    by_cases h : u < 10
    · rw [decDigits, dif_pos h]
      exact ⟨_, _, rfl, by rw [ofNat_toNatB _ (by omega)]; omega⟩
    · obtain ⟨c, r, h1, h2⟩ := ih (u / 10) (by omega)
      rw [decDigits, dif_neg h, h1]
      exact ⟨c, _, rfl, by rw [h2]; omega⟩
def digs : List UInt8 → Nat → Option Nat
  | [], u => some u
  | c :: r, u => if c.toNat < 48 ∨ 57 < c.toNat then none else digs r (u * 10 + (c.toNat - 48))
theorem digs_app : ∀ (a b : List UInt8) (u : Nat), digs (a ++ b) u = match digs a u with | none => none | some w => digs b w
  | [], b, u => rfl
  | c :: a, b, u => by
    simp only [List.cons_append, digs]
    split
    · rfl
    · exact digs_app a b _
theorem digs_dec (u : Nat) : digs (decDigits u) 0 = some u := by
  induction u using Nat.strongRecOn with
  | _ u ih =>
    by_cases h : u < 10
    · rw [decDigits, dif_pos h]
      simp only [digs]
      rw [ofNat_toNatB _ (by omega), if_neg (by omega)]
      congr 1; omega
    · rw [decDigits, dif_neg h, digs_app, ih (u / 10) (by omega)]
      simp only [digs]
      rw [ofNat_toNatB _ (by omega), if_neg (by omega)]
      congr 1; omega
theorem dec_len (k : Nat) : ∀ u : Nat, 1 ≤ k → u < 10 ^ k → (decDigits u).length ≤ k := by
  induction k with
  | zero => intro u hk; omega
  | succ k ih =>
    intro u hk hu
    by_cases h : u < 10
    · rw [decDigits, dif_pos h]; simp
    · rw [decDigits, dif_neg h, List.length_append, List.length_singleton]
      have : 1 ≤ k := by
        cases k with
        | zero => simp at hu; omega
        | succ k => omega
      have := ih (u / 10) this (by rw [Nat.pow_succ] at hu; omega)
      omega
theorem canon : ∀ (n : Nat) (d : List UInt8) (u : Nat), d.length = n → digs d 0 = some u → d ≠ [] → (d.head? ≠ some 48 ∨ d.length = 1) → decDigits u = d := by
  intro n
  induction n with
  | zero => intro d u hn _ hd; exact (hd (List.length_eq_zero_iff.1 hn)).elim
  | succ n ih =>
    intro d u hn hu hd hh
    have hdc : d = d.dropLast ++ [d.getLast hd] := (List.dropLast_concat_getLast hd).symm
    generalize d.getLast hd = c at hdc
    generalize hd' : d.dropLast = d' at hdc
    have hl : d'.length = n := by rw [← hd', List.length_dropLast]; omega
    rw [hdc, digs_app] at hu
    by_cases he : d' = []
    · subst he
      simp only [digs] at hu
      split at hu
      · cases hu
      rename_i hc
      cases hu
      have hc2 := c.toNat_lt
      rw [decDigits, dif_pos (by omega), hdc, List.nil_append]
      congr 1
      apply UInt8.toNat_inj.1
      rw [ofNat_toNatB _ (by omega)]; omega
    · have hne : n ≠ 0 := by rintro rfl; exact he (List.length_eq_zero_iff.1 hl)
      have hh' : d'.head? ≠ some 48 := by
        have := hh.resolve_right (by omega)
        rw [hdc] at this
        cases d' with
        | nil => exact (he rfl).elim
        | cons x r => simpa using this
      cases hw : digs d' 0 with
      | none => rw [hw] at hu; cases hu
      | some w =>
        rw [hw] at hu
        simp only [digs] at hu
        split at hu
        · cases hu
        rename_i hc
        have hw' := ih d' w hl hw he (.inl hh')
        have hc2 := c.toNat_lt
        have hw0 : w ≠ 0 := by
          rintro rfl
          rw [decDigits, dif_pos (by omega)] at hw'
          rw [← hw'] at hh'
          exact hh' rfl
        cases hu
        rw [decDigits, dif_neg (by omega), hdc]
        have e1 : (w * 10 + (c.toNat - 48)) / 10 = w := by omega
        have e2 : (w * 10 + (c.toNat - 48)) % 10 = c.toNat - 48 := by omega
        rw [e1, e2, hw']
        congr 2
        apply UInt8.toNat_inj.1
        rw [ofNat_toNatB _ (by omega)]; omega
theorem itoa_nat (u : Nat) : itoa (u : Int) = decDigits u := by
  unfold itoa
  rw [if_neg (by omega)]
  congr 1
end Go.Am
namespace Go.Am.YtdnbedldmkagmaaGreatDoor
set_option maxRecDepth 100000
set_option linter.unusedSimpArgs false
set_option linter.unusedVariables false
open Go.Lib (decDigits itoa)
abbrev i64 (n : Int) : PV := .int .i64 n
def in64 (n : Int) : Prop := -9223372036854775808 ≤ n ∧ n ≤ 9223372036854775807
theorem itoa_spec {base : Nat} {h : Hp} (n : Int) (hn : in64 n) : CallA T base 42 [i64 n] h = some (.str (itoa n), h) := by
  rw [CallA_prim T_42]
  unfold in64 at hn
  simp [pItoa, hn, primEnd, Option.bnd]
theorem puint (u : Nat) : ∀ (r : List UInt8), u < 18446744073709551616 → Lib.parseUint10 0 (decDigits u ++ r) = Lib.parseUint10 u r := by
  induction u using Nat.strongRecOn with
  | _ u ih =>
    intro r hu
    by_cases h : u < 10
    · rw [decDigits, dif_pos h, List.singleton_append, Lib.parseUint10, ofNat_toNatB _ (by omega)]
      rw [if_pos (by omega), if_neg (by omega), if_neg (by omega)]
      congr 1; omega
    · rw [decDigits, dif_neg h, List.append_assoc, ih (u / 10) (by omega) _ (by omega), List.singleton_append, Lib.parseUint10, ofNat_toNatB _ (by omega)]
      rw [if_pos (by omega), if_neg (by omega), if_neg (by omega)]
      congr 1; omega
theorem atoi_dec {u : Nat} (hu : u ≤ 9223372036854775807) : Lib.atoiAll (decDigits u) = .ok (u : Int) := by
  obtain ⟨c, r, h1, _⟩ := digits_head u
  have hm := digits_mem u c (by rw [h1]; simp)
  have hp := puint u [] (by omega)
  rw [List.append_nil] at hp
  have hmag : Lib.parseMag (decDigits u) = .ok u := by
    unfold Lib.parseMag
    rw [if_neg (digits_ne u), hp]; rfl
  rw [h1] at hmag ⊢
  unfold Lib.atoiAll
  simp only
  rw [if_neg (by omega), hmag]
  simp only
  rw [if_neg (by omega), if_neg (by omega), if_neg (by omega)]
theorem atoi_in {s : List UInt8} {v : Int} (h : Lib.atoiAll s = .ok v) : in64 v := by
  unfold Lib.atoiAll at h
  unfold in64
  split at h
  · cases h
  · simp only at h
    split at h
    · cases h
    · cases h
    · rename_i u hu
      have := Lib.parseMag_lt hu
      split at h
      · cases h
      · split at h
        · cases h
        · simp only [Go.Lib.NumEnd.ok.injEq] at h
          subst h
          split <;> omega
/-- The number of a text, up to a bound. -/
def numN (s : List UInt8) (most : Nat) : Option Nat := if s = [] ∨ 10 < s.length ∨ (1 < s.length ∧ s.head? = some 48) then none else match digs s 0 with
  | none => none
  | some u => if most < u then none else some u
theorem numN_iff {s : List UInt8} {most u : Nat} (hm : most < 10000000000) : numN s most = some u ↔ u ≤ most ∧ decDigits u = s := by
  unfold numN
  constructor
  · intro h
    split at h
    · cases h
    rename_i hc
    split at h
    · cases h
    rename_i w hw
    split at h
    · cases h
    rename_i hb
    cases h
    refine ⟨by omega, canon s.length s u rfl hw (fun q => hc (.inl q)) ?_⟩
    by_cases hq : s.head? = some 48
    · right
      have h1 : ¬ 1 < s.length := fun q => hc (.inr (.inr ⟨q, hq⟩))
      have h2 : 0 < s.length := List.length_pos_iff.2 (fun q => hc (.inl q))
      omega
    · exact .inl hq
  · rintro ⟨h1, rfl⟩
    rw [if_neg]
    · rw [digs_dec]
      simp only
      rw [if_neg (by omega)]
    · rintro (h | h | ⟨h2, h3⟩)
      · exact digits_ne u h
      · have := dec_len 10 u (by omega) (by omega)
        omega
      · obtain ⟨c, r, h4, h5⟩ := digits_head u
        rw [h4] at h3
        simp only [List.head?_cons, Option.some.injEq] at h3
        have := h5.1 (by rw [h3]; rfl)
        subst this
        rw [decDigits, dif_pos (by omega)] at h2
        simp at h2
def atoV (s : List UInt8) : Int := match Lib.atoiAll s with
  | .ok v => v
  | .range => Lib.atoiSat s
  | _ => 0
theorem number_spec {base : Nat} {h : Hp} {s : List UInt8} (hs : s.length ≤ 281474976710656) {most : Nat} (hm : most < 10000000000) :
    CallA T base 80 [.str s, i64 most] h = some (.tup [i64 (atoV s), .bool (numN s most).isSome], h) := by
  unfold atoV
  have hA : ∀ base h, CallA T base 87 [.str s] h = some ((match Lib.atoiAll s with | .ok v => PV.tup [.int .i64 v, .nilif] | .range => .tup [.int .i64 (Lib.atoiSat s), .iface 133 .undef] | _ => .tup [.int .i64 0, .iface 133 .undef]), h) := by
    intro base h
    rw [CallA_prim T_87]
    simp only [pAtoi, hs, if_true]
    cases Lib.atoiAll s <;> rfl
  have hnone : (∀ v, Lib.atoiAll s ≠ .ok v) → numN s most = none := by
    intro hq
    cases hn : numN s most with
    | none => rfl
    | some u =>
      obtain ⟨h1, rfl⟩ := (numN_iff hm).1 hn
      exact (hq _ (atoi_dec (by omega))).elim
  cases hq : Lib.atoiAll s with
  | ok v =>
    rw [hq] at hA
    have hv := atoi_in hq
    have hI : ∀ base h, _ := fun base h => itoa_spec (base := base) (h := h) v hv
    rw [S80]
    simp only at hA
    by_cases h1 : v ≥ 0
    · by_cases h2 : v ≤ (most : Int)
      · cases h3 : (itoa v == s)
        · have : numN s most = none := by
            cases hn : numN s most with
            | none => rfl
            | some u =>
              obtain ⟨k1, k2⟩ := (numN_iff hm).1 hn
              rw [← k2, atoi_dec (by omega)] at hq
              cases hq
              rw [itoa_nat, k2] at h3
              simp at h3
          simp only [hA, hI, h1, h2, h3, this, Option.isSome_none, ↓evD, evU, evL, Nat.reduceAdd, Nat.reduceSub, Nat.reduceMul, Nat.reduceLeDiff, Nat.reduceLT, Nat.reduceEqDiff, Nat.reduceBEq, reduceIte, reduceCtorEq, Int.reduceBEq, Int.reduceEq, Int.reduceLT, Int.reduceLE, Int.reduceGT, Int.reduceGE, Int.reduceAdd, Int.reduceSub, Int.reduceNeg, Int.reduceBNe, ite_true, ite_false, if_true, if_false, implies_true, forall_const]
        · have : numN s most = some v.toNat := (numN_iff hm).2 ⟨by omega, by
            have : itoa v = s := by simpa using h3
            rw [← this, ← itoa_nat]; congr 1; omega⟩
          simp only [hA, hI, h1, h2, h3, this, Option.isSome_some, ↓evD, evU, evL, Nat.reduceAdd, Nat.reduceSub, Nat.reduceMul, Nat.reduceLeDiff, Nat.reduceLT, Nat.reduceEqDiff, Nat.reduceBEq, reduceIte, reduceCtorEq, Int.reduceBEq, Int.reduceEq, Int.reduceLT, Int.reduceLE, Int.reduceGT, Int.reduceGE, Int.reduceAdd, Int.reduceSub, Int.reduceNeg, Int.reduceBNe, ite_true, ite_false, if_true, if_false, implies_true, forall_const]
      · have : numN s most = none := by
          cases hn : numN s most with
          | none => rfl
          | some u =>
            obtain ⟨k1, k2⟩ := (numN_iff hm).1 hn
            rw [← k2, atoi_dec (by omega)] at hq
            cases hq
            omega
        simp only [hA, hI, h1, h2, this, Option.isSome_none, ↓evD, evU, evL, Nat.reduceAdd, Nat.reduceSub, Nat.reduceMul, Nat.reduceLeDiff, Nat.reduceLT, Nat.reduceEqDiff, Nat.reduceBEq, reduceIte, reduceCtorEq, Int.reduceBEq, Int.reduceEq, Int.reduceLT, Int.reduceLE, Int.reduceGT, Int.reduceGE, Int.reduceAdd, Int.reduceSub, Int.reduceNeg, Int.reduceBNe, ite_true, ite_false, if_true, if_false, implies_true, forall_const]
    · have : numN s most = none := by
        cases hn : numN s most with
        | none => rfl
        | some u =>
          obtain ⟨k1, k2⟩ := (numN_iff hm).1 hn
          rw [← k2, atoi_dec (by omega)] at hq
          cases hq
          omega
      simp only [hA, hI, h1, this, Option.isSome_none, ↓evD, evU, evL, Nat.reduceAdd, Nat.reduceSub, Nat.reduceMul, Nat.reduceLeDiff, Nat.reduceLT, Nat.reduceEqDiff, Nat.reduceBEq, reduceIte, reduceCtorEq, Int.reduceBEq, Int.reduceEq, Int.reduceLT, Int.reduceLE, Int.reduceGT, Int.reduceGE, Int.reduceAdd, Int.reduceSub, Int.reduceNeg, Int.reduceBNe, ite_true, ite_false, if_true, if_false, implies_true, forall_const]
  | range =>
    rw [hq] at hA
    have hn := hnone (by intro v; rw [hq]; simp)
    rw [S80]
    simp only at hA
    simp only [hA, hn, Option.isSome_none, ↓evD, evU, evL, Nat.reduceAdd, Nat.reduceSub, Nat.reduceMul, Nat.reduceLeDiff, Nat.reduceLT, Nat.reduceEqDiff, Nat.reduceBEq, reduceIte, reduceCtorEq, Int.reduceBEq, Int.reduceEq, Int.reduceLT, Int.reduceLE, Int.reduceGT, Int.reduceGE, Int.reduceAdd, Int.reduceSub, Int.reduceNeg, Int.reduceBNe, ite_true, ite_false, if_true, if_false, implies_true, forall_const]
  | _ =>
    rw [hq] at hA
    have hn := hnone (by intro v; rw [hq]; simp)
    rw [S80]
    simp only at hA
    simp only [hA, hn, Option.isSome_none, ↓evD, evU, evL, Nat.reduceAdd, Nat.reduceSub, Nat.reduceMul, Nat.reduceLeDiff, Nat.reduceLT, Nat.reduceEqDiff, Nat.reduceBEq, reduceIte, reduceCtorEq, Int.reduceBEq, Int.reduceEq, Int.reduceLT, Int.reduceLE, Int.reduceGT, Int.reduceGE, Int.reduceAdd, Int.reduceSub, Int.reduceNeg, Int.reduceBNe, ite_true, ite_false, if_true, if_false, implies_true, forall_const]
theorem atoV_of {s : List UInt8} {most u : Nat} (hm : most < 10000000000) (h : numN s most = some u) : atoV s = u := by
  obtain ⟨k1, rfl⟩ := (numN_iff hm).1 h
  unfold atoV
  rw [atoi_dec (by omega)]
/-- The reference's. -/
def numE (most : Nat) : Option Nat → Int × Bool
  | none => (0, false)
  | some u => if most < u then (0, false) else ((u : Int), true)
theorem sub_u8 {x : Nat} (h1 : 48 ≤ x) (h2 : x < 256) : IntKind.u8.wrap ((x : Int) - 48) = ((x - 48 : Nat) : Int) := by
  have : IntKind.u8.wrap ((x : Int) - 48) = ((x : Int) - 48) % 256 := rfl
  rw [this]; omega
theorem num_loop {h : Hp} (most : Nat) (d : List UInt8) (hd : d.length ≤ 10) : ∀ (r p : List UInt8) (u : Nat), d = p ++ r → u < 10 ^ p.length →
    P69_0 (size h) (size h) (.int .i64 p.length) (.str d) (.int .i64 u) (i64 most) h = some (.tup [i64 (numE most (digs r u)).1, .bool (numE most (digs r u)).2], h)
  | [], p, u, hp, hu => by
    rw [P69_0_eq]
    have e : p.length = d.length := by rw [hp]; simp
    have h1 : ((p.length : Int) < (d.length : Int)) = False := by simp; omega
    by_cases hb : most < u
    · have h2 : ((u : Int) > (most : Int)) = True := by simp; omega
      simp only [h1, h2, digs, numE, hb, ↓evD, evU, evL, Nat.reduceAdd, Nat.reduceSub, Nat.reduceMul, Nat.reduceLeDiff, Nat.reduceLT, Nat.reduceEqDiff, Nat.reduceBEq, reduceIte, reduceCtorEq, Int.reduceBEq, Int.reduceEq, Int.reduceLT, Int.reduceLE, Int.reduceGT, Int.reduceGE, Int.reduceAdd, Int.reduceSub, Int.reduceNeg, Int.reduceBNe, ite_true, ite_false, if_true, if_false, implies_true, forall_const]
    · have h2 : ((u : Int) > (most : Int)) = False := by simp; omega
      simp only [h1, h2, digs, numE, hb, ↓evD, evU, evL, Nat.reduceAdd, Nat.reduceSub, Nat.reduceMul, Nat.reduceLeDiff, Nat.reduceLT, Nat.reduceEqDiff, Nat.reduceBEq, reduceIte, reduceCtorEq, Int.reduceBEq, Int.reduceEq, Int.reduceLT, Int.reduceLE, Int.reduceGT, Int.reduceGE, Int.reduceAdd, Int.reduceSub, Int.reduceNeg, Int.reduceBNe, ite_true, ite_false, if_true, if_false, implies_true, forall_const]
  | x :: r, p, u, hp, hu => by
    rw [P69_0_eq]
    have el : d.length = p.length + (r.length + 1) := by rw [hp]; simp
    have h1 : ((p.length : Int) < (d.length : Int)) = True := by simp; omega
    have hx : d[p.length]? = some x := by rw [hp]; simp
    have hix := ix_nat .i64 p.length d.length (by omega)
    have hx256 := x.toNat_lt
    by_cases h2 : x.toNat < 48
    · have h3 : ((x.toNat : Int) < 48) = True := by simp; omega
      simp only [h1, hix, hx, h3, digs, h2, numE, ↓evD, evU, evL, Nat.reduceAdd, Nat.reduceSub, Nat.reduceMul, Nat.reduceLeDiff, Nat.reduceLT, Nat.reduceEqDiff, Nat.reduceBEq, reduceIte, reduceCtorEq, Int.reduceBEq, Int.reduceEq, Int.reduceLT, Int.reduceLE, Int.reduceGT, Int.reduceGE, Int.reduceAdd, Int.reduceSub, Int.reduceNeg, Int.reduceBNe, ite_true, ite_false, if_true, if_false, implies_true, forall_const]
    by_cases h4 : 57 < x.toNat
    · have h3 : ((x.toNat : Int) < 48) = False := by simp; omega
      have h5 : ((x.toNat : Int) > 57) = True := by simp; omega
      simp only [h1, hix, hx, h3, h5, digs, h2, h4, numE, ↓evD, evU, evL, Nat.reduceAdd, Nat.reduceSub, Nat.reduceMul, Nat.reduceLeDiff, Nat.reduceLT, Nat.reduceEqDiff, Nat.reduceBEq, reduceIte, reduceCtorEq, Int.reduceBEq, Int.reduceEq, Int.reduceLT, Int.reduceLE, Int.reduceGT, Int.reduceGE, Int.reduceAdd, Int.reduceSub, Int.reduceNeg, Int.reduceBNe, ite_true, ite_false, if_true, if_false, implies_true, forall_const]
    have h3 : ((x.toNat : Int) < 48) = False := by simp; omega
    have h5 : ((x.toNat : Int) > 57) = False := by simp; omega
    have hp10 : 10 ^ (p.length + 1) ≤ 10 ^ 10 := Nat.pow_le_pow_right (by decide) (by omega)
    have e10 : (10 : Nat) ^ 10 = 10000000000 := by decide
    rw [Nat.pow_succ] at hp10
    have hu2 : u * 10 + 10 ≤ 10000000000 := by omega
    have w1 : IntKind.i64.wrap ((u : Int) * 10) = ((u * 10 : Nat) : Int) := by rw [wrap_small] <;> omega
    have w2 := sub_u8 (x := x.toNat) (by omega) hx256
    have w3 : IntKind.i64.wrap ((x.toNat - 48 : Nat) : Int) = ((x.toNat - 48 : Nat) : Int) := by rw [wrap_small] <;> omega
    have w4 : IntKind.i64.wrap (((u * 10 : Nat) : Int) + ((x.toNat - 48 : Nat) : Int)) = ((u * 10 + (x.toNat - 48) : Nat) : Int) := by rw [wrap_small] <;> omega
    have elp : (p ++ [x]).length = p.length + 1 := by simp
    have w5 : IntKind.i64.wrap ((p.length : Int) + 1) = (((p ++ [x]).length : Nat) : Int) := by rw [elp, wrap_small] <;> omega
    have ih := num_loop (h := h) most d hd r (p ++ [x]) (u * 10 + (x.toNat - 48)) (by rw [hp]; simp) (by rw [elp, Nat.pow_succ]; omega)
    simp only [h1, hix, hx, h3, h5, w1, w2, w3, w4, w5, ih, digs, h2, h4, ↓evD, evU, evL, Nat.reduceAdd, Nat.reduceSub, Nat.reduceMul, Nat.reduceLeDiff, Nat.reduceLT, Nat.reduceEqDiff, Nat.reduceBEq, reduceIte, reduceCtorEq, Int.reduceBEq, Int.reduceEq, Int.reduceLT, Int.reduceLE, Int.reduceGT, Int.reduceGE, Int.reduceAdd, Int.reduceSub, Int.reduceNeg, Int.reduceBNe, ite_true, ite_false, if_true, if_false, implies_true, forall_const]
def numV (s : List UInt8) (most : Nat) : Int := match numN s most with
  | none => 0
  | some u => u
theorem numberR_spec {base : Nat} {h : Hp} (s : List UInt8) (most : Nat) : CallA T base 69 [.str s, i64 most] h = some (.tup [i64 (numV s most), .bool (numN s most).isSome], h) := by
  rw [S69]
  have fin : ∀ (hc : ¬ (s = [] ∨ 10 < s.length ∨ (1 < s.length ∧ s.head? = some 48))), P69_0 (size h) (size h) (.int .i64 0) (.str s) (.int .i64 0) (i64 most) h = some (.tup [i64 (numV s most), .bool (numN s most).isSome], h) := by
    intro hc
    have hl := num_loop (h := h) most s (by have := fun q => hc (.inr (.inl q)); omega) s [] 0 rfl (by decide)
    refine Eq.trans ?_ (hl.trans ?_)
    · rfl
    · unfold numV numN
      rw [if_neg hc]
      cases digs s 0 with
      | none => rfl
      | some u =>
        simp only [numE]
        split <;> rfl
  cases s with
  | nil =>
    have hz : ((0 : Int) == 0) = true := rfl
    have e : numN [] most = none := rfl
    simp only [numV, e, Option.isSome_none, Int.ofNat_zero, Int.natCast_zero, ↓evD, evU, evL, Nat.reduceAdd, Nat.reduceSub, Nat.reduceMul, Nat.reduceLeDiff, Nat.reduceLT, Nat.reduceEqDiff, Nat.reduceBEq, reduceIte, reduceCtorEq, Int.reduceBEq, Int.reduceEq, Int.reduceLT, Int.reduceLE, Int.reduceGT, Int.reduceGE, Int.reduceAdd, Int.reduceSub, Int.reduceNeg, Int.reduceBNe, ite_true, ite_false, if_true, if_false, implies_true, forall_const]
  | cons c r =>
    have e0 : (((r.length + 1 : Nat) : Int) == 0) = false := by rw [beq_eq_false_iff_ne]; omega
    have hix : ix (.int .i64 0) (r.length + 1) = some 0 := by simp [ix]
    by_cases h10 : 10 < r.length + 1
    · have h1 : (((r.length + 1 : Nat) : Int) > 10) = True := by simp; omega
      have e : numN (c :: r) most = none := by unfold numN; rw [if_pos (.inr (.inl (by simpa using h10)))]
      simp only [e0, h1, numV, e, Option.isSome_none, ↓evD, evU, evL, Nat.reduceAdd, Nat.reduceSub, Nat.reduceMul, Nat.reduceLeDiff, Nat.reduceLT, Nat.reduceEqDiff, Nat.reduceBEq, reduceIte, reduceCtorEq, Int.reduceBEq, Int.reduceEq, Int.reduceLT, Int.reduceLE, Int.reduceGT, Int.reduceGE, Int.reduceAdd, Int.reduceSub, Int.reduceNeg, Int.reduceBNe, ite_true, ite_false, if_true, if_false, implies_true, forall_const]
    have h1 : (((r.length + 1 : Nat) : Int) > 10) = False := by simp; omega
    by_cases hr1 : 1 < r.length + 1
    · have h2 : (((r.length + 1 : Nat) : Int) > 1) = True := by simp; omega
      have e48 := u8_beq c 48
      have z48 : (((48 : UInt8).toNat : Nat) : Int) = 48 := rfl
      rw [z48] at e48
      cases hq : (c == 48)
      · rw [hq] at e48
        have hf := fin (by
          rintro (q | q | ⟨_, q⟩)
          · cases q
          · exact h10 (by simpa using q)
          · have : c = 48 := by simpa using q
            simp [this] at hq)
        simp only [e0, h1, h2, hix, e48, hf, ↓evD, evU, evL, Nat.reduceAdd, Nat.reduceSub, Nat.reduceMul, Nat.reduceLeDiff, Nat.reduceLT, Nat.reduceEqDiff, Nat.reduceBEq, reduceIte, reduceCtorEq, Int.reduceBEq, Int.reduceEq, Int.reduceLT, Int.reduceLE, Int.reduceGT, Int.reduceGE, Int.reduceAdd, Int.reduceSub, Int.reduceNeg, Int.reduceBNe, ite_true, ite_false, if_true, if_false, implies_true, forall_const]
      · rw [hq] at e48
        have e : numN (c :: r) most = none := by
          unfold numN
          rw [if_pos (.inr (.inr ⟨by simpa using hr1, by simpa using hq⟩))]
        simp only [e0, h1, h2, hix, e48, numV, e, Option.isSome_none, ↓evD, evU, evL, Nat.reduceAdd, Nat.reduceSub, Nat.reduceMul, Nat.reduceLeDiff, Nat.reduceLT, Nat.reduceEqDiff, Nat.reduceBEq, reduceIte, reduceCtorEq, Int.reduceBEq, Int.reduceEq, Int.reduceLT, Int.reduceLE, Int.reduceGT, Int.reduceGE, Int.reduceAdd, Int.reduceSub, Int.reduceNeg, Int.reduceBNe, ite_true, ite_false, if_true, if_false, implies_true, forall_const]
    · have h2 : (((r.length + 1 : Nat) : Int) > 1) = False := by simp; omega
      have hf := fin (by
        rintro (q | q | ⟨q, _⟩)
        · cases q
        · exact h10 (by simpa using q)
        · exact hr1 (by simpa using q))
      simp only [e0, h1, h2, hf, ↓evD, evU, evL, Nat.reduceAdd, Nat.reduceSub, Nat.reduceMul, Nat.reduceLeDiff, Nat.reduceLT, Nat.reduceEqDiff, Nat.reduceBEq, reduceIte, reduceCtorEq, Int.reduceBEq, Int.reduceEq, Int.reduceLT, Int.reduceLE, Int.reduceGT, Int.reduceGE, Int.reduceAdd, Int.reduceSub, Int.reduceNeg, Int.reduceBNe, ite_true, ite_false, if_true, if_false, implies_true, forall_const]
end Go.Am.YtdnbedldmkagmaaGreatDoor
namespace Go.Am
set_option linter.unusedVariables false

def rowV (P : Program) (e : TypeId) (r : List PV) : PV :=
  match P.underlying e with
  | some (.struct _) => .agg r
  | _ => r.headD .undef

/-- The cells of a value of a type made of bools, whole numbers, texts, structs and slices of such. -/
inductive Sh (P : Program) : TypeId → List PV → Prop where
  | bool {t} (b : Bool) (ht : P.underlying t = some .bool) : Sh P t [.bool b]
  | int {t} (k : IntKind) (n : Int) (ht : P.underlying t = some (.int k)) (hn : (Lit.int k n).wf = true) : Sh P t [.int k n]
  | str {t} (l : List UInt8) (ht : P.underlying t = some .string) (hl : l.length ≤ reachBytes) : Sh P t [.str l]
  | nils {t e} (ht : P.underlying t = some (.slice e)) : Sh P t [.nils]
  | sl {t e} (rows : List (List PV)) (ht : P.underlying t = some (.slice e)) (hr : ∀ r ∈ rows, Sh P e r) (hl : ∀ r ∈ rows, r.length = P.cellsOf e) (hn : rows.length ≤ maxLen) (hb : rows.length * P.bytesOf e ≤ reachBytes) : Sh P t [.sl .no (P.cellsOf e) (rows.map (rowV P e))]
  | struct {t} (fs : Array Field) (cs : List PV) (ht : P.underlying t = some (.struct fs)) (hn : cs.length = P.cellsOf t)
      (hf : ∀ (i : Nat) (f : Field), fs[i]? = some f → Sh P f.type ((cs.drop f.offset).take (P.cellsOf f.type))) : Sh P t cs

theorem Sh.row {P : Program} {e : TypeId} {r : List PV} (h : Sh P e r) : (rowV P e r).cells = r := by
  cases h with
  | bool b ht => simp [rowV, ht, PV.cells]
  | int k n ht => simp [rowV, ht, PV.cells]
  | str l ht => simp [rowV, ht, PV.cells]
  | nils ht => simp [rowV, ht, PV.cells]
  | sl rows ht => simp [rowV, ht, PV.cells]
  | struct fs cs ht => simp [rowV, ht, PV.cells]

/-- Do a struct's fields lie one behind the other? -/
def tiles (P : Program) : Nat → List Field → Nat → Bool
  | off, [], tot => off == tot
  | off, f :: r, tot => f.offset == off && tiles P (off + P.cellsOf f.type) r tot
theorem tiles_le {P : Program} : ∀ (fl : List Field) (off tot : Nat), tiles P off fl tot = true → off ≤ tot
  | [], off, tot, h => by simp [tiles] at h; omega
  | f :: r, off, tot, h => by
    simp only [tiles, Bool.and_eq_true] at h
    have := tiles_le r _ _ h.2
    omega
/-- Is a type made of these alone? -/
def plainT (P : Program) : Nat → TypeId → Bool
  | 0, _ => false
  | n + 1, t => match P.underlying t with
    | some .bool | some (.int _) | some .string => true
    | some (.slice e) => decide (0 < P.cellsOf e) && plainT P n e
    | some (.struct fs) => tiles P 0 fs.toList (P.cellsOf t) && fs.toList.all fun f => plainT P n f.type
    | _ => false

theorem exists_rows {α : Type} (Q : Nat → α → Prop) : ∀ n, (∀ i, i < n → ∃ r, Q i r) → ∃ rows : List α, rows.length = n ∧ ∀ (i : Nat) r, rows[i]? = some r → Q i r
  | 0, _ => ⟨[], rfl, fun i r h => by simp at h⟩
  | n + 1, h => by
    obtain ⟨rows, h1, h2⟩ := exists_rows Q n (fun i hi => h i (by omega))
    obtain ⟨r, hr⟩ := h n (by omega)
    refine ⟨rows ++ [r], by simp [h1], fun i r' hi => ?_⟩
    by_cases hin : i < n
    · rw [List.getElem?_append_left (by omega)] at hi; exact h2 i r' hi
    · have hlt := (List.getElem?_eq_some_iff.1 hi).1
      simp at hlt
      have : i = n := by omega
      subst this
      rw [List.getElem?_append_right (by omega), h1] at hi
      simp at hi
      subst hi
      exact hr

theorem cell_spot {w : World} {b o : Nat} {sp : Option Nat} {u : Value} (h : w.cell? ⟨b, o, sp⟩ = some u) : sp = none := by
  unfold World.cell? at h
  split at h
  · rename_i c _ _ hq
    cases sp with
    | none => rfl
    | some s => simp at h
  · cases h

theorem weights_all {H : Type} {P : Program} {e : TypeId} : ∀ {l : List (DataW H)} {d : DataW H}, d ∈ l → ∀ n ∈ d.weights P e, n ∈ DataW.weightsAll P e l
  | d0 :: l, d, hd, n, hn => by
    simp only [DataW.weightsAll, List.mem_append]
    simp only [List.mem_cons] at hd
    rcases hd with rfl | hd
    · exact .inl hn
    · exact .inr (weights_all hd n hn)
theorem open_fields {P : Program} {cs : List Value} {R : PV → Value → Prop} : ∀ (fl : List Field) (off : Nat), tiles P off fl cs.length = true →
    (∀ f ∈ fl, ∃ v : List PV, v.length = ((cs.drop f.offset).take (P.cellsOf f.type)).length ∧ (∀ (j : Nat) x, v[j]? = some x → ∃ u, ((cs.drop f.offset).take (P.cellsOf f.type))[j]? = some u ∧ R x u) ∧ Sh P f.type v) →
    ∃ vs : List PV, off + vs.length = cs.length ∧ (∀ (j : Nat) x, vs[j]? = some x → ∃ u, cs[off + j]? = some u ∧ R x u) ∧ ∀ f ∈ fl, off ≤ f.offset ∧ Sh P f.type ((vs.drop (f.offset - off)).take (P.cellsOf f.type))
  | [], off, ht, h => by
    simp [tiles] at ht
    exact ⟨[], by simp [ht], fun j x hx => by simp at hx, fun f hf => by simp at hf⟩
  | f :: fl, off, ht, h => by
    simp only [tiles, Bool.and_eq_true, beq_iff_eq] at ht
    obtain ⟨rfl, ht⟩ := ht
    have hle := tiles_le _ _ _ ht
    obtain ⟨v, h1, h2, h3⟩ := h f (by simp)
    have hv : v.length = P.cellsOf f.type := by rw [h1]; simp; omega
    obtain ⟨vs, q1, q2, q3⟩ := open_fields fl _ ht (fun f' hf' => h f' (by simp [hf']))
    refine ⟨v ++ vs, by simp; omega, fun j x hx => ?_, fun f' hf' => ?_⟩
    · by_cases hj : j < v.length
      · rw [List.getElem?_append_left hj] at hx
        obtain ⟨u, hu, hr⟩ := h2 j x hx
        refine ⟨u, ?_, hr⟩
        rw [List.getElem?_take, if_pos (by omega), List.getElem?_drop] at hu
        exact hu
      · rw [List.getElem?_append_right (by omega)] at hx
        obtain ⟨u, hu, hr⟩ := q2 _ x hx
        refine ⟨u, ?_, hr⟩
        rw [← hu]; congr 1; omega
    · simp only [List.mem_cons] at hf'
      rcases hf' with rfl | hf'
      · refine ⟨Nat.le_refl _, ?_⟩
        rw [Nat.sub_self, List.drop_zero, List.take_append_of_le_length (by omega), ← hv, List.take_length]
        exact h3
      · obtain ⟨r1, r2⟩ := q3 f' hf'
        refine ⟨by omega, ?_⟩
        rw [List.drop_append, List.drop_eq_nil_of_le (by omega), List.nil_append, show f'.offset - f.offset - v.length = f'.offset - (f.offset + P.cellsOf f.type) by omega]
        exact r2

theorem open_cells {H : Type} {enc : TypeId × Value → H} {P : Program} {w : World} {spare : Nat → Bool} {held : Bool} {g : G} : ∀ (n m : Nat) (t : TypeId) (cs : List Value) (x : DataW H × List MemPlace),
    DataW.trod enc P w 0 spare held n t cs = some x → plainT P m t = true → (∀ k ∈ x.1.weights P t, k ≤ reachBytes) →
    ∃ vs : List PV, vs.length = cs.length ∧ (∀ (j : Nat) v, vs[j]? = some v → ∃ u, cs[j]? = some u ∧ RV w.heap.size g w v u) ∧ Sh P t vs
  | 0, m, t, cs, x, h, hp, hwt => by simp [DataW.trod] at h
  | n + 1, 0, t, cs, x, h, hp, hwt => by simp [plainT] at hp
  | n + 1, m + 1, t, cs, x, h, hp, hwt => by
    rw [plainT] at hp
    split at hp
    · rename_i ht
      obtain ⟨b, rfl, _⟩ := DataW.trod_bool ht h
      refine ⟨[.bool b], rfl, fun j v hv => ?_, .bool b ht⟩
      cases j with
      | zero => simp at hv; subst hv; exact ⟨_, rfl, .bool b⟩
      | succ j => simp at hv
    · rename_i k ht
      obtain ⟨z, rfl, _, hwf⟩ := DataW.trod_int ht h
      refine ⟨[.int k z], rfl, fun j v hv => ?_, .int k z ht hwf⟩
      cases j with
      | zero => simp at hv; subst hv; exact ⟨_, rfl, .int k z⟩
      | succ j => simp at hv
    · rename_i ht
      obtain ⟨s, rfl, rfl, hs⟩ := DataW.trod_string ht h
      refine ⟨[.str s.data.toList], rfl, fun j v hv => ?_, .str _ ht (hwt _ (by simp [DataW.weights]))⟩
      cases j with
      | zero => simp at hv; subst hv; exact ⟨_, rfl, .str _ s rfl⟩
      | succ j => simp at hv
    · rename_i e ht
      simp only [Bool.and_eq_true, decide_eq_true_eq] at hp
      rcases DataW.trod_slice ht h with ⟨rfl, _⟩ | ⟨a, len, cap, elems, rest, n', hn', rfl, rfl, _, hlc, hcm, hel, helems, _, _⟩
      · refine ⟨[.nils], rfl, fun j v hv => ?_, .nils ht⟩
        cases j with
        | zero => simp at hv; subst hv; exact ⟨_, rfl, .nils⟩
        | succ j => simp at hv
      · obtain rfl : n' = n := by omega
        have hq : ∀ i, i < len → ∃ r : List PV, r.length = P.cellsOf e ∧ Sh P e r ∧ ∀ (j : Nat) v, r[j]? = some v → ∃ u, w.cell? ((a.add (i * P.cellsOf e)).add j) = some u ∧ RV w.heap.size g w v u := by
          intro i hi
          have hlt : i < elems.length := by omega
          have hei := helems i hi
          rw [List.getElem?_eq_getElem hlt, Option.bind_eq_some_iff] at hei
          obtain ⟨ci, hci, hti⟩ := hei
          obtain ⟨_, hlen, hcell⟩ := World.cells?_some hci
          obtain ⟨r, h1, h2, h3⟩ := open_cells n' m e ci _ hti hp.2 (fun k hk => hwt k (by
            simp only [DataW.weights, ht, List.mem_cons, List.mem_append]
            exact .inr (.inl (weights_all (List.mem_map.2 ⟨_, List.getElem_mem hlt, rfl⟩) k hk))))
          refine ⟨r, by rw [h1, hlen], h3, fun j v hv => ?_⟩
          obtain ⟨u, hu, hr⟩ := h2 j v hv
          have hj : j < P.cellsOf e := by rw [← hlen, ← h1]; exact (List.getElem?_eq_some_iff.1 hv).1
          exact ⟨u, by rw [hcell j hj]; exact hu, hr⟩
        obtain ⟨rows, hrl, hrq⟩ := exists_rows _ len hq
        have hmem : ∀ r ∈ rows, ∃ i, rows[i]? = some r := fun r hr => List.mem_iff_getElem?.1 hr
        have hcl : ∀ (i j : Nat) (r : List PV) (v : PV), rows[i]? = some r → r[j]? = some v → ∃ u, w.cell? ⟨a.block, a.off + (i * P.cellsOf e + j), none⟩ = some u ∧ RV w.heap.size g w v u := by
          intro i j r v hi hj
          obtain ⟨u, hu, hr⟩ := (hrq i r hi).2.2 j v hj
          refine ⟨u, ?_, hr⟩
          have hsp : (a.add (i * P.cellsOf e)).add j = ⟨a.block, a.off + (i * P.cellsOf e + j), ((a.add (i * P.cellsOf e)).add j).spot⟩ := by
            unfold Addr.add
            split <;> split <;> simp_all <;> omega
          rw [hsp] at hu
          have := cell_spot hu
          rw [this] at hu
          exact hu
        have hspot : rows ≠ [] → a.spot = none := by
          intro hne
          obtain ⟨r, hr0⟩ : ∃ r, rows[0]? = some r := by
            cases rows with
            | nil => exact (hne rfl).elim
            | cons r _ => exact ⟨r, rfl⟩
          obtain ⟨q1, _, q3⟩ := hrq 0 r hr0
          obtain ⟨v, hv⟩ : ∃ v, r[0]? = some v := ⟨_, List.getElem?_eq_getElem (by omega)⟩
          obtain ⟨u, hu, _⟩ := q3 0 v hv
          simp only [Nat.zero_mul, Addr.add, if_true] at hu
          exact cell_spot (b := a.block) (o := a.off) hu
        refine ⟨[.sl .no (P.cellsOf e) (rows.map (rowV P e))], rfl, fun j v hv => ?_, .sl rows ht (fun r hr => ?_) (fun r hr => ?_) (by omega) ?_⟩
        · cases j with
          | succ j => simp at hv
          | zero =>
            simp at hv
            subst hv
            refine ⟨_, rfl, ?_⟩
            have hrow : ∀ (i : Nat) (z : PV), (rows.map (rowV P e))[i]? = some z → ∃ r, rows[i]? = some r ∧ z.cells = r := by
              intro i z hz
              rw [List.getElem?_map, Option.map_eq_some_iff] at hz
              obtain ⟨r, hr, rfl⟩ := hz
              exact ⟨r, hr, (hrq i r hr).2.1.row⟩
            have := RV.sl (N0 := w.heap.size) (g := g) (w := w) .no (P.cellsOf e) (rows.map (rowV P e)) a.block a.off cap (fun i j => (w.cell? ⟨a.block, a.off + (i * P.cellsOf e + j), none⟩).getD Go.undef)
              (by simp; omega) (by simp) ?_ ?_ ?_ ?_ a.spot (fun hne => hspot (by simpa using hne)) (by simp)
            · simpa [hrl] using this
            · intro i z hz
              obtain ⟨r, hr, hc⟩ := hrow i z hz
              rw [hc]; exact (hrq i r hr).1
            · intro i j hi hj
              simp at hi
              obtain ⟨r, hr⟩ : ∃ r, rows[i]? = some r := ⟨_, List.getElem?_eq_getElem hi⟩
              obtain ⟨v, hv⟩ : ∃ v, r[j]? = some v := ⟨_, List.getElem?_eq_getElem (by rw [(hrq i r hr).1]; exact hj)⟩
              obtain ⟨u, hu, _⟩ := hcl i j r v hr hv
              rw [hu]; rfl
            · intro i j z y hz hy
              obtain ⟨r, hr, hc⟩ := hrow i z hz
              rw [hc] at hy
              obtain ⟨u, hu, hru⟩ := hcl i j r y hr hy
              rw [hu]; exact hru
            · intro hne
              refine .inl ?_
              obtain ⟨r, hr0⟩ : ∃ r, rows[0]? = some r := by
                cases rows with
                | nil => exact (hne rfl).elim
                | cons r _ => exact ⟨r, rfl⟩
              obtain ⟨v, hv⟩ : ∃ v, r[0]? = some v := ⟨_, List.getElem?_eq_getElem (by rw [(hrq 0 r hr0).1]; exact hp.1)⟩
              obtain ⟨u, hu, _⟩ := hcl 0 0 r v hr0 hv
              exact World.block_lt_of_cell? w ⟨a.block, _, none⟩ hu
        · obtain ⟨i, hi⟩ := hmem r hr; exact (hrq i r hi).2.1
        · obtain ⟨i, hi⟩ := hmem r hr; exact (hrq i r hi).1
        · have := hwt _ (by simp only [DataW.weights, ht]; exact List.mem_cons_self)
          simp only [List.length_map] at this
          refine Nat.le_trans (Nat.mul_le_mul_right _ ?_) this
          omega
    · rename_i fs ht
      simp only [Bool.and_eq_true, List.all_eq_true] at hp
      obtain ⟨xs, n', hn', rfl, hlen, hxl, hx⟩ := DataW.trod_struct ht h
      obtain rfl : n' = n := by omega
      obtain ⟨vs, q1, q2, q3⟩ := open_fields (P := P) (cs := cs) (R := fun v u => RV w.heap.size g w v u) fs.toList 0 (by rw [hlen]; exact hp.1) (fun f hf => by
        obtain ⟨i, hi⟩ := List.mem_iff_getElem?.1 hf
        have hi' : fs[i]? = some f := by simpa using hi
        have hlt : i < xs.length := by rw [hxl]; exact (Array.getElem?_eq_some_iff.1 hi').1
        have := hx i f hi'
        rw [List.getElem?_eq_getElem hlt] at this
        exact open_cells n' m f.type _ _ this (hp.2 f hf) fun k hk => hwt k (by
          simp only [DataW.weights, ht]
          exact DataW.weights_mem_each (j := i) (t := f.type) (d := xs[i].1) (by rw [List.getElem?_map, hi]; rfl) (by rw [List.getElem?_map, List.getElem?_eq_getElem hlt]; rfl) k hk))
      refine ⟨vs, by omega, fun j v hv => by simpa using q2 j v hv, .struct fs vs ht (by omega) fun i f hf => ?_⟩
      have := (q3 f (List.mem_iff_getElem?.2 ⟨i, by simpa using hf⟩)).2
      simpa using this
    · cases hp

/-- An argument of one cell. -/
theorem open_arg {H : Type} {enc : TypeId × Value → H} {P : Program} {w : World} {spare : Nat → Bool} {held : Bool} {g : G} {t : TypeId} {v : Value} {d : DataW H} {ps : List MemPlace}
    (h : DataW.Trod enc P w 0 spare held t v d ps) (hv : v.cells.toList = [v]) (m : Nat) (hp : plainT P m t = true) (hwt : ∀ k ∈ d.weights P t, k ≤ reachBytes) : ∃ x, RV w.heap.size g w x v ∧ Sh P t [x] := by
  obtain ⟨fuel, h⟩ := h
  obtain ⟨vs, h1, h2, h3⟩ := open_cells (g := g) fuel m t _ _ h hp hwt
  rw [hv] at h1 h2
  cases vs with
  | nil => simp at h1
  | cons x r =>
    cases r with
    | cons y r => simp at h1
    | nil =>
      obtain ⟨u, hu, hr⟩ := h2 0 x rfl
      simp at hu
      subst hu
      exact ⟨x, hr, h3⟩

section
variable {P : Program} {t : TypeId} {cs : List PV}
theorem Sh.inv_bool (ht : P.underlying t = some .bool) (h : Sh P t cs) : ∃ b, cs = [.bool b] := by
  cases h with
  | bool b => exact ⟨b, rfl⟩
  | int k n h => rw [ht] at h; cases h
  | str l h => rw [ht] at h; cases h
  | nils h => rw [ht] at h; cases h
  | sl rows h => rw [ht] at h; cases h
  | struct fs cs h => rw [ht] at h; cases h
theorem Sh.inv_int {k : IntKind} (ht : P.underlying t = some (.int k)) (h : Sh P t cs) : ∃ n, cs = [.int k n] ∧ (Lit.int k n).wf = true := by
  cases h with
  | bool b h => rw [ht] at h; cases h
  | int k' n h hn => rw [ht] at h; cases h; exact ⟨n, rfl, hn⟩
  | str l h => rw [ht] at h; cases h
  | nils h => rw [ht] at h; cases h
  | sl rows h => rw [ht] at h; cases h
  | struct fs cs h => rw [ht] at h; cases h
theorem Sh.inv_str (ht : P.underlying t = some .string) (h : Sh P t cs) : ∃ l, cs = [.str l] ∧ l.length ≤ reachBytes := by
  cases h with
  | bool b h => rw [ht] at h; cases h
  | int k n h => rw [ht] at h; cases h
  | str l h hl => exact ⟨l, rfl, hl⟩
  | nils h => rw [ht] at h; cases h
  | sl rows h => rw [ht] at h; cases h
  | struct fs cs h => rw [ht] at h; cases h
theorem Sh.inv_slice {e : TypeId} (ht : P.underlying t = some (.slice e)) (h : Sh P t cs) :
    cs = [.nils] ∨ ∃ rows : List (List PV), cs = [.sl .no (P.cellsOf e) (rows.map (rowV P e))] ∧ (∀ r ∈ rows, Sh P e r ∧ r.length = P.cellsOf e) ∧ rows.length ≤ maxLen ∧ rows.length * P.bytesOf e ≤ reachBytes := by
  cases h with
  | bool b h => rw [ht] at h; cases h
  | int k n h => rw [ht] at h; cases h
  | str l h => rw [ht] at h; cases h
  | nils h => exact .inl rfl
  | sl rows h hr hl hn hb => rw [ht] at h; cases h; exact .inr ⟨rows, rfl, fun r hm => ⟨hr r hm, hl r hm⟩, hn, hb⟩
  | struct fs cs h => rw [ht] at h; cases h
theorem Sh.inv_struct {fs : Array Field} (ht : P.underlying t = some (.struct fs)) (h : Sh P t cs) :
    cs.length = P.cellsOf t ∧ ∀ (i : Nat) (f : Field), fs[i]? = some f → Sh P f.type ((cs.drop f.offset).take (P.cellsOf f.type)) := by
  cases h with
  | bool b h => rw [ht] at h; cases h
  | int k n h => rw [ht] at h; cases h
  | str l h => rw [ht] at h; cases h
  | nils h => rw [ht] at h; cases h
  | sl rows h => rw [ht] at h; cases h
  | struct fs' cs h hn hf => rw [ht] at h; cases h; exact ⟨hn, hf⟩
theorem rowV_struct {fs : Array Field} (ht : P.underlying t = some (.struct fs)) (r : List PV) : rowV P t r = .agg r := by simp [rowV, ht]
theorem rowV_str (ht : P.underlying t = some .string) (r : List PV) : rowV P t r = r.headD .undef := by simp [rowV, ht]
theorem rowV_int {k : IntKind} (ht : P.underlying t = some (.int k)) (r : List PV) : rowV P t r = r.headD .undef := by simp [rowV, ht]
/-- All of a list come of values: the values. -/
theorem exists_map {α β : Type} (f : α → β) (Q : α → Prop) : ∀ l : List β, (∀ x ∈ l, ∃ a, x = f a ∧ Q a) → ∃ qs : List α, l = qs.map f ∧ ∀ a ∈ qs, Q a
  | [], _ => ⟨[], rfl, fun a h => by simp at h⟩
  | x :: l, h => by
    obtain ⟨qs, rfl, h2⟩ := exists_map f Q l (fun y hy => h y (by simp [hy]))
    obtain ⟨a, rfl, ha⟩ := h x (by simp)
    exact ⟨a :: qs, rfl, fun b hb => by
      simp at hb
      rcases hb with rfl | hb
      · exact ha
      · exact h2 b hb⟩
end
end Go.Am
namespace Go.Am
set_option linter.unusedVariables false
theorem open_struct {H : Type} {enc : TypeId × Value → H} {P : Program} {w : World} {spare : Nat → Bool} {held : Bool} {g : G} {t : TypeId} {u : Array Value} {d : DataW H} {ps : List MemPlace}
    (h : DataW.Trod enc P w 0 spare held t (.agg u) d ps) (m : Nat) (hp : plainT P m t = true) (hwt : ∀ k ∈ d.weights P t, k ≤ reachBytes) : ∃ x, RV w.heap.size g w (.agg x) (.agg u) ∧ Sh P t x := by
  obtain ⟨fuel, h⟩ := h
  obtain ⟨vs, h1, h2, h3⟩ := open_cells (g := g) fuel m t _ _ h hp hwt
  have hu : (Value.agg u).cells.toList = u.toList := rfl
  rw [hu] at h1 h2
  refine ⟨vs, .agg vs u (by simpa using h1.symm) fun j x hx => ?_, h3⟩
  obtain ⟨y, hy, hr⟩ := h2 j x hx
  have : u.getD j Go.undef = y := by
    rw [Array.getElem?_toList] at hy
    simp [Array.getD_eq_getD_getElem?, hy]
  rw [this]; exact hr
/-- Bytes. -/
theorem Sh.bytes {P : Program} {t e : TypeId} {x : PV} (ht : P.underlying t = some (.slice e)) (he : P.underlying e = some (.int .u8)) (hc : P.cellsOf e = 1) (h : Sh P t [x]) : ∃ l, Bv x l ∧ l.length ≤ maxLen := by
  rcases h.inv_slice ht with hq | ⟨rows, hq, hr, hn, hb⟩
  · cases hq; exact ⟨[], .nils, by simp⟩
  · cases hq
    obtain ⟨l, hl⟩ : ∃ l : List UInt8, rows.map (rowV P e) = u8s l ∧ l.length = rows.length := by
      clear hn hb h
      induction rows with
      | nil => exact ⟨[], rfl, rfl⟩
      | cons r rows ih =>
        obtain ⟨l, hl, hl2⟩ := ih fun q hq => hr q (List.mem_cons_of_mem _ hq)
        obtain ⟨n, rfl, hw⟩ := (hr r (List.mem_cons_self ..)).1.inv_int he
        have hm : IntKind.u8.min = 0 := rfl
        have hM : IntKind.u8.max = 255 := rfl
        simp only [Lit.wf, hm, hM, Bool.and_eq_true, decide_eq_true_eq] at hw
        refine ⟨UInt8.ofNat n.toNat :: l, ?_, by simp [hl2]⟩
        rw [List.map_cons, hl, rowV_int he]
        show _ :: _ = PV.int .u8 ((UInt8.ofNat n.toNat).toNat : Int) :: u8s l
        have hv : ((UInt8.ofNat n.toNat).toNat : Int) = n := by rw [UInt8.toNat_ofNat']; omega
        rw [hv]; rfl
    rw [hc, hl.1]
    exact ⟨l, .no l, by rw [hl.2]; exact hn⟩
theorem len1_of {α : Type} : ∀ {l : List α}, l.length = 1 → ∃ a, l = [a]
  | [a], _ => ⟨a, rfl⟩
theorem len2_of {α : Type} : ∀ {l : List α}, l.length = 2 → ∃ a b, l = [a, b]
  | [a, b], _ => ⟨a, b, rfl⟩
theorem len3_of {α : Type} : ∀ {l : List α}, l.length = 3 → ∃ a b c, l = [a, b, c]
  | [a, b, c], _ => ⟨a, b, c, rfl⟩
theorem len4_of {α : Type} : ∀ {l : List α}, l.length = 4 → ∃ a b c d, l = [a, b, c, d]
  | [a, b, c, d], _ => ⟨a, b, c, d, rfl⟩
theorem len5_of {α : Type} : ∀ {l : List α}, l.length = 5 → ∃ a b c d e, l = [a, b, c, d, e]
  | [a, b, c, d, e], _ => ⟨a, b, c, d, e, rfl⟩
theorem len6_of {α : Type} : ∀ {l : List α}, l.length = 6 → ∃ a b c d e f, l = [a, b, c, d, e, f]
  | [a, b, c, d, e, f], _ => ⟨a, b, c, d, e, f, rfl⟩
end Go.Am
namespace Go.Am
theorem Sh.lst {α : Type} {P : Program} {t e : TypeId} {x : PV} {el : α → PV} {Q : α → Prop} (ht : P.underlying t = some (.slice e)) (hE : ∀ r, Sh P e r → ∃ a, rowV P e r = el a ∧ Q a) (h : Sh P t [x]) :
    ∃ l, Lv el (P.cellsOf e) x l ∧ l.length ≤ maxLen ∧ ∀ a ∈ l, Q a := by
  rcases h.inv_slice ht with hq | ⟨rows, hq, hr, hn, hb⟩
  · cases hq; exact ⟨[], .nils, by simp, by simp⟩
  · cases hq
    obtain ⟨l, hl, hl2, hl3⟩ : ∃ l : List α, rows.map (rowV P e) = l.map el ∧ l.length = rows.length ∧ ∀ a ∈ l, Q a := by
      clear hn hb h
      induction rows with
      | nil => exact ⟨[], rfl, rfl, by simp⟩
      | cons r rows ih =>
        obtain ⟨l, hl, hl2, hl3⟩ := ih fun q hq => hr q (List.mem_cons_of_mem _ hq)
        obtain ⟨a, ha, hQ⟩ := hE r (hr r (List.mem_cons_self ..)).1
        refine ⟨a :: l, ?_, by simp [hl2], ?_⟩
        · rw [List.map_cons, hl, ha]; rfl
        · intro b hb
          rcases List.mem_cons.1 hb with rfl | hb
          · exact hQ
          · exact hl3 b hb
    rw [hl]
    exact ⟨l, .no l, by rw [hl2]; exact hn, hl3⟩
end Go.Am
namespace Go.Am.YtdnbedldmkagmaaGreatDoor
open Go.RowKit (Below)
set_option linter.unusedSimpArgs false
set_option linter.unusedVariables false
open Go.Proofs
theorem gl_ok (N0 : Nat) (w0 : World) : GlobOk gl N0 w0 := fun n cs h => by simp [gl, glob] at h
theorem in64_of {n : Int} (h : (Lit.int IntKind.i64 n).wf = true) : in64 n := by
  have h1 : IntKind.i64.min = -9223372036854775808 := rfl
  have h2 : IntKind.i64.max = 9223372036854775807 := rfl
  unfold in64
  simp [Lit.wf, h1, h2] at h
  omega
theorem ints_arg {x : PV} (h : Sh Tryz.prog 36 [x]) : ∃ l, Lv eI 1 x l ∧ l.length ≤ maxLen ∧ ∀ n ∈ l, in64 n := by
  have hc : Tryz.prog.cellsOf 3 = 1 := by kernel_rfl
  have := h.lst (el := eI) (Q := in64) Tryz.underlying36 (fun r hr => by
    obtain ⟨n, rfl, hw⟩ := hr.inv_int Tryz.underlying3
    exact ⟨n, rowV_int Tryz.underlying3 _, in64_of hw⟩)
  rw [hc] at this
  exact this
end Go.Am.YtdnbedldmkagmaaGreatDoor
namespace Go.Am.YtdnbedldmkagmaaGreatDoor
set_option maxRecDepth 100000
set_option linter.unusedSimpArgs false
set_option linter.unusedVariables false
/-- A heap with a builder on top that holds a text. -/
def bld (h : Hp) (out : List UInt8) : Hp := if out = [] then ext h [.cells [.bnil 68, .nils]] else ext h [.cells [.ptr (size h) 0, .sl (.tok (size h + 1)) 1 (u8s out)], .tok out.length 5]
theorem trunc_bld (h : Hp) (out : List UInt8) : trunc (bld h out) (size h) = h := by
  unfold bld
  split <;> exact trunc_ext
theorem growT_tok {h : Hp} {T' t : Nat} {l m : List UInt8} (ht : getTok h t = some (l.length, T')) (hl : l.length + m.length ≤ lim2) :
    growT h T' 1 (.sl (.tok t) 1 (u8s l)) (u8s m) = some (.sl (.tok t) 1 (u8s (l ++ m)), setBx h t (.tok (l.length + m.length) T')) := by
  unfold growT
  rw [if_pos (Bu.fits m)]
  simp only [ht, Option.bnd_some, Bu.len, Bu.strips, Bu.append]
  rw [if_pos ⟨trivial, trivial, hl⟩]
theorem growT_new {h : Hp} {T' : Nat} {m : List UInt8} (hm : m ≠ []) (hl : m.length ≤ lim2) :
    growT h T' 1 .nils (u8s m) = some (.sl (.tok (size h)) 1 (u8s m), ext h [.tok m.length T']) := by
  unfold growT
  rw [if_pos (Bu.fits m)]
  simp only [Bu.len, Bu.strips]
  rw [if_pos hl]
  have : (u8s m).isEmpty = false := by cases m <;> simp_all [u8s]
  rw [this]; rfl
theorem check_new {h : Hp} {base : Nat} (hb : base ≤ size h) : CallA T base 57 [.ptr (size h) 0] (ext h [.cells [.bnil 68, .nils]]) = some (.tup [], ext h [.cells [.ptr (size h) 0, .nils]]) := by
  have hlt : ¬ size h < base := by omega
  rw [CallA_prim T_57]
  simp only [pCopyCheck, primEnd, hlt, Option.isSome_some, ↓evD, evU, evL, Nat.reduceAdd, Nat.reduceSub, Nat.reduceMul, Nat.reduceLeDiff, Nat.reduceLT, Nat.reduceEqDiff, Nat.reduceBEq, reduceIte, reduceCtorEq, Int.reduceBEq, Int.reduceEq, Int.reduceLT, Int.reduceLE, Int.reduceGT, Int.reduceGE, Int.reduceAdd, Int.reduceSub, Int.reduceNeg, Int.reduceBNe, ite_true, ite_false, if_true, if_false, implies_true, forall_const]
theorem check_old {h : Hp} {base : Nat} (hb : base ≤ size h) (v : PV) (l : List Box) : CallA T base 57 [.ptr (size h) 0] (ext h (.cells [.ptr (size h) 0, v] :: l)) = some (.tup [], ext h (.cells [.ptr (size h) 0, v] :: l)) := by
  have hlt : ¬ size h < base := by omega
  rw [CallA_prim T_57]
  simp only [pCopyCheck, primEnd, hlt, Option.isSome_some, ↓evD, evU, evL, Nat.reduceAdd, Nat.reduceSub, Nat.reduceMul, Nat.reduceLeDiff, Nat.reduceLT, Nat.reduceEqDiff, Nat.reduceBEq, reduceIte, reduceCtorEq, Int.reduceBEq, Int.reduceEq, Int.reduceLT, Int.reduceLE, Int.reduceGT, Int.reduceGE, Int.reduceAdd, Int.reduceSub, Int.reduceNeg, Int.reduceBNe, ite_true, ite_false, if_true, if_false, implies_true, forall_const]
theorem string_of {h : Hp} {base : Nat} (out : List UInt8) (hl : out.length ≤ lim2) : CallA T base 41 [.ptr (size h) 0] (bld h out) = some (.str out, bld h out) := by
  unfold bld
  rw [CallA_prim T_41]
  by_cases ho : out = []
  · subst ho
    rw [if_pos rfl]
    simp only [pString, primEnd, ↓evD, evU, evL, Nat.reduceAdd, Nat.reduceSub, Nat.reduceMul, Nat.reduceLeDiff, Nat.reduceLT, Nat.reduceEqDiff, Nat.reduceBEq, reduceIte, reduceCtorEq, Int.reduceBEq, Int.reduceEq, Int.reduceLT, Int.reduceLE, Int.reduceGT, Int.reduceGE, Int.reduceAdd, Int.reduceSub, Int.reduceNeg, Int.reduceBNe, ite_true, ite_false, if_true, if_false, implies_true, forall_const]
  · rw [if_neg ho]
    have h1 := Bu.ne ho
    have h2 := Bu.bytesOf out
    simp only [pString, primEnd, Bu.len, h1, h2, hl, ne_eq, ↓evD, evU, evL, Nat.reduceAdd, Nat.reduceSub, Nat.reduceMul, Nat.reduceLeDiff, Nat.reduceLT, Nat.reduceEqDiff, Nat.reduceBEq, reduceIte, reduceCtorEq, Int.reduceBEq, Int.reduceEq, Int.reduceLT, Int.reduceLE, Int.reduceGT, Int.reduceGE, Int.reduceAdd, Int.reduceSub, Int.reduceNeg, Int.reduceBNe, ite_true, ite_false, if_true, if_false, implies_true, forall_const]
end Go.Am.YtdnbedldmkagmaaGreatDoor
namespace Go.Am.YtdnbedldmkagmaaGreatDoor
set_option maxRecDepth 100000
set_option linter.unusedSimpArgs false
set_option linter.unusedVariables false
open Go.Lib (decDigits itoa)
theorem write_byte {h : Hp} {base : Nat} (hb : base ≤ size h) (out : List UInt8) (c : UInt8) (hl : out.length + 1 ≤ lim2) :
    CallA T base 54 [.ptr (size h) 0, .int .u8 c.toNat] (bld h out) = some (.nilif, bld h (out ++ [c])) := by
  have hlt : (size h < base) = False := by simp; omega
  rw [S54]
  unfold bld
  rw [if_neg (by simp : out ++ [c] ≠ [])]
  by_cases ho : out = []
  · subst ho
    have hg := fun k => growT_new (h := k) (T' := 5) (m := [c]) (by simp) (by simp [lim2])
    rw [if_pos rfl]
    simp only [check_new hb, hlt, Bu.one, hg, ↓evD, evU, evL, Nat.reduceAdd, Nat.reduceSub, Nat.reduceMul, Nat.reduceLeDiff, Nat.reduceLT, Nat.reduceEqDiff, Nat.reduceBEq, reduceIte, reduceCtorEq, Int.reduceBEq, Int.reduceEq, Int.reduceLT, Int.reduceLE, Int.reduceGT, Int.reduceGE, Int.reduceAdd, Int.reduceSub, Int.reduceNeg, Int.reduceBNe, ite_true, ite_false, if_true, if_false, implies_true, forall_const]
    rfl
  · rw [if_neg ho]
    have hg := growT_tok (h := ext h [.cells [.ptr (size h) 0, .sl (.tok (size h + 1)) 1 (u8s out)], .tok out.length 5]) (T' := 5) (t := size h + 1) (l := out) (m := [c]) (by simp only [↓evD, evU, evL, Nat.reduceAdd, Nat.reduceSub, Nat.reduceMul, Nat.reduceLeDiff, Nat.reduceLT, Nat.reduceEqDiff, Nat.reduceBEq, reduceIte, reduceCtorEq, Int.reduceBEq, Int.reduceEq, Int.reduceLT, Int.reduceLE, Int.reduceGT, Int.reduceGE, Int.reduceAdd, Int.reduceSub, Int.reduceNeg, Int.reduceBNe, ite_true, ite_false, if_true, if_false, implies_true, forall_const]) (by simpa using hl)
    rw [← Bu.one] at hg
    simp only [check_old hb, hlt, hg, ↓evD, evU, evL, Nat.reduceAdd, Nat.reduceSub, Nat.reduceMul, Nat.reduceLeDiff, Nat.reduceLT, Nat.reduceEqDiff, Nat.reduceBEq, reduceIte, reduceCtorEq, Int.reduceBEq, Int.reduceEq, Int.reduceLT, Int.reduceLE, Int.reduceGT, Int.reduceGE, Int.reduceAdd, Int.reduceSub, Int.reduceNeg, Int.reduceBNe, ite_true, ite_false, if_true, if_false, implies_true, forall_const]
    simp
theorem write_str {h : Hp} {base : Nat} (hb : base ≤ size h) (out s : List UInt8) (hs : s ≠ []) (hl : out.length + s.length ≤ lim2) :
    CallA T base 40 [.ptr (size h) 0, .str s] (bld h out) = some (.tup [i64 s.length, .nilif], bld h (out ++ s)) := by
  have hlt : (size h < base) = False := by simp; omega
  have hel : (s.map fun c => PV.int .u8 (c.toNat : Int)) = u8s s := rfl
  rw [S40]
  unfold bld
  rw [if_neg (by simp [hs] : out ++ s ≠ [])]
  by_cases ho : out = []
  · subst ho
    have hg := fun k => growT_new (h := k) (T' := 5) (m := s) hs (by simpa using hl)
    rw [if_pos rfl]
    simp only [check_new hb, hlt, hel, hg, ↓evD, evU, evL, Nat.reduceAdd, Nat.reduceSub, Nat.reduceMul, Nat.reduceLeDiff, Nat.reduceLT, Nat.reduceEqDiff, Nat.reduceBEq, reduceIte, reduceCtorEq, Int.reduceBEq, Int.reduceEq, Int.reduceLT, Int.reduceLE, Int.reduceGT, Int.reduceGE, Int.reduceAdd, Int.reduceSub, Int.reduceNeg, Int.reduceBNe, ite_true, ite_false, if_true, if_false, implies_true, forall_const]
  · rw [if_neg ho]
    have hg := growT_tok (h := ext h [.cells [.ptr (size h) 0, .sl (.tok (size h + 1)) 1 (u8s out)], .tok out.length 5]) (T' := 5) (t := size h + 1) (l := out) (m := s) (by simp only [↓evD, evU, evL, Nat.reduceAdd, Nat.reduceSub, Nat.reduceMul, Nat.reduceLeDiff, Nat.reduceLT, Nat.reduceEqDiff, Nat.reduceBEq, reduceIte, reduceCtorEq, Int.reduceBEq, Int.reduceEq, Int.reduceLT, Int.reduceLE, Int.reduceGT, Int.reduceGE, Int.reduceAdd, Int.reduceSub, Int.reduceNeg, Int.reduceBNe, ite_true, ite_false, if_true, if_false, implies_true, forall_const]) hl
    simp only [check_old hb, hlt, hel, hg, List.length_append, ↓evD, evU, evL, Nat.reduceAdd, Nat.reduceSub, Nat.reduceMul, Nat.reduceLeDiff, Nat.reduceLT, Nat.reduceEqDiff, Nat.reduceBEq, reduceIte, reduceCtorEq, Int.reduceBEq, Int.reduceEq, Int.reduceLT, Int.reduceLE, Int.reduceGT, Int.reduceGE, Int.reduceAdd, Int.reduceSub, Int.reduceNeg, Int.reduceBNe, ite_true, ite_false, if_true, if_false, implies_true, forall_const]
def numOk (n : Int) : Bool := decide (0 ≤ n ∧ n ≤ 65535)
def rightB (p : List Int) : Bool := decide (p.length ≤ 3) && p.all numOk
theorem right_loop {h : Hp} {b : PV} {p : List Int} (hb : Rl eI 1 b p) (hl : p.length ≤ 1000000) : ∀ (r q : List Int), p = q ++ r →
    P47_0 (size h) (size h) (i64 q.length) b b (i64 p.length) h = some (.bool (decide (p.length ≤ 3) && r.all numOk), h)
  | [], q, hp => by
    rw [P47_0_eq]
    have e : q.length = p.length := by rw [hp]; simp
    have h1 : ((q.length : Int) < (p.length : Int)) = False := by simp; omega
    have h3 : decide ((p.length : Int) ≤ 3) = decide (p.length ≤ 3) := by
      by_cases hq : p.length ≤ 3
      · rw [decide_eq_true hq, decide_eq_true (by omega)]
      · rw [decide_eq_false hq, decide_eq_false (by omega)]
    simp only [h1, hb.len, h3, ↓evD, evU, evL, Nat.reduceAdd, Nat.reduceSub, Nat.reduceMul, Nat.reduceLeDiff, Nat.reduceLT, Nat.reduceEqDiff, Nat.reduceBEq, reduceIte, reduceCtorEq, Int.reduceBEq, Int.reduceEq, Int.reduceLT, Int.reduceLE, Int.reduceGT, Int.reduceGE, Int.reduceAdd, Int.reduceSub, Int.reduceNeg, Int.reduceBNe, ite_true, ite_false, if_true, if_false, implies_true, forall_const]
  | x :: r, q, hp => by
    rw [P47_0_eq]
    have el : p.length = q.length + (r.length + 1) := by rw [hp]; simp
    have h1 : ((q.length : Int) < (p.length : Int)) = True := by simp; omega
    have hx : p[q.length]? = some x := by rw [hp]; simp
    have hec : (eI x).cells = [i64 x] := rfl
    have w1 : IntKind.i64.wrap ((q.length : Int) + 1) = (((q ++ [x]).length : Nat) : Int) := by rw [show (q ++ [x]).length = q.length + 1 by simp, wrap_small] <;> omega
    have ih := right_loop (h := h) hb hl r (q ++ [x]) (by rw [hp]; simp)
    by_cases c1 : x < 0
    · have : numOk x = false := by simp [numOk]; omega
      simp only [h1, hb.idx hx, hec, c1, this, ↓evD, evU, evL, Nat.reduceAdd, Nat.reduceSub, Nat.reduceMul, Nat.reduceLeDiff, Nat.reduceLT, Nat.reduceEqDiff, Nat.reduceBEq, reduceIte, reduceCtorEq, Int.reduceBEq, Int.reduceEq, Int.reduceLT, Int.reduceLE, Int.reduceGT, Int.reduceGE, Int.reduceAdd, Int.reduceSub, Int.reduceNeg, Int.reduceBNe, ite_true, ite_false, if_true, if_false, implies_true, forall_const]
    by_cases c2 : x > 65535
    · have : numOk x = false := by simp [numOk]; omega
      simp only [h1, hb.idx hx, hec, c1, c2, this, ↓evD, evU, evL, Nat.reduceAdd, Nat.reduceSub, Nat.reduceMul, Nat.reduceLeDiff, Nat.reduceLT, Nat.reduceEqDiff, Nat.reduceBEq, reduceIte, reduceCtorEq, Int.reduceBEq, Int.reduceEq, Int.reduceLT, Int.reduceLE, Int.reduceGT, Int.reduceGE, Int.reduceAdd, Int.reduceSub, Int.reduceNeg, Int.reduceBNe, ite_true, ite_false, if_true, if_false, implies_true, forall_const]
    have : numOk x = true := by simp [numOk]; omega
    simp only [h1, hb.idx hx, hec, c1, c2, this, w1, ih, ↓evD, evU, evL, Nat.reduceAdd, Nat.reduceSub, Nat.reduceMul, Nat.reduceLeDiff, Nat.reduceLT, Nat.reduceEqDiff, Nat.reduceBEq, reduceIte, reduceCtorEq, Int.reduceBEq, Int.reduceEq, Int.reduceLT, Int.reduceLE, Int.reduceGT, Int.reduceGE, Int.reduceAdd, Int.reduceSub, Int.reduceNeg, Int.reduceBNe, ite_true, ite_false, if_true, if_false, implies_true, forall_const]
theorem right_spec {base : Nat} {h : Hp} {b : PV} {p : List Int} (hb : Rl eI 1 b p) (hl : p.length ≤ 1000000) : CallA T base 47 [b] h = some (.bool (rightB p), h) := by
  rw [S47]
  have := right_loop (h := h) hb hl p [] rfl
  simp only [hb.len, ↓evD, evU, evL, Nat.reduceAdd, Nat.reduceSub, Nat.reduceMul, Nat.reduceLeDiff, Nat.reduceLT, Nat.reduceEqDiff, Nat.reduceBEq, reduceIte, reduceCtorEq, Int.reduceBEq, Int.reduceEq, Int.reduceLT, Int.reduceLE, Int.reduceGT, Int.reduceGE, Int.reduceAdd, Int.reduceSub, Int.reduceNeg, Int.reduceBNe, ite_true, ite_false, if_true, if_false, implies_true, forall_const]
  exact this
theorem rightR_loop {h : Hp} {b : PV} {p : List Int} (hb : Rl eI 1 b p) (hl : p.length ≤ 1000000) : ∀ (r q : List Int), p = q ++ r →
    P23_0 (size h) (size h) (i64 q.length) b h = some (.bool (r.all numOk), h)
  | [], q, hp => by
    rw [P23_0_eq]
    have e : q.length = p.length := by rw [hp]; simp
    have h1 : ((q.length : Int) < (p.length : Int)) = False := by simp; omega
    simp only [h1, hb.len, ↓evD, evU, evL, Nat.reduceAdd, Nat.reduceSub, Nat.reduceMul, Nat.reduceLeDiff, Nat.reduceLT, Nat.reduceEqDiff, Nat.reduceBEq, reduceIte, reduceCtorEq, Int.reduceBEq, Int.reduceEq, Int.reduceLT, Int.reduceLE, Int.reduceGT, Int.reduceGE, Int.reduceAdd, Int.reduceSub, Int.reduceNeg, Int.reduceBNe, ite_true, ite_false, if_true, if_false, implies_true, forall_const]
  | x :: r, q, hp => by
    rw [P23_0_eq]
    have el : p.length = q.length + (r.length + 1) := by rw [hp]; simp
    have h1 : ((q.length : Int) < (p.length : Int)) = True := by simp; omega
    have hx : p[q.length]? = some x := by rw [hp]; simp
    have hec : (eI x).cells = [i64 x] := rfl
    have w1 : IntKind.i64.wrap ((q.length : Int) + 1) = (((q ++ [x]).length : Nat) : Int) := by rw [show (q ++ [x]).length = q.length + 1 by simp, wrap_small] <;> omega
    have ih := rightR_loop (h := h) hb hl r (q ++ [x]) (by rw [hp]; simp)
    by_cases c1 : x < 0
    · have : numOk x = false := by simp [numOk]; omega
      simp only [h1, hb.len, hb.idx hx, hec, c1, this, ↓evD, evU, evL, Nat.reduceAdd, Nat.reduceSub, Nat.reduceMul, Nat.reduceLeDiff, Nat.reduceLT, Nat.reduceEqDiff, Nat.reduceBEq, reduceIte, reduceCtorEq, Int.reduceBEq, Int.reduceEq, Int.reduceLT, Int.reduceLE, Int.reduceGT, Int.reduceGE, Int.reduceAdd, Int.reduceSub, Int.reduceNeg, Int.reduceBNe, ite_true, ite_false, if_true, if_false, implies_true, forall_const]
    by_cases c2 : x > 65535
    · have : numOk x = false := by simp [numOk]; omega
      simp only [h1, hb.len, hb.idx hx, hec, c1, c2, this, ↓evD, evU, evL, Nat.reduceAdd, Nat.reduceSub, Nat.reduceMul, Nat.reduceLeDiff, Nat.reduceLT, Nat.reduceEqDiff, Nat.reduceBEq, reduceIte, reduceCtorEq, Int.reduceBEq, Int.reduceEq, Int.reduceLT, Int.reduceLE, Int.reduceGT, Int.reduceGE, Int.reduceAdd, Int.reduceSub, Int.reduceNeg, Int.reduceBNe, ite_true, ite_false, if_true, if_false, implies_true, forall_const]
    have : numOk x = true := by simp [numOk]; omega
    simp only [h1, hb.len, hb.idx hx, hec, c1, c2, this, w1, ih, ↓evD, evU, evL, Nat.reduceAdd, Nat.reduceSub, Nat.reduceMul, Nat.reduceLeDiff, Nat.reduceLT, Nat.reduceEqDiff, Nat.reduceBEq, reduceIte, reduceCtorEq, Int.reduceBEq, Int.reduceEq, Int.reduceLT, Int.reduceLE, Int.reduceGT, Int.reduceGE, Int.reduceAdd, Int.reduceSub, Int.reduceNeg, Int.reduceBNe, ite_true, ite_false, if_true, if_false, implies_true, forall_const]
theorem rightR_spec {base : Nat} {h : Hp} {b : PV} {p : List Int} (hb : Rl eI 1 b p) (hl : p.length ≤ 1000000) : CallA T base 23 [b] h = some (.bool (rightB p), h) := by
  rw [S23]
  unfold rightB
  by_cases h3 : p.length ≤ 3
  · have h1 : ((p.length : Int) > 3) = False := by simp; omega
    have := rightR_loop (h := h) hb hl p [] rfl
    rw [decide_eq_true h3]
    simp only [hb.len, h1, ↓evD, evU, evL, Nat.reduceAdd, Nat.reduceSub, Nat.reduceMul, Nat.reduceLeDiff, Nat.reduceLT, Nat.reduceEqDiff, Nat.reduceBEq, reduceIte, reduceCtorEq, Int.reduceBEq, Int.reduceEq, Int.reduceLT, Int.reduceLE, Int.reduceGT, Int.reduceGE, Int.reduceAdd, Int.reduceSub, Int.reduceNeg, Int.reduceBNe, ite_true, ite_false, if_true, if_false, implies_true, forall_const]
    exact this
  · have h1 : ((p.length : Int) > 3) = True := by simp; omega
    rw [decide_eq_false h3]
    simp only [hb.len, h1, ↓evD, evU, evL, Nat.reduceAdd, Nat.reduceSub, Nat.reduceMul, Nat.reduceLeDiff, Nat.reduceLT, Nat.reduceEqDiff, Nat.reduceBEq, reduceIte, reduceCtorEq, Int.reduceBEq, Int.reduceEq, Int.reduceLT, Int.reduceLE, Int.reduceGT, Int.reduceGE, Int.reduceAdd, Int.reduceSub, Int.reduceNeg, Int.reduceBNe, ite_true, ite_false, if_true, if_false, implies_true, forall_const]
theorem ints_loop {h : Hp} {a b : PV} {l m : List Int} (ha : Rl eI 1 a l) (hb : Rl eI 1 b m) (hlm : l.length = m.length) (hl : l.length ≤ 1000000) : ∀ (k i : Nat), i + k = l.length →
    P30_0 (size h) (size h) (.int .i64 i) b a h = some (.bool (l.drop i == m.drop i), h)
  | 0, i, hk => by
    rw [P30_0_eq]
    have h1 : ((i : Int) < (l.length : Int)) = False := by simp; omega
    have e1 : l.drop i = [] := List.drop_eq_nil_of_le (by omega)
    have e2 : m.drop i = [] := List.drop_eq_nil_of_le (by omega)
    simp only [ha.len, h1, e1, e2, ↓evD, evU, evL, Nat.reduceAdd, Nat.reduceSub, Nat.reduceMul, Nat.reduceLeDiff, Nat.reduceLT, Nat.reduceEqDiff, Nat.reduceBEq, reduceIte, reduceCtorEq, Int.reduceBEq, Int.reduceEq, Int.reduceLT, Int.reduceLE, Int.reduceGT, Int.reduceGE, Int.reduceAdd, Int.reduceSub, Int.reduceNeg, Int.reduceBNe, ite_true, ite_false, if_true, if_false, implies_true, forall_const]
  | k + 1, i, hk => by
    rw [P30_0_eq]
    have h1 : ((i : Int) < (l.length : Int)) = True := by simp; omega
    obtain ⟨x, hx⟩ : ∃ x, l[i]? = some x := ⟨_, List.getElem?_eq_getElem (by omega)⟩
    obtain ⟨y, hy⟩ : ∃ y, m[i]? = some y := ⟨_, List.getElem?_eq_getElem (by omega)⟩
    have e1 : l.drop i = x :: l.drop (i + 1) := by
      obtain ⟨hi, rfl⟩ := List.getElem?_eq_some_iff.1 hx
      exact List.drop_eq_getElem_cons hi
    have e2 : m.drop i = y :: m.drop (i + 1) := by
      obtain ⟨hi, rfl⟩ := List.getElem?_eq_some_iff.1 hy
      exact List.drop_eq_getElem_cons hi
    have hec : ∀ x, (eI x).cells = [i64 x] := fun _ => rfl
    have w1 : IntKind.i64.wrap ((i : Int) + 1) = ((i + 1 : Nat) : Int) := by rw [wrap_small] <;> omega
    have ih := ints_loop (h := h) ha hb hlm hl k (i + 1) (by omega)
    cases hq : (x == y)
    · have hq' : (x != y) = true := by simp [bne, hq]
      have e3 : (x :: l.drop (i + 1) == y :: m.drop (i + 1)) = false := by rw [List.cons_beq_cons, hq]; rfl
      simp only [ha.len, ha.idx hx, hb.idx hy, hec, h1, hq', e1, e2, e3, ↓evD, evU, evL, Nat.reduceAdd, Nat.reduceSub, Nat.reduceMul, Nat.reduceLeDiff, Nat.reduceLT, Nat.reduceEqDiff, Nat.reduceBEq, reduceIte, reduceCtorEq, Int.reduceBEq, Int.reduceEq, Int.reduceLT, Int.reduceLE, Int.reduceGT, Int.reduceGE, Int.reduceAdd, Int.reduceSub, Int.reduceNeg, Int.reduceBNe, ite_true, ite_false, if_true, if_false, implies_true, forall_const]
    · have hq' : (x != y) = false := by simp [bne, hq]
      have e3 : (x :: l.drop (i + 1) == y :: m.drop (i + 1)) = (l.drop (i + 1) == m.drop (i + 1)) := by rw [List.cons_beq_cons, hq]; rfl
      simp only [ha.len, ha.idx hx, hb.idx hy, hec, h1, hq', e1, e2, e3, w1, ih, ↓evD, evU, evL, Nat.reduceAdd, Nat.reduceSub, Nat.reduceMul, Nat.reduceLeDiff, Nat.reduceLT, Nat.reduceEqDiff, Nat.reduceBEq, reduceIte, reduceCtorEq, Int.reduceBEq, Int.reduceEq, Int.reduceLT, Int.reduceLE, Int.reduceGT, Int.reduceGE, Int.reduceAdd, Int.reduceSub, Int.reduceNeg, Int.reduceBNe, ite_true, ite_false, if_true, if_false, implies_true, forall_const]
theorem ints_spec {base : Nat} {h : Hp} {a b : PV} {l m : List Int} (ha : Rl eI 1 a l) (hb : Rl eI 1 b m) (hl : l.length ≤ 1000000) : CallA T base 30 [a, b] h = some (.bool (l == m), h) := by
  rw [S30]
  by_cases hlm : l.length = m.length
  · have e1 : ((l.length : Int) != (m.length : Int)) = false := by rw [hlm]; simp
    have := ints_loop (h := h) ha hb hlm hl l.length 0 (by omega)
    rw [List.drop_zero, List.drop_zero] at this
    simp only [ha.len, hb.len, e1, ↓evD, evU, evL, Nat.reduceAdd, Nat.reduceSub, Nat.reduceMul, Nat.reduceLeDiff, Nat.reduceLT, Nat.reduceEqDiff, Nat.reduceBEq, reduceIte, reduceCtorEq, Int.reduceBEq, Int.reduceEq, Int.reduceLT, Int.reduceLE, Int.reduceGT, Int.reduceGE, Int.reduceAdd, Int.reduceSub, Int.reduceNeg, Int.reduceBNe, ite_true, ite_false, if_true, if_false, implies_true, forall_const]
    exact this
  · have e1 : ((l.length : Int) != (m.length : Int)) = true := by rw [bne_iff_ne]; omega
    have e2 : (l == m) = false := by rw [beq_eq_false_iff_ne]; rintro rfl; exact hlm rfl
    simp only [ha.len, hb.len, e1, e2, ↓evD, evU, evL, Nat.reduceAdd, Nat.reduceSub, Nat.reduceMul, Nat.reduceLeDiff, Nat.reduceLT, Nat.reduceEqDiff, Nat.reduceBEq, reduceIte, reduceCtorEq, Int.reduceBEq, Int.reduceEq, Int.reduceLT, Int.reduceLE, Int.reduceGT, Int.reduceGE, Int.reduceAdd, Int.reduceSub, Int.reduceNeg, Int.reduceBNe, ite_true, ite_false, if_true, if_false, implies_true, forall_const]
/-- A path's text. -/
def segsS : List Int → List UInt8
  | [] => []
  | n :: p => 47 :: itoa n ++ segsS p
def textS (p : List Int) : List UInt8 := if rightB p = false then [] else if p = [] then [47] else segsS p
theorem itoa_ne (n : Int) : itoa n ≠ [] := by
  unfold itoa
  split
  · simp
  · exact digits_ne _
theorem in64_ok {n : Int} (h : numOk n = true) : in64 n := by
  simp [numOk] at h
  unfold in64; omega
theorem itoa_len {n : Int} (h : in64 n) : (itoa n).length ≤ 21 := Lib.itoa_length_le n h.1 h.2
theorem text_loop {h : Hp} {b : PV} {p : List Int} (hb : Rl eI 1 b p) (hl : p.length ≤ 3) (ho : p.all numOk = true) : ∀ (r q : List Int) (out : List UInt8), p = q ++ r → out.length ≤ 30 * q.length →
    P37_0 (size h) (size h) (i64 q.length) (.ptr (size h) 0) b (i64 p.length) (bld h out) = some (.str (out ++ segsS r), h)
  | [], q, out, hp, hout => by
    rw [P37_0_eq]
    have e : q.length = p.length := by rw [hp]; simp
    have h1 : ((q.length : Int) < (p.length : Int)) = False := by simp; omega
    have hs : ∀ base, _ := fun base => string_of (base := base) (h := h) out (by unfold lim2; omega)
    simp only [h1, hs, trunc_bld, segsS, List.append_nil, ↓evD, evU, evL, Nat.reduceAdd, Nat.reduceSub, Nat.reduceMul, Nat.reduceLeDiff, Nat.reduceLT, Nat.reduceEqDiff, Nat.reduceBEq, reduceIte, reduceCtorEq, Int.reduceBEq, Int.reduceEq, Int.reduceLT, Int.reduceLE, Int.reduceGT, Int.reduceGE, Int.reduceAdd, Int.reduceSub, Int.reduceNeg, Int.reduceBNe, ite_true, ite_false, if_true, if_false, implies_true, forall_const]
  | x :: r, q, out, hp, hout => by
    rw [P37_0_eq]
    have el : p.length = q.length + (r.length + 1) := by rw [hp]; simp
    have h1 : ((q.length : Int) < (p.length : Int)) = True := by simp; omega
    have hx : p[q.length]? = some x := by rw [hp]; simp
    have hox : numOk x = true := List.all_eq_true.1 ho x (by rw [hp]; simp)
    have hec : (eI x).cells = [i64 x] := rfl
    have w1 : IntKind.i64.wrap ((q.length : Int) + 1) = (((q ++ [x]).length : Nat) : Int) := by rw [show (q ++ [x]).length = q.length + 1 by simp, wrap_small] <;> omega
    have hin := in64_ok hox
    have hil := itoa_len hin
    have hI : ∀ base h, _ := fun base h => itoa_spec (base := base) (h := h) x hin
    have hw1 := write_byte (h := h) (Nat.le_refl (size h)) out 47 (by unfold lim2; omega)
    have hw2 := write_str (h := h) (Nat.le_refl (size h)) (out ++ [47]) (itoa x) (itoa_ne x) (by unfold lim2; simp; omega)
    have z47 : (((47 : UInt8).toNat : Nat) : Int) = 47 := rfl
    rw [z47] at hw1
    have ih := text_loop (h := h) hb hl ho r (q ++ [x]) (out ++ [47] ++ itoa x) (by rw [hp]; simp) (by simp; omega)
    simp only [h1, hb.idx hx, hec, hw1, hI, hw2, w1, ih, ↓evD, evU, evL, Nat.reduceAdd, Nat.reduceSub, Nat.reduceMul, Nat.reduceLeDiff, Nat.reduceLT, Nat.reduceEqDiff, Nat.reduceBEq, reduceIte, reduceCtorEq, Int.reduceBEq, Int.reduceEq, Int.reduceLT, Int.reduceLE, Int.reduceGT, Int.reduceGE, Int.reduceAdd, Int.reduceSub, Int.reduceNeg, Int.reduceBNe, ite_true, ite_false, if_true, if_false, implies_true, forall_const]
    simp [segsS]
theorem text_spec {base : Nat} {h : Hp} {b : PV} {p : List Int} (hb : Rl eI 1 b p) (hl : p.length ≤ 1000000) : CallA T base 37 [b] h = some (.str (textS p), h) := by
  rw [S37]
  have hR : ∀ base h, _ := fun base h => right_spec (base := base) (h := h) hb hl
  unfold textS
  cases hr : rightB p
  · rw [hr] at hR
    simp only [hR, ↓evD, evU, evL, Nat.reduceAdd, Nat.reduceSub, Nat.reduceMul, Nat.reduceLeDiff, Nat.reduceLT, Nat.reduceEqDiff, Nat.reduceBEq, reduceIte, reduceCtorEq, Int.reduceBEq, Int.reduceEq, Int.reduceLT, Int.reduceLE, Int.reduceGT, Int.reduceGE, Int.reduceAdd, Int.reduceSub, Int.reduceNeg, Int.reduceBNe, ite_true, ite_false, if_true, if_false, implies_true, forall_const]
  · rw [hr] at hR
    by_cases h0 : p = []
    · have e0 : ((p.length : Int) == 0) = true := by rw [h0]; rfl
      rw [if_pos h0]
      simp only [hR, hb.len, e0, ↓evD, evU, evL, Nat.reduceAdd, Nat.reduceSub, Nat.reduceMul, Nat.reduceLeDiff, Nat.reduceLT, Nat.reduceEqDiff, Nat.reduceBEq, reduceIte, reduceCtorEq, Int.reduceBEq, Int.reduceEq, Int.reduceLT, Int.reduceLE, Int.reduceGT, Int.reduceGE, Int.reduceAdd, Int.reduceSub, Int.reduceNeg, Int.reduceBNe, ite_true, ite_false, if_true, if_false, implies_true, forall_const]
    · have hp0 : 0 < p.length := List.length_pos_iff.2 h0
      have e0 : ((p.length : Int) == 0) = false := by rw [beq_eq_false_iff_ne]; omega
      unfold rightB at hr
      rw [Bool.and_eq_true, decide_eq_true_eq] at hr
      have hb0 : ext h [.cells [.bnil 68, .nils]] = bld h [] := rfl
      have := text_loop (h := h) hb hr.1 hr.2 p [] [] rfl (by simp)
      simp only [hR, hb.len, e0, h0, hb0, ↓evD, evU, evL, Nat.reduceAdd, Nat.reduceSub, Nat.reduceMul, Nat.reduceLeDiff, Nat.reduceLT, Nat.reduceEqDiff, Nat.reduceBEq, reduceIte, reduceCtorEq, Int.reduceBEq, Int.reduceEq, Int.reduceLT, Int.reduceLE, Int.reduceGT, Int.reduceGE, Int.reduceAdd, Int.reduceSub, Int.reduceNeg, Int.reduceBNe, ite_true, ite_false, if_true, if_false, implies_true, forall_const]
      exact this
theorem textR_loop {h : Hp} {b : PV} {p : List Int} (hb : Rl eI 1 b p) (hl : p.length ≤ 3) (ho : p.all numOk = true) : ∀ (r q : List Int) (out : List UInt8), p = q ++ r → out.length ≤ 30 * q.length →
    P19_0 (size h) (size h) (i64 q.length) b (.str out) h = some (.str (if out ++ segsS r = [] then [47] else out ++ segsS r), h)
  | [], q, out, hp, hout => by
    rw [P19_0_eq]
    have e : q.length = p.length := by rw [hp]; simp
    have h1 : ((q.length : Int) < (p.length : Int)) = False := by simp; omega
    by_cases ho : out = []
    · have e1 : (out == []) = true := by simp [ho]
      simp only [h1, hb.len, e1, ho, segsS, List.append_nil, ↓evD, evU, evL, Nat.reduceAdd, Nat.reduceSub, Nat.reduceMul, Nat.reduceLeDiff, Nat.reduceLT, Nat.reduceEqDiff, Nat.reduceBEq, reduceIte, reduceCtorEq, Int.reduceBEq, Int.reduceEq, Int.reduceLT, Int.reduceLE, Int.reduceGT, Int.reduceGE, Int.reduceAdd, Int.reduceSub, Int.reduceNeg, Int.reduceBNe, ite_true, ite_false, if_true, if_false, implies_true, forall_const]
    · have e1 : (out == []) = false := by simp [ho]
      simp only [h1, hb.len, e1, ho, segsS, List.append_nil, ↓evD, evU, evL, Nat.reduceAdd, Nat.reduceSub, Nat.reduceMul, Nat.reduceLeDiff, Nat.reduceLT, Nat.reduceEqDiff, Nat.reduceBEq, reduceIte, reduceCtorEq, Int.reduceBEq, Int.reduceEq, Int.reduceLT, Int.reduceLE, Int.reduceGT, Int.reduceGE, Int.reduceAdd, Int.reduceSub, Int.reduceNeg, Int.reduceBNe, ite_true, ite_false, if_true, if_false, implies_true, forall_const]
  | x :: r, q, out, hp, hout => by
    rw [P19_0_eq]
    have el : p.length = q.length + (r.length + 1) := by rw [hp]; simp
    have h1 : ((q.length : Int) < (p.length : Int)) = True := by simp; omega
    have hx : p[q.length]? = some x := by rw [hp]; simp
    have hox : numOk x = true := List.all_eq_true.1 ho x (by rw [hp]; simp)
    have hec : (eI x).cells = [i64 x] := rfl
    have w1 : IntKind.i64.wrap ((q.length : Int) + 1) = (((q ++ [x]).length : Nat) : Int) := by rw [show (q ++ [x]).length = q.length + 1 by simp, wrap_small] <;> omega
    have hin := in64_ok hox
    have hil := itoa_len hin
    have hI : ∀ base h, _ := fun base h => itoa_spec (base := base) (h := h) x hin
    have l1 : out.length + 1 ≤ limS := by unfold limS; omega
    have l2 : (out ++ [47]).length + (itoa x).length ≤ limS := by unfold limS; simp; omega
    have ih := textR_loop (h := h) hb hl ho r (q ++ [x]) (out ++ [47] ++ itoa x) (by rw [hp]; simp) (by simp; omega)
    have e3 : out ++ [47] ++ itoa x ++ segsS r = out ++ segsS (x :: r) := by simp [segsS]
    rw [e3] at ih
    generalize hO : out ++ [47] = O at *
    simp only [h1, hb.len, hb.idx hx, hec, hI, l1, hO, l2, w1, ih, ↓evD, evU, evL, Nat.reduceAdd, Nat.reduceSub, Nat.reduceMul, Nat.reduceLeDiff, Nat.reduceLT, Nat.reduceEqDiff, Nat.reduceBEq, reduceIte, reduceCtorEq, Int.reduceBEq, Int.reduceEq, Int.reduceLT, Int.reduceLE, Int.reduceGT, Int.reduceGE, Int.reduceAdd, Int.reduceSub, Int.reduceNeg, Int.reduceBNe, ite_true, ite_false, if_true, if_false, implies_true, forall_const]
theorem textR_spec {base : Nat} {h : Hp} {b : PV} {p : List Int} (hb : Rl eI 1 b p) (hl : p.length ≤ 1000000) : CallA T base 19 [b] h = some (.str (textS p), h) := by
  rw [S19]
  have hR : ∀ base h, _ := fun base h => rightR_spec (base := base) (h := h) hb hl
  unfold textS
  cases hr : rightB p
  · rw [hr] at hR
    simp only [hR, ↓evD, evU, evL, Nat.reduceAdd, Nat.reduceSub, Nat.reduceMul, Nat.reduceLeDiff, Nat.reduceLT, Nat.reduceEqDiff, Nat.reduceBEq, reduceIte, reduceCtorEq, Int.reduceBEq, Int.reduceEq, Int.reduceLT, Int.reduceLE, Int.reduceGT, Int.reduceGE, Int.reduceAdd, Int.reduceSub, Int.reduceNeg, Int.reduceBNe, ite_true, ite_false, if_true, if_false, implies_true, forall_const]
  · rw [hr] at hR
    unfold rightB at hr
    rw [Bool.and_eq_true, decide_eq_true_eq] at hr
    have := textR_loop (h := h) hb hr.1 hr.2 p [] [] rfl (by simp)
    have e : (if ([] : List UInt8) ++ segsS p = [] then [47] else [] ++ segsS p) = if p = [] then [47] else segsS p := by
      cases p with
      | nil => rfl
      | cons x p => simp [segsS]
    rw [e] at this
    simp only [hR, ↓evD, evU, evL, Nat.reduceAdd, Nat.reduceSub, Nat.reduceMul, Nat.reduceLeDiff, Nat.reduceLT, Nat.reduceEqDiff, Nat.reduceBEq, reduceIte, reduceCtorEq, Int.reduceBEq, Int.reduceEq, Int.reduceLT, Int.reduceLE, Int.reduceGT, Int.reduceGE, Int.reduceAdd, Int.reduceSub, Int.reduceNeg, Int.reduceBNe, ite_true, ite_false, if_true, if_false, implies_true, forall_const]
    exact this
end Go.Am.YtdnbedldmkagmaaGreatDoor
namespace Go.Am
set_option linter.unusedSimpArgs false
set_option linter.unusedVariables false
def splitL (c : UInt8) : List UInt8 → List (List UInt8)
  | [] => [[]]
  | x :: r => if x = c then [] :: splitL c r else match splitL c r with
    | y :: ys => (x :: y) :: ys
    | [] => [[x]]
theorem splitL_ne (c : UInt8) : ∀ l, splitL c l ≠ []
  | [] => by simp [splitL]
  | x :: r => by
    rw [splitL]
    split
    · simp
    · split <;> simp
theorem splitL_none {c : UInt8} : ∀ {l : List UInt8}, c ∉ l → splitL c l = [l]
  | [], _ => rfl
  | x :: r, h => by
    have hx : ¬ x = c := fun q => h (by simp [q])
    have hr : c ∉ r := fun q => h (by simp [q])
    rw [splitL, if_neg hx, splitL_none hr]
theorem splitL_app {c : UInt8} : ∀ {a : List UInt8} (b : List UInt8), c ∉ a → splitL c (a ++ c :: b) = a :: splitL c b
  | [], b, _ => by rw [List.nil_append, splitL, if_pos rfl]
  | x :: a, b, h => by
    have hx : ¬ x = c := fun q => h (by simp [q])
    have ha : c ∉ a := fun q => h (by simp [q])
    rw [List.cons_append, splitL, if_neg hx, splitL_app b ha]
theorem splitL_len (c : UInt8) : ∀ l : List UInt8, (splitL c l).length = l.count c + 1
  | [] => rfl
  | x :: r => by
    have ih := splitL_len c r
    rw [splitL]
    by_cases hx : x = c
    · subst hx
      rw [if_pos rfl, List.length_cons, ih, List.count_cons_self]
    · rw [if_neg hx, List.count_cons_of_ne (by simpa using hx)]
      cases hq : splitL c r with
      | nil => exact (splitL_ne c r hq).elim
      | cons y ys => rw [hq] at ih; simpa using ih
/-- Where a sign is first. -/
theorem index_split (c : UInt8) : ∀ l : List UInt8, (c ∉ l ∧ Lib.indexByte l c = -1) ∨ ∃ a b, l = a ++ c :: b ∧ c ∉ a ∧ Lib.indexByte l c = a.length
  | [] => .inl ⟨by simp, rfl⟩
  | x :: r => by
    by_cases hx : x = c
    · exact .inr ⟨[], r, by simp [hx], by simp, by simp [Lib.indexByte, hx]⟩
    · have hxc : (x == c) = false := by simpa using hx
      rcases index_split c r with ⟨h1, h2⟩ | ⟨a, b, rfl, h2, h3⟩
      · refine .inl ⟨?_, ?_⟩
        · simp only [List.mem_cons, not_or]
          exact ⟨fun q => hx q.symm, h1⟩
        · rw [Lib.indexByte, hxc, h2]; rfl
      · refine .inr ⟨x :: a, b, rfl, ?_, ?_⟩
        · simp only [List.mem_cons, not_or]
          exact ⟨fun q => hx q.symm, h2⟩
        · rw [Lib.indexByte, hxc, h3]
          have : ((a.length : Int) == -1) = false := by rw [beq_eq_false_iff_ne]; omega
          rw [this]
          simp
theorem flat_one {α : Type} (x : α) : ∀ n, List.flatten (List.replicate n [x]) = List.replicate n x
  | 0 => rfl
  | n + 1 => by rw [List.replicate_succ, List.flatten_cons, flat_one x n]; rfl
end Go.Am
namespace Go.Am.YtdnbedldmkagmaaGreatDoor
set_option maxRecDepth 100000
set_option linter.unusedSimpArgs false
set_option linter.unusedVariables false
open Go.Lib (decDigits itoa)
theorem hasPrefix_spec {base : Nat} {h : Hp} (s p : List UInt8) (hs : s.length ≤ 1000000) (hp : p.length ≤ 1000000) : CallA T base 75 [.str s, .str p] h = some (.bool (s.take p.length == p), h) := by
  rw [S75]
  by_cases h1 : p.length ≤ s.length
  · have c1 : ((s.length : Int) ≥ (p.length : Int)) = True := by simp; omega
    have hb := bdV_nat s.length .i64 p.length h1
    simp only [c1, hb, List.drop_zero, Nat.sub_zero, ↓evD, evU, evL, Nat.reduceAdd, Nat.reduceSub, Nat.reduceMul, Nat.reduceLeDiff, Nat.reduceLT, Nat.reduceEqDiff, Nat.reduceBEq, reduceIte, reduceCtorEq, Int.reduceBEq, Int.reduceEq, Int.reduceLT, Int.reduceLE, Int.reduceGT, Int.reduceGE, Int.reduceAdd, Int.reduceSub, Int.reduceNeg, Int.reduceBNe, ite_true, ite_false, if_true, if_false, implies_true, forall_const]
  · have c1 : ((s.length : Int) ≥ (p.length : Int)) = False := by simp; omega
    have e : (s.take p.length == p) = false := by
      rw [beq_eq_false_iff_ne]
      intro q
      have := congrArg List.length q
      simp at this
      omega
    simp only [c1, e, ↓evD, evU, evL, Nat.reduceAdd, Nat.reduceSub, Nat.reduceMul, Nat.reduceLeDiff, Nat.reduceLT, Nat.reduceEqDiff, Nat.reduceBEq, reduceIte, reduceCtorEq, Int.reduceBEq, Int.reduceEq, Int.reduceLT, Int.reduceLE, Int.reduceGT, Int.reduceGE, Int.reduceAdd, Int.reduceSub, Int.reduceNeg, Int.reduceBNe, ite_true, ite_false, if_true, if_false, implies_true, forall_const]
theorem cutPrefix_spec {base : Nat} {h : Hp} (s p : List UInt8) (hs : s.length ≤ 1000000) (hp : p.length ≤ 1000000) :
    CallA T base 52 [.str s, .str p] h = some (.tup [.str (if s.take p.length == p then s.drop p.length else s), .bool (s.take p.length == p)], h) := by
  have hH : ∀ base h, _ := fun base h => hasPrefix_spec (base := base) (h := h) s p hs hp
  have h43 : ∀ base h, CallA T base 68 [.str s, .str p] h = some (.tup [.str (if s.take p.length == p then s.drop p.length else s), .bool (s.take p.length == p)], h) := by
    intro base h
    rw [S68]
    cases hq : (s.take p.length == p)
    · simp only [hH, hq, ↓evD, evU, evL, Nat.reduceAdd, Nat.reduceSub, Nat.reduceMul, Nat.reduceLeDiff, Nat.reduceLT, Nat.reduceEqDiff, Nat.reduceBEq, reduceIte, reduceCtorEq, Int.reduceBEq, Int.reduceEq, Int.reduceLT, Int.reduceLE, Int.reduceGT, Int.reduceGE, Int.reduceAdd, Int.reduceSub, Int.reduceNeg, Int.reduceBNe, ite_true, ite_false, if_true, if_false, implies_true, forall_const]
    · have hl : p.length ≤ s.length := by
        have := congrArg List.length (beq_iff_eq.1 hq)
        simp at this
        omega
      have hb := bdV_nat s.length .i64 p.length hl
      have ht : (s.drop p.length).take (s.length - p.length) = s.drop p.length := List.take_of_length_le (by simp)
      simp only [hH, hq, hb, ht, ↓evD, evU, evL, Nat.reduceAdd, Nat.reduceSub, Nat.reduceMul, Nat.reduceLeDiff, Nat.reduceLT, Nat.reduceEqDiff, Nat.reduceBEq, reduceIte, reduceCtorEq, Int.reduceBEq, Int.reduceEq, Int.reduceLT, Int.reduceLE, Int.reduceGT, Int.reduceGE, Int.reduceAdd, Int.reduceSub, Int.reduceNeg, Int.reduceBNe, ite_true, ite_false, if_true, if_false, implies_true, forall_const]
  rw [S52]
  simp only [h43, ↓evD, evU, evL, Nat.reduceAdd, Nat.reduceSub, Nat.reduceMul, Nat.reduceLeDiff, Nat.reduceLT, Nat.reduceEqDiff, Nat.reduceBEq, reduceIte, reduceCtorEq, Int.reduceBEq, Int.reduceEq, Int.reduceLT, Int.reduceLE, Int.reduceGT, Int.reduceGE, Int.reduceAdd, Int.reduceSub, Int.reduceNeg, Int.reduceBNe, ite_true, ite_false, if_true, if_false, implies_true, forall_const]
theorem index_spec {base : Nat} {h : Hp} (s : List UInt8) (c : UInt8) : CallA T base 90 [.str s, .str [c]] h = some (i64 (Lib.indexByte s c), h) := by
  rw [CallA_prim T_90]; rfl
theorem count_spec {base : Nat} {h : Hp} (s : List UInt8) (c : UInt8) : CallA T base 89 [.str s, .str [c]] h = some (i64 (s.count c), h) := by
  rw [CallA_prim T_89]; rfl
theorem eS_scalars (l : List (List UInt8)) : (l.map eS).all scalar = true := elS.scalars (fun _ => rfl) l
theorem set_at (p : List (List UInt8)) (k : Nat) (s : List UInt8) : (p.map eS ++ List.replicate (k + 1) (PV.str [])).set p.length (.str s) = (p ++ [s]).map eS ++ List.replicate k (PV.str []) := by
  rw [List.replicate_succ]
  have : (p.map eS).length = p.length := by simp
  rw [← this, List.set_append]
  simp [eS]
theorem split_loop {h : Hp} (c : UInt8) (n : Nat) (hn : n ≤ 1000001) : ∀ (k : Nat) (p : List (List UInt8)) (t : List UInt8), p.length + (k + 1) = n → t.count c = k → t.length ≤ 1000000 →
    P81_1 (size h) (size h) (i64 p.length) (.bsl true (size h) 0 n 1) (.str t) (.str [c]) (i64 0) (i64 ((n - 1 : Nat) : Int)) (ext h [.cells (p.map eS ++ List.replicate (k + 1) (PV.str []))]) = some (.sl .full 1 ((p ++ splitL c t).map eS), h)
  | 0, p, t, hp, hc, ht => by
    rw [P81_1_eq]
    have h1 : ((p.length : Int) < ((n - 1 : Nat) : Int)) = False := by simp; omega
    have hix := ix_nat .i64 p.length n (by omega)
    have hlt : (size h < size h) = False := by simp
    have hle : (p.length + 1 ≤ (p.map eS ++ List.replicate 1 (PV.str [])).length) = True := by simp
    have w1 : IntKind.i64.wrap ((p.length : Int) + 1) = (n : Int) := by rw [wrap_small] <;> omega
    have hset := set_at p 0 t
    have hsp : splitL c t = [t] := splitL_none (by rw [← List.count_eq_zero]; exact hc)
    have hbn := bdV_nat n .i64 n (Nat.le_refl _)
    have hz : (n = 0) = False := by simp; omega
    have hbe : (n == n) = true := by simp
    have hln : ((p ++ [t]).map eS).length = n := by simp; omega
    have htk : ((p ++ [t]).map eS).take n = (p ++ [t]).map eS := List.take_of_length_le (by rw [hln]; exact Nat.le_refl _)
    have hle2 : (n ≤ ((p ++ [t]).map eS).length) = True := by rw [hln]; simp
    have hsc := eS_scalars (p ++ [t])
    have hst := elS.strips (p ++ [t])
    have hbl := elS.belows (size h) (p ++ [t])
    have e0 : (p ++ [t]).map eS ++ List.replicate 0 (PV.str []) = (p ++ [t]).map eS := by simp
    rw [e0] at hset
    rw [hsp]
    generalize (p ++ [t]).map eS = Y at *
    have z1 : (0 + 1 : Nat) = 1 := rfl
    rw [z1] at *
    generalize hX : p.map eS ++ List.replicate 1 (PV.str []) = X at *
    simp only [h1, hix, hlt, hle, hset, w1, hbn, hz, hbe, htk, hle2, hsc, hst, hbl, Nat.mul_one, Nat.zero_add, Nat.sub_zero, Nat.zero_mul, ↓evD, evU, evL, Nat.reduceAdd, Nat.reduceSub, Nat.reduceMul, Nat.reduceLeDiff, Nat.reduceLT, Nat.reduceEqDiff, Nat.reduceBEq, reduceIte, reduceCtorEq, Int.reduceBEq, Int.reduceEq, Int.reduceLT, Int.reduceLE, Int.reduceGT, Int.reduceGE, Int.reduceAdd, Int.reduceSub, Int.reduceNeg, Int.reduceBNe, ite_true, ite_false, if_true, if_false, implies_true, forall_const]
  | k + 1, p, t, hp, hc, ht => by
    rw [P81_1_eq]
    have h1 : ((p.length : Int) < ((n - 1 : Nat) : Int)) = True := by simp; omega
    rcases index_split c t with ⟨q1, _⟩ | ⟨a, b, rfl, q2, q3⟩
    · rw [List.count_eq_zero.2 q1] at hc; omega
    · have hI : ∀ base h, _ := fun base h => index_spec (base := base) (h := h) (a ++ c :: b) c
      rw [q3] at hI
      have hlab : (a ++ c :: b).length = a.length + (b.length + 1) := by simp
      have h2 : ((a.length : Int) < 0) = False := by simp
      have w0 : IntKind.i64.wrap ((a.length : Int) + 0) = (a.length : Int) := by rw [wrap_small] <;> omega
      have hb1 := bdV_nat (a ++ c :: b).length .i64 a.length (by simp)
      have ht1 : (a ++ c :: b).take a.length = a := by simp
      have w2 : IntKind.i64.wrap ((a.length : Int) + 1) = ((a.length + 1 : Nat) : Int) := by rw [wrap_small] <;> omega
      have w2' : IntKind.i64.wrap ((a.length : Int) + ((1 : Nat) : Int)) = ((a.length + 1 : Nat) : Int) := by rw [wrap_small] <;> omega
      have hb2 := bdV_nat (a ++ c :: b).length .i64 (a.length + 1) (by simp)
      have ht2 : ((a ++ c :: b).drop (a.length + 1)).take ((a ++ c :: b).length - (a.length + 1)) = b := by
        rw [List.take_of_length_le (by rw [List.length_drop]; exact Nat.le_refl _), ← List.drop_drop, List.drop_left]; rfl
      have hix := ix_nat .i64 p.length n (by omega)
      have hlt : (size h < size h) = False := by simp
      have hle : (p.length + 1 ≤ (p.map eS ++ List.replicate (k + 1 + 1) (PV.str [])).length) = True := by simp
      have w1 : IntKind.i64.wrap ((p.length : Int) + 1) = (((p ++ [a]).length : Nat) : Int) := by rw [show (p ++ [a]).length = p.length + 1 by simp, wrap_small] <;> omega
      have hset := set_at p (k + 1) a
      have ih := split_loop (h := h) c n hn k (p ++ [a]) b (by simp; omega) (by
        rw [List.count_append, List.count_eq_zero.2 q2, List.count_cons_self] at hc; omega) (by simp at ht; omega)
      have e3 : p ++ splitL c (a ++ c :: b) = p ++ [a] ++ splitL c b := by rw [splitL_app b q2]; simp
      rw [e3]
      generalize hX : p.map eS ++ List.replicate (k + 1 + 1) (PV.str []) = X at *
      generalize hY : (p ++ [a]).map eS ++ List.replicate (k + 1) (PV.str []) = Y at *
      generalize hL : a ++ c :: b = L at *
      simp only [h1, hI, h2, w0, hb1, ht1, w2, w2', hb2, ht2, hix, hlt, hle, hset, w1, ih, List.drop_zero, Nat.sub_zero, Nat.mul_one, Nat.zero_add, ↓evD, evU, evL, Nat.reduceAdd, Nat.reduceSub, Nat.reduceMul, Nat.reduceLeDiff, Nat.reduceLT, Nat.reduceEqDiff, Nat.reduceBEq, reduceIte, reduceCtorEq, Int.reduceBEq, Int.reduceEq, Int.reduceLT, Int.reduceLE, Int.reduceGT, Int.reduceGE, Int.reduceAdd, Int.reduceSub, Int.reduceNeg, Int.reduceBNe, ite_true, ite_false, if_true, if_false, implies_true, forall_const]
theorem split_spec {base : Nat} {h : Hp} (s : List UInt8) (c : UInt8) (hs : s.length ≤ 1000000) : CallA T base 74 [.str s, .str [c]] h = some (.sl .full 1 ((splitL c s).map eS), h) := by
  have hc := List.count_le_length (a := c) (l := s)
  have h45 : ∀ base h, CallA T base 81 [.str s, .str [c], i64 0, i64 (-1)] h = some (.sl .full 1 ((splitL c s).map eS), h) := by
    intro base h
    rw [S81]
    have e1 : (([c] : List UInt8) == []) = false := rfl
    have hC : ∀ base h, _ := fun base h => count_spec (base := base) (h := h) s c
    have w1 : IntKind.i64.wrap (((s.count c : Nat) : Int) + 1) = ((s.count c + 1 : Nat) : Int) := by rw [wrap_small] <;> omega
    have w2 : IntKind.i64.wrap ((s.length : Int) + 1) = ((s.length + 1 : Nat) : Int) := by rw [wrap_small] <;> omega
    have hm : (if ((s.length + 1 : Nat) : Int) < ((s.count c + 1 : Nat) : Int) then ((s.length + 1 : Nat) : Int) else ((s.count c + 1 : Nat) : Int)) = ((s.count c + 1 : Nat) : Int) := if_neg (by omega)
    have hN := makeN_nat .i64 .i64 (s.count c + 1) (by unfold lim2; omega)
    have w3 : IntKind.i64.wrap (((s.count c + 1 : Nat) : Int) - 1) = ((s.count c + 1 - 1 : Nat) : Int) := by rw [wrap_small] <;> omega
    have hB := fun h => makeB_eq 9 [PV.str []] (s.count c + 1) h
    have hL := split_loop (h := h) c (s.count c + 1) (by omega) (s.count c) [] s (by simp) rfl hs
    generalize s.count c + 1 = n at *
    simp only [e1, hC, w1, P81_0_eq, w2, hm, makeV_eq, hN, hB, flat_one, w3, ↓evD, evU, evL, Nat.reduceAdd, Nat.reduceSub, Nat.reduceMul, Nat.reduceLeDiff, Nat.reduceLT, Nat.reduceEqDiff, Nat.reduceBEq, reduceIte, reduceCtorEq, Int.reduceBEq, Int.reduceEq, Int.reduceLT, Int.reduceLE, Int.reduceGT, Int.reduceGE, Int.reduceAdd, Int.reduceSub, Int.reduceNeg, Int.reduceBNe, ite_true, ite_false, if_true, if_false, implies_true, forall_const]
    exact hL
  rw [S74]
  simp only [h45, elS.belows, ↓evD, evU, evL, Nat.reduceAdd, Nat.reduceSub, Nat.reduceMul, Nat.reduceLeDiff, Nat.reduceLT, Nat.reduceEqDiff, Nat.reduceBEq, reduceIte, reduceCtorEq, Int.reduceBEq, Int.reduceEq, Int.reduceLT, Int.reduceLE, Int.reduceGT, Int.reduceGE, Int.reduceAdd, Int.reduceSub, Int.reduceNeg, Int.reduceBNe, ite_true, ite_false, if_true, if_false, implies_true, forall_const]
/-- Texts as numbers. -/
def numsO : List (List UInt8) → Option (List Int)
  | [] => some []
  | s :: l => match numN s 65535 with
    | none => none
    | some u => (numsO l).map ((u : Int) :: ·)
def numsV (z : PV) (l : List (List UInt8)) : PV := if 3 < l.length then .tup [.nils, i64 3] else match numsO l with
  | none => .tup [.nils, i64 20]
  | some p => .tup [gD z 1 (p.map eI), i64 0]
theorem numsO_len : ∀ {l : List (List UInt8)} {p : List Int}, numsO l = some p → p.length = l.length
  | [], p, h => by cases h; rfl
  | s :: l, p, h => by
    simp only [numsO] at h
    split at h
    · cases h
    · rw [Option.map_eq_some_iff] at h
      obtain ⟨q, hq, rfl⟩ := h
      simp [numsO_len hq]
theorem nums_loop {h : Hp} {b : PV} {l : List (List UInt8)} (hb : Rl eS 1 b l) (hl : l.length ≤ 3) (hs : ∀ s ∈ l, s.length ≤ 1000000) : ∀ (r q : List (List UInt8)) (out : List Int), l = q ++ r → out.length ≤ q.length →
    P73_0 (size h) (size h) (i64 q.length) (gV h .nils 1 (out.map eI)) b (i64 l.length) (gH h 3 (out.map eI)) =
      some (match numsO r with | none => .tup [.nils, i64 20] | some p => .tup [gD .nils 1 ((out ++ p).map eI), i64 0], h)
  | [], q, out, hp, hout => by
    rw [P73_0_eq]
    have e : q.length = l.length := by rw [hp]; simp
    have h1 : ((q.length : Int) < (l.length : Int)) = False := by simp; omega
    have gz := gZ_nils 1
    simp only [h1, numsO, frz_gV gz, below_gD gz _ _ (elI.belows _ _), trunc_gH, List.append_nil, ↓evD, evU, evL, Nat.reduceAdd, Nat.reduceSub, Nat.reduceMul, Nat.reduceLeDiff, Nat.reduceLT, Nat.reduceEqDiff, Nat.reduceBEq, reduceIte, reduceCtorEq, Int.reduceBEq, Int.reduceEq, Int.reduceLT, Int.reduceLE, Int.reduceGT, Int.reduceGE, Int.reduceAdd, Int.reduceSub, Int.reduceNeg, Int.reduceBNe, ite_true, ite_false, if_true, if_false, implies_true, forall_const]
  | s :: r, q, out, hp, hout => by
    rw [P73_0_eq]
    have el : l.length = q.length + (r.length + 1) := by rw [hp]; simp
    have h1 : ((q.length : Int) < (l.length : Int)) = True := by simp; omega
    have hx : l[q.length]? = some s := by rw [hp]; simp
    have hec : (eS s).cells = [.str s] := rfl
    have hsl := hs s (by rw [hp]; simp)
    have w1 : IntKind.i64.wrap ((q.length : Int) + 1) = (((q ++ [s]).length : Nat) : Int) := by rw [show (q ++ [s]).length = q.length + 1 by simp, wrap_small] <;> omega
    have hv : ∀ base h, _ := fun base h => number_spec (base := base) (h := h) (s := s) (by omega) (most := 65535) (by omega)
    have z5 : (((65535 : Nat)) : Int) = 65535 := rfl
    rw [z5] at hv
    cases hn : numN s 65535 with
    | none =>
      have hN := hv
      rw [hn] at hN
      simp only [h1, hb.idx hx, hec, hN, numsO, hn, trunc_gH, Option.isSome_none, ↓evD, evU, evL, Nat.reduceAdd, Nat.reduceSub, Nat.reduceMul, Nat.reduceLeDiff, Nat.reduceLT, Nat.reduceEqDiff, Nat.reduceBEq, reduceIte, reduceCtorEq, Int.reduceBEq, Int.reduceEq, Int.reduceLT, Int.reduceLE, Int.reduceGT, Int.reduceGE, Int.reduceAdd, Int.reduceSub, Int.reduceNeg, Int.reduceBNe, ite_true, ite_false, if_true, if_false, implies_true, forall_const]
    | some u =>
      have hN := hv
      rw [hn, atoV_of (by omega) hn] at hN
      have gz := gZ_nils 1
      have gg := gOneL (h := h) (T := 3) elI gz out (u : Int) (by unfold lim2; omega)
      have e1 : (eI (u : Int)) = i64 u := rfl
      rw [e1] at gg
      have ih := nums_loop (h := h) hb hl hs r (q ++ [s]) (out ++ [(u : Int)]) (by rw [hp]; simp) (by simp; omega)
      simp only [h1, hb.idx hx, hec, hN, numsO, hn, gg, w1, ih, Option.isSome_some, ↓evD, evU, evL, Nat.reduceAdd, Nat.reduceSub, Nat.reduceMul, Nat.reduceLeDiff, Nat.reduceLT, Nat.reduceEqDiff, Nat.reduceBEq, reduceIte, reduceCtorEq, Int.reduceBEq, Int.reduceEq, Int.reduceLT, Int.reduceLE, Int.reduceGT, Int.reduceGE, Int.reduceAdd, Int.reduceSub, Int.reduceNeg, Int.reduceBNe, ite_true, ite_false, if_true, if_false, implies_true, forall_const]
      cases numsO r with
      | none => rfl
      | some p => simp
end Go.Am.YtdnbedldmkagmaaGreatDoor
namespace Go.Am.YtdnbedldmkagmaaGreatDoor
set_option maxRecDepth 100000
theorem alive_run : call T 400 0 6 [] [] = some (.bool true, []) := by kernel_rfl
theorem alive_spec : CallA T (size []) 6 [] [] = some (.bool true, []) := CallA_iff.2 ⟨400, alive_run⟩
end Go.Am.YtdnbedldmkagmaaGreatDoor
namespace Go.Am.YtdnbedldmkagmaaGreatDoor
set_option maxRecDepth 100000
set_option linter.unusedSimpArgs false
set_option linter.unusedVariables false
theorem nums_spec {base : Nat} {h : Hp} {b : PV} {l : List (List UInt8)} (hb : Rl eS 1 b l) (hs : ∀ s ∈ l, s.length ≤ 1000000) : CallA T base 73 [b] h = some (numsV .nils l, h) := by
  rw [S73]
  unfold numsV
  by_cases h3 : 3 < l.length
  · have h1 : ((l.length : Int) > 3) = True := by simp; omega
    simp only [hb.len, h1, h3, ↓evD, evU, evL, Nat.reduceAdd, Nat.reduceSub, Nat.reduceMul, Nat.reduceLeDiff, Nat.reduceLT, Nat.reduceEqDiff, Nat.reduceBEq, reduceIte, reduceCtorEq, Int.reduceBEq, Int.reduceEq, Int.reduceLT, Int.reduceLE, Int.reduceGT, Int.reduceGE, Int.reduceAdd, Int.reduceSub, Int.reduceNeg, Int.reduceBNe, ite_true, ite_false, if_true, if_false, implies_true, forall_const]
  · have h1 : ((l.length : Int) > 3) = False := by simp; omega
    have := nums_loop (h := h) hb (by omega) hs l [] [] rfl (by simp)
    rw [List.map_nil, gV_nil, gH_nil] at this
    simp only [hb.len, h1, h3, ↓evD, evU, evL, Nat.reduceAdd, Nat.reduceSub, Nat.reduceMul, Nat.reduceLeDiff, Nat.reduceLT, Nat.reduceEqDiff, Nat.reduceBEq, reduceIte, reduceCtorEq, Int.reduceBEq, Int.reduceEq, Int.reduceLT, Int.reduceLE, Int.reduceGT, Int.reduceGE, Int.reduceAdd, Int.reduceSub, Int.reduceNeg, Int.reduceBNe, ite_true, ite_false, if_true, if_false, implies_true, forall_const]
    refine Eq.trans this ?_
    cases numsO l <;> rfl
abbrev zF : PV := .sl .full 1 []
theorem numsR_loop {h : Hp} {b : PV} {l : List (List UInt8)} (hb : Rl eS 1 b l) (hl : l.length ≤ 3) (hs : ∀ s ∈ l, s.length ≤ 1000000) : ∀ (r q : List (List UInt8)) (out : List Int), l = q ++ r → out.length ≤ q.length →
    P53_0 (size h) (size h) (i64 q.length) (gV h zF 1 (out.map eI)) b (gH h 3 (out.map eI)) =
      some (match numsO r with | none => .tup [.nils, i64 20] | some p => .tup [gD zF 1 ((out ++ p).map eI), i64 0], h)
  | [], q, out, hp, hout => by
    rw [P53_0_eq]
    have e : q.length = l.length := by rw [hp]; simp
    have h1 : ((q.length : Int) < (l.length : Int)) = False := by simp; omega
    have gz := gZ_full 1
    simp only [hb.len, h1, numsO, frz_gV gz, below_gD gz _ _ (elI.belows _ _), trunc_gH, List.append_nil, ↓evD, evU, evL, Nat.reduceAdd, Nat.reduceSub, Nat.reduceMul, Nat.reduceLeDiff, Nat.reduceLT, Nat.reduceEqDiff, Nat.reduceBEq, reduceIte, reduceCtorEq, Int.reduceBEq, Int.reduceEq, Int.reduceLT, Int.reduceLE, Int.reduceGT, Int.reduceGE, Int.reduceAdd, Int.reduceSub, Int.reduceNeg, Int.reduceBNe, ite_true, ite_false, if_true, if_false, implies_true, forall_const]
  | s :: r, q, out, hp, hout => by
    rw [P53_0_eq]
    have el : l.length = q.length + (r.length + 1) := by rw [hp]; simp
    have h1 : ((q.length : Int) < (l.length : Int)) = True := by simp; omega
    have hx : l[q.length]? = some s := by rw [hp]; simp
    have hec : (eS s).cells = [.str s] := rfl
    have w1 : IntKind.i64.wrap ((q.length : Int) + 1) = (((q ++ [s]).length : Nat) : Int) := by rw [show (q ++ [s]).length = q.length + 1 by simp, wrap_small] <;> omega
    have hv : ∀ base h, _ := fun base h => numberR_spec (base := base) (h := h) s 65535
    have z5 : (((65535 : Nat)) : Int) = 65535 := rfl
    rw [z5] at hv
    unfold numV at hv
    cases hn : numN s 65535 with
    | none =>
      have hN := hv
      rw [hn] at hN
      simp only at hN
      simp only [hb.len, h1, hb.idx hx, hec, hN, numsO, hn, trunc_gH, Option.isSome_none, ↓evD, evU, evL, Nat.reduceAdd, Nat.reduceSub, Nat.reduceMul, Nat.reduceLeDiff, Nat.reduceLT, Nat.reduceEqDiff, Nat.reduceBEq, reduceIte, reduceCtorEq, Int.reduceBEq, Int.reduceEq, Int.reduceLT, Int.reduceLE, Int.reduceGT, Int.reduceGE, Int.reduceAdd, Int.reduceSub, Int.reduceNeg, Int.reduceBNe, ite_true, ite_false, if_true, if_false, implies_true, forall_const]
    | some u =>
      have hN := hv
      rw [hn] at hN
      simp only at hN
      have gz := gZ_full 1
      have gg := gOneL (h := h) (T := 3) elI gz out (u : Int) (by unfold lim2; omega)
      have e1 : (eI (u : Int)) = i64 u := rfl
      rw [e1] at gg
      have ih := numsR_loop (h := h) hb hl hs r (q ++ [s]) (out ++ [(u : Int)]) (by rw [hp]; simp) (by simp; omega)
      simp only [hb.len, h1, hb.idx hx, hec, hN, numsO, hn, gg, w1, ih, Option.isSome_some, ↓evD, evU, evL, Nat.reduceAdd, Nat.reduceSub, Nat.reduceMul, Nat.reduceLeDiff, Nat.reduceLT, Nat.reduceEqDiff, Nat.reduceBEq, reduceIte, reduceCtorEq, Int.reduceBEq, Int.reduceEq, Int.reduceLT, Int.reduceLE, Int.reduceGT, Int.reduceGE, Int.reduceAdd, Int.reduceSub, Int.reduceNeg, Int.reduceBNe, ite_true, ite_false, if_true, if_false, implies_true, forall_const]
      cases numsO r with
      | none => rfl
      | some p => simp
theorem numsR_spec {base : Nat} {h : Hp} {b : PV} {l : List (List UInt8)} (hb : Rl eS 1 b l) (hs : ∀ s ∈ l, s.length ≤ 1000000) : CallA T base 53 [b] h = some (numsV zF l, h) := by
  rw [S53]
  unfold numsV
  by_cases h3 : 3 < l.length
  · have h1 : ((l.length : Int) > 3) = True := by simp; omega
    simp only [hb.len, h1, h3, ↓evD, evU, evL, Nat.reduceAdd, Nat.reduceSub, Nat.reduceMul, Nat.reduceLeDiff, Nat.reduceLT, Nat.reduceEqDiff, Nat.reduceBEq, reduceIte, reduceCtorEq, Int.reduceBEq, Int.reduceEq, Int.reduceLT, Int.reduceLE, Int.reduceGT, Int.reduceGE, Int.reduceAdd, Int.reduceSub, Int.reduceNeg, Int.reduceBNe, ite_true, ite_false, if_true, if_false, implies_true, forall_const]
  · have h1 : ((l.length : Int) > 3) = False := by simp; omega
    have := numsR_loop (h := h) hb (by omega) hs l [] [] rfl (by simp)
    rw [List.map_nil, gV_nil, gH_nil] at this
    simp only [hb.len, h1, h3, ↓evD, evU, evL, Nat.reduceAdd, Nat.reduceSub, Nat.reduceMul, Nat.reduceLeDiff, Nat.reduceLT, Nat.reduceEqDiff, Nat.reduceBEq, reduceIte, reduceCtorEq, Int.reduceBEq, Int.reduceEq, Int.reduceLT, Int.reduceLE, Int.reduceGT, Int.reduceGE, Int.reduceAdd, Int.reduceSub, Int.reduceNeg, Int.reduceBNe, ite_true, ite_false, if_true, if_false, implies_true, forall_const]
    refine Eq.trans this ?_
    cases numsO l <;> rfl
def outV (z : PV) : Option (List Int) → PV
  | none => .tup [.nils, i64 20]
  | some p => .tup [gD z 1 (p.map eI), i64 0]
def few (l : List (List UInt8)) : Option (List Int) := if 3 < l.length then none else numsO l
def readO (s : List UInt8) : Option (List Int) := if s.take 1 ≠ [47] then none else if s.drop 1 = [] then some [] else few (splitL 47 (s.drop 1))
theorem split_small {c : UInt8} {n : Nat} : ∀ (s : List UInt8), s.length ≤ n → ∀ x ∈ splitL c s, x.length ≤ n
  | [], _, x, hx => by simp [splitL] at hx; subst hx; simp
  | y :: r, hs, x, hx => by
    simp at hs
    have ih := split_small (c := c) (n := n) r (by omega)
    rw [splitL] at hx
    split at hx
    · rcases List.mem_cons.1 hx with rfl | hx
      · simp
      · exact ih x hx
    · have hlen : ∀ z ∈ splitL c r, z.length ≤ r.length := fun z hz => split_small (n := r.length) r (Nat.le_refl _) z hz
      split at hx
      · rename_i z zs hq
        rw [hq] at hlen ih
        rcases List.mem_cons.1 hx with rfl | hx
        · have := hlen z (by simp)
          simp; omega
        · exact ih x (by simp [hx])
      · simp at hx; subst hx; simp; omega
theorem read_spec {base : Nat} {h : Hp} (s : List UInt8) (hs : s.length ≤ 100000) : CallA T base 65 [.str s] h = some (outV .nils (readO s), h) := by
  rw [S65]
  have hC : ∀ base h, _ := fun base h => cutPrefix_spec (base := base) (h := h) s [47] (by omega) (by simp)
  have e1 : ([47] : List UInt8).length = 1 := rfl
  rw [e1] at hC
  unfold readO
  cases hq : (s.take 1 == [47])
  · rw [hq] at hC
    have hne : s.take 1 ≠ [47] := by simpa using hq
    rw [if_pos hne]
    simp only [hC, outV, ↓evD, evU, evL, Nat.reduceAdd, Nat.reduceSub, Nat.reduceMul, Nat.reduceLeDiff, Nat.reduceLT, Nat.reduceEqDiff, Nat.reduceBEq, reduceIte, reduceCtorEq, Int.reduceBEq, Int.reduceEq, Int.reduceLT, Int.reduceLE, Int.reduceGT, Int.reduceGE, Int.reduceAdd, Int.reduceSub, Int.reduceNeg, Int.reduceBNe, ite_true, ite_false, if_true, if_false, implies_true, forall_const]
  · rw [hq] at hC
    have he : s.take 1 = [47] := by simpa using hq
    have hne : ¬ (s.take 1 ≠ [47]) := fun h => h he
    rw [if_neg hne]
    have hdl : (s.drop 1).length ≤ s.length := by simp
    generalize s.drop 1 = d at *
    by_cases hd : d = []
    · have hd' : (d == []) = true := by simp [hd]
      rw [if_pos hd]
      simp only [hC, hd', outV, ↓evD, evU, evL, Nat.reduceAdd, Nat.reduceSub, Nat.reduceMul, Nat.reduceLeDiff, Nat.reduceLT, Nat.reduceEqDiff, Nat.reduceBEq, reduceIte, reduceCtorEq, Int.reduceBEq, Int.reduceEq, Int.reduceLT, Int.reduceLE, Int.reduceGT, Int.reduceGE, Int.reduceAdd, Int.reduceSub, Int.reduceNeg, Int.reduceBNe, ite_true, ite_false, if_true, if_false, implies_true, forall_const]
      rfl
    · have hd' : (d == []) = false := by simp [hd]
      rw [if_neg hd]
      have hS : ∀ base h, _ := fun base h => split_spec (base := base) (h := h) d 47 (by omega)
      have hN : ∀ base h, _ := fun base h => nums_spec (base := base) (h := h) (rl_sl (e := eS) (sz := 1) .full (splitL 47 d)) (split_small (n := 1000000) d (by omega))
      unfold numsV at hN
      unfold few
      generalize splitL 47 d = X at *
      by_cases h3 : 3 < X.length
      · simp only [h3, if_true] at hN
        simp only [hC, hd', hS, hN, h3, outV, ↓evD, evU, evL, Nat.reduceAdd, Nat.reduceSub, Nat.reduceMul, Nat.reduceLeDiff, Nat.reduceLT, Nat.reduceEqDiff, Nat.reduceBEq, reduceIte, reduceCtorEq, Int.reduceBEq, Int.reduceEq, Int.reduceLT, Int.reduceLE, Int.reduceGT, Int.reduceGE, Int.reduceAdd, Int.reduceSub, Int.reduceNeg, Int.reduceBNe, ite_true, ite_false, if_true, if_false, implies_true, forall_const]
      · simp only [h3, if_false] at hN
        cases hO : numsO X with
        | none =>
          rw [hO] at hN
          simp only at hN
          simp only [hC, hd', hS, hN, h3, hO, outV, ↓evD, evU, evL, Nat.reduceAdd, Nat.reduceSub, Nat.reduceMul, Nat.reduceLeDiff, Nat.reduceLT, Nat.reduceEqDiff, Nat.reduceBEq, reduceIte, reduceCtorEq, Int.reduceBEq, Int.reduceEq, Int.reduceLT, Int.reduceLE, Int.reduceGT, Int.reduceGE, Int.reduceAdd, Int.reduceSub, Int.reduceNeg, Int.reduceBNe, ite_true, ite_false, if_true, if_false, implies_true, forall_const]
        | some p =>
          rw [hO] at hN
          simp only at hN
          have gz := gZ_nils 1
          have hL := Lv.done (e := eI) gz p
          simp only [hC, hd', hS, hN, h3, hO, outV, hL.frz, hL.below elI, ↓evD, evU, evL, Nat.reduceAdd, Nat.reduceSub, Nat.reduceMul, Nat.reduceLeDiff, Nat.reduceLT, Nat.reduceEqDiff, Nat.reduceBEq, reduceIte, reduceCtorEq, Int.reduceBEq, Int.reduceEq, Int.reduceLT, Int.reduceLE, Int.reduceGT, Int.reduceGE, Int.reduceAdd, Int.reduceSub, Int.reduceNeg, Int.reduceBNe, ite_true, ite_false, if_true, if_false, implies_true, forall_const]
theorem readR_end {h : Hp} (s : List UInt8) (done : List (List UInt8)) (hd : ∀ x ∈ done, x.length ≤ 1000000) (hs : s.length ≤ 100000) (v : PV) :
    P28_0 (size h) (size h) (i64 ((s.length + 1 : Nat) : Int)) v (.str s) (gV h zF 1 (done.map eS)) (gH h 9 (done.map eS)) = some (outV zF (few done), h) := by
  rw [P28_0_eq]
  have h1 : (((s.length + 1 : Nat) : Int) ≤ (s.length : Int)) = False := by simp; omega
  have hN : ∀ base h', _ := fun base h' => numsR_spec (base := base) (h := h') (gV_rl (e := eS) (gZ_full 1) h done) hd
  unfold numsV at hN
  unfold few
  by_cases h3 : 3 < done.length
  · simp only [h3, if_true] at hN
    simp only [h1, hN, h3, outV, trunc_gH, ↓evD, evU, evL, Nat.reduceAdd, Nat.reduceSub, Nat.reduceMul, Nat.reduceLeDiff, Nat.reduceLT, Nat.reduceEqDiff, Nat.reduceBEq, reduceIte, reduceCtorEq, Int.reduceBEq, Int.reduceEq, Int.reduceLT, Int.reduceLE, Int.reduceGT, Int.reduceGE, Int.reduceAdd, Int.reduceSub, Int.reduceNeg, Int.reduceBNe, ite_true, ite_false, if_true, if_false, implies_true, forall_const]
  · simp only [h3, if_false] at hN
    cases hO : numsO done with
    | none =>
      rw [hO] at hN
      simp only at hN
      simp only [h1, hN, h3, hO, outV, trunc_gH, ↓evD, evU, evL, Nat.reduceAdd, Nat.reduceSub, Nat.reduceMul, Nat.reduceLeDiff, Nat.reduceLT, Nat.reduceEqDiff, Nat.reduceBEq, reduceIte, reduceCtorEq, Int.reduceBEq, Int.reduceEq, Int.reduceLT, Int.reduceLE, Int.reduceGT, Int.reduceGE, Int.reduceAdd, Int.reduceSub, Int.reduceNeg, Int.reduceBNe, ite_true, ite_false, if_true, if_false, implies_true, forall_const]
    | some p =>
      rw [hO] at hN
      simp only at hN
      have gz := gZ_full 1
      have hL := Lv.done (e := eI) gz p
      simp only [h1, hN, h3, hO, outV, hL.frz, hL.below elI, trunc_gH, ↓evD, evU, evL, Nat.reduceAdd, Nat.reduceSub, Nat.reduceMul, Nat.reduceLeDiff, Nat.reduceLT, Nat.reduceEqDiff, Nat.reduceBEq, reduceIte, reduceCtorEq, Int.reduceBEq, Int.reduceEq, Int.reduceLT, Int.reduceLE, Int.reduceGT, Int.reduceGE, Int.reduceAdd, Int.reduceSub, Int.reduceNeg, Int.reduceBNe, ite_true, ite_false, if_true, if_false, implies_true, forall_const]
theorem readR_loop {h : Hp} (s : List UInt8) (hs : s.length ≤ 100000) : ∀ (r pre cur : List UInt8) (done : List (List UInt8)), s = pre ++ cur ++ r → 47 ∉ cur → (∀ x ∈ done, x.length ≤ 1000000) → done.length ≤ pre.length + cur.length →
    P28_0 (size h) (size h) (i64 ((pre ++ cur).length : Nat)) (i64 pre.length) (.str s) (gV h zF 1 (done.map eS)) (gH h 9 (done.map eS)) = some (outV zF (few (done ++ splitL 47 (cur ++ r))), h)
  | [], pre, cur, done, hp, hc, hd, hdl => by
    rw [P28_0_eq]
    have el : (pre ++ cur).length = s.length := by rw [hp]; simp
    have elp : (pre ++ cur).length = pre.length + cur.length := by simp
    rw [el]
    have h1 : ((s.length : Int) ≤ (s.length : Int)) = True := by simp
    have h2 : ((s.length : Int) == (s.length : Int)) = true := by simp
    have hb1 := bdV_nat s.length .i64 s.length (Nat.le_refl _)
    have hb2 := bdV_nat s.length .i64 pre.length (by omega)
    have ht : (s.drop pre.length).take (s.length - pre.length) = cur := by
      rw [List.take_of_length_le (by simp), hp]; simp
    have w1 : IntKind.i64.wrap ((s.length : Int) + 1) = ((s.length + 1 : Nat) : Int) := by rw [wrap_small] <;> omega
    have gg := gOneL (h := h) (T := 9) elS (gZ_full 1) done cur (by unfold lim2; omega)
    have e1 : eS cur = .str cur := rfl
    rw [e1] at gg
    have ih := readR_end (h := h) s (done ++ [cur]) (by
      intro x hx
      rcases List.mem_append.1 hx with hx | hx
      · exact hd x hx
      · simp at hx; subst hx; omega) hs (i64 ((s.length + 1 : Nat) : Int))
    have e3 : splitL 47 (cur ++ []) = [cur] := by rw [List.append_nil]; exact splitL_none hc
    rw [e3]
    simp only [h1, h2, hb1, hb2, ht, w1, gg, ih, ↓evD, evU, evL, Nat.reduceAdd, Nat.reduceSub, Nat.reduceMul, Nat.reduceLeDiff, Nat.reduceLT, Nat.reduceEqDiff, Nat.reduceBEq, reduceIte, reduceCtorEq, Int.reduceBEq, Int.reduceEq, Int.reduceLT, Int.reduceLE, Int.reduceGT, Int.reduceGE, Int.reduceAdd, Int.reduceSub, Int.reduceNeg, Int.reduceBNe, ite_true, ite_false, if_true, if_false, implies_true, forall_const]
  | x :: r, pre, cur, done, hp, hc, hd, hdl => by
    rw [P28_0_eq]
    have elp : (pre ++ cur).length = pre.length + cur.length := by simp
    have el : s.length = (pre ++ cur).length + (r.length + 1) := by rw [hp]; simp; omega
    have hx : s[(pre ++ cur).length]? = some x := by rw [hp]; simp
    have hh1 : (pre ++ cur).length < s.length := by omega
    have ht : (s.drop pre.length).take ((pre ++ cur).length - pre.length) = cur := by
      rw [elp, hp, Nat.add_sub_cancel_left]; simp
    have e48 := u8_beq x 47
    have z48 : (((47 : UInt8).toNat : Nat) : Int) = 47 := rfl
    rw [z48] at e48
    have hb1 := bdV_nat s.length .i64 (pre ++ cur).length (by omega)
    have hb2 := bdV_nat (pre ++ cur).length .i64 pre.length (by omega)
    have hix := ix_nat .i64 (pre ++ cur).length s.length hh1
    have h1 : (((pre ++ cur).length : Int) ≤ (s.length : Int)) = True := by simp only [eq_iff_iff, iff_true]; omega
    have h2 : (((pre ++ cur).length : Int) == (s.length : Int)) = false := by rw [beq_eq_false_iff_ne]; omega
    cases hq : (x == 47)
    · rw [hq] at e48
      have hne : ¬ x = 47 := by simpa using hq
      have w1 : IntKind.i64.wrap (((pre ++ cur).length : Int) + 1) = (((pre ++ (cur ++ [x])).length : Nat) : Int) := by rw [show (pre ++ (cur ++ [x])).length = (pre ++ cur).length + 1 by simp; omega, wrap_small] <;> omega
      have ih := readR_loop (h := h) s hs r pre (cur ++ [x]) done (by rw [hp]; simp) (by simp [hc]; exact fun h => hne h.symm) hd (by simp; omega)
      have e3 : cur ++ [x] ++ r = cur ++ x :: r := by simp
      rw [e3] at ih
      generalize (pre ++ (cur ++ [x])).length = N at *
      generalize (pre ++ cur).length = M at *
      simp only [h1, h2, hix, hx, e48, w1, ih, ↓evD, evU, evL, Nat.reduceAdd, Nat.reduceSub, Nat.reduceMul, Nat.reduceLeDiff, Nat.reduceLT, Nat.reduceEqDiff, Nat.reduceBEq, reduceIte, reduceCtorEq, Int.reduceBEq, Int.reduceEq, Int.reduceLT, Int.reduceLE, Int.reduceGT, Int.reduceGE, Int.reduceAdd, Int.reduceSub, Int.reduceNeg, Int.reduceBNe, ite_true, ite_false, if_true, if_false, implies_true, forall_const]
    · rw [hq] at e48
      have hxe : x = 47 := by simpa using hq
      subst hxe
      have w1 : IntKind.i64.wrap (((pre ++ cur).length : Int) + 1) = (((pre ++ cur ++ [47]).length : Nat) : Int) := by rw [show (pre ++ cur ++ [(47 : UInt8)]).length = (pre ++ cur).length + 1 by simp; omega, wrap_small] <;> omega
      have gg := gOneL (h := h) (T := 9) elS (gZ_full 1) done cur (by unfold lim2; omega)
      have e1 : eS cur = .str cur := rfl
      rw [e1] at gg
      have ih := readR_loop (h := h) s hs r (pre ++ cur ++ [47]) [] (done ++ [cur]) (by rw [hp]; simp) (by simp) (by
        intro x hx
        rcases List.mem_append.1 hx with hx | hx
        · exact hd x hx
        · simp at hx; subst hx; omega) (by simp; omega)
      have e4 : done ++ [cur] ++ splitL 47 ([] ++ r) = done ++ splitL 47 (cur ++ 47 :: r) := by rw [splitL_app r hc]; simp
      rw [List.append_nil, e4] at ih
      generalize (pre ++ cur ++ [(47 : UInt8)]).length = N at *
      generalize (pre ++ cur).length = M at *
      simp only [h1, h2, hix, hx, e48, hb1, hb2, ht, gg, w1, ih, ↓evD, evU, evL, Nat.reduceAdd, Nat.reduceSub, Nat.reduceMul, Nat.reduceLeDiff, Nat.reduceLT, Nat.reduceEqDiff, Nat.reduceBEq, reduceIte, reduceCtorEq, Int.reduceBEq, Int.reduceEq, Int.reduceLT, Int.reduceLE, Int.reduceGT, Int.reduceGE, Int.reduceAdd, Int.reduceSub, Int.reduceNeg, Int.reduceBNe, ite_true, ite_false, if_true, if_false, implies_true, forall_const]
theorem readR_spec {base : Nat} {h : Hp} (s : List UInt8) (hs : s.length ≤ 100000) : CallA T base 28 [.str s] h = some (outV zF (readO s), h) := by
  rw [S28]
  unfold readO
  cases s with
  | nil =>
    have z1 : (([] : List UInt8) == [47]) = false := rfl
    have z2 : (([] : List UInt8) == []) = true := rfl
    have z3 : ([] : List UInt8).take 1 ≠ [47] := by simp
    rw [if_pos z3]
    simp only [z1, z2, outV, ↓evD, evU, evL, Nat.reduceAdd, Nat.reduceSub, Nat.reduceMul, Nat.reduceLeDiff, Nat.reduceLT, Nat.reduceEqDiff, Nat.reduceBEq, reduceIte, reduceCtorEq, Int.reduceBEq, Int.reduceEq, Int.reduceLT, Int.reduceLE, Int.reduceGT, Int.reduceGE, Int.reduceAdd, Int.reduceSub, Int.reduceNeg, Int.reduceBNe, ite_true, ite_false, if_true, if_false, implies_true, forall_const]
  | cons c r =>
    have ht : (c :: r).take 1 = [c] := rfl
    have hd : (c :: r).drop 1 = r := rfl
    rw [ht, hd]
    have e48 := u8_bne c 47
    have z48 : (((47 : UInt8).toNat : Nat) : Int) = 47 := rfl
    rw [z48] at e48
    have hix : ix (.int .i64 0) (r.length + 1) = some 0 := by simp [ix]
    have z2 : (c :: r == []) = false := rfl
    by_cases hc : c = 47
    · subst hc
      have hne : ¬ (([47] : List UInt8) ≠ [47]) := fun h => h rfl
      rw [if_neg hne]
      have e49 : ((47 : UInt8) != 47) = false := rfl
      rw [e49] at e48
      cases r with
      | nil =>
        have z1 : ([47] == ([47] : List UInt8)) = true := rfl
        simp only [z1, outV, ↓evD, evU, evL, Nat.reduceAdd, Nat.reduceSub, Nat.reduceMul, Nat.reduceLeDiff, Nat.reduceLT, Nat.reduceEqDiff, Nat.reduceBEq, reduceIte, reduceCtorEq, Int.reduceBEq, Int.reduceEq, Int.reduceLT, Int.reduceLE, Int.reduceGT, Int.reduceGE, Int.reduceAdd, Int.reduceSub, Int.reduceNeg, Int.reduceBNe, ite_true, ite_false, if_true, if_false, implies_true, forall_const]
        rfl
      | cons d r =>
        have z1 : (47 :: d :: r == ([47] : List UInt8)) = false := by simp
        have hl := readR_loop (h := h) (47 :: d :: r) hs (d :: r) [47] [] [] rfl (by simp) (by simp) (by simp)
        have hg : ¬ (d :: r = []) := by simp
        rw [if_neg hg]
        generalize hD : d :: r = D at *
        simp only [z1, z2, e48, hix, List.length_cons, List.getElem?_cons_zero, ↓evD, evU, evL, Nat.reduceAdd, Nat.reduceSub, Nat.reduceMul, Nat.reduceLeDiff, Nat.reduceLT, Nat.reduceEqDiff, Nat.reduceBEq, reduceIte, reduceCtorEq, Int.reduceBEq, Int.reduceEq, Int.reduceLT, Int.reduceLE, Int.reduceGT, Int.reduceGE, Int.reduceAdd, Int.reduceSub, Int.reduceNeg, Int.reduceBNe, ite_true, ite_false, if_true, if_false, implies_true, forall_const]
        exact hl
    · have hne : ([c] : List UInt8) ≠ [47] := by simpa using hc
      have z1 : (c :: r == ([47] : List UInt8)) = false := by simp [hc]
      have e49 : (c != 47) = true := by simpa using hc
      rw [e49] at e48
      rw [if_pos hne]
      simp only [z1, z2, e48, hix, List.length_cons, List.getElem?_cons_zero, outV, ↓evD, evU, evL, Nat.reduceAdd, Nat.reduceSub, Nat.reduceMul, Nat.reduceLeDiff, Nat.reduceLT, Nat.reduceEqDiff, Nat.reduceBEq, reduceIte, reduceCtorEq, Int.reduceBEq, Int.reduceEq, Int.reduceLT, Int.reduceLE, Int.reduceGT, Int.reduceGE, Int.reduceAdd, Int.reduceSub, Int.reduceNeg, Int.reduceBNe, ite_true, ite_false, if_true, if_false, implies_true, forall_const]
theorem beqs (n : Int) : (n == n) = true := by simp
theorem beqS (s : List UInt8) : (s == s) = true := by simp
theorem beqB (b : Bool) : (b == b) = true := by simp
end Go.Am.YtdnbedldmkagmaaGreatDoor
namespace Go.Am
set_option linter.unusedVariables false
set_option linter.unusedSimpArgs false
structure GS (h : Hp) (T sz : Nat) (z v : PV) (es : List PV) (H : Hp) : Prop where
  tr : trunc H (size h) = h
  le : size h ≤ size H
  va : (es = [] ∧ v = z) ∨ (es ≠ [] ∧ ∃ t, v = .sl (.tok t) sz es ∧ size h ≤ t ∧ t < size H ∧ getTok H t = some (es.length, T))
section
variable {h H : Hp} {T sz : Nat} {z v : PV} {es : List PV}
theorem GS.zero (h : Hp) (T sz : Nat) (z : PV) : GS h T sz z z [] h := ⟨by simp [trunc, size], Nat.le_refl _, .inl ⟨rfl, rfl⟩⟩
theorem box_ext (H l : Hp) {t : Nat} (ht : t < size H) : box? (ext H l) t = box? H t := by
  simp only [box?, ext, size] at *
  rw [List.getElem?_append_left ht]
theorem GS.ext (g : GS h T sz z v es H) (l : List Box) : GS h T sz z v es (ext H l) := by
  refine ⟨by rw [trunc_ext_ge l g.le]; exact g.tr, by have := g.le; simp only [size, Go.Am.ext, List.length_append] at *; omega, ?_⟩
  rcases g.va with a | ⟨a, t, b, c, d, e⟩
  · exact .inl a
  · refine .inr ⟨a, t, b, c, by simp only [size, Go.Am.ext, List.length_append] at *; omega, ?_⟩
    unfold getTok at *
    rw [box_ext H l d]; exact e
theorem GS.set (g : GS h T sz z v es H) {b : Nat} {cs cs' : List PV} (hb : getBox H b = some cs) (hn : size h ≤ b) : GS h T sz z v es (setBox H b cs') := by
  refine ⟨by have := g.tr; simp only [trunc, setBox, setBx] at *; rw [List.take_set_of_le hn]; exact this, by have := g.le; simp only [size, setBox, setBx, List.length_set] at *; exact this, ?_⟩
  rcases g.va with a | ⟨a, t, q, c, d, e⟩
  · exact .inl a
  · refine .inr ⟨a, t, q, c, by simpa only [size, setBox, setBx, List.length_set] using d, ?_⟩
    have hne : b ≠ t := by
      rintro rfl
      unfold getTok at e
      unfold getBox at hb
      cases hq : box? H b with
      | none => rw [hq] at hb; cases hb
      | some x =>
        rw [hq] at hb e
        cases x <;> simp [Option.bnd, cellsOf, tokOf] at hb e
    unfold getTok at *
    simp only [box?, setBox, setBx] at *
    rw [List.getElem?_set_ne hne]; exact e
theorem GS.grow (g : GS h T sz z v es H) (hz : gZ sz z) {x : PV} (hf : fits sz x = true) (hs : strip x = x) (hl : es.length + 1 ≤ lim2) :
    ∃ v' H', growT H T sz v [x] = some (v', H') ∧ GS h T sz z v' (es ++ [x]) H' := by
  have hff : [x].all (fits sz) = true := by simp [hf]
  have hss : strips [x] = [x] := by rw [strips, hs]; rfl
  rcases g.va with ⟨rfl, rfl⟩ | ⟨hne, t, rfl, c, d, e⟩
  · refine ⟨.sl (.tok (size H)) sz [x], Go.Am.ext H [.tok 1 T], ?_, ?_⟩
    · unfold growT
      rw [if_pos hff]
      simp only [List.length_nil] at hl
      rcases hz with rfl | rfl
      · simp only
        rw [if_pos (by simpa using hl), hss]; rfl
      · simp only
        rw [if_pos (by simpa using hl), hss]; rfl
    · refine ⟨by rw [trunc_ext_ge _ g.le]; exact g.tr, by have := g.le; simp only [size, Go.Am.ext, List.length_append] at *; omega, .inr ⟨by simp, size H, rfl, g.le, by simp [size, Go.Am.ext], ?_⟩⟩
      simp [getTok, box?, size, Go.Am.ext, Option.bnd, tokOf]
  · refine ⟨.sl (.tok t) sz (es ++ [x]), setBx H t (.tok (es.length + 1) T), ?_, ?_⟩
    · unfold growT
      rw [if_pos hff]
      simp only [e, Option.bnd]
      rw [if_pos (by simpa using hl), hss]; rfl
    · refine ⟨by have := g.tr; simp only [trunc, setBx] at *; rw [List.take_set_of_le c]; exact this, by have := g.le; simp only [size, setBx, List.length_set] at *; exact this, .inr ⟨by simp, t, rfl, c, by simpa only [size, setBx, List.length_set] using d, ?_⟩⟩
      have hd : t < H.length := d
      simp [getTok, box?, setBx, List.getElem?_set_self hd, Option.bnd, tokOf]
theorem GS.frz (g : GS h T sz z v es H) (hz : gZ sz z) (n : Nat) (k : Hp) : frz n k v = some (gD z sz es) := by
  rcases g.va with ⟨rfl, rfl⟩ | ⟨hne, t, rfl, _⟩
  · rcases hz with rfl | rfl <;> rfl
  · cases es with
    | nil => exact (hne rfl).elim
    | cons x xs => rfl
end
theorem GS.rl {α : Type} {e : α → PV} {h H : Hp} {T sz : Nat} {z v : PV} {l : List α} (g : GS h T sz z v (l.map e) H) (hz : gZ sz z) : Rl e sz v l := by
  rcases g.va with ⟨a, rfl⟩ | ⟨hne, t, rfl, _⟩
  · have : l = [] := by simpa using a
    subst this
    rcases hz with rfl | rfl
    · exact rl_nils
    · exact rl_sl .full []
  · exact rl_sl _ _
end Go.Am
namespace Go.Am.YtdnbedldmkagmaaGreatDoor
set_option maxRecDepth 100000
set_option linter.unusedSimpArgs false
set_option linter.unusedVariables false
abbrev u8i (c : UInt8) : PV := .int .u8 c.toNat
def lowB (c : UInt8) : Bool := (decide ((c.toNat : Int) ≥ 97) && decide ((c.toNat : Int) ≤ 122)) || (decide ((c.toNat : Int) ≥ 48) && decide ((c.toNat : Int) ≤ 57))
def simB (c : UInt8) : Bool := lowB c || ((c.toNat : Int) == 46) || ((c.toNat : Int) == 45)
def priB (c : UInt8) : Bool := decide ((c.toNat : Int) ≥ 32) && decide ((c.toNat : Int) ≤ 126) && !((c.toNat : Int) == 34) && !((c.toNat : Int) == 92)
def ngtB (c : UInt8) : Bool := !((c.toNat : Int) == 62)
theorem low_spec (base : Nat) (h : Hp) (c : UInt8) : CallA T base 66 [u8i c] h = some (.bool (lowB c), h) := by
  rw [S66]; unfold lowB
  by_cases c1 : (c.toNat : Int) ≥ 97 <;> by_cases c2 : (c.toNat : Int) ≤ 122 <;> by_cases c3 : (c.toNat : Int) ≥ 48 <;> by_cases c4 : (c.toNat : Int) ≤ 57 <;>
    simp only [c1, c2, c3, c4, Bool.and_true, Bool.and_false, Bool.or_true, Bool.or_false, ↓evD, evU, evL, Nat.reduceAdd, Nat.reduceSub, Nat.reduceMul, Nat.reduceLeDiff, Nat.reduceLT, Nat.reduceEqDiff, Nat.reduceBEq, reduceIte, reduceCtorEq, Int.reduceBEq, Int.reduceEq, Int.reduceLT, Int.reduceLE, Int.reduceGT, Int.reduceGE, Int.reduceAdd, Int.reduceSub, Int.reduceNeg, Int.reduceBNe, ite_true, ite_false, if_true, if_false, implies_true, forall_const]
theorem lowR_spec (base : Nat) (h : Hp) (c : UInt8) : CallA T base 48 [u8i c] h = some (.bool (lowB c), h) := by
  rw [S48]; unfold lowB
  by_cases c1 : (c.toNat : Int) ≥ 97 <;> by_cases c2 : (c.toNat : Int) ≤ 122 <;> by_cases c3 : (c.toNat : Int) ≥ 48 <;> by_cases c4 : (c.toNat : Int) ≤ 57 <;>
    simp only [c1, c2, c3, c4, Bool.and_true, Bool.and_false, Bool.or_true, Bool.or_false, ↓evD, evU, evL, Nat.reduceAdd, Nat.reduceSub, Nat.reduceMul, Nat.reduceLeDiff, Nat.reduceLT, Nat.reduceEqDiff, Nat.reduceBEq, reduceIte, reduceCtorEq, Int.reduceBEq, Int.reduceEq, Int.reduceLT, Int.reduceLE, Int.reduceGT, Int.reduceGE, Int.reduceAdd, Int.reduceSub, Int.reduceNeg, Int.reduceBNe, ite_true, ite_false, if_true, if_false, implies_true, forall_const]
theorem sim_spec (base : Nat) (h : Hp) (c : UInt8) : CallA T base 56 [u8i c] h = some (.bool (simB c), h) := by
  rw [S56]; unfold simB
  have hl := fun b k => low_spec b k c
  cases e1 : lowB c <;> rw [e1] at hl <;> cases e2 : ((c.toNat : Int) == 46) <;> cases e3 : ((c.toNat : Int) == 45) <;> simp only [hl, e2, e3, ↓evD, evU, evL, Nat.reduceAdd, Nat.reduceSub, Nat.reduceMul, Nat.reduceLeDiff, Nat.reduceLT, Nat.reduceEqDiff, Nat.reduceBEq, reduceIte, reduceCtorEq, Int.reduceBEq, Int.reduceEq, Int.reduceLT, Int.reduceLE, Int.reduceGT, Int.reduceGE, Int.reduceAdd, Int.reduceSub, Int.reduceNeg, Int.reduceBNe, ite_true, ite_false, if_true, if_false, implies_true, forall_const]
theorem simR_spec (base : Nat) (h : Hp) (c : UInt8) : CallA T base 32 [u8i c] h = some (.bool (simB c), h) := by
  rw [S32]; unfold simB
  have hl := fun b k => lowR_spec b k c
  cases e1 : lowB c <;> rw [e1] at hl <;> cases e2 : ((c.toNat : Int) == 46) <;> cases e3 : ((c.toNat : Int) == 45) <;> simp only [hl, e2, e3, ↓evD, evU, evL, Nat.reduceAdd, Nat.reduceSub, Nat.reduceMul, Nat.reduceLeDiff, Nat.reduceLT, Nat.reduceEqDiff, Nat.reduceBEq, reduceIte, reduceCtorEq, Int.reduceBEq, Int.reduceEq, Int.reduceLT, Int.reduceLE, Int.reduceGT, Int.reduceGE, Int.reduceAdd, Int.reduceSub, Int.reduceNeg, Int.reduceBNe, ite_true, ite_false, if_true, if_false, implies_true, forall_const]
theorem pri_spec (base : Nat) (h : Hp) (c : UInt8) : CallA T base 62 [u8i c] h = some (.bool (priB c), h) := by
  rw [S62]; unfold priB
  by_cases c1 : (c.toNat : Int) ≥ 32 <;> by_cases c2 : (c.toNat : Int) ≤ 126 <;> cases e2 : ((c.toNat : Int) == 34) <;> cases e3 : ((c.toNat : Int) == 92) <;> simp only [c1, c2, e2, e3, bne, ↓evD, evU, evL, Nat.reduceAdd, Nat.reduceSub, Nat.reduceMul, Nat.reduceLeDiff, Nat.reduceLT, Nat.reduceEqDiff, Nat.reduceBEq, reduceIte, reduceCtorEq, Int.reduceBEq, Int.reduceEq, Int.reduceLT, Int.reduceLE, Int.reduceGT, Int.reduceGE, Int.reduceAdd, Int.reduceSub, Int.reduceNeg, Int.reduceBNe, ite_true, ite_false, if_true, if_false, implies_true, forall_const]
theorem priR_spec (base : Nat) (h : Hp) (c : UInt8) : CallA T base 49 [u8i c] h = some (.bool (priB c), h) := by
  rw [S49]; unfold priB
  by_cases c1 : (c.toNat : Int) ≥ 32 <;> by_cases c2 : (c.toNat : Int) ≤ 126 <;> cases e2 : ((c.toNat : Int) == 34) <;> cases e3 : ((c.toNat : Int) == 92) <;> simp only [c1, c2, e2, e3, bne, ↓evD, evU, evL, Nat.reduceAdd, Nat.reduceSub, Nat.reduceMul, Nat.reduceLeDiff, Nat.reduceLT, Nat.reduceEqDiff, Nat.reduceBEq, reduceIte, reduceCtorEq, Int.reduceBEq, Int.reduceEq, Int.reduceLT, Int.reduceLE, Int.reduceGT, Int.reduceGE, Int.reduceAdd, Int.reduceSub, Int.reduceNeg, Int.reduceBNe, ite_true, ite_false, if_true, if_false, implies_true, forall_const]
theorem ngt_spec (base : Nat) (h : Hp) (c : UInt8) : CallA T base 64 [u8i c] h = some (.bool (ngtB c), h) := by
  rw [S64]; unfold ngtB
  simp only [bne, ↓evD, evU, evL, Nat.reduceAdd, Nat.reduceSub, Nat.reduceMul, Nat.reduceLeDiff, Nat.reduceLT, Nat.reduceEqDiff, Nat.reduceBEq, reduceIte, reduceCtorEq, Int.reduceBEq, Int.reduceEq, Int.reduceLT, Int.reduceLE, Int.reduceGT, Int.reduceGE, Int.reduceAdd, Int.reduceSub, Int.reduceNeg, Int.reduceBNe, ite_true, ite_false, if_true, if_false, implies_true, forall_const]
/-- How many of the first signs are such. -/
theorem run_loop {h : Hp} {f : Nat} {q : UInt8 → Bool} (hf : ∀ base h c, CallA T base f [u8i c] h = some (.bool (q c), h)) (s : List UInt8) (hs : s.length ≤ 1000000) : ∀ (r p : List UInt8), s = p ++ r →
    P55_0 (size h) (size h) (i64 p.length) (.str s) (.fn f []) (i64 s.length) h = some (i64 ((p.length + (r.takeWhile q).length : Nat) : Int), h)
  | [], p, hp => by
    rw [P55_0_eq]
    have e : p.length = s.length := by rw [hp]; simp
    have h1 : ((p.length : Int) < (s.length : Int)) = False := by simp; omega
    simp only [h1, List.takeWhile_nil, List.length_nil, Nat.add_zero, ↓evD, evU, evL, Nat.reduceAdd, Nat.reduceSub, Nat.reduceMul, Nat.reduceLeDiff, Nat.reduceLT, Nat.reduceEqDiff, Nat.reduceBEq, reduceIte, reduceCtorEq, Int.reduceBEq, Int.reduceEq, Int.reduceLT, Int.reduceLE, Int.reduceGT, Int.reduceGE, Int.reduceAdd, Int.reduceSub, Int.reduceNeg, Int.reduceBNe, ite_true, ite_false, if_true, if_false, implies_true, forall_const]
    rw [e]
  | x :: r, p, hp => by
    rw [P55_0_eq]
    have el : s.length = p.length + (r.length + 1) := by rw [hp]; simp
    have h1 : ((p.length : Int) < (s.length : Int)) = True := by simp; omega
    have hx : s[p.length]? = some x := by rw [hp]; simp
    have hix := ix_nat .i64 p.length s.length (by omega)
    have hq := fun b k => hf b k x
    cases e : q x <;> rw [e] at hq
    · simp only [h1, hix, hx, hq, List.append_nil, List.takeWhile_cons, e, List.length_nil, Nat.add_zero, ↓evD, evU, evL, Nat.reduceAdd, Nat.reduceSub, Nat.reduceMul, Nat.reduceLeDiff, Nat.reduceLT, Nat.reduceEqDiff, Nat.reduceBEq, reduceIte, reduceCtorEq, Int.reduceBEq, Int.reduceEq, Int.reduceLT, Int.reduceLE, Int.reduceGT, Int.reduceGE, Int.reduceAdd, Int.reduceSub, Int.reduceNeg, Int.reduceBNe, ite_true, ite_false, if_true, if_false, implies_true, forall_const]
    · have w1 : IntKind.i64.wrap ((p.length : Int) + 1) = (((p ++ [x]).length : Nat) : Int) := by rw [show (p ++ [x]).length = p.length + 1 by simp, wrap_small] <;> omega
      have ih := run_loop (h := h) hf s hs r (p ++ [x]) (by rw [hp]; simp)
      simp only [h1, hix, hx, hq, w1, ih, List.append_nil, List.takeWhile_cons, e, ↓evD, evU, evL, Nat.reduceAdd, Nat.reduceSub, Nat.reduceMul, Nat.reduceLeDiff, Nat.reduceLT, Nat.reduceEqDiff, Nat.reduceBEq, reduceIte, reduceCtorEq, Int.reduceBEq, Int.reduceEq, Int.reduceLT, Int.reduceLE, Int.reduceGT, Int.reduceGE, Int.reduceAdd, Int.reduceSub, Int.reduceNeg, Int.reduceBNe, ite_true, ite_false, if_true, if_false, implies_true, forall_const]
      simp only [List.length_append, List.length_cons, List.length_nil]
      congr 4
      omega
theorem run_spec {base : Nat} {h : Hp} {f : Nat} {q : UInt8 → Bool} (hf : ∀ base h c, CallA T base f [u8i c] h = some (.bool (q c), h)) (s : List UInt8) (hs : s.length ≤ 1000000) :
    CallA T base 55 [.str s, .fn f []] h = some (i64 (s.takeWhile q).length, h) := by
  rw [S55]
  have := run_loop (h := h) hf s hs s [] rfl
  rw [List.length_nil, Nat.zero_add] at this
  simp only [↓evD, evU, evL, Nat.reduceAdd, Nat.reduceSub, Nat.reduceMul, Nat.reduceLeDiff, Nat.reduceLT, Nat.reduceEqDiff, Nat.reduceBEq, reduceIte, reduceCtorEq, Int.reduceBEq, Int.reduceEq, Int.reduceLT, Int.reduceLE, Int.reduceGT, Int.reduceGE, Int.reduceAdd, Int.reduceSub, Int.reduceNeg, Int.reduceBNe, ite_true, ite_false, if_true, if_false, implies_true, forall_const]
  exact this
theorem tw_all {q : UInt8 → Bool} : ∀ s : List UInt8, (((s.takeWhile q).length : Int) == (s.length : Int)) = s.all q
  | [] => rfl
  | x :: s => by
    have ih := tw_all (q := q) s
    rw [List.takeWhile_cons, List.all_cons]
    cases e : q x
    · simp only [List.length_nil, List.length_cons, Bool.false_and, Bool.false_eq_true, if_false]
      rw [beq_eq_false_iff_ne]; simp; omega
    · simp only [List.length_cons, Bool.true_and, if_true]
      rw [← ih, Bool.eq_iff_iff, beq_iff_eq, beq_iff_eq]; omega
def nmB (s : List UInt8) : Bool := !(s == []) && decide ((s.length : Int) ≤ 16) && s.all lowB
def vlB (s : List UInt8) : Bool := s.all priB && decide ((s.length : Int) ≤ 60)
def plB (s : List UInt8) : Bool := !(s == []) && s.all simB
theorem name_spec {base : Nat} {h : Hp} (s : List UInt8) (hs : s.length ≤ 1000000) : CallA T base 61 [.str s] h = some (.bool (nmB s), h) := by
  rw [S61]; unfold nmB
  have hr := fun b k => run_spec (base := b) (h := k) low_spec s hs
  have ha := tw_all (q := lowB) s
  cases e1 : (s == [])
  · by_cases c1 : (s.length : Int) ≤ 16
    · simp only [e1, c1, hr, ha, bne, ↓evD, evU, evL, Nat.reduceAdd, Nat.reduceSub, Nat.reduceMul, Nat.reduceLeDiff, Nat.reduceLT, Nat.reduceEqDiff, Nat.reduceBEq, reduceIte, reduceCtorEq, Int.reduceBEq, Int.reduceEq, Int.reduceLT, Int.reduceLE, Int.reduceGT, Int.reduceGE, Int.reduceAdd, Int.reduceSub, Int.reduceNeg, Int.reduceBNe, ite_true, ite_false, if_true, if_false, implies_true, forall_const]
    · simp only [e1, c1, hr, ha, bne, ↓evD, evU, evL, Nat.reduceAdd, Nat.reduceSub, Nat.reduceMul, Nat.reduceLeDiff, Nat.reduceLT, Nat.reduceEqDiff, Nat.reduceBEq, reduceIte, reduceCtorEq, Int.reduceBEq, Int.reduceEq, Int.reduceLT, Int.reduceLE, Int.reduceGT, Int.reduceGE, Int.reduceAdd, Int.reduceSub, Int.reduceNeg, Int.reduceBNe, ite_true, ite_false, if_true, if_false, implies_true, forall_const]
  · simp only [e1, bne, ↓evD, evU, evL, Nat.reduceAdd, Nat.reduceSub, Nat.reduceMul, Nat.reduceLeDiff, Nat.reduceLT, Nat.reduceEqDiff, Nat.reduceBEq, reduceIte, reduceCtorEq, Int.reduceBEq, Int.reduceEq, Int.reduceLT, Int.reduceLE, Int.reduceGT, Int.reduceGE, Int.reduceAdd, Int.reduceSub, Int.reduceNeg, Int.reduceBNe, ite_true, ite_false, if_true, if_false, implies_true, forall_const]
theorem named_loop {h : Hp} (s : List UInt8) (hs : s.length ≤ 1000000) : ∀ (r p : List UInt8), s = p ++ r →
    P24_0 (size h) (size h) (i64 p.length) (.str s) h = some (.bool (r.all lowB && (decide ((s.length : Int) ≥ 1) && decide ((s.length : Int) ≤ 16))), h)
  | [], p, hp => by
    rw [P24_0_eq]
    have e : p.length = s.length := by rw [hp]; simp
    have h1 : ((p.length : Int) < (s.length : Int)) = False := by simp; omega
    by_cases c1 : (s.length : Int) ≥ 1
    · by_cases c2 : (s.length : Int) ≤ 16 <;> simp only [h1, c1, c2, List.all_nil, ↓evD, evU, evL, Nat.reduceAdd, Nat.reduceSub, Nat.reduceMul, Nat.reduceLeDiff, Nat.reduceLT, Nat.reduceEqDiff, Nat.reduceBEq, reduceIte, reduceCtorEq, Int.reduceBEq, Int.reduceEq, Int.reduceLT, Int.reduceLE, Int.reduceGT, Int.reduceGE, Int.reduceAdd, Int.reduceSub, Int.reduceNeg, Int.reduceBNe, ite_true, ite_false, if_true, if_false, implies_true, forall_const]
    · simp only [h1, c1, List.all_nil, ↓evD, evU, evL, Nat.reduceAdd, Nat.reduceSub, Nat.reduceMul, Nat.reduceLeDiff, Nat.reduceLT, Nat.reduceEqDiff, Nat.reduceBEq, reduceIte, reduceCtorEq, Int.reduceBEq, Int.reduceEq, Int.reduceLT, Int.reduceLE, Int.reduceGT, Int.reduceGE, Int.reduceAdd, Int.reduceSub, Int.reduceNeg, Int.reduceBNe, ite_true, ite_false, if_true, if_false, implies_true, forall_const]
  | x :: r, p, hp => by
    rw [P24_0_eq]
    have el : s.length = p.length + (r.length + 1) := by rw [hp]; simp
    have h1 : ((p.length : Int) < (s.length : Int)) = True := by simp; omega
    have hx : s[p.length]? = some x := by rw [hp]; simp
    have hix := ix_nat .i64 p.length s.length (by omega)
    have hq := fun b k => lowR_spec b k x
    have w1 : IntKind.i64.wrap ((p.length : Int) + 1) = (((p ++ [x]).length : Nat) : Int) := by rw [show (p ++ [x]).length = p.length + 1 by simp, wrap_small] <;> omega
    have ih := named_loop (h := h) s hs r (p ++ [x]) (by rw [hp]; simp)
    cases e : lowB x <;> rw [e] at hq <;> simp only [h1, hix, hx, hq, w1, ih, List.all_cons, e, ↓evD, evU, evL, Nat.reduceAdd, Nat.reduceSub, Nat.reduceMul, Nat.reduceLeDiff, Nat.reduceLT, Nat.reduceEqDiff, Nat.reduceBEq, reduceIte, reduceCtorEq, Int.reduceBEq, Int.reduceEq, Int.reduceLT, Int.reduceLE, Int.reduceGT, Int.reduceGE, Int.reduceAdd, Int.reduceSub, Int.reduceNeg, Int.reduceBNe, ite_true, ite_false, if_true, if_false, implies_true, forall_const]
theorem named_spec {base : Nat} {h : Hp} (s : List UInt8) (hs : s.length ≤ 1000000) : CallA T base 24 [.str s] h = some (.bool (nmB s), h) := by
  rw [S24]
  refine (named_loop (h := h) s hs s [] rfl).trans ?_
  unfold nmB
  cases s with
  | nil => rfl
  | cons x s =>
    have : ((((x :: s).length : Nat) : Int) ≥ 1) := by simp only [List.length_cons]; omega
    simp only [this, decide_true, Bool.true_and]
    rw [Bool.and_comm]
    rfl
theorem valued_loop {h : Hp} (s : List UInt8) (hs : s.length ≤ 1000000) : ∀ (r p : List UInt8), s = p ++ r →
    P25_0 (size h) (size h) (i64 p.length) (.str s) h = some (.bool (r.all priB && decide ((s.length : Int) ≤ 60)), h)
  | [], p, hp => by
    rw [P25_0_eq]
    have e : p.length = s.length := by rw [hp]; simp
    have h1 : ((p.length : Int) < (s.length : Int)) = False := by simp; omega
    simp only [h1, List.all_nil, ↓evD, evU, evL, Nat.reduceAdd, Nat.reduceSub, Nat.reduceMul, Nat.reduceLeDiff, Nat.reduceLT, Nat.reduceEqDiff, Nat.reduceBEq, reduceIte, reduceCtorEq, Int.reduceBEq, Int.reduceEq, Int.reduceLT, Int.reduceLE, Int.reduceGT, Int.reduceGE, Int.reduceAdd, Int.reduceSub, Int.reduceNeg, Int.reduceBNe, ite_true, ite_false, if_true, if_false, implies_true, forall_const]
  | x :: r, p, hp => by
    rw [P25_0_eq]
    have el : s.length = p.length + (r.length + 1) := by rw [hp]; simp
    have h1 : ((p.length : Int) < (s.length : Int)) = True := by simp; omega
    have hx : s[p.length]? = some x := by rw [hp]; simp
    have hix := ix_nat .i64 p.length s.length (by omega)
    have hq := fun b k => priR_spec b k x
    have w1 : IntKind.i64.wrap ((p.length : Int) + 1) = (((p ++ [x]).length : Nat) : Int) := by rw [show (p ++ [x]).length = p.length + 1 by simp, wrap_small] <;> omega
    have ih := valued_loop (h := h) s hs r (p ++ [x]) (by rw [hp]; simp)
    cases e : priB x <;> rw [e] at hq <;> simp only [h1, hix, hx, hq, w1, ih, List.all_cons, e, ↓evD, evU, evL, Nat.reduceAdd, Nat.reduceSub, Nat.reduceMul, Nat.reduceLeDiff, Nat.reduceLT, Nat.reduceEqDiff, Nat.reduceBEq, reduceIte, reduceCtorEq, Int.reduceBEq, Int.reduceEq, Int.reduceLT, Int.reduceLE, Int.reduceGT, Int.reduceGE, Int.reduceAdd, Int.reduceSub, Int.reduceNeg, Int.reduceBNe, ite_true, ite_false, if_true, if_false, implies_true, forall_const]
theorem valued_spec {base : Nat} {h : Hp} (s : List UInt8) (hs : s.length ≤ 1000000) : CallA T base 25 [.str s] h = some (.bool (vlB s), h) := by
  rw [S25]
  exact valued_loop (h := h) s hs s [] rfl
theorem plain_loop {h : Hp} (s : List UInt8) (hs : s.length ≤ 1000000) : ∀ (r p : List UInt8), s = p ++ r →
    P15_0 (size h) (size h) (i64 p.length) (.str s) h = some (.bool (r.all simB && decide ((s.length : Int) > 0)), h)
  | [], p, hp => by
    rw [P15_0_eq]
    have e : p.length = s.length := by rw [hp]; simp
    have h1 : ((p.length : Int) < (s.length : Int)) = False := by simp; omega
    simp only [h1, List.all_nil, ↓evD, evU, evL, Nat.reduceAdd, Nat.reduceSub, Nat.reduceMul, Nat.reduceLeDiff, Nat.reduceLT, Nat.reduceEqDiff, Nat.reduceBEq, reduceIte, reduceCtorEq, Int.reduceBEq, Int.reduceEq, Int.reduceLT, Int.reduceLE, Int.reduceGT, Int.reduceGE, Int.reduceAdd, Int.reduceSub, Int.reduceNeg, Int.reduceBNe, ite_true, ite_false, if_true, if_false, implies_true, forall_const]
  | x :: r, p, hp => by
    rw [P15_0_eq]
    have el : s.length = p.length + (r.length + 1) := by rw [hp]; simp
    have h1 : ((p.length : Int) < (s.length : Int)) = True := by simp; omega
    have hx : s[p.length]? = some x := by rw [hp]; simp
    have hix := ix_nat .i64 p.length s.length (by omega)
    have hq := fun b k => simR_spec b k x
    have w1 : IntKind.i64.wrap ((p.length : Int) + 1) = (((p ++ [x]).length : Nat) : Int) := by rw [show (p ++ [x]).length = p.length + 1 by simp, wrap_small] <;> omega
    have ih := plain_loop (h := h) s hs r (p ++ [x]) (by rw [hp]; simp)
    cases e : simB x <;> rw [e] at hq <;> simp only [h1, hix, hx, hq, w1, ih, List.all_cons, e, ↓evD, evU, evL, Nat.reduceAdd, Nat.reduceSub, Nat.reduceMul, Nat.reduceLeDiff, Nat.reduceLT, Nat.reduceEqDiff, Nat.reduceBEq, reduceIte, reduceCtorEq, Int.reduceBEq, Int.reduceEq, Int.reduceLT, Int.reduceLE, Int.reduceGT, Int.reduceGE, Int.reduceAdd, Int.reduceSub, Int.reduceNeg, Int.reduceBNe, ite_true, ite_false, if_true, if_false, implies_true, forall_const]
theorem plain_spec {base : Nat} {h : Hp} (s : List UInt8) (hs : s.length ≤ 1000000) : CallA T base 15 [.str s] h = some (.bool (plB s), h) := by
  rw [S15]
  refine (plain_loop (h := h) s hs s [] rfl).trans ?_
  unfold plB
  cases s with
  | nil => rfl
  | cons x s =>
    have : ((((x :: s).length : Nat) : Int) > 0) := by simp only [List.length_cons]; omega
    simp only [this, decide_true, Bool.and_true]
    rfl
end Go.Am.YtdnbedldmkagmaaGreatDoor
