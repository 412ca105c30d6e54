/- What the functions do from point to point, as equations. Printed by wip/v2/shcode.sh, mksh.py. | Evaluating equations of the plain functions. | The evaluating equations, bundled. Printed by a program of this work. By the session's AI agent. | What plain's small functions compute, on the abstract machine, of values of one kind. | Slices that grow on top of a heap; bytes. | 'Am': what an argument that is read as data is to the machine. | Arguments that are structs, or bytes. | Arguments of the seat: values, bytes; for the walks. | What plain's Right, Write and Read compute: of numbers and links; on the abstract machine. | What the reference's Same and Right compute, on the abstract machine. | Numerals: what is written is read. No program in sight. | Numerals: what the reference takes for a number is what is written. No program in sight. | Base 64, by triples. No program in sight. | A builder of texts, and what plain's encode computes, on the abstract machine. | Bits of small numbers: what the machine's operations give. | What plain's encode computes, on the abstract machine. | What plain's encode and the reference's letter compute, on the abstract machine.
   By the session's AI agent. -/
import Derived.Test.YthhceeaconflnaaDoorG3
import Derived.KernelRfl
import GoSem.ClaimChange
import Derived.ChangeArms
import Derived.ChangeOld
import Derived.DataReads
import Derived.SizedLaws
import Derived.Lib.ItoaLen
import Init
namespace Go.Am.YthhceeaconflnaaDoor
set_option maxRecDepth 100000
set_option linter.unusedVariables false
theorem S3 (base : Nat) (a0 : PV) (h : Hp) : CallA T base 3 [a0] h =
 bnd2 (boxV 6 a0 h) fun x0 h1 =>
 bnd2 (CallA T (size h) 9 [] h1) fun x3 h4 =>
 (unOp .not x3).bnd fun x5 =>
 condB x5 (
 finV false false (size h) [(.bool false)] h4) (
 (fieldAB x0 2).bnd fun x7 =>
 (loadV 1 false x7 h4).bnd fun x8 =>
 (lenB true x8).bnd fun x9 =>
 (binOp .gtr x9 (.int .i64 1000)).bnd fun x10 =>
 (wantB x10 false).bnd fun b13 => (whenB b13 ((fieldAB x0 3).bnd some) (some .undef)).bnd fun x12 =>
 (wantB x10 false).bnd fun b17 => (whenB b17 ((loadV 1 false x12 h4).bnd some) (some .undef)).bnd fun x16 =>
 (wantB x10 false).bnd fun b21 => (whenB b21 ((lenB false x16).bnd some) (some .undef)).bnd fun x20 =>
 (wantB x10 false).bnd fun b25 => (whenB b25 ((binOp .gtr x20 (.int .i64 1000)).bnd some) (some .undef)).bnd fun x24 =>
 (condB x10 (some (.bool true)) (some x24)).bnd fun x28 =>
 condB x28 (
 finV false false (size h) [(.bool true)] h4) (
 (loadV 6 true x0 h4).bnd fun x30 =>
 bnd2 (CallA T (size h) 10 [x30] h4) fun x31 h32 =>
 (extractB x31 0).bnd fun x34 =>
 (extractB x31 1).bnd fun x35 =>
 (loadV 6 true x0 h32).bnd fun x38 =>
 bnd2 (CallA T (size h) 11 [x38] h32) fun x39 h40 =>
 (extractB x39 0).bnd fun x42 =>
 (extractB x39 1).bnd fun x43 =>
 (loadV 6 true x0 h40).bnd fun x46 =>
 bnd2 (CallA T (size h) 12 [x46] h40) fun x47 h48 => chkK h40 h48 <|
 (loadV 6 true x0 h40).bnd fun x49 =>
 bnd2 (CallA T (size h) 13 [x49] h40) fun x50 h51 =>
 (boolB false x47 x50).bnd fun x52 =>
 (wantB x52 true).bnd fun b55 => (whenB b55 (some x34) (some .undef)).bnd fun x54 =>
 (wantB x52 true).bnd fun b59 => (whenB b59 (some x42) (some .undef)).bnd fun x58 =>
 (wantB x52 true).bnd fun b63 => (whenB b63 ((binOp .eql x54 x58).bnd some) (some .undef)).bnd fun x62 =>
 (condB x52 (some x62) (some (.bool false))).bnd fun x66 =>
 (wantB x66 true).bnd fun b69 => (whenB b69 (some x35) (some .undef)).bnd fun x68 =>
 (wantB x66 true).bnd fun b73 => (whenB b73 (some x43) (some .undef)).bnd fun x72 =>
 (wantB x66 true).bnd fun b77 => (whenB b77 ((binOp .eql x68 x72).bnd some) (some .undef)).bnd fun x76 =>
 (condB x66 (some x76) (some (.bool false))).bnd fun x80 =>
 finV false false (size h) [x80] h51)) := (Pt_enter T_3 base _ h).trans (by kernel_rfl)
noncomputable def P4_0 (base n0 : Nat) (v19 v1 v17 v18 : PV) (h : Hp) : Option (PV × Hp) := Pt T F4 [1, 1, 1, 0, 1, 0, 1] base n0 [(19, v19), (1, v1), (17, v17), (18, v18)] h
theorem P4_0_eq (base n0 : Nat) (v19 v1 v17 v18 : PV) (h : Hp) : P4_0 base n0 v19 v1 v17 v18 h =
 (binOp .lss v19 v18).bnd fun x0 =>
 condB x0 (
 (idxAB v17 v19 1).bnd fun x1 =>
 (loadV 1 false x1 h).bnd fun x2 =>
 bnd2 (CallA T base 14 [x2, v1] h) fun x6 h7 =>
 (extractB x6 0).bnd fun x9 =>
 (extractB x6 1).bnd fun x10 =>
 allocK [(.int .i64 0), (.int .i64 0), (.str []), .nils, (.int .i64 0), (.int .i64 0)] h7 fun x11 h12 =>
 (storeV base 6 x11 x9 h12).bnd fun h13 =>
 bnd2 (CallA T base 15 [x2, v1] h13) fun x17 h18 =>
 (extractB x17 0).bnd fun x20 =>
 (extractB x17 1).bnd fun x21 =>
 allocK [(.int .i64 0), (.int .i64 0), (.str []), .nils, (.int .i64 0), (.int .i64 0)] h18 fun x22 h23 =>
 (storeV base 6 x22 x20 h23).bnd fun h24 =>
 (binOp .neq x10 x21).bnd fun x28 =>
 (wantB x28 false).bnd fun b31 => (whenB b31 ((loadV 6 true x11 h24).bnd some) (some .undef)).bnd fun x30 =>
 (wantB x28 false).bnd fun b35 => (whenB b35 ((loadV 6 true x22 h24).bnd some) (some .undef)).bnd fun x34 =>
 (wantB x28 false).bnd fun b39 => bnd2 (whenB b39 (bnd2 (CallA T base 16 [x30, x34] h24) fun x41 h40 => some (x41, h40)) (some (.undef, h24))) fun x38 h40 =>
 (wantB x28 false).bnd fun b43 => (whenB b43 ((unOp .not x38).bnd some) (some .undef)).bnd fun x42 =>
 (condB x28 (some (.bool true)) (some x42)).bnd fun x46 =>
 condB x46 (
 finV false false n0 [(.bool false)] h40) (
 (binOp .add v19 (.int .i64 1)).bnd fun x48 =>
 P4_0 base n0 x48 v1 v17 v18 h40)) (
 finV false false n0 [(.bool true)] h) := (Pt_eq T F4 [1, 1, 1, 0, 1, 0, 1] base n0 [(19, v19), (1, v1), (17, v17), (18, v18)] h).trans (by kernel_rfl)
theorem S4 (base : Nat) (a0 a1 : PV) (h : Hp) : CallA T base 4 [a0, a1] h =
 bnd2 (CallA T (size h) 9 [] h) fun x1 h2 =>
 (unOp .not x1).bnd fun x3 =>
 condB x3 (
 finV false false (size h) [(.bool false)] h2) (
 (lenB true a1).bnd fun x6 =>
 (binOp .gtr x6 (.int .i64 1000)).bnd fun x7 =>
 condB x7 (
 finV false false (size h) [(.bool true)] h2) (
 (buildSlV 1 false [(.int .i64 0)] 7 [(0, strip a0), (1, strip (.int .i64 1)), (2, strip (.int .i64 2)), (3, strip (.int .i64 3)), (4, strip (.int .i64 4)), (5, strip (.int .i64 5)), (6, strip (.int .i64 6))]).bnd fun x10 =>
 (lenB false x10).bnd fun x11 =>
 P4_0 (size h) (size h) (.int .i64 0) a1 x10 x11 h2)) := (Pt_enter T_4 base _ h).trans (by kernel_rfl)
theorem S5 (base : Nat) (a0 : PV) (h : Hp) : CallA T base 5 [a0] h =
 bnd2 (CallA T (size h) 9 [] h) fun x1 h2 =>
 (unOp .not x1).bnd fun x3 =>
 condB x3 (
 finV false false (size h) [(.bool false)] h2) (
 (lenB true a0).bnd fun x6 =>
 (binOp .gtr x6 (.int .i64 1000)).bnd fun x7 =>
 condB x7 (
 finV false false (size h) [(.bool true)] h2) (
 bnd2 (CallA T (size h) 17 [a0] h2) fun x10 h11 =>
 (extractB x10 0).bnd fun x13 =>
 (extractB x10 1).bnd fun x14 =>
 bnd2 (CallA T (size h) 18 [a0] h11) fun x18 h19 =>
 (extractB x18 0).bnd fun x21 =>
 (extractB x18 1).bnd fun x22 =>
 (binOp .eql x13 x21).bnd fun x27 =>
 (wantB x27 true).bnd fun b30 => (whenB b30 (some x14) (some .undef)).bnd fun x29 =>
 (wantB x27 true).bnd fun b34 => (whenB b34 (some x22) (some .undef)).bnd fun x33 =>
 (wantB x27 true).bnd fun b38 => (whenB b38 ((boolB false x29 x33).bnd some) (some .undef)).bnd fun x37 =>
 (condB x27 (some x37) (some (.bool false))).bnd fun x41 =>
 finV false false (size h) [x41] h19)) := (Pt_enter T_5 base _ h).trans (by kernel_rfl)
noncomputable def P6_0 (base n0 : Nat) (v1 v2 : PV) (h : Hp) : Option (PV × Hp) := Pt T F6 [1, 1, 1, 1, 1, 1] base n0 [(1, v1), (2, v2)] h
theorem P6_0_eq (base n0 : Nat) (v1 v2 : PV) (h : Hp) : P6_0 base n0 v1 v2 h =
 bnd2 (CallA T base 14 [v1, v2] h) fun x2 h3 =>
 (extractB x2 0).bnd fun x5 =>
 (extractB x2 1).bnd fun x6 =>
 allocK [(.int .i64 0), (.int .i64 0), (.str []), .nils, (.int .i64 0), (.int .i64 0)] h3 fun x7 h8 =>
 (storeV base 6 x7 x5 h8).bnd fun h9 =>
 (binOp .neq x6 (.int .i64 0)).bnd fun x12 =>
 condB x12 (
 (loadV 6 true x7 h9).bnd fun x13 =>
 (buildV [(.int .i64 0), (.int .i64 0), (.str []), .nils, (.int .i64 0), (.int .i64 0)] []).bnd fun x14 =>
 bnd2 (CallA T base 16 [x13, x14] h9) fun x15 h16 =>
 finV false false n0 [x15] h16) (
 (loadV 6 true x7 h9).bnd fun x18 =>
 bnd2 (CallA T base 10 [x18] h9) fun x19 h20 =>
 (extractB x19 0).bnd fun x22 =>
 (extractB x19 1).bnd fun x23 =>
 (loadV 6 true x7 h20).bnd fun x26 =>
 bnd2 (CallA T base 12 [x26] h20) fun x27 h28 =>
 (wantB x27 true).bnd fun b31 => (whenB b31 (some x23) (some .undef)).bnd fun x30 =>
 (wantB x27 true).bnd fun b35 => (whenB b35 ((binOp .eql x30 (.int .i64 0)).bnd some) (some .undef)).bnd fun x34 =>
 (condB x27 (some x34) (some (.bool false))).bnd fun x38 =>
 (wantB x38 true).bnd fun b41 => (whenB b41 (some x22) (some .undef)).bnd fun x40 =>
 (wantB x38 true).bnd fun b45 => (whenB b45 (some v2) (some .undef)).bnd fun x44 =>
 (wantB x38 true).bnd fun b49 => (whenB b49 ((binOp .eql x40 x44).bnd some) (some .undef)).bnd fun x48 =>
 (condB x38 (some x48) (some (.bool false))).bnd fun x52 =>
 (wantB x52 true).bnd fun b55 => (whenB b55 ((fieldAB x7 0).bnd some) (some .undef)).bnd fun x54 =>
 (wantB x52 true).bnd fun b59 => (whenB b59 ((loadV 1 false x54 h28).bnd some) (some .undef)).bnd fun x58 =>
 (wantB x52 true).bnd fun b63 => (whenB b63 (some v1) (some .undef)).bnd fun x62 =>
 (wantB x52 true).bnd fun b67 => (whenB b67 ((binOp .eql x58 x62).bnd some) (some .undef)).bnd fun x66 =>
 (condB x52 (some x66) (some (.bool false))).bnd fun x70 =>
 finV false false n0 [x70] h28) := (Pt_eq T F6 [1, 1, 1, 1, 1, 1] base n0 [(1, v1), (2, v2)] h).trans (by kernel_rfl)
theorem S6 (base : Nat) (a0 a1 a2 : PV) (h : Hp) : CallA T base 6 [a0, a1, a2] h =
 bnd2 (boxV 6 a0 h) fun x0 h1 =>
 bnd2 (CallA T (size h) 9 [] h1) fun x3 h4 =>
 (unOp .not x3).bnd fun x5 =>
 condB x5 (
 finV false false (size h) [(.bool false)] h4) (
 (fieldAB x0 2).bnd fun x7 =>
 (loadV 1 false x7 h4).bnd fun x8 =>
 (lenB true x8).bnd fun x9 =>
 (binOp .gtr x9 (.int .i64 1000)).bnd fun x10 =>
 (wantB x10 false).bnd fun b13 => (whenB b13 ((fieldAB x0 3).bnd some) (some .undef)).bnd fun x12 =>
 (wantB x10 false).bnd fun b17 => (whenB b17 ((loadV 1 false x12 h4).bnd some) (some .undef)).bnd fun x16 =>
 (wantB x10 false).bnd fun b21 => (whenB b21 ((lenB false x16).bnd some) (some .undef)).bnd fun x20 =>
 (wantB x10 false).bnd fun b25 => (whenB b25 ((binOp .gtr x20 (.int .i64 1000)).bnd some) (some .undef)).bnd fun x24 =>
 (condB x10 (some (.bool true)) (some x24)).bnd fun x28 =>
 (wantB x28 false).bnd fun b31 => (whenB b31 (some a2) (some .undef)).bnd fun x30 =>
 (wantB x28 false).bnd fun b35 => (whenB b35 ((lenB true x30).bnd some) (some .undef)).bnd fun x34 =>
 (wantB x28 false).bnd fun b39 => (whenB b39 ((binOp .gtr x34 (.int .i64 1000)).bnd some) (some .undef)).bnd fun x38 =>
 (condB x28 (some (.bool true)) (some x38)).bnd fun x42 =>
 condB x42 (
 finV false false (size h) [(.bool true)] h4) (
 (loadV 6 true x0 h4).bnd fun x44 =>
 bnd2 (CallA T (size h) 10 [x44] h4) fun x45 h46 =>
 (extractB x45 0).bnd fun x48 =>
 (extractB x45 1).bnd fun x49 =>
 (binOp .eql x49 (.int .i64 0)).bnd fun x53 =>
 condB x53 (
 (fieldAB x0 0).bnd fun x54 =>
 (loadV 1 false x54 h46).bnd fun x55 =>
 bnd2 (CallA T (size h) 14 [x55, x48] h46) fun x57 h58 =>
 (extractB x57 0).bnd fun x60 =>
 (extractB x57 1).bnd fun x61 =>
 allocK [(.int .i64 0), (.int .i64 0), (.str []), .nils, (.int .i64 0), (.int .i64 0)] h58 fun x62 h63 =>
 (storeV (size h) 6 x62 x60 h63).bnd fun h64 =>
 (binOp .neq x61 (.int .i64 0)).bnd fun x67 =>
 (wantB x67 false).bnd fun b70 => (whenB b70 ((loadV 6 true x62 h64).bnd some) (some .undef)).bnd fun x69 =>
 (wantB x67 false).bnd fun b74 => (whenB b74 ((loadV 6 true x0 h64).bnd some) (some .undef)).bnd fun x73 =>
 (wantB x67 false).bnd fun b78 => bnd2 (whenB b78 (bnd2 (CallA T (size h) 16 [x69, x73] h64) fun x80 h79 => some (x80, h79)) (some (.undef, h64))) fun x77 h79 =>
 (wantB x67 false).bnd fun b82 => (whenB b82 ((unOp .not x77).bnd some) (some .undef)).bnd fun x81 =>
 (condB x67 (some (.bool true)) (some x81)).bnd fun x85 =>
 (wantB x85 false).bnd fun b88 => (whenB b88 ((loadV 6 true x0 h79).bnd some) (some .undef)).bnd fun x87 =>
 (wantB x85 false).bnd fun b92 => bnd2 (whenB b92 (bnd2 (CallA T (size h) 12 [x87] h79) fun x94 h93 => some (x94, h93)) (some (.undef, h79))) fun x91 h93 =>
 (wantB x85 false).bnd fun b96 => (whenB b96 ((unOp .not x91).bnd some) (some .undef)).bnd fun x95 =>
 (condB x85 (some (.bool true)) (some x95)).bnd fun x99 =>
 condB x99 (
 finV false false (size h) [(.bool false)] h93) (
 P6_0 (size h) (size h) a1 a2 h93)) (
 P6_0 (size h) (size h) a1 a2 h46))) := (Pt_enter T_6 base _ h).trans (by kernel_rfl)
theorem S7 (base : Nat) (a0 a1 a2 : PV) (h : Hp) : CallA T base 7 [a0, a1, a2] h =
 bnd2 (CallA T (size h) 9 [] h) fun x1 h2 =>
 (unOp .not x1).bnd fun x3 =>
 condB x3 (
 finV false false (size h) [(.bool false)] h2) (
 (lenB false a0).bnd fun x6 =>
 (binOp .gtr x6 (.int .i64 200)).bnd fun x7 =>
 condB x7 (
 finV false false (size h) [(.bool true)] h2) (
 (buildV [(.int .i64 0), (.int .i64 0), (.str []), .nils, (.int .i64 0), (.int .i64 0)] [(0, 1, (.int .i64 4)), (3, 1, a0)]).bnd fun x10 =>
 bnd2 (CallA T (size h) 10 [x10] h2) fun x11 h12 =>
 (extractB x11 0).bnd fun x14 =>
 (extractB x11 1).bnd fun x15 =>
 bnd2 (CallA T (size h) 14 [(.int .i64 4), x14] h12) fun x19 h20 =>
 (extractB x19 0).bnd fun x22 =>
 (extractB x19 1).bnd fun x23 =>
 allocK [(.int .i64 0), (.int .i64 0), (.str []), .nils, (.int .i64 0), (.int .i64 0)] h20 fun x24 h25 =>
 (storeV (size h) 6 x24 x22 h25).bnd fun h26 =>
 (binOp .neq x15 (.int .i64 0)).bnd fun x29 =>
 (wantB x29 false).bnd fun b32 => (whenB b32 (some x23) (some .undef)).bnd fun x31 =>
 (wantB x29 false).bnd fun b36 => (whenB b36 ((binOp .neq x31 (.int .i64 0)).bnd some) (some .undef)).bnd fun x35 =>
 (condB x29 (some (.bool true)) (some x35)).bnd fun x39 =>
 (wantB x39 false).bnd fun b42 => (whenB b42 ((fieldAB x24 3).bnd some) (some .undef)).bnd fun x41 =>
 (wantB x39 false).bnd fun b46 => (whenB b46 ((loadV 1 false x41 h26).bnd some) (some .undef)).bnd fun x45 =>
 (wantB x39 false).bnd fun b50 => (whenB b50 (some a0) (some .undef)).bnd fun x49 =>
 (wantB x39 false).bnd fun b54 => bnd2 (whenB b54 (bnd2 (CallA T (size h) 19 [x45, x49] h26) fun x56 h55 => some (x56, h55)) (some (.undef, h26))) fun x53 h55 =>
 (wantB x39 false).bnd fun b58 => (whenB b58 ((unOp .not x53).bnd some) (some .undef)).bnd fun x57 =>
 (condB x39 (some (.bool true)) (some x57)).bnd fun x61 =>
 (wantB x61 false).bnd fun b64 => (whenB b64 (some x14) (some .undef)).bnd fun x63 =>
 (wantB x61 false).bnd fun b68 => (whenB b68 ((lenB true x63).bnd some) (some .undef)).bnd fun x67 =>
 (wantB x61 false).bnd fun b72 => (whenB b72 (some a0) (some .undef)).bnd fun x71 =>
 (wantB x61 false).bnd fun b76 => (whenB b76 ((lenB false x71).bnd some) (some .undef)).bnd fun x75 =>
 (wantB x61 false).bnd fun b80 => (whenB b80 ((binOp .add x75 (.int .i64 2)).bnd some) (some .undef)).bnd fun x79 =>
 (wantB x61 false).bnd fun b84 => (whenB b84 ((binOp .quo x79 (.int .i64 3)).bnd some) (some .undef)).bnd fun x83 =>
 (wantB x61 false).bnd fun b88 => (whenB b88 ((binOp .mul x83 (.int .i64 4)).bnd some) (some .undef)).bnd fun x87 =>
 (wantB x61 false).bnd fun b92 => (whenB b92 ((binOp .neq x67 x87).bnd some) (some .undef)).bnd fun x91 =>
 (condB x61 (some (.bool true)) (some x91)).bnd fun x95 =>
 condB x95 (
 finV false false (size h) [(.bool false)] h55) (
 (lenB true x14).bnd fun x98 =>
 (binOp .eql x98 (.int .i64 0)).bnd fun x99 =>
 condB x99 (
 finV false false (size h) [(.bool true)] h55) (
 bnd2 (strBytesB true x14 h55) fun x102 h103 =>
 (binOp .and a1 (.int .i64 1023)).bnd fun x106 =>
 (lenB false x102).bnd fun x108 =>
 (binOp .rem x106 x108).bnd fun x109 =>
 (idxAB x102 x109 1).bnd fun x113 =>
 (loadV 1 false x113 h103).bnd fun x114 =>
 (binOp .add x114 a2).bnd fun x116 =>
 (idxAB x102 x109 1).bnd fun x117 =>
 (storeV (size h) 1 x117 x116 h103).bnd fun h118 =>
 (bytesStrB h118 x102).bnd fun x120 =>
 bnd2 (CallA T (size h) 14 [(.int .i64 4), x120] h118) fun x121 h122 =>
 (extractB x121 0).bnd fun x124 =>
 (extractB x121 1).bnd fun x125 =>
 allocK [(.int .i64 0), (.int .i64 0), (.str []), .nils, (.int .i64 0), (.int .i64 0)] h122 fun x126 h127 =>
 (storeV (size h) 6 x126 x124 h127).bnd fun h128 =>
 (binOp .neq x125 (.int .i64 0)).bnd fun x131 =>
 (wantB x131 false).bnd fun b134 => (whenB b134 ((fieldAB x126 3).bnd some) (some .undef)).bnd fun x133 =>
 (wantB x131 false).bnd fun b138 => (whenB b138 ((loadV 1 false x133 h128).bnd some) (some .undef)).bnd fun x137 =>
 (wantB x131 false).bnd fun b142 => (whenB b142 (some a0) (some .undef)).bnd fun x141 =>
 (wantB x131 false).bnd fun b146 => bnd2 (whenB b146 (bnd2 (CallA T (size h) 19 [x137, x141] h128) fun x148 h147 => chkK h128 h147 <| some (x148, h128)) (some (.undef, h128))) fun x145 h147 =>
 (wantB x131 false).bnd fun b150 => (whenB b150 (some x102) (some .undef)).bnd fun x149 =>
 (wantB x131 false).bnd fun b154 => (whenB b154 (some x109) (some .undef)).bnd fun x153 =>
 (wantB x131 false).bnd fun b158 => (whenB b158 ((idxAB x149 x153 1).bnd some) (some .undef)).bnd fun x157 =>
 (wantB x131 false).bnd fun b162 => (whenB b162 ((loadV 1 false x157 h147).bnd some) (some .undef)).bnd fun x161 =>
 (wantB x131 false).bnd fun b166 => (whenB b166 (some x14) (some .undef)).bnd fun x165 =>
 (wantB x131 false).bnd fun b170 => (whenB b170 (some x109) (some .undef)).bnd fun x169 =>
 (wantB x131 false).bnd fun b174 => (whenB b174 ((idxStrB x165 x169).bnd some) (some .undef)).bnd fun x173 =>
 (wantB x131 false).bnd fun b178 => (whenB b178 ((binOp .eql x161 x173).bnd some) (some .undef)).bnd fun x177 =>
 (wantB x131 false).bnd fun b182 => (whenB b182 ((boolB false x145 x177).bnd some) (some .undef)).bnd fun x181 =>
 (condB x131 (some (.bool true)) (some x181)).bnd fun x185 =>
 finV false false (size h) [x185] h147)))) := (Pt_enter T_7 base _ h).trans (by kernel_rfl)
theorem S8 (base : Nat) (a0 a1 a2 : PV) (h : Hp) : CallA T base 8 [a0, a1, a2] h =
 bnd2 (CallA T (size h) 9 [] h) fun x1 h2 =>
 (unOp .not x1).bnd fun x3 =>
 condB x3 (
 finV false false (size h) [(.bool false)] h2) (
 (buildV [(.int .i64 0), (.int .i64 0), (.str []), .nils, (.int .i64 0), (.int .i64 0)] [(0, 1, (.int .i64 1)), (1, 1, a0)]).bnd fun x6 =>
 bnd2 (CallA T (size h) 10 [x6] h2) fun x7 h8 =>
 (extractB x7 0).bnd fun x10 =>
 (extractB x7 1).bnd fun x11 =>
 bnd2 (CallA T (size h) 14 [(.int .i64 1), x10] h8) fun x15 h16 =>
 (extractB x15 0).bnd fun x18 =>
 (extractB x15 1).bnd fun x19 =>
 allocK [(.int .i64 0), (.int .i64 0), (.str []), .nils, (.int .i64 0), (.int .i64 0)] h16 fun x20 h21 =>
 (storeV (size h) 6 x20 x18 h21).bnd fun h22 =>
 bnd2 (CallA T (size h) 14 [(.int .i64 5), x10] h22) fun x25 h26 =>
 (extractB x25 0).bnd fun x28 =>
 (extractB x25 1).bnd fun x29 =>
 allocK [(.int .i64 0), (.int .i64 0), (.str []), .nils, (.int .i64 0), (.int .i64 0)] h26 fun x30 h31 =>
 (storeV (size h) 6 x30 x28 h31).bnd fun h32 =>
 (binOp .neq x11 (.int .i64 0)).bnd fun x35 =>
 (wantB x35 false).bnd fun b38 => (whenB b38 (some x19) (some .undef)).bnd fun x37 =>
 (wantB x35 false).bnd fun b42 => (whenB b42 ((binOp .neq x37 (.int .i64 0)).bnd some) (some .undef)).bnd fun x41 =>
 (condB x35 (some (.bool true)) (some x41)).bnd fun x45 =>
 (wantB x45 false).bnd fun b48 => (whenB b48 (some x29) (some .undef)).bnd fun x47 =>
 (wantB x45 false).bnd fun b52 => (whenB b52 ((binOp .neq x47 (.int .i64 0)).bnd some) (some .undef)).bnd fun x51 =>
 (condB x45 (some (.bool true)) (some x51)).bnd fun x55 =>
 (wantB x55 false).bnd fun b58 => (whenB b58 ((fieldAB x20 1).bnd some) (some .undef)).bnd fun x57 =>
 (wantB x55 false).bnd fun b62 => (whenB b62 ((loadV 1 false x57 h32).bnd some) (some .undef)).bnd fun x61 =>
 (wantB x55 false).bnd fun b66 => (whenB b66 (some a0) (some .undef)).bnd fun x65 =>
 (wantB x55 false).bnd fun b70 => (whenB b70 ((binOp .neq x61 x65).bnd some) (some .undef)).bnd fun x69 =>
 (condB x55 (some (.bool true)) (some x69)).bnd fun x73 =>
 (wantB x73 false).bnd fun b76 => (whenB b76 ((fieldAB x30 1).bnd some) (some .undef)).bnd fun x75 =>
 (wantB x73 false).bnd fun b80 => (whenB b80 ((loadV 1 false x75 h32).bnd some) (some .undef)).bnd fun x79 =>
 (wantB x73 false).bnd fun b84 => (whenB b84 (some a0) (some .undef)).bnd fun x83 =>
 (wantB x73 false).bnd fun b88 => (whenB b88 ((binOp .neq x79 x83).bnd some) (some .undef)).bnd fun x87 =>
 (condB x73 (some (.bool true)) (some x87)).bnd fun x91 =>
 (wantB x91 false).bnd fun b94 => (whenB b94 ((fieldAB x30 0).bnd some) (some .undef)).bnd fun x93 =>
 (wantB x91 false).bnd fun b98 => (whenB b98 ((loadV 1 false x93 h32).bnd some) (some .undef)).bnd fun x97 =>
 (wantB x91 false).bnd fun b102 => (whenB b102 ((binOp .neq x97 (.int .i64 5)).bnd some) (some .undef)).bnd fun x101 =>
 (condB x91 (some (.bool true)) (some x101)).bnd fun x105 =>
 (wantB x105 false).bnd fun b108 => (whenB b108 (some x10) (some .undef)).bnd fun x107 =>
 (wantB x105 false).bnd fun b112 => (whenB b112 ((lenB true x107).bnd some) (some .undef)).bnd fun x111 =>
 (wantB x105 false).bnd fun b116 => (whenB b116 ((binOp .eql x111 (.int .i64 0)).bnd some) (some .undef)).bnd fun x115 =>
 (condB x105 (some (.bool true)) (some x115)).bnd fun x119 =>
 (wantB x119 false).bnd fun b122 => (whenB b122 (some x10) (some .undef)).bnd fun x121 =>
 (wantB x119 false).bnd fun b126 => (whenB b126 ((idxStrB x121 (.int .i64 0)).bnd some) (some .undef)).bnd fun x125 =>
 (wantB x119 false).bnd fun b130 => (whenB b130 ((binOp .eql x125 (.int .u8 45)).bnd some) (some .undef)).bnd fun x129 =>
 (wantB x119 false).bnd fun b134 => (whenB b134 (some a0) (some .undef)).bnd fun x133 =>
 (wantB x119 false).bnd fun b138 => (whenB b138 ((binOp .lss x133 (.int .i64 0)).bnd some) (some .undef)).bnd fun x137 =>
 (wantB x119 false).bnd fun b142 => (whenB b142 ((boolB true x129 x137).bnd some) (some .undef)).bnd fun x141 =>
 (condB x119 (some (.bool true)) (some x141)).bnd fun x145 =>
 (wantB x145 false).bnd fun b148 => (whenB b148 (some x10) (some .undef)).bnd fun x147 =>
 (wantB x145 false).bnd fun b152 => (whenB b152 ((idxStrB x147 (.int .i64 0)).bnd some) (some .undef)).bnd fun x151 =>
 (wantB x145 false).bnd fun b156 => (whenB b156 ((binOp .eql x151 (.int .u8 48)).bnd some) (some .undef)).bnd fun x155 =>
 (wantB x145 false).bnd fun b160 => (whenB b160 (some x155) (some .undef)).bnd fun x159 =>
 (wantB x159 true).bnd fun b164 => (whenB b164 (some a0) (some .undef)).bnd fun x163 =>
 (wantB x159 true).bnd fun b168 => (whenB b168 ((binOp .neq x163 (.int .i64 0)).bnd some) (some .undef)).bnd fun x167 =>
 (wantB x145 false).bnd fun b172 => (whenB b172 ((condB x159 (some x167) (some (.bool false))).bnd some) (some .undef)).bnd fun x171 =>
 (condB x145 (some (.bool true)) (some x171)).bnd fun x175 =>
 condB x175 (
 finV false false (size h) [(.bool false)] h32) (
 (buildV [(.int .i64 0), (.int .i64 0), (.str []), .nils, (.int .i64 0), (.int .i64 0)] [(0, 1, (.int .i64 6)), (4, 1, a1), (5, 1, a2)]).bnd fun x179 =>
 bnd2 (CallA T (size h) 10 [x179] h32) fun x180 h181 =>
 (extractB x180 0).bnd fun x183 =>
 (extractB x180 1).bnd fun x184 =>
 bnd2 (CallA T (size h) 14 [(.int .i64 6), x183] h181) fun x188 h189 =>
 (extractB x188 0).bnd fun x191 =>
 (extractB x188 1).bnd fun x192 =>
 allocK [(.int .i64 0), (.int .i64 0), (.str []), .nils, (.int .i64 0), (.int .i64 0)] h189 fun x193 h194 =>
 (storeV (size h) 6 x193 x191 h194).bnd fun h195 =>
 (binOp .lss a1 (.int .i64 0)).bnd fun x198 =>
 (wantB x198 false).bnd fun b201 => (whenB b201 (some a1) (some .undef)).bnd fun x200 =>
 (wantB x198 false).bnd fun b205 => (whenB b205 ((binOp .gtr x200 (.int .i64 65535)).bnd some) (some .undef)).bnd fun x204 =>
 (condB x198 (some (.bool true)) (some x204)).bnd fun x208 =>
 (wantB x208 false).bnd fun b211 => (whenB b211 (some a2) (some .undef)).bnd fun x210 =>
 (wantB x208 false).bnd fun b215 => (whenB b215 ((binOp .lss x210 (.int .i64 0)).bnd some) (some .undef)).bnd fun x214 =>
 (condB x208 (some (.bool true)) (some x214)).bnd fun x218 =>
 (wantB x218 false).bnd fun b221 => (whenB b221 (some a2) (some .undef)).bnd fun x220 =>
 (wantB x218 false).bnd fun b225 => (whenB b225 ((binOp .gtr x220 (.int .i64 65535)).bnd some) (some .undef)).bnd fun x224 =>
 (condB x218 (some (.bool true)) (some x224)).bnd fun x228 =>
 condB x228 (
 (binOp .eql x184 (.int .i64 1)).bnd fun x230 =>
 (wantB x230 true).bnd fun b233 => (whenB b233 (some x183) (some .undef)).bnd fun x232 =>
 (wantB x230 true).bnd fun b237 => (whenB b237 ((binOp .eql x232 (.str [])).bnd some) (some .undef)).bnd fun x236 =>
 (condB x230 (some x236) (some (.bool false))).bnd fun x240 =>
 (wantB x240 true).bnd fun b243 => (whenB b243 (some x192) (some .undef)).bnd fun x242 =>
 (wantB x240 true).bnd fun b247 => (whenB b247 ((binOp .eql x242 (.int .i64 20)).bnd some) (some .undef)).bnd fun x246 =>
 (condB x240 (some x246) (some (.bool false))).bnd fun x250 =>
 finV false false (size h) [x250] h195) (
 (binOp .eql x184 (.int .i64 0)).bnd fun x253 =>
 (wantB x253 true).bnd fun b256 => (whenB b256 (some x192) (some .undef)).bnd fun x255 =>
 (wantB x253 true).bnd fun b260 => (whenB b260 ((binOp .eql x255 (.int .i64 0)).bnd some) (some .undef)).bnd fun x259 =>
 (condB x253 (some x259) (some (.bool false))).bnd fun x263 =>
 (wantB x263 true).bnd fun b266 => (whenB b266 ((fieldAB x193 4).bnd some) (some .undef)).bnd fun x265 =>
 (wantB x263 true).bnd fun b270 => (whenB b270 ((loadV 1 false x265 h195).bnd some) (some .undef)).bnd fun x269 =>
 (wantB x263 true).bnd fun b274 => (whenB b274 (some a1) (some .undef)).bnd fun x273 =>
 (wantB x263 true).bnd fun b278 => (whenB b278 ((binOp .eql x269 x273).bnd some) (some .undef)).bnd fun x277 =>
 (condB x263 (some x277) (some (.bool false))).bnd fun x281 =>
 (wantB x281 true).bnd fun b284 => (whenB b284 ((fieldAB x193 5).bnd some) (some .undef)).bnd fun x283 =>
 (wantB x281 true).bnd fun b288 => (whenB b288 ((loadV 1 false x283 h195).bnd some) (some .undef)).bnd fun x287 =>
 (wantB x281 true).bnd fun b292 => (whenB b292 (some a2) (some .undef)).bnd fun x291 =>
 (wantB x281 true).bnd fun b296 => (whenB b296 ((binOp .eql x287 x291).bnd some) (some .undef)).bnd fun x295 =>
 (condB x281 (some x295) (some (.bool false))).bnd fun x299 =>
 finV false false (size h) [x299] h195))) := (Pt_enter T_8 base _ h).trans (by kernel_rfl)
theorem S10 (base : Nat) (a0 : PV) (h : Hp) : CallA T base 10 [a0] h =
 bnd2 (boxV 6 a0 h) fun x0 h1 =>
 (fieldAB x0 0).bnd fun x4 =>
 (loadV 1 false x4 h1).bnd fun x5 =>
 bnd2 (CallA T (size h) 20 [x5] h1) fun x6 h7 =>
 (unOp .not x6).bnd fun x8 =>
 condB x8 (
 finV false false (size h) [(.str []), (.int .i64 70)] h7) (
 (loadV 6 true x0 h7).bnd fun x12 =>
 bnd2 (CallA T (size h) 12 [x12] h7) fun x13 h14 =>
 (unOp .not x13).bnd fun x15 =>
 condB x15 (
 finV false false (size h) [(.str []), (.int .i64 1)] h14) (
 (fieldAB x0 0).bnd fun x19 =>
 (loadV 1 false x19 h14).bnd fun x20 =>
 (binOp .eql x20 (.int .i64 3)).bnd fun x21 =>
 condB x21 (
 (fieldAB x0 2).bnd fun x23 =>
 (loadV 1 false x23 h14).bnd fun x24 =>
 finV false false (size h) [x24, (.int .i64 0)] h14) (
 (binOp .eql x20 (.int .i64 4)).bnd fun x27 =>
 condB x27 (
 (fieldAB x0 3).bnd fun x29 =>
 (loadV 1 false x29 h14).bnd fun x30 =>
 bnd2 (CallA T (size h) 21 [x30] h14) fun x31 h32 =>
 finV false false (size h) [x31, (.int .i64 0)] h32) (
 (binOp .eql x20 (.int .i64 6)).bnd fun x35 =>
 condB x35 (
 (fieldAB x0 4).bnd fun x37 =>
 (loadV 1 false x37 h14).bnd fun x38 =>
 bnd2 (CallA T (size h) 22 [x38] h14) fun x39 h40 => chkK h14 h40 <|
 (binOp .add x39 (.str [58])).bnd fun x41 =>
 (fieldAB x0 5).bnd fun x42 =>
 (loadV 1 false x42 h14).bnd fun x43 =>
 bnd2 (CallA T (size h) 22 [x43] h14) fun x44 h45 =>
 (binOp .add x41 x44).bnd fun x46 =>
 finV false false (size h) [x46, (.int .i64 0)] h45) (
 (fieldAB x0 1).bnd fun x49 =>
 (loadV 1 false x49 h14).bnd fun x50 =>
 bnd2 (CallA T (size h) 23 [x50, (.int .i64 10)] h14) fun x51 h52 =>
 finV false false (size h) [x51, (.int .i64 0)] h52))))) := (Pt_enter T_10 base _ h).trans (by kernel_rfl)
theorem S11 (base : Nat) (a0 : PV) (h : Hp) : CallA T base 11 [a0] h =
 bnd2 (boxV 6 a0 h) fun x0 h1 =>
 (fieldAB x0 0).bnd fun x4 =>
 (loadV 1 false x4 h1).bnd fun x5 =>
 (binOp .lss x5 (.int .i64 1)).bnd fun x6 =>
 (wantB x6 false).bnd fun b9 => (whenB b9 ((fieldAB x0 0).bnd some) (some .undef)).bnd fun x8 =>
 (wantB x6 false).bnd fun b13 => (whenB b13 ((loadV 1 false x8 h1).bnd some) (some .undef)).bnd fun x12 =>
 (wantB x6 false).bnd fun b17 => (whenB b17 ((binOp .gtr x12 (.int .i64 6)).bnd some) (some .undef)).bnd fun x16 =>
 (condB x6 (some (.bool true)) (some x16)).bnd fun x20 =>
 condB x20 (
 finV false false (size h) [(.str []), (.int .i64 70)] h1) (
 (loadV 6 true x0 h1).bnd fun x23 =>
 bnd2 (CallA T (size h) 13 [x23] h1) fun x24 h25 =>
 (unOp .not x24).bnd fun x26 =>
 condB x26 (
 finV false false (size h) [(.str []), (.int .i64 1)] h25) (
 (fieldAB x0 0).bnd fun x29 =>
 (loadV 1 false x29 h25).bnd fun x30 =>
 (binOp .eql x30 (.int .i64 3)).bnd fun x31 =>
 condB x31 (
 (fieldAB x0 2).bnd fun x33 =>
 (loadV 1 false x33 h25).bnd fun x34 =>
 finV false false (size h) [x34, (.int .i64 0)] h25) (
 (binOp .eql x30 (.int .i64 4)).bnd fun x37 =>
 condB x37 (
 (fieldAB x0 3).bnd fun x39 =>
 (loadV 1 false x39 h25).bnd fun x40 =>
 bnd2 (CallA T (size h) 24 [x40] h25) fun x41 h42 =>
 finV false false (size h) [x41, (.int .i64 0)] h42) (
 (binOp .eql x30 (.int .i64 6)).bnd fun x45 =>
 condB x45 (
 (fieldAB x0 4).bnd fun x47 =>
 (loadV 1 false x47 h25).bnd fun x48 =>
 bnd2 (CallA T (size h) 22 [x48] h25) fun x49 h50 => chkK h25 h50 <|
 (binOp .add x49 (.str [58])).bnd fun x51 =>
 (fieldAB x0 5).bnd fun x52 =>
 (loadV 1 false x52 h25).bnd fun x53 =>
 bnd2 (CallA T (size h) 22 [x53] h25) fun x54 h55 =>
 (binOp .add x51 x54).bnd fun x56 =>
 finV false false (size h) [x56, (.int .i64 0)] h55) (
 (fieldAB x0 1).bnd fun x59 =>
 (loadV 1 false x59 h25).bnd fun x60 =>
 bnd2 (CallA T (size h) 23 [x60, (.int .i64 10)] h25) fun x61 h62 =>
 finV false false (size h) [x61, (.int .i64 0)] h62))))) := (Pt_enter T_11 base _ h).trans (by kernel_rfl)
noncomputable def P12_0 (base n0 : Nat) (v9 v1 v8 : PV) (h : Hp) : Option (PV × Hp) := Pt T F12 [1, 1, 0, 1, 0, 1, 1] base n0 [(9, v9), (1, v1), (8, v8)] h
theorem P12_0_eq (base n0 : Nat) (v9 v1 v8 : PV) (h : Hp) : P12_0 base n0 v9 v1 v8 h =
 condB v9 (
 finV false false n0 [(.bool true)] h) (
 (binOp .eql v8 (.int .i64 2)).bnd fun x1 =>
 condB x1 (
 (fieldAB v1 1).bnd fun x3 =>
 (loadV 1 false x3 h).bnd fun x4 =>
 (binOp .eql x4 (.int .i64 0)).bnd fun x5 =>
 (wantB x5 false).bnd fun b8 => (whenB b8 ((fieldAB v1 1).bnd some) (some .undef)).bnd fun x7 =>
 (wantB x5 false).bnd fun b12 => (whenB b12 ((loadV 1 false x7 h).bnd some) (some .undef)).bnd fun x11 =>
 (wantB x5 false).bnd fun b16 => (whenB b16 ((binOp .eql x11 (.int .i64 1)).bnd some) (some .undef)).bnd fun x15 =>
 (condB x5 (some (.bool true)) (some x15)).bnd fun x19 =>
 finV false false n0 [x19] h) (
 (binOp .eql v8 (.int .i64 3)).bnd fun x21 =>
 condB x21 (
 (fieldAB v1 2).bnd fun x23 =>
 (loadV 1 false x23 h).bnd fun x24 =>
 bnd2 (CallA T base 17 [x24] h) fun x25 h26 =>
 (extractB x25 0).bnd fun x28 =>
 (extractB x25 1).bnd fun x29 =>
 (wantB x29 true).bnd fun b35 => (whenB b35 ((fieldAB v1 2).bnd some) (some .undef)).bnd fun x34 =>
 (wantB x29 true).bnd fun b39 => (whenB b39 ((loadV 1 false x34 h26).bnd some) (some .undef)).bnd fun x38 =>
 (wantB x29 true).bnd fun b43 => (whenB b43 ((lenB true x38).bnd some) (some .undef)).bnd fun x42 =>
 (wantB x29 true).bnd fun b47 => (whenB b47 ((binOp .leq x42 (.int .i64 200)).bnd some) (some .undef)).bnd fun x46 =>
 (condB x29 (some x46) (some (.bool false))).bnd fun x50 =>
 finV false false n0 [x50] h26) (
 (binOp .eql v8 (.int .i64 4)).bnd fun x52 =>
 condB x52 (
 (fieldAB v1 3).bnd fun x54 =>
 (loadV 1 false x54 h).bnd fun x55 =>
 (lenB false x55).bnd fun x56 =>
 (binOp .leq x56 (.int .i64 200)).bnd fun x57 =>
 finV false false n0 [x57] h) (
 (binOp .eql v8 (.int .i64 6)).bnd fun x59 =>
 condB x59 (
 (fieldAB v1 4).bnd fun x61 =>
 (loadV 1 false x61 h).bnd fun x62 =>
 bnd2 (CallA T base 26 [x62] h) fun x63 h64 =>
 (wantB x63 true).bnd fun b67 => (whenB b67 ((fieldAB v1 5).bnd some) (some .undef)).bnd fun x66 =>
 (wantB x63 true).bnd fun b71 => (whenB b71 ((loadV 1 false x66 h64).bnd some) (some .undef)).bnd fun x70 =>
 (wantB x63 true).bnd fun b75 => bnd2 (whenB b75 (bnd2 (CallA T base 26 [x70] h64) fun x77 h76 => some (x77, h76)) (some (.undef, h64))) fun x74 h76 =>
 (condB x63 (some x74) (some (.bool false))).bnd fun x78 =>
 finV false false n0 [x78] h76) (
 finV false false n0 [(.bool false)] h))))) := (Pt_eq T F12 [1, 1, 0, 1, 0, 1, 1] base n0 [(9, v9), (1, v1), (8, v8)] h).trans (by kernel_rfl)
theorem S12 (base : Nat) (a0 : PV) (h : Hp) : CallA T base 12 [a0] h =
 bnd2 (boxV 6 a0 h) fun x0 h1 =>
 (loadV 6 true x0 h1).bnd fun x3 =>
 bnd2 (CallA T (size h) 25 [x3] h1) fun x4 h5 =>
 condB x4 (
 finV false false (size h) [(.bool false)] h5) (
 (fieldAB x0 0).bnd fun x7 =>
 (loadV 1 false x7 h5).bnd fun x8 =>
 (binOp .eql x8 (.int .i64 1)).bnd fun x9 =>
 condB x9 (
 P12_0 (size h) (size h) x9 x0 x8 h5) (
 (binOp .eql x8 (.int .i64 5)).bnd fun x11 =>
 P12_0 (size h) (size h) x11 x0 x8 h5)) := (Pt_enter T_12 base _ h).trans (by kernel_rfl)
noncomputable def P13_0 (base n0 : Nat) (v57 v1 v56 : PV) (h : Hp) : Option (PV × Hp) := Pt T F13 [1, 1, 1, 0, 1, 0, 1, 1] base n0 [(57, v57), (1, v1), (56, v56)] h
theorem P13_0_eq (base n0 : Nat) (v57 v1 v56 : PV) (h : Hp) : P13_0 base n0 v57 v1 v56 h =
 condB v57 (
 finV false false n0 [(.bool true)] h) (
 (binOp .eql v56 (.int .i64 2)).bnd fun x1 =>
 condB x1 (
 (fieldAB v1 1).bnd fun x3 =>
 (loadV 1 false x3 h).bnd fun x4 =>
 (binOp .eql x4 (.int .i64 0)).bnd fun x5 =>
 (wantB x5 false).bnd fun b8 => (whenB b8 ((fieldAB v1 1).bnd some) (some .undef)).bnd fun x7 =>
 (wantB x5 false).bnd fun b12 => (whenB b12 ((loadV 1 false x7 h).bnd some) (some .undef)).bnd fun x11 =>
 (wantB x5 false).bnd fun b16 => (whenB b16 ((binOp .eql x11 (.int .i64 1)).bnd some) (some .undef)).bnd fun x15 =>
 (condB x5 (some (.bool true)) (some x15)).bnd fun x19 =>
 finV false false n0 [x19] h) (
 (binOp .eql v56 (.int .i64 3)).bnd fun x21 =>
 condB x21 (
 (fieldAB v1 2).bnd fun x23 =>
 (loadV 1 false x23 h).bnd fun x24 =>
 bnd2 (CallA T base 18 [x24] h) fun x25 h26 =>
 (extractB x25 0).bnd fun x28 =>
 (extractB x25 1).bnd fun x29 =>
 (wantB x29 true).bnd fun b35 => (whenB b35 ((fieldAB v1 2).bnd some) (some .undef)).bnd fun x34 =>
 (wantB x29 true).bnd fun b39 => (whenB b39 ((loadV 1 false x34 h26).bnd some) (some .undef)).bnd fun x38 =>
 (wantB x29 true).bnd fun b43 => (whenB b43 ((lenB true x38).bnd some) (some .undef)).bnd fun x42 =>
 (wantB x29 true).bnd fun b47 => (whenB b47 ((binOp .leq x42 (.int .i64 200)).bnd some) (some .undef)).bnd fun x46 =>
 (condB x29 (some x46) (some (.bool false))).bnd fun x50 =>
 finV false false n0 [x50] h26) (
 (binOp .eql v56 (.int .i64 4)).bnd fun x52 =>
 condB x52 (
 (fieldAB v1 3).bnd fun x54 =>
 (loadV 1 false x54 h).bnd fun x55 =>
 (lenB false x55).bnd fun x56 =>
 (binOp .leq x56 (.int .i64 200)).bnd fun x57 =>
 finV false false n0 [x57] h) (
 (binOp .eql v56 (.int .i64 6)).bnd fun x59 =>
 condB x59 (
 (fieldAB v1 4).bnd fun x61 =>
 (loadV 1 false x61 h).bnd fun x62 =>
 (binOp .geq x62 (.int .i64 0)).bnd fun x63 =>
 (wantB x63 true).bnd fun b66 => (whenB b66 ((fieldAB v1 4).bnd some) (some .undef)).bnd fun x65 =>
 (wantB x63 true).bnd fun b70 => (whenB b70 ((loadV 1 false x65 h).bnd some) (some .undef)).bnd fun x69 =>
 (wantB x63 true).bnd fun b74 => (whenB b74 ((binOp .leq x69 (.int .i64 65535)).bnd some) (some .undef)).bnd fun x73 =>
 (condB x63 (some x73) (some (.bool false))).bnd fun x77 =>
 (wantB x77 true).bnd fun b80 => (whenB b80 ((fieldAB v1 5).bnd some) (some .undef)).bnd fun x79 =>
 (wantB x77 true).bnd fun b84 => (whenB b84 ((loadV 1 false x79 h).bnd some) (some .undef)).bnd fun x83 =>
 (wantB x77 true).bnd fun b88 => (whenB b88 ((binOp .geq x83 (.int .i64 0)).bnd some) (some .undef)).bnd fun x87 =>
 (condB x77 (some x87) (some (.bool false))).bnd fun x91 =>
 (wantB x91 true).bnd fun b94 => (whenB b94 ((fieldAB v1 5).bnd some) (some .undef)).bnd fun x93 =>
 (wantB x91 true).bnd fun b98 => (whenB b98 ((loadV 1 false x93 h).bnd some) (some .undef)).bnd fun x97 =>
 (wantB x91 true).bnd fun b102 => (whenB b102 ((binOp .leq x97 (.int .i64 65535)).bnd some) (some .undef)).bnd fun x101 =>
 (condB x91 (some x101) (some (.bool false))).bnd fun x105 =>
 finV false false n0 [x105] h) (
 finV false false n0 [(.bool false)] h))))) := (Pt_eq T F13 [1, 1, 1, 0, 1, 0, 1, 1] base n0 [(57, v57), (1, v1), (56, v56)] h).trans (by kernel_rfl)
theorem S13 (base : Nat) (a0 : PV) (h : Hp) : CallA T base 13 [a0] h =
 bnd2 (boxV 6 a0 h) fun x0 h1 =>
 (fieldAB x0 0).bnd fun x3 =>
 (loadV 1 false x3 h1).bnd fun x4 =>
 (binOp .neq x4 (.int .i64 1)).bnd fun x7 =>
 (wantB x7 true).bnd fun b10 => (whenB b10 (some x4) (some .undef)).bnd fun x9 =>
 (wantB x7 true).bnd fun b14 => (whenB b14 ((binOp .neq x9 (.int .i64 2)).bnd some) (some .undef)).bnd fun x13 =>
 (condB x7 (some x13) (some (.bool false))).bnd fun x17 =>
 (wantB x17 true).bnd fun b20 => (whenB b20 (some x4) (some .undef)).bnd fun x19 =>
 (wantB x17 true).bnd fun b24 => (whenB b24 ((binOp .neq x19 (.int .i64 5)).bnd some) (some .undef)).bnd fun x23 =>
 (condB x17 (some x23) (some (.bool false))).bnd fun x27 =>
 (wantB x27 true).bnd fun b30 => (whenB b30 ((fieldAB x0 1).bnd some) (some .undef)).bnd fun x29 =>
 (wantB x27 true).bnd fun b34 => (whenB b34 ((loadV 1 false x29 h1).bnd some) (some .undef)).bnd fun x33 =>
 (wantB x27 true).bnd fun b38 => (whenB b38 ((binOp .neq x33 (.int .i64 0)).bnd some) (some .undef)).bnd fun x37 =>
 (condB x27 (some x37) (some (.bool false))).bnd fun x41 =>
 (wantB x41 false).bnd fun b44 => (whenB b44 (some x4) (some .undef)).bnd fun x43 =>
 (wantB x41 false).bnd fun b48 => (whenB b48 ((binOp .neq x43 (.int .i64 3)).bnd some) (some .undef)).bnd fun x47 =>
 (wantB x41 false).bnd fun b52 => (whenB b52 (some x47) (some .undef)).bnd fun x51 =>
 (wantB x51 true).bnd fun b56 => (whenB b56 ((fieldAB x0 2).bnd some) (some .undef)).bnd fun x55 =>
 (wantB x51 true).bnd fun b60 => (whenB b60 ((loadV 1 false x55 h1).bnd some) (some .undef)).bnd fun x59 =>
 (wantB x51 true).bnd fun b64 => (whenB b64 ((binOp .neq x59 (.str [])).bnd some) (some .undef)).bnd fun x63 =>
 (wantB x41 false).bnd fun b68 => (whenB b68 ((condB x51 (some x63) (some (.bool false))).bnd some) (some .undef)).bnd fun x67 =>
 (condB x41 (some (.bool true)) (some x67)).bnd fun x71 =>
 (wantB x71 false).bnd fun b74 => (whenB b74 (some x4) (some .undef)).bnd fun x73 =>
 (wantB x71 false).bnd fun b78 => (whenB b78 ((binOp .neq x73 (.int .i64 4)).bnd some) (some .undef)).bnd fun x77 =>
 (wantB x71 false).bnd fun b82 => (whenB b82 (some x77) (some .undef)).bnd fun x81 =>
 (wantB x81 true).bnd fun b86 => (whenB b86 ((fieldAB x0 3).bnd some) (some .undef)).bnd fun x85 =>
 (wantB x81 true).bnd fun b90 => (whenB b90 ((loadV 1 false x85 h1).bnd some) (some .undef)).bnd fun x89 =>
 (wantB x81 true).bnd fun b94 => (whenB b94 ((lenB false x89).bnd some) (some .undef)).bnd fun x93 =>
 (wantB x81 true).bnd fun b98 => (whenB b98 ((binOp .gtr x93 (.int .i64 0)).bnd some) (some .undef)).bnd fun x97 =>
 (wantB x71 false).bnd fun b102 => (whenB b102 ((condB x81 (some x97) (some (.bool false))).bnd some) (some .undef)).bnd fun x101 =>
 (condB x71 (some (.bool true)) (some x101)).bnd fun x105 =>
 (wantB x105 false).bnd fun b108 => (whenB b108 (some x4) (some .undef)).bnd fun x107 =>
 (wantB x105 false).bnd fun b112 => (whenB b112 ((binOp .neq x107 (.int .i64 6)).bnd some) (some .undef)).bnd fun x111 =>
 (wantB x105 false).bnd fun b116 => (whenB b116 (some x111) (some .undef)).bnd fun x115 =>
 (wantB x115 true).bnd fun b120 => (whenB b120 ((fieldAB x0 4).bnd some) (some .undef)).bnd fun x119 =>
 (wantB x115 true).bnd fun b124 => (whenB b124 ((loadV 1 false x119 h1).bnd some) (some .undef)).bnd fun x123 =>
 (wantB x115 true).bnd fun b128 => (whenB b128 ((binOp .neq x123 (.int .i64 0)).bnd some) (some .undef)).bnd fun x127 =>
 (wantB x115 true).bnd fun b132 => (whenB b132 (some x127) (some .undef)).bnd fun x131 =>
 (wantB x131 false).bnd fun b136 => (whenB b136 ((fieldAB x0 5).bnd some) (some .undef)).bnd fun x135 =>
 (wantB x131 false).bnd fun b140 => (whenB b140 ((loadV 1 false x135 h1).bnd some) (some .undef)).bnd fun x139 =>
 (wantB x131 false).bnd fun b144 => (whenB b144 ((binOp .neq x139 (.int .i64 0)).bnd some) (some .undef)).bnd fun x143 =>
 (wantB x115 true).bnd fun b148 => (whenB b148 ((condB x131 (some (.bool true)) (some x143)).bnd some) (some .undef)).bnd fun x147 =>
 (wantB x105 false).bnd fun b152 => (whenB b152 ((condB x115 (some x147) (some (.bool false))).bnd some) (some .undef)).bnd fun x151 =>
 (condB x105 (some (.bool true)) (some x151)).bnd fun x155 =>
 condB x155 (
 finV false false (size h) [(.bool false)] h1) (
 (binOp .eql x4 (.int .i64 1)).bnd fun x158 =>
 condB x158 (
 P13_0 (size h) (size h) x158 x0 x4 h1) (
 (binOp .eql x4 (.int .i64 5)).bnd fun x160 =>
 P13_0 (size h) (size h) x160 x0 x4 h1)) := (Pt_enter T_13 base _ h).trans (by kernel_rfl)
theorem S14 (base : Nat) (a0 a1 : PV) (h : Hp) : CallA T base 14 [a0, a1] h =
 allocK [(.int .i64 0), (.int .i64 0), (.str []), .nils, (.int .i64 0), (.int .i64 0)] h fun x0 h1 =>
 bnd2 (CallA T (size h) 20 [a0] h1) fun x4 h5 =>
 (unOp .not x4).bnd fun x6 =>
 condB x6 (
 (buildV [(.int .i64 0), (.int .i64 0), (.str []), .nils, (.int .i64 0), (.int .i64 0)] []).bnd fun x8 =>
 (storeV (size h) 6 x0 x8 h5).bnd fun h9 =>
 (resB x0 h9 6 true).bnd fun r11 =>
 finV false false (size h) [r11, (.int .i64 70)] h9) (
 (binOp .eql a0 (.int .i64 3)).bnd fun x13 =>
 (wantB x13 true).bnd fun b16 => (whenB b16 (some a1) (some .undef)).bnd fun x15 =>
 (wantB x13 true).bnd fun b20 => (whenB b20 ((lenB true x15).bnd some) (some .undef)).bnd fun x19 =>
 (wantB x13 true).bnd fun b24 => (whenB b24 ((binOp .gtr x19 (.int .i64 200)).bnd some) (some .undef)).bnd fun x23 =>
 (condB x13 (some x23) (some (.bool false))).bnd fun x27 =>
 condB x27 (
 (buildV [(.int .i64 0), (.int .i64 0), (.str []), .nils, (.int .i64 0), (.int .i64 0)] []).bnd fun x29 =>
 (storeV (size h) 6 x0 x29 h5).bnd fun h30 =>
 (resB x0 h30 6 true).bnd fun r32 =>
 finV false false (size h) [r32, (.int .i64 2)] h30) (
 bnd2 (CallA T (size h) 27 [a0, a1] h5) fun x35 h36 =>
 (extractB x35 0).bnd fun x38 =>
 (extractB x35 1).bnd fun x39 =>
 allocK [(.int .i64 0), (.int .i64 0), (.str []), .nils, (.int .i64 0), (.int .i64 0)] h36 fun x40 h41 =>
 (storeV (size h) 6 x40 x38 h41).bnd fun h42 =>
 (unOp .not x39).bnd fun x45 =>
 condB x45 (
 (buildV [(.int .i64 0), (.int .i64 0), (.str []), .nils, (.int .i64 0), (.int .i64 0)] []).bnd fun x47 =>
 (storeV (size h) 6 x0 x47 h42).bnd fun h48 =>
 (resB x0 h48 6 true).bnd fun r50 =>
 finV false false (size h) [r50, (.int .i64 20)] h48) (
 (fieldAB x40 3).bnd fun x51 =>
 (loadV 1 false x51 h42).bnd fun x52 =>
 (lenB false x52).bnd fun x53 =>
 (binOp .gtr x53 (.int .i64 200)).bnd fun x54 =>
 condB x54 (
 (buildV [(.int .i64 0), (.int .i64 0), (.str []), .nils, (.int .i64 0), (.int .i64 0)] []).bnd fun x56 =>
 (storeV (size h) 6 x0 x56 h42).bnd fun h57 =>
 (resB x0 h57 6 true).bnd fun r59 =>
 finV false false (size h) [r59, (.int .i64 2)] h57) (
 (loadV 6 true x40 h42).bnd fun x60 =>
 (storeV (size h) 6 x0 x60 h42).bnd fun h61 =>
 (resB x0 h61 6 true).bnd fun r63 =>
 finV false false (size h) [r63, (.int .i64 0)] h61)))) := (Pt_enter T_14 base _ h).trans (by kernel_rfl)
noncomputable def P15_0 (base n0 : Nat) (v17 v4 v6 v0 v1 v7 v15 : PV) (h : Hp) : Option (PV × Hp) := Pt T F15 [1, 1, 1, 0, 1, 0, 1, 1] base n0 [(17, v17), (4, v4), (6, v6), (0, v0), (1, v1), (7, v7), (15, v15)] h
noncomputable def P15_1 (base n0 : Nat) (v4 v6 v7 : PV) (h : Hp) : Option (PV × Hp) := Pt T F15 [1, 1, 1, 1, 1] base n0 [(4, v4), (6, v6), (7, v7)] h
noncomputable def P15_2 (base n0 : Nat) (v4 v8 v6 v1 v7 : PV) (h : Hp) : Option (PV × Hp) := Pt T F15 [1, 1, 1, 0, 1, 0, 1, 1, 1, 1, 1, 1, 1, 1, 0, 1, 0, 1] base n0 [(4, v4), (8, v8), (6, v6), (1, v1), (7, v7)] h
theorem P15_0_eq (base n0 : Nat) (v17 v4 v6 v0 v1 v7 v15 : PV) (h : Hp) : P15_0 base n0 v17 v4 v6 v0 v1 v7 v15 h =
 condB v17 (
 bnd2 (CallA T base 28 [v1] h) fun x1 h2 =>
 (extractB x1 0).bnd fun x4 =>
 (extractB x1 1).bnd fun x5 =>
 (fieldAB v6 1).bnd fun x6 =>
 (storeV base 1 x6 x4 h2).bnd fun h7 =>
 (wantB x5 true).bnd fun b12 => (whenB b12 (some v0) (some .undef)).bnd fun x11 =>
 (wantB x5 true).bnd fun b16 => (whenB b16 ((binOp .neq x11 (.int .i64 2)).bnd some) (some .undef)).bnd fun x15 =>
 (wantB x5 true).bnd fun b20 => (whenB b20 (some x15) (some .undef)).bnd fun x19 =>
 (wantB x19 false).bnd fun b24 => (whenB b24 ((fieldAB v6 1).bnd some) (some .undef)).bnd fun x23 =>
 (wantB x19 false).bnd fun b28 => (whenB b28 ((loadV 1 false x23 h7).bnd some) (some .undef)).bnd fun x27 =>
 (wantB x19 false).bnd fun b32 => (whenB b32 ((binOp .eql x27 (.int .i64 0)).bnd some) (some .undef)).bnd fun x31 =>
 (wantB x5 true).bnd fun b36 => (whenB b36 ((condB x19 (some (.bool true)) (some x31)).bnd some) (some .undef)).bnd fun x35 =>
 (wantB x5 true).bnd fun b40 => (whenB b40 (some x35) (some .undef)).bnd fun x39 =>
 (wantB x39 false).bnd fun b44 => (whenB b44 ((fieldAB v6 1).bnd some) (some .undef)).bnd fun x43 =>
 (wantB x39 false).bnd fun b48 => (whenB b48 ((loadV 1 false x43 h7).bnd some) (some .undef)).bnd fun x47 =>
 (wantB x39 false).bnd fun b52 => (whenB b52 ((binOp .eql x47 (.int .i64 1)).bnd some) (some .undef)).bnd fun x51 =>
 (wantB x5 true).bnd fun b56 => (whenB b56 ((condB x39 (some (.bool true)) (some x51)).bnd some) (some .undef)).bnd fun x55 =>
 (condB x5 (some x55) (some (.bool false))).bnd fun x59 =>
 P15_1 base n0 v4 v6 x59 h7) (
 (binOp .eql v15 (.int .i64 3)).bnd fun x61 =>
 condB x61 (
 (lenB true v1).bnd fun x64 =>
 (binOp .gtr x64 (.int .i64 200)).bnd fun x65 =>
 condB x65 (
 (buildV [(.int .i64 0), (.int .i64 0), (.str []), .nils, (.int .i64 0), (.int .i64 0)] []).bnd fun x66 =>
 (storeV base 6 v4 x66 h).bnd fun h67 =>
 (resB v4 h67 6 true).bnd fun r69 =>
 finV false false n0 [r69, (.int .i64 2)] h67) (
 bnd2 (CallA T base 18 [v1] h) fun x71 h72 =>
 (extractB x71 0).bnd fun x74 =>
 (extractB x71 1).bnd fun x75 =>
 (fieldAB v6 2).bnd fun x78 =>
 (storeV base 1 x78 v1 h72).bnd fun h79 =>
 P15_1 base n0 v4 v6 x75 h79)) (
 (binOp .eql v15 (.int .i64 4)).bnd fun x80 =>
 condB x80 (
 bnd2 (CallA T base 29 [v1] h) fun x83 h84 =>
 (extractB x83 0).bnd fun x86 =>
 (extractB x83 1).bnd fun x87 =>
 (fieldAB v6 3).bnd fun x88 =>
 (storeV base 1 x88 x86 h84).bnd fun h89 =>
 (wantB x87 true).bnd fun b94 => (whenB b94 ((fieldAB v6 3).bnd some) (some .undef)).bnd fun x93 =>
 (wantB x87 true).bnd fun b98 => (whenB b98 ((loadV 1 false x93 h89).bnd some) (some .undef)).bnd fun x97 =>
 (wantB x87 true).bnd fun b102 => (whenB b102 ((lenB false x97).bnd some) (some .undef)).bnd fun x101 =>
 (wantB x87 true).bnd fun b106 => (whenB b106 ((binOp .gtr x101 (.int .i64 200)).bnd some) (some .undef)).bnd fun x105 =>
 (condB x87 (some x105) (some (.bool false))).bnd fun x109 =>
 condB x109 (
 (buildV [(.int .i64 0), (.int .i64 0), (.str []), .nils, (.int .i64 0), (.int .i64 0)] []).bnd fun x110 =>
 (storeV base 6 v4 x110 h89).bnd fun h111 =>
 (resB v4 h111 6 true).bnd fun r113 =>
 finV false false n0 [r113, (.int .i64 2)] h111) (
 P15_1 base n0 v4 v6 x87 h89)) (
 (binOp .eql v15 (.int .i64 6)).bnd fun x114 =>
 condB x114 (
 P15_2 base n0 v4 (.int .i64 0) v6 v1 v7 h) (
 (buildV [(.int .i64 0), (.int .i64 0), (.str []), .nils, (.int .i64 0), (.int .i64 0)] []).bnd fun x117 =>
 (storeV base 6 v4 x117 h).bnd fun h118 =>
 (resB v4 h118 6 true).bnd fun r120 =>
 finV false false n0 [r120, (.int .i64 70)] h118)))) := (Pt_eq T F15 [1, 1, 1, 0, 1, 0, 1, 1] base n0 [(17, v17), (4, v4), (6, v6), (0, v0), (1, v1), (7, v7), (15, v15)] h).trans (by kernel_rfl)
theorem P15_1_eq (base n0 : Nat) (v4 v6 v7 : PV) (h : Hp) : P15_1 base n0 v4 v6 v7 h =
 (unOp .not v7).bnd fun x1 =>
 condB x1 (
 (buildV [(.int .i64 0), (.int .i64 0), (.str []), .nils, (.int .i64 0), (.int .i64 0)] []).bnd fun x2 =>
 (storeV base 6 v4 x2 h).bnd fun h3 =>
 (resB v4 h3 6 true).bnd fun r5 =>
 finV false false n0 [r5, (.int .i64 20)] h3) (
 (loadV 6 true v6 h).bnd fun x6 =>
 (storeV base 6 v4 x6 h).bnd fun h7 =>
 (resB v4 h7 6 true).bnd fun r9 =>
 finV false false n0 [r9, (.int .i64 0)] h7) := (Pt_eq T F15 [1, 1, 1, 1, 1] base n0 [(4, v4), (6, v6), (7, v7)] h).trans (by kernel_rfl)
theorem P15_2_eq (base n0 : Nat) (v4 v8 v6 v1 v7 : PV) (h : Hp) : P15_2 base n0 v4 v8 v6 v1 v7 h =
 (lenB true v1).bnd fun x2 =>
 (binOp .lss v8 x2).bnd fun x3 =>
 (wantB x3 true).bnd fun b6 => (whenB b6 (some v7) (some .undef)).bnd fun x5 =>
 (wantB x3 true).bnd fun b10 => (whenB b10 ((unOp .not x5).bnd some) (some .undef)).bnd fun x9 =>
 (condB x3 (some x9) (some (.bool false))).bnd fun x13 =>
 condB x13 (
 (idxStrB v1 v8).bnd fun x16 =>
 (binOp .eql x16 (.int .u8 58)).bnd fun x17 =>
 condB x17 (
 (sliceV none none (some v8) none v1).bnd fun x20 =>
 bnd2 (CallA T base 28 [x20] h) fun x21 h22 =>
 (extractB x21 0).bnd fun x24 =>
 (extractB x21 1).bnd fun x25 =>
 (binOp .add v8 (.int .i64 1)).bnd fun x30 =>
 (sliceV none (some x30) none none v1).bnd fun x31 =>
 bnd2 (CallA T base 28 [x31] h22) fun x32 h33 =>
 (extractB x32 0).bnd fun x35 =>
 (extractB x32 1).bnd fun x36 =>
 (unOp .not x25).bnd fun x40 =>
 (wantB x40 false).bnd fun b43 => (whenB b43 (some x36) (some .undef)).bnd fun x42 =>
 (wantB x40 false).bnd fun b47 => (whenB b47 ((unOp .not x42).bnd some) (some .undef)).bnd fun x46 =>
 (condB x40 (some (.bool true)) (some x46)).bnd fun x50 =>
 (wantB x50 false).bnd fun b53 => (whenB b53 (some x24) (some .undef)).bnd fun x52 =>
 (wantB x50 false).bnd fun b57 => (whenB b57 ((binOp .lss x52 (.int .i64 0)).bnd some) (some .undef)).bnd fun x56 =>
 (condB x50 (some (.bool true)) (some x56)).bnd fun x60 =>
 (wantB x60 false).bnd fun b63 => (whenB b63 (some x35) (some .undef)).bnd fun x62 =>
 (wantB x60 false).bnd fun b67 => (whenB b67 ((binOp .lss x62 (.int .i64 0)).bnd some) (some .undef)).bnd fun x66 =>
 (condB x60 (some (.bool true)) (some x66)).bnd fun x70 =>
 (wantB x70 false).bnd fun b73 => (whenB b73 (some x24) (some .undef)).bnd fun x72 =>
 (wantB x70 false).bnd fun b77 => (whenB b77 ((binOp .gtr x72 (.int .i64 65535)).bnd some) (some .undef)).bnd fun x76 =>
 (condB x70 (some (.bool true)) (some x76)).bnd fun x80 =>
 (wantB x80 false).bnd fun b83 => (whenB b83 (some x35) (some .undef)).bnd fun x82 =>
 (wantB x80 false).bnd fun b87 => (whenB b87 ((binOp .gtr x82 (.int .i64 65535)).bnd some) (some .undef)).bnd fun x86 =>
 (condB x80 (some (.bool true)) (some x86)).bnd fun x90 =>
 condB x90 (
 (buildV [(.int .i64 0), (.int .i64 0), (.str []), .nils, (.int .i64 0), (.int .i64 0)] []).bnd fun x91 =>
 (storeV base 6 v4 x91 h33).bnd fun h92 =>
 (resB v4 h92 6 true).bnd fun r94 =>
 finV false false n0 [r94, (.int .i64 20)] h92) (
 (fieldAB v6 4).bnd fun x97 =>
 (storeV base 1 x97 x24 h33).bnd fun h98 =>
 (fieldAB v6 5).bnd fun x99 =>
 (storeV base 1 x99 x35 h98).bnd fun h100 =>
 (binOp .add v8 (.int .i64 1)).bnd fun x103 =>
 P15_2 base n0 v4 x103 v6 v1 (.bool true) h100)) (
 (binOp .add v8 (.int .i64 1)).bnd fun x106 =>
 P15_2 base n0 v4 x106 v6 v1 v7 h)) (
 P15_1 base n0 v4 v6 v7 h) := (Pt_eq T F15 [1, 1, 1, 0, 1, 0, 1, 1, 1, 1, 1, 1, 1, 1, 0, 1, 0, 1] base n0 [(4, v4), (8, v8), (6, v6), (1, v1), (7, v7)] h).trans (by kernel_rfl)
theorem S15 (base : Nat) (a0 a1 : PV) (h : Hp) : CallA T base 15 [a0, a1] h =
 allocK [(.int .i64 0), (.int .i64 0), (.str []), .nils, (.int .i64 0), (.int .i64 0)] h fun x0 h1 =>
 (buildV [(.int .i64 0), (.int .i64 0), (.str []), .nils, (.int .i64 0), (.int .i64 0)] [(0, 1, a0)]).bnd fun x4 =>
 allocK [(.int .i64 0), (.int .i64 0), (.str []), .nils, (.int .i64 0), (.int .i64 0)] h1 fun x5 h6 =>
 (storeV (size h) 6 x5 x4 h6).bnd fun h7 =>
 (binOp .eql a0 (.int .i64 1)).bnd fun x10 =>
 condB x10 (
 P15_0 (size h) (size h) x10 x0 x5 a0 a1 (.bool false) a0 h7) (
 (binOp .eql a0 (.int .i64 2)).bnd fun x12 =>
 condB x12 (
 P15_0 (size h) (size h) x12 x0 x5 a0 a1 (.bool false) a0 h7) (
 (binOp .eql a0 (.int .i64 5)).bnd fun x14 =>
 P15_0 (size h) (size h) x14 x0 x5 a0 a1 (.bool false) a0 h7)) := (Pt_enter T_15 base _ h).trans (by kernel_rfl)
theorem S16 (base : Nat) (a0 a1 : PV) (h : Hp) : CallA T base 16 [a0, a1] h =
 bnd2 (boxV 6 a0 h) fun x0 h1 =>
 bnd2 (boxV 6 a1 h1) fun x2 h3 =>
 (fieldAB x0 0).bnd fun x5 =>
 (loadV 1 false x5 h3).bnd fun x6 =>
 (fieldAB x2 0).bnd fun x7 =>
 (loadV 1 false x7 h3).bnd fun x8 =>
 (binOp .eql x6 x8).bnd fun x9 =>
 (wantB x9 true).bnd fun b12 => (whenB b12 ((fieldAB x0 1).bnd some) (some .undef)).bnd fun x11 =>
 (wantB x9 true).bnd fun b16 => (whenB b16 ((loadV 1 false x11 h3).bnd some) (some .undef)).bnd fun x15 =>
 (wantB x9 true).bnd fun b20 => (whenB b20 ((fieldAB x2 1).bnd some) (some .undef)).bnd fun x19 =>
 (wantB x9 true).bnd fun b24 => (whenB b24 ((loadV 1 false x19 h3).bnd some) (some .undef)).bnd fun x23 =>
 (wantB x9 true).bnd fun b28 => (whenB b28 ((binOp .eql x15 x23).bnd some) (some .undef)).bnd fun x27 =>
 (condB x9 (some x27) (some (.bool false))).bnd fun x31 =>
 (wantB x31 true).bnd fun b34 => (whenB b34 ((fieldAB x0 2).bnd some) (some .undef)).bnd fun x33 =>
 (wantB x31 true).bnd fun b38 => (whenB b38 ((loadV 1 false x33 h3).bnd some) (some .undef)).bnd fun x37 =>
 (wantB x31 true).bnd fun b42 => (whenB b42 ((fieldAB x2 2).bnd some) (some .undef)).bnd fun x41 =>
 (wantB x31 true).bnd fun b46 => (whenB b46 ((loadV 1 false x41 h3).bnd some) (some .undef)).bnd fun x45 =>
 (wantB x31 true).bnd fun b50 => (whenB b50 ((binOp .eql x37 x45).bnd some) (some .undef)).bnd fun x49 =>
 (condB x31 (some x49) (some (.bool false))).bnd fun x53 =>
 (wantB x53 true).bnd fun b56 => (whenB b56 ((fieldAB x0 3).bnd some) (some .undef)).bnd fun x55 =>
 (wantB x53 true).bnd fun b60 => (whenB b60 ((loadV 1 false x55 h3).bnd some) (some .undef)).bnd fun x59 =>
 (wantB x53 true).bnd fun b64 => (whenB b64 ((fieldAB x2 3).bnd some) (some .undef)).bnd fun x63 =>
 (wantB x53 true).bnd fun b68 => (whenB b68 ((loadV 1 false x63 h3).bnd some) (some .undef)).bnd fun x67 =>
 (wantB x53 true).bnd fun b72 => bnd2 (whenB b72 (bnd2 (CallA T (size h) 19 [x59, x67] h3) fun x74 h73 => some (x74, h73)) (some (.undef, h3))) fun x71 h73 =>
 (condB x53 (some x71) (some (.bool false))).bnd fun x75 =>
 (wantB x75 true).bnd fun b78 => (whenB b78 ((fieldAB x0 4).bnd some) (some .undef)).bnd fun x77 =>
 (wantB x75 true).bnd fun b82 => (whenB b82 ((loadV 1 false x77 h73).bnd some) (some .undef)).bnd fun x81 =>
 (wantB x75 true).bnd fun b86 => (whenB b86 ((fieldAB x2 4).bnd some) (some .undef)).bnd fun x85 =>
 (wantB x75 true).bnd fun b90 => (whenB b90 ((loadV 1 false x85 h73).bnd some) (some .undef)).bnd fun x89 =>
 (wantB x75 true).bnd fun b94 => (whenB b94 ((binOp .eql x81 x89).bnd some) (some .undef)).bnd fun x93 =>
 (condB x75 (some x93) (some (.bool false))).bnd fun x97 =>
 (wantB x97 true).bnd fun b100 => (whenB b100 ((fieldAB x0 5).bnd some) (some .undef)).bnd fun x99 =>
 (wantB x97 true).bnd fun b104 => (whenB b104 ((loadV 1 false x99 h73).bnd some) (some .undef)).bnd fun x103 =>
 (wantB x97 true).bnd fun b108 => (whenB b108 ((fieldAB x2 5).bnd some) (some .undef)).bnd fun x107 =>
 (wantB x97 true).bnd fun b112 => (whenB b112 ((loadV 1 false x107 h73).bnd some) (some .undef)).bnd fun x111 =>
 (wantB x97 true).bnd fun b116 => (whenB b116 ((binOp .eql x103 x111).bnd some) (some .undef)).bnd fun x115 =>
 (condB x97 (some x115) (some (.bool false))).bnd fun x119 =>
 finV false false (size h) [x119] h73 := (Pt_enter T_16 base _ h).trans (by kernel_rfl)
noncomputable def P17_0 (base n0 : Nat) (v4 v0 v10 : PV) (h : Hp) : Option (PV × Hp) := Pt T F17 [1, 1, 0, 1, 0, 1] base n0 [(4, v4), (0, v0), (10, v10)] h
theorem P17_0_eq (base n0 : Nat) (v4 v0 v10 : PV) (h : Hp) : P17_0 base n0 v4 v0 v10 h =
 bnd2 (nextB v10 h) fun x0 h1 =>
 (extractB x0 0).bnd fun x2 =>
 condB x2 (
 (extractB x0 1).bnd fun x3 =>
 (extractB x0 2).bnd fun x4 =>
 (sliceV none (some x3) none none v0).bnd fun x9 =>
 bnd2 (CallA T base 30 [x9] h1) fun x10 h11 =>
 (extractB x10 0).bnd fun x13 =>
 (extractB x10 1).bnd fun x14 =>
 (binOp .eql x4 (.int .i32 65533)).bnd fun x18 =>
 (wantB x18 true).bnd fun b21 => (whenB b21 (some x14) (some .undef)).bnd fun x20 =>
 (wantB x18 true).bnd fun b25 => (whenB b25 ((binOp .eql x20 (.int .i64 1)).bnd some) (some .undef)).bnd fun x24 =>
 (condB x18 (some x24) (some (.bool false))).bnd fun x28 =>
 (wantB x28 false).bnd fun b31 => (whenB b31 (some x4) (some .undef)).bnd fun x30 =>
 (wantB x28 false).bnd fun b35 => (whenB b35 ((binOp .lss x30 (.int .i32 32)).bnd some) (some .undef)).bnd fun x34 =>
 (condB x28 (some (.bool true)) (some x34)).bnd fun x38 =>
 (wantB x38 false).bnd fun b41 => (whenB b41 (some x4) (some .undef)).bnd fun x40 =>
 (wantB x38 false).bnd fun b45 => (whenB b45 ((binOp .eql x40 (.int .i32 127)).bnd some) (some .undef)).bnd fun x44 =>
 (condB x38 (some (.bool true)) (some x44)).bnd fun x48 =>
 condB x48 (
 finV false false n0 [(.int .i64 0), (.bool false)] h11) (
 (binOp .add v4 (.int .i64 1)).bnd fun x52 =>
 P17_0 base n0 x52 v0 v10 h11)) (
 finV false false n0 [v4, (.bool true)] h1) := (Pt_eq T F17 [1, 1, 0, 1, 0, 1] base n0 [(4, v4), (0, v0), (10, v10)] h).trans (by kernel_rfl)
theorem S17 (base : Nat) (a0 : PV) (h : Hp) : CallA T base 17 [a0] h =
 bnd2 (rangeB a0 h) fun x4 h5 =>
 P17_0 (size h) (size h) (.int .i64 0) a0 x4 h5 := (Pt_enter T_17 base _ h).trans (by kernel_rfl)
noncomputable def P18_0 (base n0 : Nat) (v4 v0 : PV) (h : Hp) : Option (PV × Hp) := Pt T F18 [1, 1, 0, 0, 1] base n0 [(4, v4), (0, v0)] h
theorem P18_0_eq (base n0 : Nat) (v4 v0 : PV) (h : Hp) : P18_0 base n0 v4 v0 h =
 (lenB true v0).bnd fun x1 =>
 (binOp .gtr x1 (.int .i64 0)).bnd fun x2 =>
 condB x2 (
 bnd2 (CallA T base 31 [v0] h) fun x4 h5 =>
 (extractB x4 0).bnd fun x7 =>
 (extractB x4 1).bnd fun x8 =>
 (binOp .eql x7 (.int .i64 0)).bnd fun x12 =>
 (wantB x12 false).bnd fun b15 => (whenB b15 (some x8) (some .undef)).bnd fun x14 =>
 (wantB x12 false).bnd fun b19 => (whenB b19 ((binOp .lss x14 (.int .i64 32)).bnd some) (some .undef)).bnd fun x18 =>
 (condB x12 (some (.bool true)) (some x18)).bnd fun x22 =>
 (wantB x22 false).bnd fun b25 => (whenB b25 (some x8) (some .undef)).bnd fun x24 =>
 (wantB x22 false).bnd fun b29 => (whenB b29 ((binOp .eql x24 (.int .i64 127)).bnd some) (some .undef)).bnd fun x28 =>
 (condB x22 (some (.bool true)) (some x28)).bnd fun x32 =>
 condB x32 (
 finV false false n0 [(.int .i64 0), (.bool false)] h5) (
 (sliceV none (some x7) none none v0).bnd fun x37 =>
 (binOp .add v4 (.int .i64 1)).bnd fun x40 =>
 P18_0 base n0 x40 x37 h5)) (
 finV false false n0 [v4, (.bool true)] h) := (Pt_eq T F18 [1, 1, 0, 0, 1] base n0 [(4, v4), (0, v0)] h).trans (by kernel_rfl)
theorem S18 (base : Nat) (a0 : PV) (h : Hp) : CallA T base 18 [a0] h =
 P18_0 (size h) (size h) (.int .i64 0) a0 h := (Pt_enter T_18 base _ h).trans (by kernel_rfl)
noncomputable def P19_0 (base n0 : Nat) (v5 v1 v0 : PV) (h : Hp) : Option (PV × Hp) := Pt T F19 [1, 1, 0, 1, 0, 1] base n0 [(5, v5), (1, v1), (0, v0)] h
theorem P19_0_eq (base n0 : Nat) (v5 v1 v0 : PV) (h : Hp) : P19_0 base n0 v5 v1 v0 h =
 (lenB false v0).bnd fun x2 =>
 (binOp .lss v5 x2).bnd fun x3 =>
 condB x3 (
 (idxAB v0 v5 1).bnd fun x6 =>
 (loadV 1 false x6 h).bnd fun x7 =>
 (idxAB v1 v5 1).bnd fun x10 =>
 (loadV 1 false x10 h).bnd fun x11 =>
 (binOp .neq x7 x11).bnd fun x12 =>
 condB x12 (
 finV false false n0 [(.bool false)] h) (
 (binOp .add v5 (.int .i64 1)).bnd fun x15 =>
 P19_0 base n0 x15 v1 v0 h)) (
 finV false false n0 [(.bool true)] h) := (Pt_eq T F19 [1, 1, 0, 1, 0, 1] base n0 [(5, v5), (1, v1), (0, v0)] h).trans (by kernel_rfl)
theorem S19 (base : Nat) (a0 a1 : PV) (h : Hp) : CallA T base 19 [a0, a1] h =
 (lenB false a0).bnd fun x2 =>
 (lenB false a1).bnd fun x4 =>
 (binOp .neq x2 x4).bnd fun x5 =>
 condB x5 (
 finV false false (size h) [(.bool false)] h) (
 P19_0 (size h) (size h) (.int .i64 0) a1 a0 h) := (Pt_enter T_19 base _ h).trans (by kernel_rfl)
theorem S20 (base : Nat) (a0 : PV) (h : Hp) : CallA T base 20 [a0] h =
 (binOp .geq a0 (.int .i64 1)).bnd fun x2 =>
 (wantB x2 true).bnd fun b5 => (whenB b5 (some a0) (some .undef)).bnd fun x4 =>
 (wantB x2 true).bnd fun b9 => (whenB b9 ((binOp .leq x4 (.int .i64 6)).bnd some) (some .undef)).bnd fun x8 =>
 (condB x2 (some x8) (some (.bool false))).bnd fun x12 =>
 finV false false (size h) [x12] h := (Pt_enter T_20 base _ h).trans (by kernel_rfl)
noncomputable def P21_0 (base n0 : Nat) (v0 v3 : PV) (h : Hp) : Option (PV × Hp) := Pt T F21 [1, 1, 0, 0, 1] base n0 [(0, v0), (3, v3)] h
noncomputable def P21_1 (base n0 : Nat) (v14 v0 v4 v5 v3 : PV) (h : Hp) : Option (PV × Hp) := Pt T F21 [1, 1, 0, 0, 1, 0, 0, 1, 0, 1, 1, 0, 1, 0, 1] base n0 [(14, v14), (0, v0), (4, v4), (5, v5), (3, v3)] h
noncomputable def P21_2 (base n0 : Nat) (v30 v3 v5 v4 v0 : PV) (h : Hp) : Option (PV × Hp) := Pt T F21 [1, 1, 0, 0, 1, 0, 0, 1, 0, 1, 1, 1, 0, 1, 0, 1] base n0 [(30, v30), (3, v3), (5, v5), (4, v4), (0, v0)] h
theorem P21_0_eq (base n0 : Nat) (v0 v3 : PV) (h : Hp) : P21_0 base n0 v0 v3 h =
 (lenB false v0).bnd fun x1 =>
 (binOp .gtr x1 (.int .i64 0)).bnd fun x2 =>
 condB x2 (
 (lenB false v0).bnd fun x4 =>
 (minmaxV false [x4, (.int .i64 3)]).bnd fun x5 =>
 P21_1 base n0 (.int .i64 0) v0 x5 (.int .u32 0) v3 h) (
 bnd2 (CallA T base 33 [v3] h) fun x9 h10 =>
 finV false false n0 [x9] h10) := (Pt_eq T F21 [1, 1, 0, 0, 1] base n0 [(0, v0), (3, v3)] h).trans (by kernel_rfl)
theorem P21_1_eq (base n0 : Nat) (v14 v0 v4 v5 v3 : PV) (h : Hp) : P21_1 base n0 v14 v0 v4 v5 v3 h =
 (binOp .lss v14 (.int .i64 3)).bnd fun x0 =>
 condB x0 (
 (binOp .shl v5 (.int .u64 8)).bnd fun x4 =>
 (binOp .lss v14 v4).bnd fun x8 =>
 condB x8 (
 (idxAB v0 v14 1).bnd fun x12 =>
 (loadV 1 false x12 h).bnd fun x13 =>
 (toIntB x13 .u32).bnd fun x14 =>
 (binOp .or x4 x14).bnd fun x15 =>
 (binOp .add v14 (.int .i64 1)).bnd fun x17 =>
 P21_1 base n0 x17 v0 v4 x15 v3 h) (
 (binOp .add v14 (.int .i64 1)).bnd fun x19 =>
 P21_1 base n0 x19 v0 v4 x4 v3 h)) (
 P21_2 base n0 (.int .i64 0) v3 v5 v4 v0 h) := (Pt_eq T F21 [1, 1, 0, 0, 1, 0, 0, 1, 0, 1, 1, 0, 1, 0, 1] base n0 [(14, v14), (0, v0), (4, v4), (5, v5), (3, v3)] h).trans (by kernel_rfl)
theorem P21_2_eq (base n0 : Nat) (v30 v3 v5 v4 v0 : PV) (h : Hp) : P21_2 base n0 v30 v3 v5 v4 v0 h =
 (binOp .lss v30 (.int .i64 4)).bnd fun x0 =>
 condB x0 (
 (binOp .gtr v30 v4).bnd fun x5 =>
 condB x5 (
 bnd2 (CallA T base 32 [v3, (.int .u8 61)] h) fun x6 h7 =>
 (binOp .add v30 (.int .i64 1)).bnd fun x8 =>
 P21_2 base n0 x8 v3 v5 v4 v0 h7) (
 (binOp .mul (.int .i64 6) v30).bnd fun x12 =>
 (binOp .sub (.int .i64 18) x12).bnd fun x13 =>
 (binOp .shr v5 x13).bnd fun x14 =>
 (binOp .and x14 (.int .u32 63)).bnd fun x15 =>
 (idxStrB (.str [65, 66, 67, 68, 69, 70, 71, 72, 73, 74, 75, 76, 77, 78, 79, 80, 81, 82, 83, 84, 85, 86, 87, 88, 89, 90, 97, 98, 99, 100, 101, 102, 103, 104, 105, 106, 107, 108, 109, 110, 111, 112, 113, 114, 115, 116, 117, 118, 119, 120, 121, 122, 48, 49, 50, 51, 52, 53, 54, 55, 56, 57, 43, 47]) x15).bnd fun x16 =>
 bnd2 (CallA T base 32 [v3, x16] h) fun x17 h18 =>
 (binOp .add v30 (.int .i64 1)).bnd fun x19 =>
 P21_2 base n0 x19 v3 v5 v4 v0 h18)) (
 (sliceV (some 1) (some v4) none none v0).bnd fun x23 =>
 P21_0 base n0 x23 v3 h) := (Pt_eq T F21 [1, 1, 0, 0, 1, 0, 0, 1, 0, 1, 1, 1, 0, 1, 0, 1] base n0 [(30, v30), (3, v3), (5, v5), (4, v4), (0, v0)] h).trans (by kernel_rfl)
theorem S21 (base : Nat) (a0 : PV) (h : Hp) : CallA T base 21 [a0] h =
 allocK [(.bnil 62), .nils] h fun x1 h2 =>
 P21_0 (size h) (size h) a0 x1 h2 := (Pt_enter T_21 base _ h).trans (by kernel_rfl)
noncomputable def P24_0 (base n0 : Nat) (v3 v6 v5 v0 v4 : PV) (h : Hp) : Option (PV × Hp) := Pt T F24 [1, 1, 1, 0, 1, 0, 1] base n0 [(3, v3), (6, v6), (5, v5), (0, v0), (4, v4)] h
noncomputable def P24_1 (base n0 : Nat) (v4 v3 v5 v0 v6 : PV) (h : Hp) : Option (PV × Hp) := Pt T F24 [1, 1, 1, 0, 1, 0, 1, 0, 0, 1, 0, 0, 1, 1, 0, 0, 1] base n0 [(4, v4), (3, v3), (5, v5), (0, v0), (6, v6)] h
noncomputable def P24_2 (base n0 : Nat) (v3 : PV) (h : Hp) : Option (PV × Hp) := Pt T F24 [1, 1, 1, 1, 1, 1] base n0 [(3, v3)] h
noncomputable def P24_3 (base n0 : Nat) (v3 : PV) (h : Hp) : Option (PV × Hp) := Pt T F24 [1, 1, 1, 1, 1, 1, 0, 0, 1] base n0 [(3, v3)] h
theorem P24_0_eq (base n0 : Nat) (v3 v6 v5 v0 v4 : PV) (h : Hp) : P24_0 base n0 v3 v6 v5 v0 v4 h =
 (lenB false v0).bnd fun x2 =>
 (binOp .lss v6 x2).bnd fun x3 =>
 condB x3 (
 (binOp .mul v4 (.int .i64 256)).bnd fun x5 =>
 (idxAB v0 v6 1).bnd fun x8 =>
 (loadV 1 false x8 h).bnd fun x9 =>
 (toIntB x9 .i64).bnd fun x10 =>
 (binOp .add x5 x10).bnd fun x11 =>
 (binOp .add v5 (.int .i64 8)).bnd fun x14 =>
 P24_1 base n0 x11 v3 x14 v0 v6 h) (
 (binOp .gtr v5 (.int .i64 0)).bnd fun x17 =>
 condB x17 (
 (binOp .sub (.int .i64 6) v5).bnd fun x21 =>
 (binOp .shl v4 x21).bnd fun x22 =>
 (binOp .and x22 (.int .i64 63)).bnd fun x23 =>
 bnd2 (CallA T base 36 [x23] h) fun x24 h25 =>
 (buildSlV 1 false [(.int .u8 0)] 1 [(0, strip x24)]).bnd fun x26 =>
 bnd2 (appTV 5 1 v3 x26 h25) fun x27 h28 =>
 P24_2 base n0 x27 h28) (
 P24_2 base n0 v3 h)) := (Pt_eq T F24 [1, 1, 1, 0, 1, 0, 1] base n0 [(3, v3), (6, v6), (5, v5), (0, v0), (4, v4)] h).trans (by kernel_rfl)
theorem P24_1_eq (base n0 : Nat) (v4 v3 v5 v0 v6 : PV) (h : Hp) : P24_1 base n0 v4 v3 v5 v0 v6 h =
 (binOp .geq v5 (.int .i64 6)).bnd fun x1 =>
 condB x1 (
 (binOp .sub v5 (.int .i64 6)).bnd fun x3 =>
 (binOp .shr v4 x3).bnd fun x8 =>
 (binOp .and x8 (.int .i64 63)).bnd fun x9 =>
 bnd2 (CallA T base 36 [x9] h) fun x10 h11 =>
 (buildSlV 1 false [(.int .u8 0)] 1 [(0, strip x10)]).bnd fun x12 =>
 bnd2 (appTV 5 1 v3 x12 h11) fun x13 h14 =>
 P24_1 base n0 v4 x13 x3 v0 v6 h14) (
 (binOp .and v4 (.int .i64 63)).bnd fun x17 =>
 (binOp .add v6 (.int .i64 1)).bnd fun x20 =>
 P24_0 base n0 v3 x20 v5 v0 x17 h) := (Pt_eq T F24 [1, 1, 1, 0, 1, 0, 1, 0, 0, 1, 0, 0, 1, 1, 0, 0, 1] base n0 [(4, v4), (3, v3), (5, v5), (0, v0), (6, v6)] h).trans (by kernel_rfl)
theorem P24_2_eq (base n0 : Nat) (v3 : PV) (h : Hp) : P24_2 base n0 v3 h =
 P24_3 base n0 v3 h := (Pt_eq T F24 [1, 1, 1, 1, 1, 1] base n0 [(3, v3)] h).trans (by kernel_rfl)
theorem P24_3_eq (base n0 : Nat) (v3 : PV) (h : Hp) : P24_3 base n0 v3 h =
 (lenB false v3).bnd fun x1 =>
 (binOp .rem x1 (.int .i64 4)).bnd fun x2 =>
 (binOp .neq x2 (.int .i64 0)).bnd fun x3 =>
 condB x3 (
 (buildSlV 1 false [(.int .u8 0)] 1 [(0, strip (.int .u8 61))]).bnd fun x5 =>
 bnd2 (appTV 5 1 v3 x5 h) fun x6 h7 =>
 P24_3 base n0 x6 h7) (
 (bytesStrB h v3).bnd fun x10 =>
 finV false false n0 [x10] h) := (Pt_eq T F24 [1, 1, 1, 1, 1, 1, 0, 0, 1] base n0 [(3, v3)] h).trans (by kernel_rfl)
theorem S24 (base : Nat) (a0 : PV) (h : Hp) : CallA T base 24 [a0] h =
 (buildSlV 1 false [(.int .u8 0)] 0 []).bnd fun x1 =>
 P24_0 (size h) (size h) x1 (.int .i64 0) (.int .i64 0) a0 (.int .i64 0) h := (Pt_enter T_24 base _ h).trans (by kernel_rfl)
theorem S25 (base : Nat) (a0 : PV) (h : Hp) : CallA T base 25 [a0] h =
 bnd2 (boxV 6 a0 h) fun x0 h1 =>
 (loadV 6 true x0 h1).bnd fun x3 =>
 bnd2 (CallA T (size h) 37 [x3] h1) fun x4 h5 =>
 allocK [(.int .i64 0), (.int .i64 0), (.str []), .nils, (.int .i64 0), (.int .i64 0)] h5 fun x6 h7 =>
 (storeV (size h) 6 x6 x4 h7).bnd fun h8 =>
 (fieldAB x6 1).bnd fun x9 =>
 (loadV 1 false x9 h8).bnd fun x10 =>
 (fieldAB x0 1).bnd fun x11 =>
 (loadV 1 false x11 h8).bnd fun x12 =>
 (binOp .neq x10 x12).bnd fun x13 =>
 (wantB x13 false).bnd fun b16 => (whenB b16 ((fieldAB x6 2).bnd some) (some .undef)).bnd fun x15 =>
 (wantB x13 false).bnd fun b20 => (whenB b20 ((loadV 1 false x15 h8).bnd some) (some .undef)).bnd fun x19 =>
 (wantB x13 false).bnd fun b24 => (whenB b24 ((fieldAB x0 2).bnd some) (some .undef)).bnd fun x23 =>
 (wantB x13 false).bnd fun b28 => (whenB b28 ((loadV 1 false x23 h8).bnd some) (some .undef)).bnd fun x27 =>
 (wantB x13 false).bnd fun b32 => (whenB b32 ((binOp .neq x19 x27).bnd some) (some .undef)).bnd fun x31 =>
 (condB x13 (some (.bool true)) (some x31)).bnd fun x35 =>
 (wantB x35 false).bnd fun b38 => (whenB b38 ((fieldAB x6 3).bnd some) (some .undef)).bnd fun x37 =>
 (wantB x35 false).bnd fun b42 => (whenB b42 ((loadV 1 false x37 h8).bnd some) (some .undef)).bnd fun x41 =>
 (wantB x35 false).bnd fun b46 => (whenB b46 ((lenB false x41).bnd some) (some .undef)).bnd fun x45 =>
 (wantB x35 false).bnd fun b50 => (whenB b50 ((fieldAB x0 3).bnd some) (some .undef)).bnd fun x49 =>
 (wantB x35 false).bnd fun b54 => (whenB b54 ((loadV 1 false x49 h8).bnd some) (some .undef)).bnd fun x53 =>
 (wantB x35 false).bnd fun b58 => (whenB b58 ((lenB false x53).bnd some) (some .undef)).bnd fun x57 =>
 (wantB x35 false).bnd fun b62 => (whenB b62 ((binOp .neq x45 x57).bnd some) (some .undef)).bnd fun x61 =>
 (condB x35 (some (.bool true)) (some x61)).bnd fun x65 =>
 (wantB x65 false).bnd fun b68 => (whenB b68 ((fieldAB x6 4).bnd some) (some .undef)).bnd fun x67 =>
 (wantB x65 false).bnd fun b72 => (whenB b72 ((loadV 1 false x67 h8).bnd some) (some .undef)).bnd fun x71 =>
 (wantB x65 false).bnd fun b76 => (whenB b76 ((fieldAB x0 4).bnd some) (some .undef)).bnd fun x75 =>
 (wantB x65 false).bnd fun b80 => (whenB b80 ((loadV 1 false x75 h8).bnd some) (some .undef)).bnd fun x79 =>
 (wantB x65 false).bnd fun b84 => (whenB b84 ((binOp .neq x71 x79).bnd some) (some .undef)).bnd fun x83 =>
 (condB x65 (some (.bool true)) (some x83)).bnd fun x87 =>
 (wantB x87 false).bnd fun b90 => (whenB b90 ((fieldAB x6 5).bnd some) (some .undef)).bnd fun x89 =>
 (wantB x87 false).bnd fun b94 => (whenB b94 ((loadV 1 false x89 h8).bnd some) (some .undef)).bnd fun x93 =>
 (wantB x87 false).bnd fun b98 => (whenB b98 ((fieldAB x0 5).bnd some) (some .undef)).bnd fun x97 =>
 (wantB x87 false).bnd fun b102 => (whenB b102 ((loadV 1 false x97 h8).bnd some) (some .undef)).bnd fun x101 =>
 (wantB x87 false).bnd fun b106 => (whenB b106 ((binOp .neq x93 x101).bnd some) (some .undef)).bnd fun x105 =>
 (condB x87 (some (.bool true)) (some x105)).bnd fun x109 =>
 finV false false (size h) [x109] h8 := (Pt_enter T_25 base _ h).trans (by kernel_rfl)
theorem S26 (base : Nat) (a0 : PV) (h : Hp) : CallA T base 26 [a0] h =
 (binOp .geq a0 (.int .i64 0)).bnd fun x2 =>
 (wantB x2 true).bnd fun b5 => (whenB b5 (some a0) (some .undef)).bnd fun x4 =>
 (wantB x2 true).bnd fun b9 => (whenB b9 ((binOp .leq x4 (.int .i64 65535)).bnd some) (some .undef)).bnd fun x8 =>
 (condB x2 (some x8) (some (.bool false))).bnd fun x12 =>
 finV false false (size h) [x12] h := (Pt_enter T_26 base _ h).trans (by kernel_rfl)
theorem S27 (base : Nat) (a0 a1 : PV) (h : Hp) : CallA T base 27 [a0, a1] h =
 allocK [(.int .i64 0), (.int .i64 0), (.str []), .nils, (.int .i64 0), (.int .i64 0)] h fun x0 h1 =>
 (binOp .eql a0 (.int .i64 3)).bnd fun x4 =>
 condB x4 (
 bnd2 (CallA T (size h) 17 [a1] h1) fun x7 h8 =>
 (extractB x7 0).bnd fun x10 =>
 (extractB x7 1).bnd fun x11 =>
 (buildV [(.int .i64 0), (.int .i64 0), (.str []), .nils, (.int .i64 0), (.int .i64 0)] [(0, 1, a0), (2, 1, a1)]).bnd fun x16 =>
 (storeV (size h) 6 x0 x16 h8).bnd fun h18 =>
 (resB x0 h18 6 true).bnd fun r20 =>
 finV false false (size h) [r20, x11] h18) (
 (binOp .eql a0 (.int .i64 4)).bnd fun x21 =>
 condB x21 (
 bnd2 (CallA T (size h) 38 [a1] h1) fun x24 h25 =>
 (extractB x24 0).bnd fun x27 =>
 (extractB x24 1).bnd fun x28 =>
 (buildV [(.int .i64 0), (.int .i64 0), (.str []), .nils, (.int .i64 0), (.int .i64 0)] [(0, 1, a0), (3, 1, x27)]).bnd fun x33 =>
 (storeV (size h) 6 x0 x33 h25).bnd fun h35 =>
 (resB x0 h35 6 true).bnd fun r37 =>
 finV false false (size h) [r37, x28] h35) (
 (binOp .eql a0 (.int .i64 6)).bnd fun x38 =>
 condB x38 (
 bnd2 (CallA T (size h) 39 [a1] h1) fun x41 h42 =>
 (extractB x41 0).bnd fun x43 =>
 (extractB x41 1).bnd fun x44 =>
 (storeV (size h) 6 x0 x43 h42).bnd fun h45 =>
 (resB x0 h45 6 true).bnd fun r47 =>
 finV false false (size h) [r47, x44] h45) (
 bnd2 (CallA T (size h) 40 [a1] h1) fun x49 h50 =>
 (extractB x49 0).bnd fun x52 =>
 (extractB x49 1).bnd fun x53 =>
 (buildV [(.int .i64 0), (.int .i64 0), (.str []), .nils, (.int .i64 0), (.int .i64 0)] [(0, 1, a0), (1, 1, x52)]).bnd fun x58 =>
 (wantB x53 true).bnd fun b62 => (whenB b62 (some a0) (some .undef)).bnd fun x61 =>
 (wantB x53 true).bnd fun b66 => (whenB b66 ((binOp .neq x61 (.int .i64 2)).bnd some) (some .undef)).bnd fun x65 =>
 (wantB x53 true).bnd fun b70 => (whenB b70 (some x65) (some .undef)).bnd fun x69 =>
 (wantB x69 false).bnd fun b74 => (whenB b74 (some x52) (some .undef)).bnd fun x73 =>
 (wantB x69 false).bnd fun b78 => (whenB b78 ((binOp .eql x73 (.int .i64 0)).bnd some) (some .undef)).bnd fun x77 =>
 (wantB x53 true).bnd fun b82 => (whenB b82 ((condB x69 (some (.bool true)) (some x77)).bnd some) (some .undef)).bnd fun x81 =>
 (wantB x53 true).bnd fun b86 => (whenB b86 (some x81) (some .undef)).bnd fun x85 =>
 (wantB x85 false).bnd fun b90 => (whenB b90 (some x52) (some .undef)).bnd fun x89 =>
 (wantB x85 false).bnd fun b94 => (whenB b94 ((binOp .eql x89 (.int .i64 1)).bnd some) (some .undef)).bnd fun x93 =>
 (wantB x53 true).bnd fun b98 => (whenB b98 ((condB x85 (some (.bool true)) (some x93)).bnd some) (some .undef)).bnd fun x97 =>
 (condB x53 (some x97) (some (.bool false))).bnd fun x101 =>
 (storeV (size h) 6 x0 x58 h50).bnd fun h102 =>
 (resB x0 h102 6 true).bnd fun r104 =>
 finV false false (size h) [r104, x101] h102))) := (Pt_enter T_27 base _ h).trans (by kernel_rfl)
noncomputable def P28_0 (base n0 : Nat) (v5 v4 : PV) (h : Hp) : Option (PV × Hp) := Pt T F28 [1, 1, 1, 1, 1, 1] base n0 [(5, v5), (4, v4)] h
noncomputable def P28_1 (base n0 : Nat) (v7 v5 v6 v4 : PV) (h : Hp) : Option (PV × Hp) := Pt T F28 [1, 1, 1, 1, 1, 1, 1, 1, 0, 1, 0, 1] base n0 [(7, v7), (5, v5), (6, v6), (4, v4)] h
theorem P28_0_eq (base n0 : Nat) (v5 v4 : PV) (h : Hp) : P28_0 base n0 v5 v4 h =
 (lenB true v5).bnd fun x1 =>
 (binOp .eql x1 (.int .i64 0)).bnd fun x2 =>
 (wantB x2 false).bnd fun b5 => (whenB b5 (some v5) (some .undef)).bnd fun x4 =>
 (wantB x2 false).bnd fun b9 => (whenB b9 ((lenB true x4).bnd some) (some .undef)).bnd fun x8 =>
 (wantB x2 false).bnd fun b13 => (whenB b13 ((binOp .gtr x8 (.int .i64 19)).bnd some) (some .undef)).bnd fun x12 =>
 (condB x2 (some (.bool true)) (some x12)).bnd fun x16 =>
 (wantB x16 false).bnd fun b19 => (whenB b19 (some v5) (some .undef)).bnd fun x18 =>
 (wantB x16 false).bnd fun b23 => (whenB b23 ((idxStrB x18 (.int .i64 0)).bnd some) (some .undef)).bnd fun x22 =>
 (wantB x16 false).bnd fun b27 => (whenB b27 ((binOp .eql x22 (.int .u8 48)).bnd some) (some .undef)).bnd fun x26 =>
 (wantB x16 false).bnd fun b31 => (whenB b31 (some x26) (some .undef)).bnd fun x30 =>
 (wantB x30 true).bnd fun b35 => (whenB b35 (some v5) (some .undef)).bnd fun x34 =>
 (wantB x30 true).bnd fun b39 => (whenB b39 ((lenB true x34).bnd some) (some .undef)).bnd fun x38 =>
 (wantB x30 true).bnd fun b43 => (whenB b43 ((binOp .gtr x38 (.int .i64 1)).bnd some) (some .undef)).bnd fun x42 =>
 (wantB x30 true).bnd fun b47 => (whenB b47 (some x42) (some .undef)).bnd fun x46 =>
 (wantB x46 false).bnd fun b51 => (whenB b51 (some v4) (some .undef)).bnd fun x50 =>
 (wantB x30 true).bnd fun b55 => (whenB b55 ((condB x46 (some (.bool true)) (some x50)).bnd some) (some .undef)).bnd fun x54 =>
 (wantB x16 false).bnd fun b59 => (whenB b59 ((condB x30 (some x54) (some (.bool false))).bnd some) (some .undef)).bnd fun x58 =>
 (condB x16 (some (.bool true)) (some x58)).bnd fun x62 =>
 condB x62 (
 finV false false n0 [(.int .i64 0), (.bool false)] h) (
 P28_1 base n0 (.int .i64 0) v5 (.int .u64 0) v4 h) := (Pt_eq T F28 [1, 1, 1, 1, 1, 1] base n0 [(5, v5), (4, v4)] h).trans (by kernel_rfl)
theorem P28_1_eq (base n0 : Nat) (v7 v5 v6 v4 : PV) (h : Hp) : P28_1 base n0 v7 v5 v6 v4 h =
 (lenB true v5).bnd fun x2 =>
 (binOp .lss v7 x2).bnd fun x3 =>
 condB x3 (
 (idxStrB v5 v7).bnd fun x6 =>
 (binOp .lss x6 (.int .u8 48)).bnd fun x7 =>
 (wantB x7 false).bnd fun b10 => (whenB b10 (some v5) (some .undef)).bnd fun x9 =>
 (wantB x7 false).bnd fun b14 => (whenB b14 (some v7) (some .undef)).bnd fun x13 =>
 (wantB x7 false).bnd fun b18 => (whenB b18 ((idxStrB x9 x13).bnd some) (some .undef)).bnd fun x17 =>
 (wantB x7 false).bnd fun b22 => (whenB b22 ((binOp .gtr x17 (.int .u8 57)).bnd some) (some .undef)).bnd fun x21 =>
 (condB x7 (some (.bool true)) (some x21)).bnd fun x25 =>
 condB x25 (
 finV false false n0 [(.int .i64 0), (.bool false)] h) (
 (binOp .mul v6 (.int .u64 10)).bnd fun x29 =>
 (idxStrB v5 v7).bnd fun x32 =>
 (binOp .sub x32 (.int .u8 48)).bnd fun x33 =>
 (toIntB x33 .u64).bnd fun x34 =>
 (binOp .add x29 x34).bnd fun x35 =>
 (binOp .add v7 (.int .i64 1)).bnd fun x38 =>
 P28_1 base n0 x38 v5 x35 v4 h)) (
 (binOp .gtr v6 (.int .u64 9223372036854775807)).bnd fun x41 =>
 condB x41 (
 finV false false n0 [(.int .i64 0), (.bool false)] h) (
 condB v4 (
 (toIntB v6 .i64).bnd fun x46 =>
 (binOp .sub (.int .i64 0) x46).bnd fun x47 =>
 finV false false n0 [x47, (.bool true)] h) (
 (toIntB v6 .i64).bnd fun x51 =>
 finV false false n0 [x51, (.bool true)] h))) := (Pt_eq T F28 [1, 1, 1, 1, 1, 1, 1, 1, 0, 1, 0, 1] base n0 [(7, v7), (5, v5), (6, v6), (4, v4)] h).trans (by kernel_rfl)
theorem S28 (base : Nat) (a0 : PV) (h : Hp) : CallA T base 28 [a0] h =
 (binOp .eql a0 (.str [45, 57, 50, 50, 51, 51, 55, 50, 48, 51, 54, 56, 53, 52, 55, 55, 53, 56, 48, 56])).bnd fun x3 =>
 condB x3 (
 finV false false (size h) [(.int .i64 (-9223372036854775808)), (.bool true)] h) (
 (lenB true a0).bnd fun x7 =>
 (binOp .gtr x7 (.int .i64 0)).bnd fun x8 =>
 (wantB x8 true).bnd fun b11 => (whenB b11 (some a0) (some .undef)).bnd fun x10 =>
 (wantB x8 true).bnd fun b15 => (whenB b15 ((idxStrB x10 (.int .i64 0)).bnd some) (some .undef)).bnd fun x14 =>
 (wantB x8 true).bnd fun b19 => (whenB b19 ((binOp .eql x14 (.int .u8 45)).bnd some) (some .undef)).bnd fun x18 =>
 (condB x8 (some x18) (some (.bool false))).bnd fun x22 =>
 condB x22 (
 (sliceV none (some (.int .i64 1)) none none a0).bnd fun x28 =>
 P28_0 (size h) (size h) x28 x22 h) (
 P28_0 (size h) (size h) a0 x22 h)) := (Pt_enter T_28 base _ h).trans (by kernel_rfl)
noncomputable def P29_0 (base n0 : Nat) (v7 v4 v6 v5 v0 : PV) (h : Hp) : Option (PV × Hp) := Pt T F29 [1, 1, 1, 0, 1, 0, 1] base n0 [(7, v7), (4, v4), (6, v6), (5, v5), (0, v0)] h
theorem P29_0_eq (base n0 : Nat) (v7 v4 v6 v5 v0 : PV) (h : Hp) : P29_0 base n0 v7 v4 v6 v5 v0 h =
 (lenB true v0).bnd fun x2 =>
 (binOp .lss v7 x2).bnd fun x3 =>
 (wantB x3 true).bnd fun b6 => (whenB b6 (some v0) (some .undef)).bnd fun x5 =>
 (wantB x3 true).bnd fun b10 => (whenB b10 (some v7) (some .undef)).bnd fun x9 =>
 (wantB x3 true).bnd fun b14 => (whenB b14 ((idxStrB x5 x9).bnd some) (some .undef)).bnd fun x13 =>
 (wantB x3 true).bnd fun b18 => (whenB b18 ((binOp .neq x13 (.int .u8 61)).bnd some) (some .undef)).bnd fun x17 =>
 (condB x3 (some x17) (some (.bool false))).bnd fun x21 =>
 condB x21 (
 (idxStrB v0 v7).bnd fun x24 =>
 bnd2 (CallA T base 41 [x24] h) fun x25 h26 =>
 (binOp .lss x25 (.int .i64 0)).bnd fun x29 =>
 condB x29 (
 finV false false n0 [.nils, (.bool false)] h26) (
 (binOp .mul v5 (.int .i64 64)).bnd fun x33 =>
 (binOp .add x33 x25).bnd fun x35 =>
 (binOp .and x35 (.int .i64 4095)).bnd fun x36 =>
 (binOp .add v6 (.int .i64 6)).bnd fun x39 =>
 (binOp .geq x39 (.int .i64 8)).bnd fun x42 =>
 condB x42 (
 (binOp .sub x39 (.int .i64 8)).bnd fun x44 =>
 (binOp .shr x36 x44).bnd fun x49 =>
 (toIntB x49 .u8).bnd fun x50 =>
 (buildSlV 1 false [(.int .u8 0)] 1 [(0, strip x50)]).bnd fun x51 =>
 bnd2 (appTV 5 1 v4 x51 h26) fun x52 h53 =>
 (binOp .add v7 (.int .i64 1)).bnd fun x56 =>
 P29_0 base n0 x56 x52 x44 x36 v0 h53) (
 (binOp .add v7 (.int .i64 1)).bnd fun x59 =>
 P29_0 base n0 x59 v4 x39 x36 v0 h26))) (
 bnd2 (CallA T base 24 [v4] h) fun x62 h63 =>
 (binOp .neq x62 v0).bnd fun x65 =>
 condB x65 (
 finV false false n0 [.nils, (.bool false)] h63) (
 finV false false n0 [v4, (.bool true)] h63)) := (Pt_eq T F29 [1, 1, 1, 0, 1, 0, 1] base n0 [(7, v7), (4, v4), (6, v6), (5, v5), (0, v0)] h).trans (by kernel_rfl)
theorem S29 (base : Nat) (a0 : PV) (h : Hp) : CallA T base 29 [a0] h =
 (buildSlV 1 false [(.int .u8 0)] 0 []).bnd fun x2 =>
 P29_0 (size h) (size h) (.int .i64 0) x2 (.int .i64 0) (.int .i64 0) a0 h := (Pt_enter T_29 base _ h).trans (by kernel_rfl)
noncomputable def P31_0 (base n0 : Nat) (v0 v4 v5 v6 : PV) (h : Hp) : Option (PV × Hp) := Pt T F31 [1, 1, 1, 1, 1] base n0 [(0, v0), (4, v4), (5, v5), (6, v6)] h
noncomputable def P31_1 (base n0 : Nat) (v7 v0 v4 v5 v6 : PV) (h : Hp) : Option (PV × Hp) := Pt T F31 [1, 1, 1, 1, 1, 1, 0, 1, 0, 1] base n0 [(7, v7), (0, v0), (4, v4), (5, v5), (6, v6)] h
theorem P31_0_eq (base n0 : Nat) (v0 v4 v5 v6 : PV) (h : Hp) : P31_0 base n0 v0 v4 v5 v6 h =
 (lenB true v0).bnd fun x1 =>
 (binOp .lss x1 v5).bnd fun x3 =>
 condB x3 (
 finV false false n0 [(.int .i64 0), (.int .i64 0)] h) (
 P31_1 base n0 (.int .i64 1) v0 v4 v5 v6 h) := (Pt_eq T F31 [1, 1, 1, 1, 1] base n0 [(0, v0), (4, v4), (5, v5), (6, v6)] h).trans (by kernel_rfl)
theorem P31_1_eq (base n0 : Nat) (v7 v0 v4 v5 v6 : PV) (h : Hp) : P31_1 base n0 v7 v0 v4 v5 v6 h =
 (binOp .lss v7 v5).bnd fun x2 =>
 condB x2 (
 (idxStrB v0 v7).bnd fun x5 =>
 (binOp .lss x5 (.int .u8 128)).bnd fun x6 =>
 (wantB x6 false).bnd fun b9 => (whenB b9 (some v0) (some .undef)).bnd fun x8 =>
 (wantB x6 false).bnd fun b13 => (whenB b13 (some v7) (some .undef)).bnd fun x12 =>
 (wantB x6 false).bnd fun b17 => (whenB b17 ((idxStrB x8 x12).bnd some) (some .undef)).bnd fun x16 =>
 (wantB x6 false).bnd fun b21 => (whenB b21 ((binOp .gtr x16 (.int .u8 191)).bnd some) (some .undef)).bnd fun x20 =>
 (condB x6 (some (.bool true)) (some x20)).bnd fun x24 =>
 condB x24 (
 finV false false n0 [(.int .i64 0), (.int .i64 0)] h) (
 (binOp .mul v4 (.int .i64 64)).bnd fun x28 =>
 (idxStrB v0 v7).bnd fun x31 =>
 (toIntB x31 .i64).bnd fun x32 =>
 (binOp .add x28 x32).bnd fun x33 =>
 (binOp .sub x33 (.int .i64 128)).bnd fun x34 =>
 (binOp .add v7 (.int .i64 1)).bnd fun x37 =>
 P31_1 base n0 x37 v0 x34 v5 v6 h)) (
 (binOp .lss v4 v6).bnd fun x41 =>
 (wantB x41 false).bnd fun b44 => (whenB b44 (some v4) (some .undef)).bnd fun x43 =>
 (wantB x41 false).bnd fun b48 => (whenB b48 ((binOp .gtr x43 (.int .i64 1114111)).bnd some) (some .undef)).bnd fun x47 =>
 (condB x41 (some (.bool true)) (some x47)).bnd fun x51 =>
 (wantB x51 false).bnd fun b54 => (whenB b54 (some v4) (some .undef)).bnd fun x53 =>
 (wantB x51 false).bnd fun b58 => (whenB b58 ((binOp .geq x53 (.int .i64 55296)).bnd some) (some .undef)).bnd fun x57 =>
 (wantB x51 false).bnd fun b62 => (whenB b62 (some x57) (some .undef)).bnd fun x61 =>
 (wantB x61 true).bnd fun b66 => (whenB b66 (some v4) (some .undef)).bnd fun x65 =>
 (wantB x61 true).bnd fun b70 => (whenB b70 ((binOp .lss x65 (.int .i64 57344)).bnd some) (some .undef)).bnd fun x69 =>
 (wantB x51 false).bnd fun b74 => (whenB b74 ((condB x61 (some x69) (some (.bool false))).bnd some) (some .undef)).bnd fun x73 =>
 (condB x51 (some (.bool true)) (some x73)).bnd fun x77 =>
 condB x77 (
 finV false false n0 [(.int .i64 0), (.int .i64 0)] h) (
 finV false false n0 [v5, v4] h)) := (Pt_eq T F31 [1, 1, 1, 1, 1, 1, 0, 1, 0, 1] base n0 [(7, v7), (0, v0), (4, v4), (5, v5), (6, v6)] h).trans (by kernel_rfl)
theorem S31 (base : Nat) (a0 : PV) (h : Hp) : CallA T base 31 [a0] h =
 (idxStrB a0 (.int .i64 0)).bnd fun x3 =>
 (toIntB x3 .i64).bnd fun x4 =>
 (binOp .lss x4 (.int .i64 128)).bnd fun x9 =>
 condB x9 (
 finV false false (size h) [(.int .i64 1), x4] h) (
 (binOp .geq x4 (.int .i64 194)).bnd fun x15 =>
 (wantB x15 true).bnd fun b18 => (whenB b18 (some x4) (some .undef)).bnd fun x17 =>
 (wantB x15 true).bnd fun b22 => (whenB b22 ((binOp .lss x17 (.int .i64 224)).bnd some) (some .undef)).bnd fun x21 =>
 (condB x15 (some x21) (some (.bool false))).bnd fun x25 =>
 condB x25 (
 (binOp .sub x4 (.int .i64 192)).bnd fun x28 =>
 P31_0 (size h) (size h) a0 x28 (.int .i64 2) (.int .i64 128) h) (
 (binOp .geq x4 (.int .i64 224)).bnd fun x33 =>
 (wantB x33 true).bnd fun b36 => (whenB b36 (some x4) (some .undef)).bnd fun x35 =>
 (wantB x33 true).bnd fun b40 => (whenB b40 ((binOp .lss x35 (.int .i64 240)).bnd some) (some .undef)).bnd fun x39 =>
 (condB x33 (some x39) (some (.bool false))).bnd fun x43 =>
 condB x43 (
 (binOp .sub x4 (.int .i64 224)).bnd fun x46 =>
 P31_0 (size h) (size h) a0 x46 (.int .i64 3) (.int .i64 2048) h) (
 (binOp .geq x4 (.int .i64 240)).bnd fun x51 =>
 (wantB x51 true).bnd fun b54 => (whenB b54 (some x4) (some .undef)).bnd fun x53 =>
 (wantB x51 true).bnd fun b58 => (whenB b58 ((binOp .lss x53 (.int .i64 245)).bnd some) (some .undef)).bnd fun x57 =>
 (condB x51 (some x57) (some (.bool false))).bnd fun x61 =>
 condB x61 (
 (binOp .sub x4 (.int .i64 240)).bnd fun x64 =>
 P31_0 (size h) (size h) a0 x64 (.int .i64 4) (.int .i64 65536) h) (
 finV false false (size h) [(.int .i64 0), (.int .i64 0)] h)))) := (Pt_enter T_31 base _ h).trans (by kernel_rfl)
theorem S32 (base : Nat) (a0 a1 : PV) (h : Hp) : CallA T base 32 [a0, a1] h =
 bnd2 (CallA T base 43 [a0] h) fun x2 h3 =>
 (nilckV a0).bnd fun x6 =>
 (fieldAB x6 1).bnd fun x7 =>
 (loadV 1 false x7 h3).bnd fun x8 =>
 (buildSlV 1 false [(.int .u8 0)] 1 [(0, strip a1)]).bnd fun x10 =>
 bnd2 (appTV 5 1 x8 x10 h3) fun x11 h12 =>
 (nilckV a0).bnd fun x13 =>
 (fieldAB x13 1).bnd fun x14 =>
 (storeV base 1 x14 x11 h12).bnd fun h15 =>
 finV true false (size h) [.nilif] h15 := (Pt_enterK T_32 base _ h).trans (by kernel_rfl)
theorem S36 (base : Nat) (a0 : PV) (h : Hp) : CallA T base 36 [a0] h =
 (binOp .lss a0 (.int .i64 26)).bnd fun x2 =>
 condB x2 (
 (binOp .add (.int .i64 65) a0).bnd fun x5 =>
 (toIntB x5 .u8).bnd fun x6 =>
 finV false false (size h) [x6] h) (
 (binOp .lss a0 (.int .i64 52)).bnd fun x9 =>
 condB x9 (
 (binOp .add (.int .i64 97) a0).bnd fun x12 =>
 (binOp .sub x12 (.int .i64 26)).bnd fun x13 =>
 (toIntB x13 .u8).bnd fun x14 =>
 finV false false (size h) [x14] h) (
 (binOp .lss a0 (.int .i64 62)).bnd fun x17 =>
 condB x17 (
 (binOp .add (.int .i64 48) a0).bnd fun x20 =>
 (binOp .sub x20 (.int .i64 52)).bnd fun x21 =>
 (toIntB x21 .u8).bnd fun x22 =>
 finV false false (size h) [x22] h) (
 (binOp .eql a0 (.int .i64 62)).bnd fun x25 =>
 condB x25 (
 finV false false (size h) [(.int .u8 43)] h) (
 finV false false (size h) [(.int .u8 47)] h)))) := (Pt_enter T_36 base _ h).trans (by kernel_rfl)
noncomputable def P37_0 (base n0 : Nat) (v9 v2 v3 v1 v8 : PV) (h : Hp) : Option (PV × Hp) := Pt T F37 [1, 1, 0, 1, 0, 1, 1] base n0 [(9, v9), (2, v2), (3, v3), (1, v1), (8, v8)] h
noncomputable def P37_1 (base n0 : Nat) (v2 v3 : PV) (h : Hp) : Option (PV × Hp) := Pt T F37 [1, 1, 1, 1] base n0 [(2, v2), (3, v3)] h
theorem P37_0_eq (base n0 : Nat) (v9 v2 v3 v1 v8 : PV) (h : Hp) : P37_0 base n0 v9 v2 v3 v1 v8 h =
 condB v9 (
 (fieldAB v1 1).bnd fun x0 =>
 (loadV 1 false x0 h).bnd fun x1 =>
 (fieldAB v3 1).bnd fun x2 =>
 (storeV base 1 x2 x1 h).bnd fun h3 =>
 P37_1 base n0 v2 v3 h3) (
 (binOp .eql v8 (.int .i64 3)).bnd fun x4 =>
 condB x4 (
 (fieldAB v1 2).bnd fun x6 =>
 (loadV 1 false x6 h).bnd fun x7 =>
 (fieldAB v3 2).bnd fun x8 =>
 (storeV base 1 x8 x7 h).bnd fun h9 =>
 P37_1 base n0 v2 v3 h9) (
 (binOp .eql v8 (.int .i64 4)).bnd fun x10 =>
 condB x10 (
 (fieldAB v1 3).bnd fun x12 =>
 (loadV 1 false x12 h).bnd fun x13 =>
 (fieldAB v3 3).bnd fun x14 =>
 (storeV base 1 x14 x13 h).bnd fun h15 =>
 P37_1 base n0 v2 v3 h15) (
 (binOp .eql v8 (.int .i64 6)).bnd fun x16 =>
 condB x16 (
 (fieldAB v1 4).bnd fun x18 =>
 (loadNV 1 false v3 x18 h).bnd fun x19 =>
 (fieldAB v1 5).bnd fun x20 =>
 (loadNV 1 false v3 x20 h).bnd fun x21 =>
 (fieldAB v3 4).bnd fun x22 =>
 (storeNV base 1 v3 x22 x19 h).bnd fun h23 =>
 (fieldAB v3 5).bnd fun x24 =>
 (storeNV base 1 v3 x24 x21 h23).bnd fun h25 =>
 P37_1 base n0 v2 v3 h25) (
 P37_1 base n0 v2 v3 h)))) := (Pt_eq T F37 [1, 1, 0, 1, 0, 1, 1] base n0 [(9, v9), (2, v2), (3, v3), (1, v1), (8, v8)] h).trans (by kernel_rfl)
theorem P37_1_eq (base n0 : Nat) (v2 v3 : PV) (h : Hp) : P37_1 base n0 v2 v3 h =
 (loadV 6 true v3 h).bnd fun x0 =>
 (storeV base 6 v2 x0 h).bnd fun h1 =>
 (resB v2 h1 6 true).bnd fun r2 =>
 finV false false n0 [r2] h1 := (Pt_eq T F37 [1, 1, 1, 1] base n0 [(2, v2), (3, v3)] h).trans (by kernel_rfl)
theorem S37 (base : Nat) (a0 : PV) (h : Hp) : CallA T base 37 [a0] h =
 bnd2 (boxV 6 a0 h) fun x0 h1 =>
 allocK [(.int .i64 0), (.int .i64 0), (.str []), .nils, (.int .i64 0), (.int .i64 0)] h1 fun x2 h3 =>
 (fieldAB x0 0).bnd fun x4 =>
 (loadV 1 false x4 h3).bnd fun x5 =>
 (buildV [(.int .i64 0), (.int .i64 0), (.str []), .nils, (.int .i64 0), (.int .i64 0)] [(0, 1, x5)]).bnd fun x6 =>
 allocK [(.int .i64 0), (.int .i64 0), (.str []), .nils, (.int .i64 0), (.int .i64 0)] h3 fun x7 h8 =>
 (storeV (size h) 6 x7 x6 h8).bnd fun h9 =>
 (fieldAB x0 0).bnd fun x10 =>
 (loadV 1 false x10 h9).bnd fun x11 =>
 (binOp .eql x11 (.int .i64 1)).bnd fun x12 =>
 condB x12 (
 P37_0 (size h) (size h) x12 x2 x7 x0 x11 h9) (
 (binOp .eql x11 (.int .i64 2)).bnd fun x14 =>
 condB x14 (
 P37_0 (size h) (size h) x14 x2 x7 x0 x11 h9) (
 (binOp .eql x11 (.int .i64 5)).bnd fun x16 =>
 P37_0 (size h) (size h) x16 x2 x7 x0 x11 h9)) := (Pt_enter T_37 base _ h).trans (by kernel_rfl)
noncomputable def P38_0 (base n0 : Nat) (v5 v4 v0 : PV) (h : Hp) : Option (PV × Hp) := Pt T F38 [1, 1, 1, 0, 1, 0, 1] base n0 [(5, v5), (4, v4), (0, v0)] h
theorem P38_0_eq (base n0 : Nat) (v5 v4 v0 : PV) (h : Hp) : P38_0 base n0 v5 v4 v0 h =
 (lenB true v0).bnd fun x2 =>
 (binOp .lss v5 x2).bnd fun x3 =>
 condB x3 (
 (binOp .add v5 (.int .i64 4)).bnd fun x7 =>
 (sliceV none (some v5) (some x7) none v0).bnd fun x8 =>
 (binOp .add v5 (.int .i64 4)).bnd fun x10 =>
 (lenB true v0).bnd fun x12 =>
 (binOp .eql x10 x12).bnd fun x13 =>
 bnd2 (CallA T base 48 [x8, x13] h) fun x14 h15 =>
 (extractB x14 0).bnd fun x17 =>
 (extractB x14 1).bnd fun x18 =>
 (unOp .not x18).bnd fun x22 =>
 condB x22 (
 finV false false n0 [.nils, (.bool false)] h15) (
 bnd2 (appTV 5 1 v4 x17 h15) fun x27 h28 =>
 (binOp .add v5 (.int .i64 4)).bnd fun x31 =>
 P38_0 base n0 x31 x27 v0 h28)) (
 finV false false n0 [v4, (.bool true)] h) := (Pt_eq T F38 [1, 1, 1, 0, 1, 0, 1] base n0 [(5, v5), (4, v4), (0, v0)] h).trans (by kernel_rfl)
theorem S38 (base : Nat) (a0 : PV) (h : Hp) : CallA T base 38 [a0] h =
 (lenB true a0).bnd fun x3 =>
 (binOp .rem x3 (.int .i64 4)).bnd fun x4 =>
 (binOp .neq x4 (.int .i64 0)).bnd fun x5 =>
 condB x5 (
 finV false false (size h) [.nils, (.bool false)] h) (
 P38_0 (size h) (size h) (.int .i64 0) .nils a0 h) := (Pt_enter T_38 base _ h).trans (by kernel_rfl)
theorem S39 (base : Nat) (a0 : PV) (h : Hp) : CallA T base 39 [a0] h =
 allocK [(.int .i64 0), (.int .i64 0), (.str []), .nils, (.int .i64 0), (.int .i64 0)] h fun x0 h1 =>
 bnd2 (CallA T (size h) 49 [a0, (.str [58])] h1) fun x4 h5 =>
 (extractB x4 0).bnd fun x7 =>
 (extractB x4 1).bnd fun x8 =>
 (extractB x4 2).bnd fun x9 =>
 bnd2 (CallA T (size h) 40 [x7] h5) fun x14 h15 =>
 (extractB x14 0).bnd fun x17 =>
 (extractB x14 1).bnd fun x18 =>
 bnd2 (CallA T (size h) 40 [x8] h15) fun x22 h23 =>
 (extractB x22 0).bnd fun x25 =>
 (extractB x22 1).bnd fun x26 =>
 (unOp .not x9).bnd fun x30 =>
 (wantB x30 false).bnd fun b33 => (whenB b33 (some x18) (some .undef)).bnd fun x32 =>
 (wantB x30 false).bnd fun b37 => (whenB b37 ((unOp .not x32).bnd some) (some .undef)).bnd fun x36 =>
 (condB x30 (some (.bool true)) (some x36)).bnd fun x40 =>
 (wantB x40 false).bnd fun b43 => (whenB b43 (some x26) (some .undef)).bnd fun x42 =>
 (wantB x40 false).bnd fun b47 => (whenB b47 ((unOp .not x42).bnd some) (some .undef)).bnd fun x46 =>
 (condB x40 (some (.bool true)) (some x46)).bnd fun x50 =>
 (wantB x50 false).bnd fun b53 => (whenB b53 (some x17) (some .undef)).bnd fun x52 =>
 (wantB x50 false).bnd fun b57 => (whenB b57 ((binOp .lss x52 (.int .i64 0)).bnd some) (some .undef)).bnd fun x56 =>
 (condB x50 (some (.bool true)) (some x56)).bnd fun x60 =>
 (wantB x60 false).bnd fun b63 => (whenB b63 (some x17) (some .undef)).bnd fun x62 =>
 (wantB x60 false).bnd fun b67 => (whenB b67 ((binOp .gtr x62 (.int .i64 65535)).bnd some) (some .undef)).bnd fun x66 =>
 (condB x60 (some (.bool true)) (some x66)).bnd fun x70 =>
 (wantB x70 false).bnd fun b73 => (whenB b73 (some x25) (some .undef)).bnd fun x72 =>
 (wantB x70 false).bnd fun b77 => (whenB b77 ((binOp .lss x72 (.int .i64 0)).bnd some) (some .undef)).bnd fun x76 =>
 (condB x70 (some (.bool true)) (some x76)).bnd fun x80 =>
 (wantB x80 false).bnd fun b83 => (whenB b83 (some x25) (some .undef)).bnd fun x82 =>
 (wantB x80 false).bnd fun b87 => (whenB b87 ((binOp .gtr x82 (.int .i64 65535)).bnd some) (some .undef)).bnd fun x86 =>
 (condB x80 (some (.bool true)) (some x86)).bnd fun x90 =>
 condB x90 (
 (buildV [(.int .i64 0), (.int .i64 0), (.str []), .nils, (.int .i64 0), (.int .i64 0)] []).bnd fun x91 =>
 (storeV (size h) 6 x0 x91 h23).bnd fun h92 =>
 (resB x0 h92 6 true).bnd fun r94 =>
 finV false false (size h) [r94, (.bool false)] h92) (
 (buildV [(.int .i64 0), (.int .i64 0), (.str []), .nils, (.int .i64 0), (.int .i64 0)] [(0, 1, (.int .i64 6)), (4, 1, x17), (5, 1, x25)]).bnd fun x97 =>
 (storeV (size h) 6 x0 x97 h23).bnd fun h98 =>
 (resB x0 h98 6 true).bnd fun r100 =>
 finV false false (size h) [r100, (.bool true)] h98) := (Pt_enter T_39 base _ h).trans (by kernel_rfl)
theorem S40 (base : Nat) (a0 : PV) (h : Hp) : CallA T base 40 [a0] h =
 bnd2 (CallA T (size h) 50 [a0, (.int .i64 10), (.int .i64 64)] h) fun x3 h4 =>
 (extractB x3 0).bnd fun x6 =>
 (extractB x3 1).bnd fun x7 =>
 (isnilV 2 false x7).bnd fun x12 =>
 (wantB x12 true).bnd fun b15 => (whenB b15 (some x6) (some .undef)).bnd fun x14 =>
 (wantB x12 true).bnd fun b19 => bnd2 (whenB b19 (bnd2 (CallA T (size h) 23 [x14, (.int .i64 10)] h4) fun x21 h20 => some (x21, h20)) (some (.undef, h4))) fun x18 h20 =>
 (wantB x12 true).bnd fun b23 => (whenB b23 (some a0) (some .undef)).bnd fun x22 =>
 (wantB x12 true).bnd fun b27 => (whenB b27 ((binOp .eql x18 x22).bnd some) (some .undef)).bnd fun x26 =>
 (condB x12 (some x26) (some (.bool false))).bnd fun x30 =>
 finV false false (size h) [x6, x30] h20 := (Pt_enter T_40 base _ h).trans (by kernel_rfl)
noncomputable def P41_0 (base n0 : Nat) (v3 v0 : PV) (h : Hp) : Option (PV × Hp) := Pt T F41 [1, 0, 1, 0, 1] base n0 [(3, v3), (0, v0)] h
theorem P41_0_eq (base n0 : Nat) (v3 v0 : PV) (h : Hp) : P41_0 base n0 v3 v0 h =
 (binOp .lss v3 (.int .i64 64)).bnd fun x1 =>
 condB x1 (
 bnd2 (CallA T base 36 [v3] h) fun x3 h4 =>
 (binOp .eql x3 v0).bnd fun x6 =>
 condB x6 (
 finV false false n0 [v3] h4) (
 (binOp .add v3 (.int .i64 1)).bnd fun x10 =>
 P41_0 base n0 x10 v0 h4)) (
 finV false false n0 [(.int .i64 (-1))] h) := (Pt_eq T F41 [1, 0, 1, 0, 1] base n0 [(3, v3), (0, v0)] h).trans (by kernel_rfl)
theorem S41 (base : Nat) (a0 : PV) (h : Hp) : CallA T base 41 [a0] h =
 P41_0 (size h) (size h) (.int .i64 0) a0 h := (Pt_enter T_41 base _ h).trans (by kernel_rfl)
noncomputable def P48_0 (base n0 : Nat) (v26 v0 v6 v7 : PV) (h : Hp) : Option (PV × Hp) := Pt T F48 [1, 1, 1, 1, 0, 1, 0, 1] base n0 [(26, v26), (0, v0), (6, v6), (7, v7)] h
noncomputable def P48_1 (base n0 : Nat) (v59 v57 v6 v10 v58 : PV) (h : Hp) : Option (PV × Hp) := Pt T F48 [1, 1, 1, 1, 1, 1, 0, 1, 0, 1] base n0 [(59, v59), (57, v57), (6, v6), (10, v10), (58, v58)] h
theorem P48_0_eq (base n0 : Nat) (v26 v0 v6 v7 : PV) (h : Hp) : P48_0 base n0 v26 v0 v6 v7 h =
 (binOp .lss v26 (.int .i64 4)).bnd fun x0 =>
 condB x0 (
 (binOp .shl v7 (.int .u64 6)).bnd fun x4 =>
 (binOp .lss v26 v6).bnd fun x8 =>
 condB x8 (
 (idxStrB v0 v26).bnd fun x11 =>
 bnd2 (CallA T base 58 [(.str [65, 66, 67, 68, 69, 70, 71, 72, 73, 74, 75, 76, 77, 78, 79, 80, 81, 82, 83, 84, 85, 86, 87, 88, 89, 90, 97, 98, 99, 100, 101, 102, 103, 104, 105, 106, 107, 108, 109, 110, 111, 112, 113, 114, 115, 116, 117, 118, 119, 120, 121, 122, 48, 49, 50, 51, 52, 53, 54, 55, 56, 57, 43, 47]), x11] h) fun x12 h13 =>
 (binOp .lss x12 (.int .i64 0)).bnd fun x16 =>
 condB x16 (
 finV false false n0 [.nils, (.bool false)] h13) (
 (toIntB x12 .u32).bnd fun x21 =>
 (binOp .or x4 x21).bnd fun x22 =>
 (binOp .add v26 (.int .i64 1)).bnd fun x24 =>
 P48_0 base n0 x24 v0 v6 x22 h13)) (
 (binOp .add v26 (.int .i64 1)).bnd fun x26 =>
 P48_0 base n0 x26 v0 v6 x4 h)) (
 (binOp .shr v7 (.int .u64 16)).bnd fun x29 =>
 (toIntB x29 .u8).bnd fun x30 =>
 (binOp .shr v7 (.int .u64 8)).bnd fun x32 =>
 (toIntB x32 .u8).bnd fun x33 =>
 (toIntB v7 .u8).bnd fun x35 =>
 (buildSlV 1 false [(.int .u8 0)] 3 [(0, strip x30), (1, strip x33), (2, strip x35)]).bnd fun x36 =>
 (binOp .sub v6 (.int .i64 1)).bnd fun x40 =>
 (sliceV (some 1) (some x40) none none x36).bnd fun x41 =>
 (lenB false x41).bnd fun x42 =>
 P48_1 base n0 (.int .i64 0) x41 v6 x36 x42 h) := (Pt_eq T F48 [1, 1, 1, 1, 0, 1, 0, 1] base n0 [(26, v26), (0, v0), (6, v6), (7, v7)] h).trans (by kernel_rfl)
theorem P48_1_eq (base n0 : Nat) (v59 v57 v6 v10 v58 : PV) (h : Hp) : P48_1 base n0 v59 v57 v6 v10 v58 h =
 (binOp .lss v59 v58).bnd fun x0 =>
 condB x0 (
 (idxAB v57 v59 1).bnd fun x1 =>
 (loadV 1 false x1 h).bnd fun x2 =>
 (binOp .neq x2 (.int .u8 0)).bnd fun x5 =>
 condB x5 (
 finV false false n0 [.nils, (.bool false)] h) (
 (binOp .add v59 (.int .i64 1)).bnd fun x8 =>
 P48_1 base n0 x8 v57 v6 v10 v58 h)) (
 (binOp .sub v6 (.int .i64 1)).bnd fun x12 =>
 (sliceV (some 1) none (some x12) none v10).bnd fun x13 =>
 finV false false n0 [x13, (.bool true)] h) := (Pt_eq T F48 [1, 1, 1, 1, 1, 1, 0, 1, 0, 1] base n0 [(59, v59), (57, v57), (6, v6), (10, v10), (58, v58)] h).trans (by kernel_rfl)
theorem S48 (base : Nat) (a0 a1 : PV) (h : Hp) : CallA T base 48 [a0, a1] h =
 bnd2 (CallA T (size h) 57 [a0, (.str [61])] h) fun x3 h4 =>
 (lenB true x3).bnd fun x5 =>
 (binOp .lss x5 (.int .i64 2)).bnd fun x8 =>
 (wantB x8 false).bnd fun b11 => (whenB b11 (some x5) (some .undef)).bnd fun x10 =>
 (wantB x8 false).bnd fun b15 => (whenB b15 ((binOp .lss x10 (.int .i64 4)).bnd some) (some .undef)).bnd fun x14 =>
 (wantB x8 false).bnd fun b19 => (whenB b19 (some x14) (some .undef)).bnd fun x18 =>
 (wantB x18 true).bnd fun b23 => (whenB b23 (some a1) (some .undef)).bnd fun x22 =>
 (wantB x18 true).bnd fun b27 => (whenB b27 ((unOp .not x22).bnd some) (some .undef)).bnd fun x26 =>
 (wantB x8 false).bnd fun b31 => (whenB b31 ((condB x18 (some x26) (some (.bool false))).bnd some) (some .undef)).bnd fun x30 =>
 (condB x8 (some (.bool true)) (some x30)).bnd fun x34 =>
 condB x34 (
 finV false false (size h) [.nils, (.bool false)] h4) (
 P48_0 (size h) (size h) (.int .i64 0) a0 x5 (.int .u32 0) h4) := (Pt_enter T_48 base _ h).trans (by kernel_rfl)
end Go.Am.YthhceeaconflnaaDoor
namespace Go.Am
set_option linter.unusedVariables false
set_option linter.unusedSimpArgs false
theorem loadV_ptr (n g b off h) : loadV n g (.ptr b off) h = (getBox h b).bnd fun cs => part cs off n g := (rfl)
theorem loadV_ep (n g cs off h) : loadV n g (.ep cs off) h = part cs off n g := (rfl)
theorem storeV_ptr (base n b off u h) : storeV base n (.ptr b off) u h = (getBox h b).bnd fun cs =>
      if u.cells.length = n ∧ off + n ≤ cs.length ∧ u.cells.all scalar = true ∧ (b < base → belows 0 (strips u.cells) = true)
      then some (setBox h b (setRange cs off (if b < base then strips u.cells else u.cells))) else none := (rfl)
theorem allocK_eq {α : Type} (z h) (K : PV → Hp → Option α) : allocK z h K = K (.ptr (size h) 0) (ext h [.cells z]) := (rfl)
theorem boxV_eq (n v h) : boxV n v h = if v.cells.length = n ∧ v.cells.all scalar = true then some (.ptr (size h) 0, ext h [.cells v.cells]) else none := (rfl)
theorem buildV_eq (z l) : buildV z l = (buildAgg l z).bnd fun cs => some (.agg cs) := (rfl)
theorem buildSlV_eq (sz g z len l) : buildSlV sz g z len l = (fillParts sz l (List.replicate len (if g then .agg z else z.headD .undef))).bnd fun es => some (.sl .full sz es) := (rfl)
theorem nilckV_eq (v) : nilckV v = (isNil v).bnd fun b => if b then none else some v := (rfl)
theorem isnilV_eq (kd neg v) : isnilV kd neg v = (nilK kd v).bnd fun b => some (.bool (if neg then !b else b)) := (rfl)
theorem makeV_eq (T z l c h) : makeV T z l c h = (makeN l c).bnd fun n => makeB T z n h := (rfl)
theorem copyV_bsl (base f b off len sz u h) : copyV base (.bsl f b off len sz) u h = (elems h u).bnd fun xs => (getBox h b).bnd fun cs =>
        if sz = 1 ∧ off + len ≤ cs.length ∧ xs.all scalar = true ∧ (b < base → belows 0 (xs.take len) = true)
        then some (.int .i64 (min xs.length len : Nat), setBox h b (setRange cs off (xs.take len))) else none := (rfl)
theorem copyV_nils (base u h) : copyV base .nils u h = (elems h u).bnd fun xs => some (.int .i64 0, h) := (rfl)
theorem bdW_none (n d) : bdW n d none = some d := (rfl)
theorem bdW_some (n d v) : bdW n d (some v) = bdV n v := (rfl)
theorem sliceV_str (lo hi s) : sliceV none lo hi none (.str s) = (bdW s.length s.length hi).bnd fun hh => (bdW hh 0 lo).bnd fun l => some (.str ((s.drop l).take (hh - l))) := (rfl)
theorem sliceV_nils (n lo hi mx) : sliceV (some n) lo hi mx .nils = (bdW 0 0 mx).bnd fun m => (bdW 0 0 hi).bnd fun hh => (bdW 0 0 lo).bnd fun l => some .nils := (rfl)
theorem sliceV_sl (n lo hi o es) : sliceV (some n) lo hi none (.sl o n es) = (bdW es.length es.length hi).bnd fun hh => (bdW hh 0 lo).bnd fun l =>
      some (.sl (if isFull o && hh == es.length then .full else .no) n ((es.drop l).take (hh - l))) := by
  simp [sliceV, bdW_none, Option.bnd_some]
theorem sliceV_bsl (n lo hi f b off len) : sliceV (some n) lo hi none (.bsl f b off len n) = (bdW len len hi).bnd fun hh => (bdW hh 0 lo).bnd fun l =>
      if hh - l = 0 then some (.sl .no n []) else some (.bsl (f && hh == len) b (off + l * n) (hh - l) n) := by
  simp [sliceV, bdW_none, Option.bnd_some]
theorem idxArrV_ptr (sz len b o i) : idxArrV sz len (.ptr b o) i = (ix i len).bnd fun i => some (.ptr b (o + i * sz)) := (rfl)
theorem idxArrV_ep (sz len b o i) : idxArrV sz len (.ep b o) i = (ix i len).bnd fun i => some (.ep b (o + i * sz)) := (rfl)
theorem idxAggV_agg (sz g len cs i) : idxAggV sz g len (.agg cs) i = (ix i len).bnd fun i => part cs (i * sz) sz g := (rfl)
theorem minmaxV_cons (m x r) : minmaxV m (x :: r) = minMax m x r := (rfl)
theorem appTV_eq (T sz v u h) : appTV T sz v u h = (elems h u).bnd fun xs => growT h T sz v xs := (rfl)
theorem loadNV_ptr (n g c o b off h) : loadNV n g (.ptr c o) (.ptr b off) h = if b = c then none else loadV n g (.ptr b off) h := (rfl)
theorem loadNV_ep (n g c o cs off h) : loadNV n g (.ptr c o) (.ep cs off) h = loadV n g (.ep cs off) h := (rfl)
theorem storeNV_ptr (base n c o b off u h) : storeNV base n (.ptr c o) (.ptr b off) u h = if b = c then storeV base n (.ptr b off) u h else none := (rfl)
theorem callvV_fn (orc f cap vs h) : callvV orc (.fn f cap) vs h = orc f (vs ++ cap) h := (rfl)
theorem chkK_eq {α : Type} (h) (y : Option α) : chkK h h y = y := by simp [chkK]
theorem finV_code (n0 vs h) : finV false false n0 vs h = (frzs n0 h vs).bnd fun vs => if belows n0 vs = true then some (result1 vs, trunc h n0) else none := (rfl)
theorem finV_keep (o n0 vs h) : finV true o n0 vs h = some (result1 vs, h) := (rfl)
theorem finV_own (n0 vs h) : finV false true n0 vs h = (ownEnd n0 h vs).bnd fun r => some (result1 r.1, r.2) := (rfl)
theorem appV_nils (sz u h) : appV sz .nils u h = (elems h u).bnd fun xs => if xs.all (fun x => x.cells.length == sz) then (if xs.length ≤ lim2 then some (if xs.isEmpty then .nils else .sl .no sz (strips xs)) else none) else none := (rfl)
theorem appV_full (sz es u h) : appV sz (.sl .full sz es) u h = (elems h u).bnd fun xs => if xs.all (fun x => x.cells.length == sz) then (if es.length + xs.length ≤ lim2 then some (if xs.isEmpty then .sl .full sz es else .sl .no sz (es ++ strips xs)) else none) else none := by
  unfold appV; simp
theorem bnd_some_id {α : Type} (x : Option α) : x.bnd some = x := by cases x <;> rfl
end Go.Am
namespace Go.Am
set_option maxRecDepth 100000
set_option linter.defProp false
def evD :=
  And.intro @bnd2_some <|
  And.intro @bnd2_none <|
  And.intro @bnd2_ite <|
  And.intro @Option.bnd_some <|
  And.intro @Option.bnd_none <|
  And.intro @Option.bnd_ite <|
  And.intro @condB_true <|
  And.intro @condB_false <|
  And.intro @condB_b <|
  And.intro @whenB_true <|
  And.intro @whenB_false <|
  @allocK_eq
def evU :=
  And.intro @Int.toNat_natCast <|
  And.intro @Nat.zero_add <|
  And.intro @Nat.add_zero <|
  And.intro @Nat.le_refl <|
  And.intro @Nat.succ_eq_add_one <|
  And.intro @Nat.add_eq_zero_iff <|
  And.intro @Nat.succ_ne_self <|
  And.intro @and_true <|
  And.intro @true_and <|
  And.intro @and_self <|
  And.intro @Bool.false_eq_true <|
  And.intro @Bool.true_and <|
  And.intro @Bool.and_true <|
  And.intro @Bool.and_self <|
  And.intro @Bool.not_true <|
  And.intro @Bool.not_false <|
  And.intro @Bool.not_not <|
  And.intro @Bool.true_beq <|
  And.intro @Bool.false_beq <|
  And.intro @beq_true <|
  And.intro @beq_false <|
  And.intro @imp_self <|
  And.intro @false_implies <|
  And.intro @decide_eq_true_eq <|
  And.intro @not_true_eq_false <|
  And.intro @not_false_eq_true <|
  And.intro @Bool.not_eq_true' <|
  And.intro @decide_true <|
  And.intro @decide_false <|
  And.intro @Bool.true_or <|
  And.intro @Bool.false_or <|
  And.intro @Bool.or_true <|
  And.intro @Bool.or_false <|
  And.intro @Bool.false_and <|
  And.intro @Bool.and_false <|
  And.intro @true_or <|
  And.intro @or_true <|
  And.intro @false_or <|
  And.intro @or_false <|
  And.intro @or_self <|
  And.intro @false_and <|
  And.intro @and_false <|
  And.intro @Nat.add_eq_left <|
  And.intro @Nat.left_eq_add <|
  And.intro @Nat.add_left_cancel_iff <|
  And.intro @size_ext <|
  And.intro @size_setBox <|
  And.intro @getBox_ext_0 <|
  And.intro @getBox_ext_n <|
  And.intro @ext_ext <|
  And.intro @trunc_ext <|
  And.intro @trunc_self <|
  And.intro @trunc_exts <|
  And.intro @trunc_set <|
  And.intro @not_lt_size <|
  And.intro @size_add_lt <|
  And.intro @strip_undef <|
  And.intro @strip_bool <|
  And.intro @strip_int <|
  And.intro @strip_str <|
  And.intro @strip_nilp <|
  And.intro @strip_bnil <|
  And.intro @strip_ptr <|
  And.intro @strip_ep <|
  And.intro @strip_nils <|
  And.intro @strip_bsl <|
  And.intro @strip_nilif <|
  And.intro @strip_iface <|
  And.intro @strip_nilf <|
  And.intro @strip_fn <|
  And.intro @strip_agg <|
  And.intro @strip_tup <|
  And.intro @cells_agg <|
  And.intro @cells_bool <|
  And.intro @cells_int <|
  And.intro @cells_str <|
  And.intro @cells_nilp <|
  And.intro @cells_bnil <|
  And.intro @cells_ptr <|
  And.intro @cells_nils <|
  And.intro @cells_sl <|
  And.intro @cells_bsl <|
  And.intro @cells_nilif <|
  And.intro @cells_iface <|
  And.intro @cells_nilf <|
  And.intro @cells_fn <|
  And.intro @isNil_nilp <|
  And.intro @isNil_bnil <|
  And.intro @isNil_nils <|
  And.intro @isNil_nilif <|
  And.intro @isNil_nilf <|
  And.intro @isNil_ptr <|
  And.intro @isNil_ep <|
  And.intro @isNil_sl <|
  And.intro @isNil_bsl <|
  And.intro @isNil_iface <|
  And.intro @isNil_fn <|
  And.intro @wantB_bool <|
  And.intro @wantB_undef <|
  And.intro @boolB_eq <|
  And.intro @boolB_ne <|
  And.intro @nilK_00 <|
  And.intro @nilK_0b <|
  And.intro @nilK_01 <|
  And.intro @nilK_10 <|
  And.intro @nilK_11 <|
  And.intro @nilK_12 <|
  And.intro @nilK_20 <|
  And.intro @nilK_21 <|
  And.intro @nilK_30 <|
  And.intro @nilK_31 <|
  And.intro @scalar_bool <|
  And.intro @scalar_int <|
  And.intro @scalar_str <|
  And.intro @scalar_nilp <|
  And.intro @scalar_bnil <|
  And.intro @scalar_ptr <|
  And.intro @scalar_nils <|
  And.intro @scalar_sl <|
  And.intro @scalar_bsl <|
  And.intro @scalar_nilif <|
  And.intro @scalar_iface <|
  And.intro @scalar_nilf <|
  And.intro @scalar_fn <|
  And.intro @bdV_int <|
  And.intro @isFull_no <|
  And.intro @isFull_full <|
  And.intro @isFull_tok <|
  And.intro @toIntB_int <|
  And.intro @extractB_tup <|
  And.intro @fieldAB_ptr <|
  And.intro @fieldAB_ep <|
  And.intro @fieldB_agg <|
  And.intro @lenB_str <|
  And.intro @lenB_nils <|
  And.intro @lenB_sl <|
  And.intro @lenB_bsl <|
  And.intro @idxAB_sl <|
  And.intro @idxAB_bsl <|
  And.intro @idxStrB_str <|
  And.intro @binOp_int <|
  And.intro @binOp_str <|
  And.intro @isShift_add <|
  And.intro @isShift_sub <|
  And.intro @isShift_mul <|
  And.intro @isShift_quo <|
  And.intro @isShift_rem <|
  And.intro @isShift_and <|
  And.intro @isShift_or <|
  And.intro @isShift_xor <|
  And.intro @isShift_andNot <|
  And.intro @isShift_eql <|
  And.intro @isShift_neq <|
  And.intro @isShift_lss <|
  And.intro @isShift_leq <|
  And.intro @isShift_gtr <|
  And.intro @isShift_geq <|
  And.intro @isShift_shl <|
  And.intro @isShift_shr <|
  And.intro @intOp_add <|
  And.intro @intOp_sub <|
  And.intro @intOp_mul <|
  And.intro @intOp_quo <|
  And.intro @intOp_rem <|
  And.intro @intOp_eql <|
  And.intro @intOp_neq <|
  And.intro @intOp_lss <|
  And.intro @intOp_leq <|
  And.intro @intOp_gtr <|
  And.intro @intOp_geq <|
  And.intro @strOp_eql <|
  And.intro @strOp_neq <|
  And.intro @strOp_add <|
  And.intro @unOp_not <|
  And.intro @unOp_neg <|
  And.intro @part_agg <|
  And.intro @part_one <|
  And.intro @minMax_nil <|
  And.intro @minMax_cons <|
  And.intro @minMax2_max <|
  And.intro @minMax2_min <|
  And.intro @belows_nil <|
  And.intro @belows_cons <|
  And.intro @below_undef <|
  And.intro @below_bool <|
  And.intro @below_int <|
  And.intro @below_str <|
  And.intro @below_nilp <|
  And.intro @below_bnil <|
  And.intro @below_nils <|
  And.intro @below_nilif <|
  And.intro @below_nilf <|
  And.intro @below_ptr <|
  And.intro @below_sl <|
  And.intro @below_iface <|
  And.intro @below_agg <|
  And.intro @below_tup <|
  And.intro @resB_ptr <|
  And.intro @result1_one <|
  And.intro @result1_nil <|
  And.intro @result1_two <|
  And.intro @setRange_nil <|
  And.intro @setRange_cons <|
  And.intro @fillParts_nil <|
  And.intro @fillParts_cons <|
  And.intro @buildAgg_nil <|
  And.intro @buildAgg_cons <|
  And.intro @elems_nils <|
  And.intro @elems_sl <|
  And.intro @elems_bsl <|
  And.intro @setBox_eq <|
  And.intro @size_setBx <|
  And.intro @cellsOf_cells <|
  And.intro @tokOf_tok <|
  And.intro @iterOf_iter <|
  And.intro @getBox_exts_0 <|
  And.intro @getBox_exts_n <|
  And.intro @setBx_ext_0 <|
  And.intro @setBx_ext_n <|
  And.intro @setBx_exts_0 <|
  And.intro @setBx_exts_n <|
  And.intro @setBx_setBx <|
  And.intro @getTok_ext_0 <|
  And.intro @getTok_ext_n <|
  And.intro @getTok_exts_0 <|
  And.intro @getTok_exts_n <|
  And.intro @getIter_ext_0 <|
  And.intro @getIter_ext_n <|
  And.intro @getIter_exts_0 <|
  And.intro @getIter_exts_n <|
  And.intro @strip_sl <|
  And.intro @ostrip_no <|
  And.intro @ostrip_full <|
  And.intro @ostrip_tok <|
  And.intro @obelow_no <|
  And.intro @obelow_full <|
  And.intro @obelow_tok <|
  And.intro @strips_nil <|
  And.intro @strips_cons <|
  And.intro @below_bsl <|
  And.intro @below_fn <|
  And.intro @below_ep <|
  And.intro @frzs_nil <|
  And.intro @frzs_cons <|
  And.intro @frz_sl <|
  And.intro @frz_bsl <|
  And.intro @frz_agg <|
  And.intro @frz_tup <|
  And.intro @frz_iface <|
  And.intro @frz_undef <|
  And.intro @frz_bool <|
  And.intro @frz_int <|
  And.intro @frz_str <|
  And.intro @frz_nilp <|
  And.intro @frz_bnil <|
  And.intro @frz_ptr <|
  And.intro @frz_ep <|
  And.intro @frz_nils <|
  And.intro @frz_nilif <|
  And.intro @frz_nilf <|
  And.intro @frz_fn <|
  And.intro @ownEnd_tok <|
  And.intro @ownEnd_bsl <|
  And.intro @ownEnd_nils <|
  And.intro @ownEnd_no <|
  And.intro @ownEnd_full <|
  And.intro @elemsOf_one <|
  And.intro @elems_str <|
  And.intro @fits_def <|
  And.intro @rangeB_str <|
  And.intro @nextB_it <|
  And.intro @tassertB_iface <|
  And.intro @tassertB_nil <|
  And.intro @eqvB_agg <|
  And.intro @eqCells_nil <|
  And.intro @eqCells_cons <|
  And.intro @eqCell_bool <|
  And.intro @eqCell_int <|
  And.intro @eqCell_str <|
  And.intro @makeB_eq <|
  And.intro @bytesStrB_sl <|
  And.intro @bytesStrB_nils <|
  And.intro @bytesStrB_bsl <|
  And.intro @bytesOf_bytes <|
  And.intro @loadV_ptr <|
  And.intro @loadV_ep <|
  And.intro @storeV_ptr <|
  And.intro @boxV_eq <|
  And.intro @buildV_eq <|
  And.intro @buildSlV_eq <|
  And.intro @nilckV_eq <|
  And.intro @isnilV_eq <|
  And.intro @makeV_eq <|
  And.intro @copyV_bsl <|
  And.intro @copyV_nils <|
  And.intro @bdW_none <|
  And.intro @bdW_some <|
  And.intro @sliceV_str <|
  And.intro @sliceV_nils <|
  And.intro @sliceV_sl <|
  And.intro @sliceV_bsl <|
  And.intro @idxArrV_ptr <|
  And.intro @idxArrV_ep <|
  And.intro @idxAggV_agg <|
  And.intro @minmaxV_cons <|
  And.intro @appTV_eq <|
  And.intro @loadNV_ptr <|
  And.intro @loadNV_ep <|
  And.intro @storeNV_ptr <|
  And.intro @callvV_fn <|
  And.intro @chkK_eq <|
  And.intro @finV_code <|
  And.intro @finV_keep <|
  And.intro @finV_own <|
  And.intro @appV_nils <|
  And.intro @appV_full <|
  @bnd_some_id
end Go.Am
namespace Go.Am.YthhceeaconflnaaDoor
set_option maxRecDepth 100000
set_option linter.unusedSimpArgs false
set_option linter.unusedVariables false
abbrev i64 (n : Int) : PV := .int .i64 n
abbrev val (k n : Int) (s : List UInt8) (b : PV) (o i : Int) : PV := .agg [i64 k, i64 n, .str s, b, i64 o, i64 i]
def in64 (n : Int) : Prop := -9223372036854775808 ≤ n ∧ n ≤ 9223372036854775807
instance (n : Int) : Decidable (in64 n) := inferInstanceAs (Decidable (_ ∧ _))
section
variable {h : Hp} {base : Nat}
theorem itoa_spec (n : Int) (hn : in64 n) : CallA T base 22 [i64 n] h = some (.str (Lib.itoa n), h) := by
  rw [CallA_prim T_22]
  unfold in64 at hn
  simp [pItoa, hn, primEnd, Option.bnd]
theorem format_spec (n : Int) (hn : in64 n) : CallA T base 23 [i64 n, i64 10] h = some (.str (Lib.itoa n), h) := by
  rw [CallA_prim T_23]
  unfold in64 at hn
  simp [pFormat, hn, primEnd, Option.bnd]
theorem kind_spec (k : Int) : CallA T base 20 [i64 k] h = some (.bool (decide (1 ≤ k ∧ k ≤ 6)), h) := by
  rw [S20]
  by_cases h1 : 1 ≤ k <;> by_cases h2 : k ≤ 6 <;> simp only [h1, h2, ↓evD, evU, Nat.reduceAdd, Nat.reduceSub, Nat.reduceMul, Nat.reduceLeDiff, Nat.reduceLT, Nat.reduceEqDiff, Nat.reduceBEq, reduceIte, reduceCtorEq, Int.reduceBEq, Int.reduceEq, Int.reduceLT, Int.reduceLE, Int.reduceGT, Int.reduceGE, Int.reduceAdd, Int.reduceSub, Int.reduceNeg, Int.reduceBNe, List.all_cons, List.all_nil, List.getElem?_cons_zero, List.getElem?_cons_succ, List.getElem?_nil, Option.map_some, List.length_cons, List.length_nil, List.set_cons_zero, List.set_cons_succ, List.map_cons, List.map_nil, List.drop_zero, List.drop_succ_cons, List.drop_nil, List.take_zero, List.take_succ_cons, List.take_nil, ite_true, ite_false, if_true, if_false, implies_true, forall_const, beq_self_eq_true, List.replicate_succ, List.replicate_zero, List.headD_cons, List.cons_append, List.nil_append, bne_self_eq_false]
/-- Bytes that hold no box. -/
structure Bs (b : PV) : Prop where
  sc : scalar b = true
  fr : ∀ n h, frz n h b = some b
  st : strip b = b
  be : ∀ n, below n b = true
  ce : b.cells = [b]
theorem bs_nils : Bs .nils := ⟨rfl, fun _ _ => rfl, rfl, fun _ => rfl, rfl⟩
theorem below_u8s (n : Nat) : ∀ l : List UInt8, belows n (l.map fun c => PV.int .u8 (c.toNat : Int)) = true
  | [] => rfl
  | c :: l => by simp [belows, below, below_u8s n l]
theorem bs_no (l : List UInt8) : Bs (.sl .no 1 (u8s l)) := ⟨rfl, fun _ _ => rfl, rfl, fun n => by simp only [below, Own.below, Bool.true_and]; exact below_u8s n l, rfl⟩
theorem bs_full (l : List UInt8) : Bs (.sl .full 1 (u8s l)) := ⟨rfl, fun _ _ => rfl, rfl, fun n => by simp only [below, Own.below, Bool.true_and]; exact below_u8s n l, rfl⟩

def onlyN (k n : Int) : Int := if k = 1 ∨ k = 2 ∨ k = 5 then n else 0
theorem bne_true_of {a b : Int} (h : a ≠ b) : (a != b) = true := by simpa using h
theorem beq_false_of {a b : Int} (h : a ≠ b) : (a == b) = false := by simpa using h
theorem only_spec (k n : Int) (s : List UInt8) (b : PV) (o i : Int) (hb : Bs b) :
    CallA T base 37 [val k n s b o i] h = some (val k (onlyN k n) (if k = 3 then s else []) (if k = 4 then b else .nils) (if k = 6 then o else 0) (if k = 6 then i else 0), h) := by
  rw [S37]
  by_cases h1 : k = 1
  · subst h1; simp only [hb.sc, hb.fr, hb.be, hb.ce, hb.st, onlyN, P37_0_eq, P37_1_eq, ↓evD, evU, Nat.reduceAdd, Nat.reduceSub, Nat.reduceMul, Nat.reduceLeDiff, Nat.reduceLT, Nat.reduceEqDiff, Nat.reduceBEq, reduceIte, reduceCtorEq, Int.reduceBEq, Int.reduceEq, Int.reduceLT, Int.reduceLE, Int.reduceGT, Int.reduceGE, Int.reduceAdd, Int.reduceSub, Int.reduceNeg, Int.reduceBNe, List.all_cons, List.all_nil, List.getElem?_cons_zero, List.getElem?_cons_succ, List.getElem?_nil, Option.map_some, List.length_cons, List.length_nil, List.set_cons_zero, List.set_cons_succ, List.map_cons, List.map_nil, List.drop_zero, List.drop_succ_cons, List.drop_nil, List.take_zero, List.take_succ_cons, List.take_nil, ite_true, ite_false, if_true, if_false, implies_true, forall_const, beq_self_eq_true, List.replicate_succ, List.replicate_zero, List.headD_cons, List.cons_append, List.nil_append, bne_self_eq_false]
  by_cases h2 : k = 2
  · subst h2; simp only [hb.sc, hb.fr, hb.be, hb.ce, hb.st, onlyN, P37_0_eq, P37_1_eq, ↓evD, evU, Nat.reduceAdd, Nat.reduceSub, Nat.reduceMul, Nat.reduceLeDiff, Nat.reduceLT, Nat.reduceEqDiff, Nat.reduceBEq, reduceIte, reduceCtorEq, Int.reduceBEq, Int.reduceEq, Int.reduceLT, Int.reduceLE, Int.reduceGT, Int.reduceGE, Int.reduceAdd, Int.reduceSub, Int.reduceNeg, Int.reduceBNe, List.all_cons, List.all_nil, List.getElem?_cons_zero, List.getElem?_cons_succ, List.getElem?_nil, Option.map_some, List.length_cons, List.length_nil, List.set_cons_zero, List.set_cons_succ, List.map_cons, List.map_nil, List.drop_zero, List.drop_succ_cons, List.drop_nil, List.take_zero, List.take_succ_cons, List.take_nil, ite_true, ite_false, if_true, if_false, implies_true, forall_const, beq_self_eq_true, List.replicate_succ, List.replicate_zero, List.headD_cons, List.cons_append, List.nil_append, bne_self_eq_false]
  by_cases h5 : k = 5
  · subst h5; simp only [hb.sc, hb.fr, hb.be, hb.ce, hb.st, onlyN, P37_0_eq, P37_1_eq, ↓evD, evU, Nat.reduceAdd, Nat.reduceSub, Nat.reduceMul, Nat.reduceLeDiff, Nat.reduceLT, Nat.reduceEqDiff, Nat.reduceBEq, reduceIte, reduceCtorEq, Int.reduceBEq, Int.reduceEq, Int.reduceLT, Int.reduceLE, Int.reduceGT, Int.reduceGE, Int.reduceAdd, Int.reduceSub, Int.reduceNeg, Int.reduceBNe, List.all_cons, List.all_nil, List.getElem?_cons_zero, List.getElem?_cons_succ, List.getElem?_nil, Option.map_some, List.length_cons, List.length_nil, List.set_cons_zero, List.set_cons_succ, List.map_cons, List.map_nil, List.drop_zero, List.drop_succ_cons, List.drop_nil, List.take_zero, List.take_succ_cons, List.take_nil, ite_true, ite_false, if_true, if_false, implies_true, forall_const, beq_self_eq_true, List.replicate_succ, List.replicate_zero, List.headD_cons, List.cons_append, List.nil_append, bne_self_eq_false]
  by_cases h3 : k = 3
  · subst h3; simp only [hb.sc, hb.fr, hb.be, hb.ce, hb.st, onlyN, P37_0_eq, P37_1_eq, ↓evD, evU, Nat.reduceAdd, Nat.reduceSub, Nat.reduceMul, Nat.reduceLeDiff, Nat.reduceLT, Nat.reduceEqDiff, Nat.reduceBEq, reduceIte, reduceCtorEq, Int.reduceBEq, Int.reduceEq, Int.reduceLT, Int.reduceLE, Int.reduceGT, Int.reduceGE, Int.reduceAdd, Int.reduceSub, Int.reduceNeg, Int.reduceBNe, List.all_cons, List.all_nil, List.getElem?_cons_zero, List.getElem?_cons_succ, List.getElem?_nil, Option.map_some, List.length_cons, List.length_nil, List.set_cons_zero, List.set_cons_succ, List.map_cons, List.map_nil, List.drop_zero, List.drop_succ_cons, List.drop_nil, List.take_zero, List.take_succ_cons, List.take_nil, ite_true, ite_false, if_true, if_false, implies_true, forall_const, beq_self_eq_true, List.replicate_succ, List.replicate_zero, List.headD_cons, List.cons_append, List.nil_append, bne_self_eq_false]
  by_cases h4 : k = 4
  · subst h4; simp only [hb.sc, hb.fr, hb.be, hb.ce, hb.st, onlyN, P37_0_eq, P37_1_eq, ↓evD, evU, Nat.reduceAdd, Nat.reduceSub, Nat.reduceMul, Nat.reduceLeDiff, Nat.reduceLT, Nat.reduceEqDiff, Nat.reduceBEq, reduceIte, reduceCtorEq, Int.reduceBEq, Int.reduceEq, Int.reduceLT, Int.reduceLE, Int.reduceGT, Int.reduceGE, Int.reduceAdd, Int.reduceSub, Int.reduceNeg, Int.reduceBNe, List.all_cons, List.all_nil, List.getElem?_cons_zero, List.getElem?_cons_succ, List.getElem?_nil, Option.map_some, List.length_cons, List.length_nil, List.set_cons_zero, List.set_cons_succ, List.map_cons, List.map_nil, List.drop_zero, List.drop_succ_cons, List.drop_nil, List.take_zero, List.take_succ_cons, List.take_nil, ite_true, ite_false, if_true, if_false, implies_true, forall_const, beq_self_eq_true, List.replicate_succ, List.replicate_zero, List.headD_cons, List.cons_append, List.nil_append, bne_self_eq_false]
  by_cases h6 : k = 6
  · subst h6; simp only [hb.sc, hb.fr, hb.be, hb.ce, hb.st, onlyN, P37_0_eq, P37_1_eq, ↓evD, evU, Nat.reduceAdd, Nat.reduceSub, Nat.reduceMul, Nat.reduceLeDiff, Nat.reduceLT, Nat.reduceEqDiff, Nat.reduceBEq, reduceIte, reduceCtorEq, Int.reduceBEq, Int.reduceEq, Int.reduceLT, Int.reduceLE, Int.reduceGT, Int.reduceGE, Int.reduceAdd, Int.reduceSub, Int.reduceNeg, Int.reduceBNe, List.all_cons, List.all_nil, List.getElem?_cons_zero, List.getElem?_cons_succ, List.getElem?_nil, Option.map_some, List.length_cons, List.length_nil, List.set_cons_zero, List.set_cons_succ, List.map_cons, List.map_nil, List.drop_zero, List.drop_succ_cons, List.drop_nil, List.take_zero, List.take_succ_cons, List.take_nil, ite_true, ite_false, if_true, if_false, implies_true, forall_const, beq_self_eq_true, List.replicate_succ, List.replicate_zero, List.headD_cons, List.cons_append, List.nil_append, bne_self_eq_false]
  simp only [hb.sc, hb.fr, hb.be, hb.ce, hb.st, h1, h2, h3, h4, h5, h6, beq_false_of h1, beq_false_of h2, beq_false_of h3, beq_false_of h4, beq_false_of h5, beq_false_of h6, onlyN, or_self, P37_0_eq, P37_1_eq, ↓evD, evU, Nat.reduceAdd, Nat.reduceSub, Nat.reduceMul, Nat.reduceLeDiff, Nat.reduceLT, Nat.reduceEqDiff, Nat.reduceBEq, reduceIte, reduceCtorEq, Int.reduceBEq, Int.reduceEq, Int.reduceLT, Int.reduceLE, Int.reduceGT, Int.reduceGE, Int.reduceAdd, Int.reduceSub, Int.reduceNeg, Int.reduceBNe, List.all_cons, List.all_nil, List.getElem?_cons_zero, List.getElem?_cons_succ, List.getElem?_nil, Option.map_some, List.length_cons, List.length_nil, List.set_cons_zero, List.set_cons_succ, List.map_cons, List.map_nil, List.drop_zero, List.drop_succ_cons, List.drop_nil, List.take_zero, List.take_succ_cons, List.take_nil, ite_true, ite_false, if_true, if_false, implies_true, forall_const, beq_self_eq_true, List.replicate_succ, List.replicate_zero, List.headD_cons, List.cons_append, List.nil_append, bne_self_eq_false]

/-- A number as it is read. -/
def numG (s : List UInt8) : Int × Bool := match Lib.parseIntB 64 s with
  | .ok v => (v, Lib.itoa v == s)
  | .range => (Lib.intSat 64 s, false)
  | _ => (0, false)
theorem in64_ok {s : List UInt8} {v : Int} (h : Lib.parseIntB 64 s = .ok v) : in64 v := by
  have := Lib.parseIntB_bounds h
  unfold in64
  omega
theorem parse_ok {hh : Hp} {s : List UInt8} (hs : s.length ≤ 281474976710656) {v : Int} (h : Lib.parseIntB 64 s = .ok v) : CallA T base 50 [.str s, i64 10, i64 64] hh = some (.tup [i64 v, .nilif], hh) := by
  rw [CallA_prim T_50]; simp [pParse, hs, h, primEnd, Option.bnd]
theorem parse_syn {hh : Hp} {s : List UInt8} (hs : s.length ≤ 281474976710656) (h1 : ∀ v, Lib.parseIntB 64 s ≠ .ok v) (h2 : Lib.parseIntB 64 s ≠ .range) : CallA T base 50 [.str s, i64 10, i64 64] hh = some (.tup [i64 0, .iface 111 .undef], hh) := by
  rw [CallA_prim T_50]
  cases hq : Lib.parseIntB 64 s with
  | ok v => exact (h1 v hq).elim
  | range => exact (h2 hq).elim
  | _ => simp [pParse, hs, hq, primEnd, Option.bnd]
theorem parse_ran {hh : Hp} {s : List UInt8} (hs : s.length ≤ 281474976710656) (h : Lib.parseIntB 64 s = .range) : CallA T base 50 [.str s, i64 10, i64 64] hh = some (.tup [i64 (Lib.intSat 64 s), .iface 111 .undef], hh) := by
  rw [CallA_prim T_50]; simp [pParse, hs, h, primEnd, Option.bnd]
theorem number_spec {s : List UInt8} (hs : s.length ≤ 281474976710656) : CallA T base 40 [.str s] h = some (.tup [i64 (numG s).1, .bool (numG s).2], h) := by
  rw [S40]
  unfold numG
  split
  · rename_i v hv
    have hq := parse_ok (hh := h) (base := size h) hs hv
    have hf := format_spec (h := h) (base := size h) v (in64_ok hv)
    simp only [hq, hf, ↓evD, evU, Nat.reduceAdd, Nat.reduceSub, Nat.reduceMul, Nat.reduceLeDiff, Nat.reduceLT, Nat.reduceEqDiff, Nat.reduceBEq, reduceIte, reduceCtorEq, Int.reduceBEq, Int.reduceEq, Int.reduceLT, Int.reduceLE, Int.reduceGT, Int.reduceGE, Int.reduceAdd, Int.reduceSub, Int.reduceNeg, Int.reduceBNe, List.all_cons, List.all_nil, List.getElem?_cons_zero, List.getElem?_cons_succ, List.getElem?_nil, Option.map_some, List.length_cons, List.length_nil, List.set_cons_zero, List.set_cons_succ, List.map_cons, List.map_nil, List.drop_zero, List.drop_succ_cons, List.drop_nil, List.take_zero, List.take_succ_cons, List.take_nil, ite_true, ite_false, if_true, if_false, implies_true, forall_const, beq_self_eq_true, List.replicate_succ, List.replicate_zero, List.headD_cons, List.cons_append, List.nil_append, bne_self_eq_false]
  · rename_i hv
    have hq := parse_ran (hh := h) (base := size h) hs hv
    simp only [hq, ↓evD, evU, Nat.reduceAdd, Nat.reduceSub, Nat.reduceMul, Nat.reduceLeDiff, Nat.reduceLT, Nat.reduceEqDiff, Nat.reduceBEq, reduceIte, reduceCtorEq, Int.reduceBEq, Int.reduceEq, Int.reduceLT, Int.reduceLE, Int.reduceGT, Int.reduceGE, Int.reduceAdd, Int.reduceSub, Int.reduceNeg, Int.reduceBNe, List.all_cons, List.all_nil, List.getElem?_cons_zero, List.getElem?_cons_succ, List.getElem?_nil, Option.map_some, List.length_cons, List.length_nil, List.set_cons_zero, List.set_cons_succ, List.map_cons, List.map_nil, List.drop_zero, List.drop_succ_cons, List.drop_nil, List.take_zero, List.take_succ_cons, List.take_nil, ite_true, ite_false, if_true, if_false, implies_true, forall_const, beq_self_eq_true, List.replicate_succ, List.replicate_zero, List.headD_cons, List.cons_append, List.nil_append, bne_self_eq_false]
  · rename_i hv1 hv2
    have hq := parse_syn (hh := h) (base := size h) hs hv1 hv2
    simp only [hq, ↓evD, evU, Nat.reduceAdd, Nat.reduceSub, Nat.reduceMul, Nat.reduceLeDiff, Nat.reduceLT, Nat.reduceEqDiff, Nat.reduceBEq, reduceIte, reduceCtorEq, Int.reduceBEq, Int.reduceEq, Int.reduceLT, Int.reduceLE, Int.reduceGT, Int.reduceGE, Int.reduceAdd, Int.reduceSub, Int.reduceNeg, Int.reduceBNe, List.all_cons, List.all_nil, List.getElem?_cons_zero, List.getElem?_cons_succ, List.getElem?_nil, Option.map_some, List.length_cons, List.length_nil, List.set_cons_zero, List.set_cons_succ, List.map_cons, List.map_nil, List.drop_zero, List.drop_succ_cons, List.drop_nil, List.take_zero, List.take_succ_cons, List.take_nil, ite_true, ite_false, if_true, if_false, implies_true, forall_const, beq_self_eq_true, List.replicate_succ, List.replicate_zero, List.headD_cons, List.cons_append, List.nil_append, bne_self_eq_false]
theorem cut_spec {s t : List UInt8} (hs : s.length < 4294967281) : CallA T base 49 [.str s, .str t] h = some (.tup [.str (Lib.cut s t).1, .str (Lib.cut s t).2.1, .bool (Lib.cut s t).2.2], h) := by
  rw [CallA_prim T_49]; simp [pCut, hs, primEnd, Option.bnd]
theorem numbered_spec (n : Int) : CallA T base 26 [i64 n] h = some (.bool (decide (0 ≤ n ∧ n ≤ 65535)), h) := by
  rw [S26]
  by_cases h1 : 0 ≤ n <;> by_cases h2 : n ≤ 65535 <;> simp only [h1, h2, ge_iff_le, ↓evD, evU, Nat.reduceAdd, Nat.reduceSub, Nat.reduceMul, Nat.reduceLeDiff, Nat.reduceLT, Nat.reduceEqDiff, Nat.reduceBEq, reduceIte, reduceCtorEq, Int.reduceBEq, Int.reduceEq, Int.reduceLT, Int.reduceLE, Int.reduceGT, Int.reduceGE, Int.reduceAdd, Int.reduceSub, Int.reduceNeg, Int.reduceBNe, List.all_cons, List.all_nil, List.getElem?_cons_zero, List.getElem?_cons_succ, List.getElem?_nil, Option.map_some, List.length_cons, List.length_nil, List.set_cons_zero, List.set_cons_succ, List.map_cons, List.map_nil, List.drop_zero, List.drop_succ_cons, List.drop_nil, List.take_zero, List.take_succ_cons, List.take_nil, ite_true, ite_false, if_true, if_false, implies_true, forall_const, beq_self_eq_true, List.replicate_succ, List.replicate_zero, List.headD_cons, List.cons_append, List.nil_append, bne_self_eq_false]
def linkG (s : List UInt8) : Int × Int × Bool :=
  let a := numG (Lib.cut s [58]).1
  let b := numG (Lib.cut s [58]).2.1
  if (Lib.cut s [58]).2.2 = true ∧ a.2 = true ∧ b.2 = true ∧ 0 ≤ a.1 ∧ a.1 ≤ 65535 ∧ 0 ≤ b.1 ∧ b.1 ≤ 65535 then (a.1, b.1, true) else (0, 0, false)
theorem cut_le (s t : List UInt8) : (Lib.cut s t).1.length ≤ s.length ∧ (Lib.cut s t).2.1.length ≤ s.length := by
  unfold Lib.cut
  split
  · simp; omega
  · simp
set_option maxHeartbeats 1000000 in
theorem link_spec {s : List UInt8} (hs : s.length < 4294967281) : CallA T base 39 [.str s] h = some (.tup [(if (linkG s).2.2 then val 6 0 [] .nils (linkG s).1 (linkG s).2.1 else val 0 0 [] .nils 0 0), .bool (linkG s).2.2], h) := by
  rw [S39]
  have hc : ∀ base h, _ := fun base h => cut_spec (h := h) (base := base) (t := [58]) hs
  obtain ⟨l1, l2⟩ := cut_le s [58]
  have ha : ∀ base h, _ := fun base h => number_spec (h := h) (base := base) (s := (Lib.cut s [58]).1) (by omega)
  have hb : ∀ base h, _ := fun base h => number_spec (h := h) (base := base) (s := (Lib.cut s [58]).2.1) (by omega)
  unfold linkG
  generalize Lib.cut s [58] = c at *
  obtain ⟨c1, c2, c3⟩ := c
  simp only at *
  generalize numG c1 = a at *
  generalize numG c2 = b at *
  obtain ⟨a1, a2⟩ := a
  obtain ⟨b1, b2⟩ := b
  cases c3
  · simp only [hc, ha, hb, ↓evD, evU, Nat.reduceAdd, Nat.reduceSub, Nat.reduceMul, Nat.reduceLeDiff, Nat.reduceLT, Nat.reduceEqDiff, Nat.reduceBEq, reduceIte, reduceCtorEq, Int.reduceBEq, Int.reduceEq, Int.reduceLT, Int.reduceLE, Int.reduceGT, Int.reduceGE, Int.reduceAdd, Int.reduceSub, Int.reduceNeg, Int.reduceBNe, List.all_cons, List.all_nil, List.getElem?_cons_zero, List.getElem?_cons_succ, List.getElem?_nil, Option.map_some, List.length_cons, List.length_nil, List.set_cons_zero, List.set_cons_succ, List.map_cons, List.map_nil, List.drop_zero, List.drop_succ_cons, List.drop_nil, List.take_zero, List.take_succ_cons, List.take_nil, ite_true, ite_false, if_true, if_false, implies_true, forall_const, beq_self_eq_true, List.replicate_succ, List.replicate_zero, List.headD_cons, List.cons_append, List.nil_append, bne_self_eq_false] <;> simp [*]
  cases a2
  · simp only [hc, ha, hb, ↓evD, evU, Nat.reduceAdd, Nat.reduceSub, Nat.reduceMul, Nat.reduceLeDiff, Nat.reduceLT, Nat.reduceEqDiff, Nat.reduceBEq, reduceIte, reduceCtorEq, Int.reduceBEq, Int.reduceEq, Int.reduceLT, Int.reduceLE, Int.reduceGT, Int.reduceGE, Int.reduceAdd, Int.reduceSub, Int.reduceNeg, Int.reduceBNe, List.all_cons, List.all_nil, List.getElem?_cons_zero, List.getElem?_cons_succ, List.getElem?_nil, Option.map_some, List.length_cons, List.length_nil, List.set_cons_zero, List.set_cons_succ, List.map_cons, List.map_nil, List.drop_zero, List.drop_succ_cons, List.drop_nil, List.take_zero, List.take_succ_cons, List.take_nil, ite_true, ite_false, if_true, if_false, implies_true, forall_const, beq_self_eq_true, List.replicate_succ, List.replicate_zero, List.headD_cons, List.cons_append, List.nil_append, bne_self_eq_false] <;> simp [*]
  cases b2
  · simp only [hc, ha, hb, ↓evD, evU, Nat.reduceAdd, Nat.reduceSub, Nat.reduceMul, Nat.reduceLeDiff, Nat.reduceLT, Nat.reduceEqDiff, Nat.reduceBEq, reduceIte, reduceCtorEq, Int.reduceBEq, Int.reduceEq, Int.reduceLT, Int.reduceLE, Int.reduceGT, Int.reduceGE, Int.reduceAdd, Int.reduceSub, Int.reduceNeg, Int.reduceBNe, List.all_cons, List.all_nil, List.getElem?_cons_zero, List.getElem?_cons_succ, List.getElem?_nil, Option.map_some, List.length_cons, List.length_nil, List.set_cons_zero, List.set_cons_succ, List.map_cons, List.map_nil, List.drop_zero, List.drop_succ_cons, List.drop_nil, List.take_zero, List.take_succ_cons, List.take_nil, ite_true, ite_false, if_true, if_false, implies_true, forall_const, beq_self_eq_true, List.replicate_succ, List.replicate_zero, List.headD_cons, List.cons_append, List.nil_append, bne_self_eq_false] <;> simp [*]
  by_cases h1 : a1 < 0
  · have g1 : ¬ 0 ≤ a1 := by omega
    simp only [hc, ha, hb, h1, g1, ↓evD, evU, Nat.reduceAdd, Nat.reduceSub, Nat.reduceMul, Nat.reduceLeDiff, Nat.reduceLT, Nat.reduceEqDiff, Nat.reduceBEq, reduceIte, reduceCtorEq, Int.reduceBEq, Int.reduceEq, Int.reduceLT, Int.reduceLE, Int.reduceGT, Int.reduceGE, Int.reduceAdd, Int.reduceSub, Int.reduceNeg, Int.reduceBNe, List.all_cons, List.all_nil, List.getElem?_cons_zero, List.getElem?_cons_succ, List.getElem?_nil, Option.map_some, List.length_cons, List.length_nil, List.set_cons_zero, List.set_cons_succ, List.map_cons, List.map_nil, List.drop_zero, List.drop_succ_cons, List.drop_nil, List.take_zero, List.take_succ_cons, List.take_nil, ite_true, ite_false, if_true, if_false, implies_true, forall_const, beq_self_eq_true, List.replicate_succ, List.replicate_zero, List.headD_cons, List.cons_append, List.nil_append, bne_self_eq_false] <;> simp [*]
  have g1 : 0 ≤ a1 := by omega
  by_cases h2 : 65535 < a1
  · have g2 : ¬ a1 ≤ 65535 := by omega
    simp only [hc, ha, hb, gt_iff_lt, h1, h2, g1, g2, ↓evD, evU, Nat.reduceAdd, Nat.reduceSub, Nat.reduceMul, Nat.reduceLeDiff, Nat.reduceLT, Nat.reduceEqDiff, Nat.reduceBEq, reduceIte, reduceCtorEq, Int.reduceBEq, Int.reduceEq, Int.reduceLT, Int.reduceLE, Int.reduceGT, Int.reduceGE, Int.reduceAdd, Int.reduceSub, Int.reduceNeg, Int.reduceBNe, List.all_cons, List.all_nil, List.getElem?_cons_zero, List.getElem?_cons_succ, List.getElem?_nil, Option.map_some, List.length_cons, List.length_nil, List.set_cons_zero, List.set_cons_succ, List.map_cons, List.map_nil, List.drop_zero, List.drop_succ_cons, List.drop_nil, List.take_zero, List.take_succ_cons, List.take_nil, ite_true, ite_false, if_true, if_false, implies_true, forall_const, beq_self_eq_true, List.replicate_succ, List.replicate_zero, List.headD_cons, List.cons_append, List.nil_append, bne_self_eq_false] <;> simp [*]
  have g2 : a1 ≤ 65535 := by omega
  by_cases h3 : b1 < 0
  · have g3 : ¬ 0 ≤ b1 := by omega
    simp only [hc, ha, hb, gt_iff_lt, h1, h2, h3, g1, g2, g3, ↓evD, evU, Nat.reduceAdd, Nat.reduceSub, Nat.reduceMul, Nat.reduceLeDiff, Nat.reduceLT, Nat.reduceEqDiff, Nat.reduceBEq, reduceIte, reduceCtorEq, Int.reduceBEq, Int.reduceEq, Int.reduceLT, Int.reduceLE, Int.reduceGT, Int.reduceGE, Int.reduceAdd, Int.reduceSub, Int.reduceNeg, Int.reduceBNe, List.all_cons, List.all_nil, List.getElem?_cons_zero, List.getElem?_cons_succ, List.getElem?_nil, Option.map_some, List.length_cons, List.length_nil, List.set_cons_zero, List.set_cons_succ, List.map_cons, List.map_nil, List.drop_zero, List.drop_succ_cons, List.drop_nil, List.take_zero, List.take_succ_cons, List.take_nil, ite_true, ite_false, if_true, if_false, implies_true, forall_const, beq_self_eq_true, List.replicate_succ, List.replicate_zero, List.headD_cons, List.cons_append, List.nil_append, bne_self_eq_false] <;> simp [*]
  have g3 : 0 ≤ b1 := by omega
  by_cases h4 : 65535 < b1
  · have g4 : ¬ b1 ≤ 65535 := by omega
    simp only [hc, ha, hb, gt_iff_lt, h1, h2, h3, h4, g1, g2, g3, g4, ↓evD, evU, Nat.reduceAdd, Nat.reduceSub, Nat.reduceMul, Nat.reduceLeDiff, Nat.reduceLT, Nat.reduceEqDiff, Nat.reduceBEq, reduceIte, reduceCtorEq, Int.reduceBEq, Int.reduceEq, Int.reduceLT, Int.reduceLE, Int.reduceGT, Int.reduceGE, Int.reduceAdd, Int.reduceSub, Int.reduceNeg, Int.reduceBNe, List.all_cons, List.all_nil, List.getElem?_cons_zero, List.getElem?_cons_succ, List.getElem?_nil, Option.map_some, List.length_cons, List.length_nil, List.set_cons_zero, List.set_cons_succ, List.map_cons, List.map_nil, List.drop_zero, List.drop_succ_cons, List.drop_nil, List.take_zero, List.take_succ_cons, List.take_nil, ite_true, ite_false, if_true, if_false, implies_true, forall_const, beq_self_eq_true, List.replicate_succ, List.replicate_zero, List.headD_cons, List.cons_append, List.nil_append, bne_self_eq_false] <;> simp [*]
  have g4 : b1 ≤ 65535 := by omega
  simp only [hc, ha, hb, gt_iff_lt, h1, h2, h3, h4, g1, g2, g3, g4, ↓evD, evU, Nat.reduceAdd, Nat.reduceSub, Nat.reduceMul, Nat.reduceLeDiff, Nat.reduceLT, Nat.reduceEqDiff, Nat.reduceBEq, reduceIte, reduceCtorEq, Int.reduceBEq, Int.reduceEq, Int.reduceLT, Int.reduceLE, Int.reduceGT, Int.reduceGE, Int.reduceAdd, Int.reduceSub, Int.reduceNeg, Int.reduceBNe, List.all_cons, List.all_nil, List.getElem?_cons_zero, List.getElem?_cons_succ, List.getElem?_nil, Option.map_some, List.length_cons, List.length_nil, List.set_cons_zero, List.set_cons_succ, List.map_cons, List.map_nil, List.drop_zero, List.drop_succ_cons, List.drop_nil, List.take_zero, List.take_succ_cons, List.take_nil, ite_true, ite_false, if_true, if_false, implies_true, forall_const, beq_self_eq_true, List.replicate_succ, List.replicate_zero, List.headD_cons, List.cons_append, List.nil_append, bne_self_eq_false] <;> simp [*]
end
end Go.Am.YthhceeaconflnaaDoor
namespace Go.Am
set_option linter.unusedVariables false
set_option linter.unusedSimpArgs false
theorem Bu.strips : ∀ l : List UInt8, strips (u8s l) = u8s l
  | [] => rfl
  | c :: l => by show strip _ :: Go.Am.strips (u8s l) = _; rw [Bu.strips l]; rfl
theorem Bu.len (l : List UInt8) : (u8s l).length = l.length := by simp [u8s]
theorem Bu.append (a b : List UInt8) : u8s a ++ u8s b = u8s (a ++ b) := by simp [u8s]
theorem Bu.bytesOf (l : List UInt8) : bytesOf (u8s l) = some l := bytesOf_bytes l
theorem Bu.ne {l : List UInt8} (h : l ≠ []) : u8s l ≠ [] := by cases l <;> simp_all [u8s]
theorem Bu.nil : u8s [] = [] := rfl
theorem Bu.cons (c : UInt8) (l : List UInt8) : u8s (c :: l) = .int .u8 c.toNat :: u8s l := rfl
theorem Bu.one (c : UInt8) : [PV.int .u8 (c.toNat : Int)] = u8s [c] := rfl
theorem Bu.eq_nil {l : List UInt8} : u8s l = [] ↔ l = [] := by cases l <;> simp [u8s]
theorem Bu.fits : ∀ l : List UInt8, (u8s l).all (fits 1) = true
  | [] => rfl
  | c :: l => by show (_ && List.all (u8s l) _) = true; rw [Bu.fits l]; rfl
theorem Bu.scalar : ∀ l : List UInt8, (u8s l).all scalar = true
  | [] => rfl
  | c :: l => by show (_ && List.all (u8s l) _) = true; rw [Bu.scalar l]; rfl
theorem Bu.below (n : Nat) : ∀ l : List UInt8, belows n (u8s l) = true
  | [] => rfl
  | c :: l => by show (_ && belows n (u8s l)) = true; rw [Bu.below n l]; rfl
theorem Bu.get {l : List UInt8} {i : Nat} {c : UInt8} (h : l[i]? = some c) : (u8s l)[i]? = some (.int .u8 c.toNat) := by simp [u8s, h]
theorem Bu.drop (l : List UInt8) (n : Nat) : (u8s l).drop n = u8s (l.drop n) := by simp [u8s]
theorem Bu.take (l : List UInt8) (n : Nat) : (u8s l).take n = u8s (l.take n) := by simp [u8s]
theorem Bu.ix {k : IntKind} {l : List UInt8} {i : Nat} (h : i < l.length) : ix (.int k i) (u8s l).length = some i := ix_nat k i _ (by rw [Bu.len]; exact h)

/-- A slice that grows: what it is (z: while there is nothing in it), and its token on top of the heap. -/
def gV (h : Hp) (z : PV) (sz : Nat) (es : List PV) : PV := if es.isEmpty then z else .sl (.tok (size h)) sz es
def gH (h : Hp) (T : Nat) (es : List PV) : Hp := if es.isEmpty then h else ext h [.tok es.length T]
/-- What may stand for nothing. -/
def gZ (sz : Nat) (z : PV) : Prop := z = .nils ∨ z = .sl .full sz []
theorem gZ_nils (sz : Nat) : gZ sz .nils := .inl rfl
theorem gZ_full (sz : Nat) : gZ sz (.sl .full sz []) := .inr rfl
theorem gV_nil (h z sz) : gV h z sz [] = z := rfl
theorem gH_nil (h T) : gH h T [] = h := rfl
theorem gGrow {h : Hp} {T sz : Nat} {z : PV} (hz : gZ sz z) (es xs : List PV) (hf : xs.all (fits sz) = true) (hs : strips xs = xs) (hl : es.length + xs.length ≤ lim2) :
    growT (gH h T es) T sz (gV h z sz es) xs = some (gV h z sz (es ++ xs), gH h T (es ++ xs)) := by
  unfold growT
  rw [if_pos hf]
  cases es with
  | nil =>
    simp only [gV_nil, gH_nil, List.nil_append]
    simp only [List.length_nil] at hl
    rcases hz with rfl | rfl
    · simp only
      rw [if_pos (by omega)]
      cases xs with
      | nil => rfl
      | cons x xs => simp only [List.isEmpty_cons, Bool.false_eq_true, if_false, gV, gH, hs]
    · simp only
      rw [if_pos (by simp; omega)]
      cases xs with
      | nil => rfl
      | cons x xs => simp only [List.isEmpty_cons, Bool.false_eq_true, if_false, gV, gH, hs, List.nil_append, List.length_nil, Nat.zero_add]
  | cons e es =>
    have e1 : gV h z sz (e :: es) = .sl (.tok (size h)) sz (e :: es) := rfl
    have e2 : gH h T (e :: es) = ext h [.tok (e :: es).length T] := rfl
    rw [e1, e2]
    simp only [getTok_ext_0, tokOf_tok, Option.bnd_some, hs]
    rw [if_pos ⟨trivial, trivial, hl⟩, setBx_ext_0]
    simp only [gV, gH, List.cons_append, List.isEmpty_cons, Bool.false_eq_true, if_false, List.length_cons, List.length_append, Nat.add_right_comm]
theorem gOne {h : Hp} {T : Nat} {z : PV} (hz : gZ 1 z) (out : List UInt8) (c : UInt8) (hl : out.length + 1 ≤ lim2) :
    growT (gH h T (u8s out)) T 1 (gV h z 1 (u8s out)) [.int .u8 c.toNat] = some (gV h z 1 (u8s (out ++ [c])), gH h T (u8s (out ++ [c]))) := by
  have := gGrow (h := h) (T := T) hz (u8s out) (u8s [c]) (Bu.fits [c]) (Bu.strips [c]) (by rw [Bu.len]; exact hl)
  rw [Bu.append] at this
  exact this
theorem gU8 {h : Hp} {T : Nat} {z : PV} (hz : gZ 1 z) (out l : List UInt8) (hl : out.length + l.length ≤ lim2) :
    growT (gH h T (u8s out)) T 1 (gV h z 1 (u8s out)) (u8s l) = some (gV h z 1 (u8s (out ++ l)), gH h T (u8s (out ++ l))) := by
  have := gGrow (h := h) (T := T) hz (u8s out) (u8s l) (Bu.fits l) (Bu.strips l) (by rw [Bu.len, Bu.len]; exact hl)
  rw [Bu.append] at this
  exact this
theorem size_gH (h T es) : size h ≤ size (gH h T es) := by
  unfold gH; split
  · exact Nat.le_refl _
  · rw [size_ext]; omega
theorem trunc_gH (h T es) : trunc (gH h T es) (size h) = h := by
  unfold gH; split
  · exact trunc_self
  · exact trunc_ext
/-- What has grown, behind its frame. -/
def gD (z : PV) (sz : Nat) (es : List PV) : PV := if es.isEmpty then z else .sl .no sz es
theorem frz_gV {sz : Nat} {z : PV} (hz : gZ sz z) (n : Nat) (h k : Hp) (es : List PV) : frz n k (gV h z sz es) = some (gD z sz es) := by
  unfold gV gD
  cases es with
  | nil => rcases hz with rfl | rfl <;> rfl
  | cons x xs => rfl
theorem below_gD {sz : Nat} {z : PV} (hz : gZ sz z) (n : Nat) (es : List PV) (hb : belows n es = true) : below n (gD z sz es) = true := by
  unfold gD
  cases es with
  | nil => rcases hz with rfl | rfl <;> rfl
  | cons x xs => simp only [List.isEmpty_cons, Bool.false_eq_true, if_false, below_sl, obelow_no, Bool.true_and, hb]
theorem elems_gV {sz : Nat} {z : PV} (hz : gZ sz z) (h k : Hp) (es : List PV) : elems k (gV h z sz es) = some es := by
  unfold gV
  cases es with
  | nil => rcases hz with rfl | rfl <;> rfl
  | cons x xs => rfl
theorem elems_gD {sz : Nat} {z : PV} (hz : gZ sz z) (k : Hp) (es : List PV) : elems k (gD z sz es) = some es := by
  unfold gD
  cases es with
  | nil => rcases hz with rfl | rfl <;> rfl
  | cons x xs => rfl
theorem len_gV {sz : Nat} {z : PV} (hz : gZ sz z) (h : Hp) (es : List PV) : lenB false (gV h z sz es) = some (.int .i64 es.length) := by
  unfold gV
  cases es with
  | nil => rcases hz with rfl | rfl <;> rfl
  | cons x xs => rfl
theorem len_gD {sz : Nat} {z : PV} (hz : gZ sz z) (es : List PV) : lenB false (gD z sz es) = some (.int .i64 es.length) := by
  unfold gD
  cases es with
  | nil => rcases hz with rfl | rfl <;> rfl
  | cons x xs => rfl
theorem bytes_gV {z : PV} (hz : gZ 1 z) (h k : Hp) (l : List UInt8) : bytesStrB k (gV h z 1 (u8s l)) = some (.str l) := by
  unfold gV
  cases l with
  | nil => rcases hz with rfl | rfl <;> rfl
  | cons x xs =>
    show (Go.Am.bytesOf (u8s (x :: xs))).bnd _ = _
    rw [Bu.bytesOf]; rfl
/-- Bytes as a value: nil, or a slice by value. -/
def Bv (b : PV) (l : List UInt8) : Prop := (b = .nils ∧ l = []) ∨ b = .sl .no 1 (u8s l) ∨ b = .sl .full 1 (u8s l)
theorem Bv.nils : Bv .nils [] := .inl ⟨rfl, rfl⟩
theorem Bv.no (l) : Bv (.sl .no 1 (u8s l)) l := .inr (.inl rfl)
theorem Bv.full (l) : Bv (.sl .full 1 (u8s l)) l := .inr (.inr rfl)
section
variable {b : PV} {l : List UInt8} (hb : Bv b l)
include hb
theorem Bv.len : lenB false b = some (.int .i64 l.length) := by
  rcases hb with ⟨rfl, rfl⟩ | rfl | rfl
  · rfl
  · rw [lenB_sl, Bu.len]
  · rw [lenB_sl, Bu.len]
theorem Bv.elems (h : Hp) : Go.Am.elems h b = some (u8s l) := by rcases hb with ⟨rfl, rfl⟩ | rfl | rfl <;> rfl
theorem Bv.idx {k : IntKind} {i : Nat} {c : UInt8} (hc : l[i]? = some c) : idxAB b (.int k i) 1 = some (.ep [.int .u8 c.toNat] 0) := by
  have hi := (List.getElem?_eq_some_iff.1 hc).1
  rcases hb with ⟨rfl, rfl⟩ | rfl | rfl
  · simp at hc
  · rw [idxAB_sl, if_pos rfl, Bu.ix hi, Option.bnd_some, Bu.get hc]; rfl
  · rw [idxAB_sl, if_pos rfl, Bu.ix hi, Option.bnd_some, Bu.get hc]; rfl
theorem Bv.scalar : Go.Am.scalar b = true := by rcases hb with ⟨rfl, rfl⟩ | rfl | rfl <;> rfl
theorem Bv.frz (n : Nat) (h : Hp) : Go.Am.frz n h b = some b := by rcases hb with ⟨rfl, rfl⟩ | rfl | rfl <;> rfl
theorem Bv.strip : Go.Am.strip b = b := by rcases hb with ⟨rfl, rfl⟩ | rfl | rfl <;> rfl
theorem Bv.below (n : Nat) : Go.Am.below n b = true := by
  rcases hb with ⟨rfl, rfl⟩ | rfl | rfl
  · rfl
  · rw [below_sl, Bu.below]; rfl
  · rw [below_sl, Bu.below]; rfl
theorem Bv.cells : b.cells = [b] := by rcases hb with ⟨rfl, rfl⟩ | rfl | rfl <;> rfl
end
theorem Bv.done {z : PV} (hz : gZ 1 z) (l : List UInt8) : Bv (gD z 1 (u8s l)) l := by
  unfold gD
  cases l with
  | nil => rcases hz with rfl | rfl
           · exact .inl ⟨rfl, rfl⟩
           · exact .inr (.inr rfl)
  | cons x xs => exact .inr (.inl rfl)
/-- Bytes that can be read. -/
structure Rd (b : PV) (l : List UInt8) : Prop where
  len : lenB false b = some (.int .i64 l.length)
  idx : ∀ {k : IntKind} {i : Nat} {c : UInt8}, l[i]? = some c → idxAB b (.int k i) 1 = some (.ep [.int .u8 c.toNat] 0)
  elems : ∀ h, Go.Am.elems h b = some (u8s l)
theorem Bv.rd {b : PV} {l : List UInt8} (hb : Bv b l) : Rd b l := ⟨hb.len, hb.idx, hb.elems⟩
theorem rd_sl (o : Own) (l : List UInt8) : Rd (.sl o 1 (u8s l)) l := by
  refine ⟨by rw [lenB_sl, Bu.len], fun {k i c} hc => ?_, fun h => rfl⟩
  have hi := (List.getElem?_eq_some_iff.1 hc).1
  rw [idxAB_sl, if_pos rfl, Bu.ix hi, Option.bnd_some, Bu.get hc]; rfl
theorem gV_rd {z : PV} (hz : gZ 1 z) (h : Hp) (l : List UInt8) : Rd (gV h z 1 (u8s l)) l := by
  cases l with
  | nil =>
    rcases hz with rfl | rfl
    · exact Bv.nils.rd
    · exact (Bv.full []).rd
  | cons x l => exact rd_sl _ (x :: l)
end Go.Am
namespace Go.Am
set_option linter.unusedVariables false

def rowV (P : Program) (e : TypeId) (r : List PV) : PV :=
  match P.underlying e with
  | some (.struct _) => .agg r
  | _ => r.headD .undef

/-- The cells of a value of a type made of bools, whole numbers, texts, structs and slices of such. -/
inductive Sh (P : Program) : TypeId → List PV → Prop where
  | bool {t} (b : Bool) (ht : P.underlying t = some .bool) : Sh P t [.bool b]
  | int {t} (k : IntKind) (n : Int) (ht : P.underlying t = some (.int k)) (hn : (Lit.int k n).wf = true) : Sh P t [.int k n]
  | str {t} (l : List UInt8) (ht : P.underlying t = some .string) (hl : l.length ≤ reachBytes) : Sh P t [.str l]
  | nils {t e} (ht : P.underlying t = some (.slice e)) : Sh P t [.nils]
  | sl {t e} (rows : List (List PV)) (ht : P.underlying t = some (.slice e)) (hr : ∀ r ∈ rows, Sh P e r) (hl : ∀ r ∈ rows, r.length = P.cellsOf e) (hn : rows.length ≤ maxLen) (hb : rows.length * P.bytesOf e ≤ reachBytes) : Sh P t [.sl .no (P.cellsOf e) (rows.map (rowV P e))]
  | struct {t} (fs : Array Field) (cs : List PV) (ht : P.underlying t = some (.struct fs)) (hn : cs.length = P.cellsOf t)
      (hf : ∀ (i : Nat) (f : Field), fs[i]? = some f → Sh P f.type ((cs.drop f.offset).take (P.cellsOf f.type))) : Sh P t cs

theorem Sh.row {P : Program} {e : TypeId} {r : List PV} (h : Sh P e r) : (rowV P e r).cells = r := by
  cases h with
  | bool b ht => simp [rowV, ht, PV.cells]
  | int k n ht => simp [rowV, ht, PV.cells]
  | str l ht => simp [rowV, ht, PV.cells]
  | nils ht => simp [rowV, ht, PV.cells]
  | sl rows ht => simp [rowV, ht, PV.cells]
  | struct fs cs ht => simp [rowV, ht, PV.cells]

/-- Do a struct's fields lie one behind the other? -/
def tiles (P : Program) : Nat → List Field → Nat → Bool
  | off, [], tot => off == tot
  | off, f :: r, tot => f.offset == off && tiles P (off + P.cellsOf f.type) r tot
theorem tiles_le {P : Program} : ∀ (fl : List Field) (off tot : Nat), tiles P off fl tot = true → off ≤ tot
  | [], off, tot, h => by simp [tiles] at h; omega
  | f :: r, off, tot, h => by
    simp only [tiles, Bool.and_eq_true] at h
    have := tiles_le r _ _ h.2
    omega
/-- Is a type made of these alone? -/
def plainT (P : Program) : Nat → TypeId → Bool
  | 0, _ => false
  | n + 1, t => match P.underlying t with
    | some .bool | some (.int _) | some .string => true
    | some (.slice e) => decide (0 < P.cellsOf e) && plainT P n e
    | some (.struct fs) => tiles P 0 fs.toList (P.cellsOf t) && fs.toList.all fun f => plainT P n f.type
    | _ => false

theorem exists_rows {α : Type} (Q : Nat → α → Prop) : ∀ n, (∀ i, i < n → ∃ r, Q i r) → ∃ rows : List α, rows.length = n ∧ ∀ (i : Nat) r, rows[i]? = some r → Q i r
  | 0, _ => ⟨[], rfl, fun i r h => by simp at h⟩
  | n + 1, h => by
    obtain ⟨rows, h1, h2⟩ := exists_rows Q n (fun i hi => h i (by omega))
    obtain ⟨r, hr⟩ := h n (by omega)
    refine ⟨rows ++ [r], by simp [h1], fun i r' hi => ?_⟩
    by_cases hin : i < n
    · rw [List.getElem?_append_left (by omega)] at hi; exact h2 i r' hi
    · have hlt := (List.getElem?_eq_some_iff.1 hi).1
      simp at hlt
      have : i = n := by omega
      subst this
      rw [List.getElem?_append_right (by omega), h1] at hi
      simp at hi
      subst hi
      exact hr

theorem cell_spot {w : World} {b o : Nat} {sp : Option Nat} {u : Value} (h : w.cell? ⟨b, o, sp⟩ = some u) : sp = none := by
  unfold World.cell? at h
  split at h
  · rename_i c _ _ hq
    cases sp with
    | none => rfl
    | some s => simp at h
  · cases h

theorem weights_all {H : Type} {P : Program} {e : TypeId} : ∀ {l : List (DataW H)} {d : DataW H}, d ∈ l → ∀ n ∈ d.weights P e, n ∈ DataW.weightsAll P e l
  | d0 :: l, d, hd, n, hn => by
    simp only [DataW.weightsAll, List.mem_append]
    simp only [List.mem_cons] at hd
    rcases hd with rfl | hd
    · exact .inl hn
    · exact .inr (weights_all hd n hn)
theorem open_fields {P : Program} {cs : List Value} {R : PV → Value → Prop} : ∀ (fl : List Field) (off : Nat), tiles P off fl cs.length = true →
    (∀ f ∈ fl, ∃ v : List PV, v.length = ((cs.drop f.offset).take (P.cellsOf f.type)).length ∧ (∀ (j : Nat) x, v[j]? = some x → ∃ u, ((cs.drop f.offset).take (P.cellsOf f.type))[j]? = some u ∧ R x u) ∧ Sh P f.type v) →
    ∃ vs : List PV, off + vs.length = cs.length ∧ (∀ (j : Nat) x, vs[j]? = some x → ∃ u, cs[off + j]? = some u ∧ R x u) ∧ ∀ f ∈ fl, off ≤ f.offset ∧ Sh P f.type ((vs.drop (f.offset - off)).take (P.cellsOf f.type))
  | [], off, ht, h => by
    simp [tiles] at ht
    exact ⟨[], by simp [ht], fun j x hx => by simp at hx, fun f hf => by simp at hf⟩
  | f :: fl, off, ht, h => by
    simp only [tiles, Bool.and_eq_true, beq_iff_eq] at ht
    obtain ⟨rfl, ht⟩ := ht
    have hle := tiles_le _ _ _ ht
    obtain ⟨v, h1, h2, h3⟩ := h f (by simp)
    have hv : v.length = P.cellsOf f.type := by rw [h1]; simp; omega
    obtain ⟨vs, q1, q2, q3⟩ := open_fields fl _ ht (fun f' hf' => h f' (by simp [hf']))
    refine ⟨v ++ vs, by simp; omega, fun j x hx => ?_, fun f' hf' => ?_⟩
    · by_cases hj : j < v.length
      · rw [List.getElem?_append_left hj] at hx
        obtain ⟨u, hu, hr⟩ := h2 j x hx
        refine ⟨u, ?_, hr⟩
        rw [List.getElem?_take, if_pos (by omega), List.getElem?_drop] at hu
        exact hu
      · rw [List.getElem?_append_right (by omega)] at hx
        obtain ⟨u, hu, hr⟩ := q2 _ x hx
        refine ⟨u, ?_, hr⟩
        rw [← hu]; congr 1; omega
    · simp only [List.mem_cons] at hf'
      rcases hf' with rfl | hf'
      · refine ⟨Nat.le_refl _, ?_⟩
        rw [Nat.sub_self, List.drop_zero, List.take_append_of_le_length (by omega), ← hv, List.take_length]
        exact h3
      · obtain ⟨r1, r2⟩ := q3 f' hf'
        refine ⟨by omega, ?_⟩
        rw [List.drop_append, List.drop_eq_nil_of_le (by omega), List.nil_append, show f'.offset - f.offset - v.length = f'.offset - (f.offset + P.cellsOf f.type) by omega]
        exact r2

theorem open_cells {H : Type} {enc : TypeId × Value → H} {P : Program} {w : World} {spare : Nat → Bool} {held : Bool} {g : G} : ∀ (n m : Nat) (t : TypeId) (cs : List Value) (x : DataW H × List MemPlace),
    DataW.trod enc P w 0 spare held n t cs = some x → plainT P m t = true → (∀ k ∈ x.1.weights P t, k ≤ reachBytes) →
    ∃ vs : List PV, vs.length = cs.length ∧ (∀ (j : Nat) v, vs[j]? = some v → ∃ u, cs[j]? = some u ∧ RV w.heap.size g w v u) ∧ Sh P t vs
  | 0, m, t, cs, x, h, hp, hwt => by simp [DataW.trod] at h
  | n + 1, 0, t, cs, x, h, hp, hwt => by simp [plainT] at hp
  | n + 1, m + 1, t, cs, x, h, hp, hwt => by
    rw [plainT] at hp
    split at hp
    · rename_i ht
      obtain ⟨b, rfl, _⟩ := DataW.trod_bool ht h
      refine ⟨[.bool b], rfl, fun j v hv => ?_, .bool b ht⟩
      cases j with
      | zero => simp at hv; subst hv; exact ⟨_, rfl, .bool b⟩
      | succ j => simp at hv
    · rename_i k ht
      obtain ⟨z, rfl, _, hwf⟩ := DataW.trod_int ht h
      refine ⟨[.int k z], rfl, fun j v hv => ?_, .int k z ht hwf⟩
      cases j with
      | zero => simp at hv; subst hv; exact ⟨_, rfl, .int k z⟩
      | succ j => simp at hv
    · rename_i ht
      obtain ⟨s, rfl, rfl, hs⟩ := DataW.trod_string ht h
      refine ⟨[.str s.data.toList], rfl, fun j v hv => ?_, .str _ ht (hwt _ (by simp [DataW.weights]))⟩
      cases j with
      | zero => simp at hv; subst hv; exact ⟨_, rfl, .str _ s rfl⟩
      | succ j => simp at hv
    · rename_i e ht
      simp only [Bool.and_eq_true, decide_eq_true_eq] at hp
      rcases DataW.trod_slice ht h with ⟨rfl, _⟩ | ⟨a, len, cap, elems, rest, n', hn', rfl, rfl, _, hlc, hcm, hel, helems, _, _⟩
      · refine ⟨[.nils], rfl, fun j v hv => ?_, .nils ht⟩
        cases j with
        | zero => simp at hv; subst hv; exact ⟨_, rfl, .nils⟩
        | succ j => simp at hv
      · obtain rfl : n' = n := by omega
        have hq : ∀ i, i < len → ∃ r : List PV, r.length = P.cellsOf e ∧ Sh P e r ∧ ∀ (j : Nat) v, r[j]? = some v → ∃ u, w.cell? ((a.add (i * P.cellsOf e)).add j) = some u ∧ RV w.heap.size g w v u := by
          intro i hi
          have hlt : i < elems.length := by omega
          have hei := helems i hi
          rw [List.getElem?_eq_getElem hlt, Option.bind_eq_some_iff] at hei
          obtain ⟨ci, hci, hti⟩ := hei
          obtain ⟨_, hlen, hcell⟩ := World.cells?_some hci
          obtain ⟨r, h1, h2, h3⟩ := open_cells n' m e ci _ hti hp.2 (fun k hk => hwt k (by
            simp only [DataW.weights, ht, List.mem_cons, List.mem_append]
            exact .inr (.inl (weights_all (List.mem_map.2 ⟨_, List.getElem_mem hlt, rfl⟩) k hk))))
          refine ⟨r, by rw [h1, hlen], h3, fun j v hv => ?_⟩
          obtain ⟨u, hu, hr⟩ := h2 j v hv
          have hj : j < P.cellsOf e := by rw [← hlen, ← h1]; exact (List.getElem?_eq_some_iff.1 hv).1
          exact ⟨u, by rw [hcell j hj]; exact hu, hr⟩
        obtain ⟨rows, hrl, hrq⟩ := exists_rows _ len hq
        have hmem : ∀ r ∈ rows, ∃ i, rows[i]? = some r := fun r hr => List.mem_iff_getElem?.1 hr
        have hcl : ∀ (i j : Nat) (r : List PV) (v : PV), rows[i]? = some r → r[j]? = some v → ∃ u, w.cell? ⟨a.block, a.off + (i * P.cellsOf e + j), none⟩ = some u ∧ RV w.heap.size g w v u := by
          intro i j r v hi hj
          obtain ⟨u, hu, hr⟩ := (hrq i r hi).2.2 j v hj
          refine ⟨u, ?_, hr⟩
          have hsp : (a.add (i * P.cellsOf e)).add j = ⟨a.block, a.off + (i * P.cellsOf e + j), ((a.add (i * P.cellsOf e)).add j).spot⟩ := by
            unfold Addr.add
            split <;> split <;> simp_all <;> omega
          rw [hsp] at hu
          have := cell_spot hu
          rw [this] at hu
          exact hu
        have hspot : rows ≠ [] → a.spot = none := by
          intro hne
          obtain ⟨r, hr0⟩ : ∃ r, rows[0]? = some r := by
            cases rows with
            | nil => exact (hne rfl).elim
            | cons r _ => exact ⟨r, rfl⟩
          obtain ⟨q1, _, q3⟩ := hrq 0 r hr0
          obtain ⟨v, hv⟩ : ∃ v, r[0]? = some v := ⟨_, List.getElem?_eq_getElem (by omega)⟩
          obtain ⟨u, hu, _⟩ := q3 0 v hv
          simp only [Nat.zero_mul, Addr.add, if_true] at hu
          exact cell_spot (b := a.block) (o := a.off) hu
        refine ⟨[.sl .no (P.cellsOf e) (rows.map (rowV P e))], rfl, fun j v hv => ?_, .sl rows ht (fun r hr => ?_) (fun r hr => ?_) (by omega) ?_⟩
        · cases j with
          | succ j => simp at hv
          | zero =>
            simp at hv
            subst hv
            refine ⟨_, rfl, ?_⟩
            have hrow : ∀ (i : Nat) (z : PV), (rows.map (rowV P e))[i]? = some z → ∃ r, rows[i]? = some r ∧ z.cells = r := by
              intro i z hz
              rw [List.getElem?_map, Option.map_eq_some_iff] at hz
              obtain ⟨r, hr, rfl⟩ := hz
              exact ⟨r, hr, (hrq i r hr).2.1.row⟩
            have := RV.sl (N0 := w.heap.size) (g := g) (w := w) .no (P.cellsOf e) (rows.map (rowV P e)) a.block a.off cap (fun i j => (w.cell? ⟨a.block, a.off + (i * P.cellsOf e + j), none⟩).getD Go.undef)
              (by simp; omega) (by simp) ?_ ?_ ?_ ?_ a.spot (fun hne => hspot (by simpa using hne)) (by simp)
            · simpa [hrl] using this
            · intro i z hz
              obtain ⟨r, hr, hc⟩ := hrow i z hz
              rw [hc]; exact (hrq i r hr).1
            · intro i j hi hj
              simp at hi
              obtain ⟨r, hr⟩ : ∃ r, rows[i]? = some r := ⟨_, List.getElem?_eq_getElem hi⟩
              obtain ⟨v, hv⟩ : ∃ v, r[j]? = some v := ⟨_, List.getElem?_eq_getElem (by rw [(hrq i r hr).1]; exact hj)⟩
              obtain ⟨u, hu, _⟩ := hcl i j r v hr hv
              rw [hu]; rfl
            · intro i j z y hz hy
              obtain ⟨r, hr, hc⟩ := hrow i z hz
              rw [hc] at hy
              obtain ⟨u, hu, hru⟩ := hcl i j r y hr hy
              rw [hu]; exact hru
            · intro hne
              refine .inl ?_
              obtain ⟨r, hr0⟩ : ∃ r, rows[0]? = some r := by
                cases rows with
                | nil => exact (hne rfl).elim
                | cons r _ => exact ⟨r, rfl⟩
              obtain ⟨v, hv⟩ : ∃ v, r[0]? = some v := ⟨_, List.getElem?_eq_getElem (by rw [(hrq 0 r hr0).1]; exact hp.1)⟩
              obtain ⟨u, hu, _⟩ := hcl 0 0 r v hr0 hv
              exact World.block_lt_of_cell? w ⟨a.block, _, none⟩ hu
        · obtain ⟨i, hi⟩ := hmem r hr; exact (hrq i r hi).2.1
        · obtain ⟨i, hi⟩ := hmem r hr; exact (hrq i r hi).1
        · have := hwt _ (by simp only [DataW.weights, ht]; exact List.mem_cons_self)
          simp only [List.length_map] at this
          refine Nat.le_trans (Nat.mul_le_mul_right _ ?_) this
          omega
    · rename_i fs ht
      simp only [Bool.and_eq_true, List.all_eq_true] at hp
      obtain ⟨xs, n', hn', rfl, hlen, hxl, hx⟩ := DataW.trod_struct ht h
      obtain rfl : n' = n := by omega
      obtain ⟨vs, q1, q2, q3⟩ := open_fields (P := P) (cs := cs) (R := fun v u => RV w.heap.size g w v u) fs.toList 0 (by rw [hlen]; exact hp.1) (fun f hf => by
        obtain ⟨i, hi⟩ := List.mem_iff_getElem?.1 hf
        have hi' : fs[i]? = some f := by simpa using hi
        have hlt : i < xs.length := by rw [hxl]; exact (Array.getElem?_eq_some_iff.1 hi').1
        have := hx i f hi'
        rw [List.getElem?_eq_getElem hlt] at this
        exact open_cells n' m f.type _ _ this (hp.2 f hf) fun k hk => hwt k (by
          simp only [DataW.weights, ht]
          exact DataW.weights_mem_each (j := i) (t := f.type) (d := xs[i].1) (by rw [List.getElem?_map, hi]; rfl) (by rw [List.getElem?_map, List.getElem?_eq_getElem hlt]; rfl) k hk))
      refine ⟨vs, by omega, fun j v hv => by simpa using q2 j v hv, .struct fs vs ht (by omega) fun i f hf => ?_⟩
      have := (q3 f (List.mem_iff_getElem?.2 ⟨i, by simpa using hf⟩)).2
      simpa using this
    · cases hp

/-- An argument of one cell. -/
theorem open_arg {H : Type} {enc : TypeId × Value → H} {P : Program} {w : World} {spare : Nat → Bool} {held : Bool} {g : G} {t : TypeId} {v : Value} {d : DataW H} {ps : List MemPlace}
    (h : DataW.Trod enc P w 0 spare held t v d ps) (hv : v.cells.toList = [v]) (m : Nat) (hp : plainT P m t = true) (hwt : ∀ k ∈ d.weights P t, k ≤ reachBytes) : ∃ x, RV w.heap.size g w x v ∧ Sh P t [x] := by
  obtain ⟨fuel, h⟩ := h
  obtain ⟨vs, h1, h2, h3⟩ := open_cells (g := g) fuel m t _ _ h hp hwt
  rw [hv] at h1 h2
  cases vs with
  | nil => simp at h1
  | cons x r =>
    cases r with
    | cons y r => simp at h1
    | nil =>
      obtain ⟨u, hu, hr⟩ := h2 0 x rfl
      simp at hu
      subst hu
      exact ⟨x, hr, h3⟩

section
variable {P : Program} {t : TypeId} {cs : List PV}
theorem Sh.inv_bool (ht : P.underlying t = some .bool) (h : Sh P t cs) : ∃ b, cs = [.bool b] := by
  cases h with
  | bool b => exact ⟨b, rfl⟩
  | int k n h => rw [ht] at h; cases h
  | str l h => rw [ht] at h; cases h
  | nils h => rw [ht] at h; cases h
  | sl rows h => rw [ht] at h; cases h
  | struct fs cs h => rw [ht] at h; cases h
theorem Sh.inv_int {k : IntKind} (ht : P.underlying t = some (.int k)) (h : Sh P t cs) : ∃ n, cs = [.int k n] ∧ (Lit.int k n).wf = true := by
  cases h with
  | bool b h => rw [ht] at h; cases h
  | int k' n h hn => rw [ht] at h; cases h; exact ⟨n, rfl, hn⟩
  | str l h => rw [ht] at h; cases h
  | nils h => rw [ht] at h; cases h
  | sl rows h => rw [ht] at h; cases h
  | struct fs cs h => rw [ht] at h; cases h
theorem Sh.inv_str (ht : P.underlying t = some .string) (h : Sh P t cs) : ∃ l, cs = [.str l] ∧ l.length ≤ reachBytes := by
  cases h with
  | bool b h => rw [ht] at h; cases h
  | int k n h => rw [ht] at h; cases h
  | str l h hl => exact ⟨l, rfl, hl⟩
  | nils h => rw [ht] at h; cases h
  | sl rows h => rw [ht] at h; cases h
  | struct fs cs h => rw [ht] at h; cases h
theorem Sh.inv_slice {e : TypeId} (ht : P.underlying t = some (.slice e)) (h : Sh P t cs) :
    cs = [.nils] ∨ ∃ rows : List (List PV), cs = [.sl .no (P.cellsOf e) (rows.map (rowV P e))] ∧ (∀ r ∈ rows, Sh P e r ∧ r.length = P.cellsOf e) ∧ rows.length ≤ maxLen ∧ rows.length * P.bytesOf e ≤ reachBytes := by
  cases h with
  | bool b h => rw [ht] at h; cases h
  | int k n h => rw [ht] at h; cases h
  | str l h => rw [ht] at h; cases h
  | nils h => exact .inl rfl
  | sl rows h hr hl hn hb => rw [ht] at h; cases h; exact .inr ⟨rows, rfl, fun r hm => ⟨hr r hm, hl r hm⟩, hn, hb⟩
  | struct fs cs h => rw [ht] at h; cases h
theorem Sh.inv_struct {fs : Array Field} (ht : P.underlying t = some (.struct fs)) (h : Sh P t cs) :
    cs.length = P.cellsOf t ∧ ∀ (i : Nat) (f : Field), fs[i]? = some f → Sh P f.type ((cs.drop f.offset).take (P.cellsOf f.type)) := by
  cases h with
  | bool b h => rw [ht] at h; cases h
  | int k n h => rw [ht] at h; cases h
  | str l h => rw [ht] at h; cases h
  | nils h => rw [ht] at h; cases h
  | sl rows h => rw [ht] at h; cases h
  | struct fs' cs h hn hf => rw [ht] at h; cases h; exact ⟨hn, hf⟩
theorem rowV_struct {fs : Array Field} (ht : P.underlying t = some (.struct fs)) (r : List PV) : rowV P t r = .agg r := by simp [rowV, ht]
theorem rowV_str (ht : P.underlying t = some .string) (r : List PV) : rowV P t r = r.headD .undef := by simp [rowV, ht]
theorem rowV_int {k : IntKind} (ht : P.underlying t = some (.int k)) (r : List PV) : rowV P t r = r.headD .undef := by simp [rowV, ht]
/-- All of a list come of values: the values. -/
theorem exists_map {α β : Type} (f : α → β) (Q : α → Prop) : ∀ l : List β, (∀ x ∈ l, ∃ a, x = f a ∧ Q a) → ∃ qs : List α, l = qs.map f ∧ ∀ a ∈ qs, Q a
  | [], _ => ⟨[], rfl, fun a h => by simp at h⟩
  | x :: l, h => by
    obtain ⟨qs, rfl, h2⟩ := exists_map f Q l (fun y hy => h y (by simp [hy]))
    obtain ⟨a, rfl, ha⟩ := h x (by simp)
    exact ⟨a :: qs, rfl, fun b hb => by
      simp at hb
      rcases hb with rfl | hb
      · exact ha
      · exact h2 b hb⟩
end
end Go.Am
namespace Go.Am
set_option linter.unusedVariables false
theorem open_struct {H : Type} {enc : TypeId × Value → H} {P : Program} {w : World} {spare : Nat → Bool} {held : Bool} {g : G} {t : TypeId} {u : Array Value} {d : DataW H} {ps : List MemPlace}
    (h : DataW.Trod enc P w 0 spare held t (.agg u) d ps) (m : Nat) (hp : plainT P m t = true) (hwt : ∀ k ∈ d.weights P t, k ≤ reachBytes) : ∃ x, RV w.heap.size g w (.agg x) (.agg u) ∧ Sh P t x := by
  obtain ⟨fuel, h⟩ := h
  obtain ⟨vs, h1, h2, h3⟩ := open_cells (g := g) fuel m t _ _ h hp hwt
  have hu : (Value.agg u).cells.toList = u.toList := rfl
  rw [hu] at h1 h2
  refine ⟨vs, .agg vs u (by simpa using h1.symm) fun j x hx => ?_, h3⟩
  obtain ⟨y, hy, hr⟩ := h2 j x hx
  have : u.getD j Go.undef = y := by
    rw [Array.getElem?_toList] at hy
    simp [Array.getD_eq_getD_getElem?, hy]
  rw [this]; exact hr
/-- Bytes. -/
theorem Sh.bytes {P : Program} {t e : TypeId} {x : PV} (ht : P.underlying t = some (.slice e)) (he : P.underlying e = some (.int .u8)) (hc : P.cellsOf e = 1) (h : Sh P t [x]) : ∃ l, Bv x l ∧ l.length ≤ maxLen := by
  rcases h.inv_slice ht with hq | ⟨rows, hq, hr, hn, hb⟩
  · cases hq; exact ⟨[], .nils, by simp⟩
  · cases hq
    obtain ⟨l, hl⟩ : ∃ l : List UInt8, rows.map (rowV P e) = u8s l ∧ l.length = rows.length := by
      clear hn hb h
      induction rows with
      | nil => exact ⟨[], rfl, rfl⟩
      | cons r rows ih =>
        obtain ⟨l, hl, hl2⟩ := ih fun q hq => hr q (List.mem_cons_of_mem _ hq)
        obtain ⟨n, rfl, hw⟩ := (hr r (List.mem_cons_self ..)).1.inv_int he
        have hm : IntKind.u8.min = 0 := rfl
        have hM : IntKind.u8.max = 255 := rfl
        simp only [Lit.wf, hm, hM, Bool.and_eq_true, decide_eq_true_eq] at hw
        refine ⟨UInt8.ofNat n.toNat :: l, ?_, by simp [hl2]⟩
        rw [List.map_cons, hl, rowV_int he]
        show _ :: _ = PV.int .u8 ((UInt8.ofNat n.toNat).toNat : Int) :: u8s l
        have hv : ((UInt8.ofNat n.toNat).toNat : Int) = n := by rw [UInt8.toNat_ofNat']; omega
        rw [hv]; rfl
    rw [hc, hl.1]
    exact ⟨l, .no l, by rw [hl.2]; exact hn⟩
theorem len1_of {α : Type} : ∀ {l : List α}, l.length = 1 → ∃ a, l = [a]
  | [a], _ => ⟨a, rfl⟩
theorem len2_of {α : Type} : ∀ {l : List α}, l.length = 2 → ∃ a b, l = [a, b]
  | [a, b], _ => ⟨a, b, rfl⟩
theorem len3_of {α : Type} : ∀ {l : List α}, l.length = 3 → ∃ a b c, l = [a, b, c]
  | [a, b, c], _ => ⟨a, b, c, rfl⟩
theorem len4_of {α : Type} : ∀ {l : List α}, l.length = 4 → ∃ a b c d, l = [a, b, c, d]
  | [a, b, c, d], _ => ⟨a, b, c, d, rfl⟩
theorem len5_of {α : Type} : ∀ {l : List α}, l.length = 5 → ∃ a b c d e, l = [a, b, c, d, e]
  | [a, b, c, d, e], _ => ⟨a, b, c, d, e, rfl⟩
theorem len6_of {α : Type} : ∀ {l : List α}, l.length = 6 → ∃ a b c d e f, l = [a, b, c, d, e, f]
  | [a, b, c, d, e, f], _ => ⟨a, b, c, d, e, f, rfl⟩
end Go.Am
namespace Go.Am.YthhceeaconflnaaDoor
open Go.RowKit (Below)
open Go.Proofs
theorem gl_ok (N0 : Nat) (w0 : World) : GlobOk gl N0 w0 := fun n cs h => by simp [gl, glob] at h
theorem in64_of {n : Int} (h : (Lit.int IntKind.i64 n).wf = true) : in64 n := by
  have h1 : IntKind.i64.min = -9223372036854775808 := rfl
  have h2 : IntKind.i64.max = 9223372036854775807 := rfl
  unfold in64
  simp [Lit.wf, h1, h2] at h
  omega
theorem bytes_arg {x : PV} (h : Sh Tryd.prog 22 [x]) : ∃ l, Bv x l ∧ l.length ≤ maxLen := h.bytes Tryd.underlying22 Tryd.underlying5 (by kernel_rfl)
theorem val_arg {cs : List PV} (h : Sh Tryd.prog 24 cs) : ∃ (k n : Int) (s : List UInt8) (b : PV) (l : List UInt8) (o i : Int), cs = [i64 k, i64 n, .str s, b, i64 o, i64 i] ∧ in64 k ∧ in64 n ∧ s.length ≤ reachBytes ∧ Bv b l ∧ l.length ≤ maxLen ∧ in64 o ∧ in64 i := by
  obtain ⟨hl, hf⟩ := h.inv_struct Tryd.underlying24
  have c24 : Tryd.prog.cellsOf 24 = 6 := by kernel_rfl
  have c3 : Tryd.prog.cellsOf 3 = 1 := by kernel_rfl
  have c2 : Tryd.prog.cellsOf 2 = 1 := by kernel_rfl
  have c9 : Tryd.prog.cellsOf 9 = 1 := by kernel_rfl
  have c22 : Tryd.prog.cellsOf 22 = 1 := by kernel_rfl
  rw [c24] at hl
  obtain ⟨x0, x1, x2, x3, x4, x5, rfl⟩ := len6_of hl
  have f0 : Sh Tryd.prog 3 (([x0, x1, x2, x3, x4, x5].drop 0).take (Tryd.prog.cellsOf 3)) := hf 0 _ rfl
  have f1 : Sh Tryd.prog 2 (([x0, x1, x2, x3, x4, x5].drop 1).take (Tryd.prog.cellsOf 2)) := hf 1 _ rfl
  have f2 : Sh Tryd.prog 9 (([x0, x1, x2, x3, x4, x5].drop 2).take (Tryd.prog.cellsOf 9)) := hf 2 _ rfl
  have f3 : Sh Tryd.prog 22 (([x0, x1, x2, x3, x4, x5].drop 3).take (Tryd.prog.cellsOf 22)) := hf 3 _ rfl
  have f4 : Sh Tryd.prog 3 (([x0, x1, x2, x3, x4, x5].drop 4).take (Tryd.prog.cellsOf 3)) := hf 4 _ rfl
  have f5 : Sh Tryd.prog 3 (([x0, x1, x2, x3, x4, x5].drop 5).take (Tryd.prog.cellsOf 3)) := hf 5 _ rfl
  rw [c3] at f0 f4 f5
  rw [c2] at f1
  rw [c9] at f2
  rw [c22] at f3
  obtain ⟨k, e0, w0⟩ := Sh.inv_int Tryd.underlying3 f0
  obtain ⟨n, e1, w1⟩ := Sh.inv_int Tryd.underlying2 f1
  obtain ⟨s, e2, w2⟩ := Sh.inv_str Tryd.underlying9 f2
  obtain ⟨l, e3, w3⟩ := bytes_arg f3
  obtain ⟨o, e4, w4⟩ := Sh.inv_int Tryd.underlying3 f4
  obtain ⟨i, e5, w5⟩ := Sh.inv_int Tryd.underlying3 f5
  simp only [List.drop_succ_cons, List.drop_zero, List.take_succ_cons, List.take_zero] at e0 e1 e2 e4 e5
  cases e0; cases e1; cases e2; cases e4; cases e5
  exact ⟨k, n, s, x3, l, o, i, rfl, in64_of w0, in64_of w1, w2, e3, w3, in64_of w4, in64_of w5⟩
end Go.Am.YthhceeaconflnaaDoor
namespace Go.Am.YthhceeaconflnaaDoor
set_option maxRecDepth 100000
set_option linter.unusedSimpArgs false
set_option linter.unusedVariables false
section
variable {h : Hp} {base : Nat}
theorem extra_of {k n n' o o' i i' : Int} {s s' : List UInt8} {b b' : PV} {L L' : Nat} (hb : Bs b) (hb' : Bs b') (hL : lenB false b = some (i64 L)) (hL' : lenB false b' = some (i64 L'))
    (ho : ∀ base h, CallA T base 37 [val k n s b o i] h = some (val k n' s' b' o' i', h)) :
    CallA T base 25 [val k n s b o i] h = some (.bool (n' != n || (s' != s || ((L' : Int) != (L : Int) || (o' != o || i' != i)))), h) := by
  rw [S25]
  cases h1 : (n' != n)
  · cases h2 : (s' != s)
    · cases h3 : ((L' : Int) != (L : Int))
      · cases h4 : (o' != o)
        · cases h5 : (i' != i) <;> simp only [ho, hL, hL', hb.sc, hb.fr, hb.be, hb.ce, hb.st, hb'.sc, hb'.fr, hb'.be, hb'.ce, hb'.st, h1, h2, h3, h4, h5, P12_0_eq, ↓evD, evU, Nat.reduceAdd, Nat.reduceSub, Nat.reduceMul, Nat.reduceLeDiff, Nat.reduceLT, Nat.reduceEqDiff, Nat.reduceBEq, reduceIte, reduceCtorEq, Int.reduceBEq, Int.reduceEq, Int.reduceLT, Int.reduceLE, Int.reduceGT, Int.reduceGE, Int.reduceAdd, Int.reduceSub, Int.reduceNeg, Int.reduceBNe, List.all_cons, List.all_nil, List.getElem?_cons_zero, List.getElem?_cons_succ, List.getElem?_nil, Option.map_some, List.length_cons, List.length_nil, List.set_cons_zero, List.set_cons_succ, List.map_cons, List.map_nil, List.drop_zero, List.drop_succ_cons, List.drop_nil, List.take_zero, List.take_succ_cons, List.take_nil, ite_true, ite_false, if_true, if_false, implies_true, forall_const, beq_self_eq_true, List.replicate_succ, List.replicate_zero, List.headD_cons, List.cons_append, List.nil_append, bne_self_eq_false]
        · simp only [ho, hL, hL', hb.sc, hb.fr, hb.be, hb.ce, hb.st, hb'.sc, hb'.fr, hb'.be, hb'.ce, hb'.st, h1, h2, h3, h4, P12_0_eq, ↓evD, evU, Nat.reduceAdd, Nat.reduceSub, Nat.reduceMul, Nat.reduceLeDiff, Nat.reduceLT, Nat.reduceEqDiff, Nat.reduceBEq, reduceIte, reduceCtorEq, Int.reduceBEq, Int.reduceEq, Int.reduceLT, Int.reduceLE, Int.reduceGT, Int.reduceGE, Int.reduceAdd, Int.reduceSub, Int.reduceNeg, Int.reduceBNe, List.all_cons, List.all_nil, List.getElem?_cons_zero, List.getElem?_cons_succ, List.getElem?_nil, Option.map_some, List.length_cons, List.length_nil, List.set_cons_zero, List.set_cons_succ, List.map_cons, List.map_nil, List.drop_zero, List.drop_succ_cons, List.drop_nil, List.take_zero, List.take_succ_cons, List.take_nil, ite_true, ite_false, if_true, if_false, implies_true, forall_const, beq_self_eq_true, List.replicate_succ, List.replicate_zero, List.headD_cons, List.cons_append, List.nil_append, bne_self_eq_false]
      · simp only [ho, hL, hL', hb.sc, hb.fr, hb.be, hb.ce, hb.st, hb'.sc, hb'.fr, hb'.be, hb'.ce, hb'.st, h1, h2, h3, P12_0_eq, ↓evD, evU, Nat.reduceAdd, Nat.reduceSub, Nat.reduceMul, Nat.reduceLeDiff, Nat.reduceLT, Nat.reduceEqDiff, Nat.reduceBEq, reduceIte, reduceCtorEq, Int.reduceBEq, Int.reduceEq, Int.reduceLT, Int.reduceLE, Int.reduceGT, Int.reduceGE, Int.reduceAdd, Int.reduceSub, Int.reduceNeg, Int.reduceBNe, List.all_cons, List.all_nil, List.getElem?_cons_zero, List.getElem?_cons_succ, List.getElem?_nil, Option.map_some, List.length_cons, List.length_nil, List.set_cons_zero, List.set_cons_succ, List.map_cons, List.map_nil, List.drop_zero, List.drop_succ_cons, List.drop_nil, List.take_zero, List.take_succ_cons, List.take_nil, ite_true, ite_false, if_true, if_false, implies_true, forall_const, beq_self_eq_true, List.replicate_succ, List.replicate_zero, List.headD_cons, List.cons_append, List.nil_append, bne_self_eq_false]
    · simp only [ho, hL, hL', hb.sc, hb.fr, hb.be, hb.ce, hb.st, hb'.sc, hb'.fr, hb'.be, hb'.ce, hb'.st, h1, h2, P12_0_eq, ↓evD, evU, Nat.reduceAdd, Nat.reduceSub, Nat.reduceMul, Nat.reduceLeDiff, Nat.reduceLT, Nat.reduceEqDiff, Nat.reduceBEq, reduceIte, reduceCtorEq, Int.reduceBEq, Int.reduceEq, Int.reduceLT, Int.reduceLE, Int.reduceGT, Int.reduceGE, Int.reduceAdd, Int.reduceSub, Int.reduceNeg, Int.reduceBNe, List.all_cons, List.all_nil, List.getElem?_cons_zero, List.getElem?_cons_succ, List.getElem?_nil, Option.map_some, List.length_cons, List.length_nil, List.set_cons_zero, List.set_cons_succ, List.map_cons, List.map_nil, List.drop_zero, List.drop_succ_cons, List.drop_nil, List.take_zero, List.take_succ_cons, List.take_nil, ite_true, ite_false, if_true, if_false, implies_true, forall_const, beq_self_eq_true, List.replicate_succ, List.replicate_zero, List.headD_cons, List.cons_append, List.nil_append, bne_self_eq_false]
  · simp only [ho, hL, hL', hb.sc, hb.fr, hb.be, hb.ce, hb.st, hb'.sc, hb'.fr, hb'.be, hb'.ce, hb'.st, h1, P12_0_eq, ↓evD, evU, Nat.reduceAdd, Nat.reduceSub, Nat.reduceMul, Nat.reduceLeDiff, Nat.reduceLT, Nat.reduceEqDiff, Nat.reduceBEq, reduceIte, reduceCtorEq, Int.reduceBEq, Int.reduceEq, Int.reduceLT, Int.reduceLE, Int.reduceGT, Int.reduceGE, Int.reduceAdd, Int.reduceSub, Int.reduceNeg, Int.reduceBNe, List.all_cons, List.all_nil, List.getElem?_cons_zero, List.getElem?_cons_succ, List.getElem?_nil, Option.map_some, List.length_cons, List.length_nil, List.set_cons_zero, List.set_cons_succ, List.map_cons, List.map_nil, List.drop_zero, List.drop_succ_cons, List.drop_nil, List.take_zero, List.take_succ_cons, List.take_nil, ite_true, ite_false, if_true, if_false, implies_true, forall_const, beq_self_eq_true, List.replicate_succ, List.replicate_zero, List.headD_cons, List.cons_append, List.nil_append, bne_self_eq_false]

def extraG (k n : Int) (s : List UInt8) (L : Nat) (o i : Int) : Bool :=
  onlyN k n != n || ((if k = 3 then s else []) != s || (((if k = 4 then L else 0 : Nat) : Int) != (L : Int) || ((if k = 6 then o else 0) != o || (if k = 6 then i else 0) != i)))
theorem extra_spec (k n : Int) (s : List UInt8) (b : PV) (o i : Int) {L : Nat} (hb : Bs b) (hL : lenB false b = some (i64 L)) :
    CallA T base 25 [val k n s b o i] h = some (.bool (extraG k n s L o i), h) := by
  unfold extraG
  by_cases h4 : k = 4
  · have := extra_of (h := h) (base := base) (L := L) (L' := L) hb hb hL hL (fun base h => by have := only_spec (h := h) (base := base) k n s b o i hb; rw [if_pos h4] at this; exact this)
    rw [this, if_pos h4]
  · have := extra_of (h := h) (base := base) (L := L) (L' := 0) hb bs_nils hL rfl (fun base h => by have := only_spec (h := h) (base := base) k n s b o i hb; rw [if_neg h4] at this; exact this)
    rw [this, if_neg h4]

/-- What Right answers; r: are the runes right? -/
def rightG (k n : Int) (s : List UInt8) (L : Nat) (o i : Int) (r : Bool) : Bool :=
  !(extraG k n s L o i) && (if k = 1 ∨ k = 5 then true else if k = 2 then (n == 0 || n == 1) else if k = 3 then (r && decide (s.length ≤ 200)) else if k = 4 then decide (L ≤ 200)
    else if k = 6 then (decide (0 ≤ o ∧ o ≤ 65535) && decide (0 ≤ i ∧ i ≤ 65535)) else false)
theorem decide_len (n : Nat) : decide ((n : Int) ≤ 200) = decide (n ≤ 200) := by
  by_cases h : n ≤ 200
  · rw [decide_eq_true h, decide_eq_true (by omega)]
  · rw [decide_eq_false h, decide_eq_false (by omega)]
set_option maxHeartbeats 1000000 in
theorem right_spec (k n : Int) (s : List UInt8) (b : PV) (o i : Int) {L : Nat} (hb : Bs b) (hL : lenB false b = some (i64 L)) {c : Int} {r : Bool} (hr : ∀ base h, CallA T base 17 [.str s] h = some (.tup [i64 c, .bool r], h)) :
    CallA T base 12 [val k n s b o i] h = some (.bool (rightG k n s L o i r), h) := by
  have he : ∀ base h, _ := fun base h => extra_spec (base := base) (h := h) k n s b o i hb hL
  have hn : ∀ base h n, _ := fun base h n => numbered_spec (base := base) (h := h) n
  rw [S12]
  unfold rightG
  generalize extraG k n s L o i = x at *
  cases x
  · by_cases h1 : k = 1
    · subst h1; simp only [he, hr, hn, hL, hb.sc, hb.fr, hb.be, hb.ce, hb.st, P12_0_eq, ↓evD, evU, Nat.reduceAdd, Nat.reduceSub, Nat.reduceMul, Nat.reduceLeDiff, Nat.reduceLT, Nat.reduceEqDiff, Nat.reduceBEq, reduceIte, reduceCtorEq, Int.reduceBEq, Int.reduceEq, Int.reduceLT, Int.reduceLE, Int.reduceGT, Int.reduceGE, Int.reduceAdd, Int.reduceSub, Int.reduceNeg, Int.reduceBNe, List.all_cons, List.all_nil, List.getElem?_cons_zero, List.getElem?_cons_succ, List.getElem?_nil, Option.map_some, List.length_cons, List.length_nil, List.set_cons_zero, List.set_cons_succ, List.map_cons, List.map_nil, List.drop_zero, List.drop_succ_cons, List.drop_nil, List.take_zero, List.take_succ_cons, List.take_nil, ite_true, ite_false, if_true, if_false, implies_true, forall_const, beq_self_eq_true, List.replicate_succ, List.replicate_zero, List.headD_cons, List.cons_append, List.nil_append, bne_self_eq_false]
    by_cases h5 : k = 5
    · subst h5; simp only [he, hr, hn, hL, hb.sc, hb.fr, hb.be, hb.ce, hb.st, P12_0_eq, ↓evD, evU, Nat.reduceAdd, Nat.reduceSub, Nat.reduceMul, Nat.reduceLeDiff, Nat.reduceLT, Nat.reduceEqDiff, Nat.reduceBEq, reduceIte, reduceCtorEq, Int.reduceBEq, Int.reduceEq, Int.reduceLT, Int.reduceLE, Int.reduceGT, Int.reduceGE, Int.reduceAdd, Int.reduceSub, Int.reduceNeg, Int.reduceBNe, List.all_cons, List.all_nil, List.getElem?_cons_zero, List.getElem?_cons_succ, List.getElem?_nil, Option.map_some, List.length_cons, List.length_nil, List.set_cons_zero, List.set_cons_succ, List.map_cons, List.map_nil, List.drop_zero, List.drop_succ_cons, List.drop_nil, List.take_zero, List.take_succ_cons, List.take_nil, ite_true, ite_false, if_true, if_false, implies_true, forall_const, beq_self_eq_true, List.replicate_succ, List.replicate_zero, List.headD_cons, List.cons_append, List.nil_append, bne_self_eq_false]
    by_cases h2 : k = 2
    · subst h2; cases hn0 : (n == 0) <;> simp only [he, hr, hn, hL, hn0, hb.sc, hb.fr, hb.be, hb.ce, hb.st, P12_0_eq, ↓evD, evU, Nat.reduceAdd, Nat.reduceSub, Nat.reduceMul, Nat.reduceLeDiff, Nat.reduceLT, Nat.reduceEqDiff, Nat.reduceBEq, reduceIte, reduceCtorEq, Int.reduceBEq, Int.reduceEq, Int.reduceLT, Int.reduceLE, Int.reduceGT, Int.reduceGE, Int.reduceAdd, Int.reduceSub, Int.reduceNeg, Int.reduceBNe, List.all_cons, List.all_nil, List.getElem?_cons_zero, List.getElem?_cons_succ, List.getElem?_nil, Option.map_some, List.length_cons, List.length_nil, List.set_cons_zero, List.set_cons_succ, List.map_cons, List.map_nil, List.drop_zero, List.drop_succ_cons, List.drop_nil, List.take_zero, List.take_succ_cons, List.take_nil, ite_true, ite_false, if_true, if_false, implies_true, forall_const, beq_self_eq_true, List.replicate_succ, List.replicate_zero, List.headD_cons, List.cons_append, List.nil_append, bne_self_eq_false]
    by_cases h3 : k = 3
    · subst h3; cases r <;> simp only [he, hr, hn, hL, hb.sc, hb.fr, hb.be, hb.ce, hb.st, decide_len, P12_0_eq, ↓evD, evU, Nat.reduceAdd, Nat.reduceSub, Nat.reduceMul, Nat.reduceLeDiff, Nat.reduceLT, Nat.reduceEqDiff, Nat.reduceBEq, reduceIte, reduceCtorEq, Int.reduceBEq, Int.reduceEq, Int.reduceLT, Int.reduceLE, Int.reduceGT, Int.reduceGE, Int.reduceAdd, Int.reduceSub, Int.reduceNeg, Int.reduceBNe, List.all_cons, List.all_nil, List.getElem?_cons_zero, List.getElem?_cons_succ, List.getElem?_nil, Option.map_some, List.length_cons, List.length_nil, List.set_cons_zero, List.set_cons_succ, List.map_cons, List.map_nil, List.drop_zero, List.drop_succ_cons, List.drop_nil, List.take_zero, List.take_succ_cons, List.take_nil, ite_true, ite_false, if_true, if_false, implies_true, forall_const, beq_self_eq_true, List.replicate_succ, List.replicate_zero, List.headD_cons, List.cons_append, List.nil_append, bne_self_eq_false]
    by_cases h4 : k = 4
    · subst h4; simp only [he, hr, hn, hL, hb.sc, hb.fr, hb.be, hb.ce, hb.st, decide_len, P12_0_eq, ↓evD, evU, Nat.reduceAdd, Nat.reduceSub, Nat.reduceMul, Nat.reduceLeDiff, Nat.reduceLT, Nat.reduceEqDiff, Nat.reduceBEq, reduceIte, reduceCtorEq, Int.reduceBEq, Int.reduceEq, Int.reduceLT, Int.reduceLE, Int.reduceGT, Int.reduceGE, Int.reduceAdd, Int.reduceSub, Int.reduceNeg, Int.reduceBNe, List.all_cons, List.all_nil, List.getElem?_cons_zero, List.getElem?_cons_succ, List.getElem?_nil, Option.map_some, List.length_cons, List.length_nil, List.set_cons_zero, List.set_cons_succ, List.map_cons, List.map_nil, List.drop_zero, List.drop_succ_cons, List.drop_nil, List.take_zero, List.take_succ_cons, List.take_nil, ite_true, ite_false, if_true, if_false, implies_true, forall_const, beq_self_eq_true, List.replicate_succ, List.replicate_zero, List.headD_cons, List.cons_append, List.nil_append, bne_self_eq_false]
    by_cases h6 : k = 6
    · subst h6; cases ho : decide (0 ≤ o ∧ o ≤ 65535) <;> simp only [he, hr, hn, ho, hL, hb.sc, hb.fr, hb.be, hb.ce, hb.st, P12_0_eq, ↓evD, evU, Nat.reduceAdd, Nat.reduceSub, Nat.reduceMul, Nat.reduceLeDiff, Nat.reduceLT, Nat.reduceEqDiff, Nat.reduceBEq, reduceIte, reduceCtorEq, Int.reduceBEq, Int.reduceEq, Int.reduceLT, Int.reduceLE, Int.reduceGT, Int.reduceGE, Int.reduceAdd, Int.reduceSub, Int.reduceNeg, Int.reduceBNe, List.all_cons, List.all_nil, List.getElem?_cons_zero, List.getElem?_cons_succ, List.getElem?_nil, Option.map_some, List.length_cons, List.length_nil, List.set_cons_zero, List.set_cons_succ, List.map_cons, List.map_nil, List.drop_zero, List.drop_succ_cons, List.drop_nil, List.take_zero, List.take_succ_cons, List.take_nil, ite_true, ite_false, if_true, if_false, implies_true, forall_const, beq_self_eq_true, List.replicate_succ, List.replicate_zero, List.headD_cons, List.cons_append, List.nil_append, bne_self_eq_false]
    simp only [he, hr, hn, hL, hb.sc, hb.fr, hb.be, hb.ce, hb.st, h1, h2, h3, h4, h5, h6, beq_false_of h1, beq_false_of h2, beq_false_of h3, beq_false_of h4, beq_false_of h5, beq_false_of h6, P12_0_eq, ↓evD, evU, Nat.reduceAdd, Nat.reduceSub, Nat.reduceMul, Nat.reduceLeDiff, Nat.reduceLT, Nat.reduceEqDiff, Nat.reduceBEq, reduceIte, reduceCtorEq, Int.reduceBEq, Int.reduceEq, Int.reduceLT, Int.reduceLE, Int.reduceGT, Int.reduceGE, Int.reduceAdd, Int.reduceSub, Int.reduceNeg, Int.reduceBNe, List.all_cons, List.all_nil, List.getElem?_cons_zero, List.getElem?_cons_succ, List.getElem?_nil, Option.map_some, List.length_cons, List.length_nil, List.set_cons_zero, List.set_cons_succ, List.map_cons, List.map_nil, List.drop_zero, List.drop_succ_cons, List.drop_nil, List.take_zero, List.take_succ_cons, List.take_nil, ite_true, ite_false, if_true, if_false, implies_true, forall_const, beq_self_eq_true, List.replicate_succ, List.replicate_zero, List.headD_cons, List.cons_append, List.nil_append, bne_self_eq_false]
  · simp only [he, hr, hn, hL, hb.sc, hb.fr, hb.be, hb.ce, hb.st, P12_0_eq, ↓evD, evU, Nat.reduceAdd, Nat.reduceSub, Nat.reduceMul, Nat.reduceLeDiff, Nat.reduceLT, Nat.reduceEqDiff, Nat.reduceBEq, reduceIte, reduceCtorEq, Int.reduceBEq, Int.reduceEq, Int.reduceLT, Int.reduceLE, Int.reduceGT, Int.reduceGE, Int.reduceAdd, Int.reduceSub, Int.reduceNeg, Int.reduceBNe, List.all_cons, List.all_nil, List.getElem?_cons_zero, List.getElem?_cons_succ, List.getElem?_nil, Option.map_some, List.length_cons, List.length_nil, List.set_cons_zero, List.set_cons_succ, List.map_cons, List.map_nil, List.drop_zero, List.drop_succ_cons, List.drop_nil, List.take_zero, List.take_succ_cons, List.take_nil, ite_true, ite_false, if_true, if_false, implies_true, forall_const, beq_self_eq_true, List.replicate_succ, List.replicate_zero, List.headD_cons, List.cons_append, List.nil_append, bne_self_eq_false]

/-- What Write answers; e: the bytes as signs. -/
def writeG (k n : Int) (s : List UInt8) (L : Nat) (o i : Int) (r : Bool) (e : List UInt8) : List UInt8 × Int :=
  if ¬ (1 ≤ k ∧ k ≤ 6) then ([], 70) else if rightG k n s L o i r = false then ([], 1) else if k = 3 then (s, 0) else if k = 4 then (e, 0) else if k = 6 then (Lib.itoa o ++ [58] ++ Lib.itoa i, 0) else (Lib.itoa n, 0)
theorem itoa_len {n : Int} (h : in64 n) : (Lib.itoa n).length ≤ 21 := Lib.itoa_length_le n h.1 h.2
set_option maxHeartbeats 1000000 in
theorem write_spec (k n : Int) (s : List UInt8) (b : PV) (o i : Int) {L : Nat} (hb : Bs b) (hL : lenB false b = some (i64 L)) {c : Int} {r : Bool} (hr : ∀ base h, CallA T base 17 [.str s] h = some (.tup [i64 c, .bool r], h))
    (hn : in64 n) (ho : in64 o) (hi : in64 i) {e : List UInt8} (he : k = 4 → ∀ base h, CallA T base 21 [b] h = some (.str e, h)) :
    CallA T base 10 [val k n s b o i] h = some (.tup [.str (writeG k n s L o i r e).1, i64 (writeG k n s L o i r e).2], h) := by
  have hR : ∀ base h, _ := fun base h => right_spec (base := base) (h := h) k n s b o i hb hL hr
  have hk : ∀ base h, _ := fun base h => kind_spec (base := base) (h := h) k
  have hf : ∀ base h, _ := fun base h => format_spec (base := base) (h := h) n hn
  have hio : ∀ base h, _ := fun base h => itoa_spec (base := base) (h := h) o ho
  have hii : ∀ base h, _ := fun base h => itoa_spec (base := base) (h := h) i hi
  have l1 := itoa_len ho
  have l2 := itoa_len hi
  have l3 : (Lib.itoa o).length + 1 ≤ limS := by unfold limS; omega
  have l4 : (Lib.itoa o).length + 1 + (Lib.itoa i).length ≤ limS := by unfold limS; omega
  rw [S10]
  unfold writeG
  by_cases hk6 : 1 ≤ k ∧ k ≤ 6
  · cases hq : rightG k n s L o i r
    · simp only [hR, hk, hk6, hq, hb.sc, hb.fr, hb.be, hb.ce, hb.st, P12_0_eq, ↓evD, evU, Nat.reduceAdd, Nat.reduceSub, Nat.reduceMul, Nat.reduceLeDiff, Nat.reduceLT, Nat.reduceEqDiff, Nat.reduceBEq, reduceIte, reduceCtorEq, Int.reduceBEq, Int.reduceEq, Int.reduceLT, Int.reduceLE, Int.reduceGT, Int.reduceGE, Int.reduceAdd, Int.reduceSub, Int.reduceNeg, Int.reduceBNe, List.all_cons, List.all_nil, List.getElem?_cons_zero, List.getElem?_cons_succ, List.getElem?_nil, Option.map_some, List.length_cons, List.length_nil, List.set_cons_zero, List.set_cons_succ, List.map_cons, List.map_nil, List.drop_zero, List.drop_succ_cons, List.drop_nil, List.take_zero, List.take_succ_cons, List.take_nil, ite_true, ite_false, if_true, if_false, implies_true, forall_const, beq_self_eq_true, List.replicate_succ, List.replicate_zero, List.headD_cons, List.cons_append, List.nil_append, bne_self_eq_false]
    · by_cases h3 : k = 3
      · subst h3; simp only [hR, hk, hk6, hq, hb.sc, hb.fr, hb.be, hb.ce, hb.st, P12_0_eq, ↓evD, evU, Nat.reduceAdd, Nat.reduceSub, Nat.reduceMul, Nat.reduceLeDiff, Nat.reduceLT, Nat.reduceEqDiff, Nat.reduceBEq, reduceIte, reduceCtorEq, Int.reduceBEq, Int.reduceEq, Int.reduceLT, Int.reduceLE, Int.reduceGT, Int.reduceGE, Int.reduceAdd, Int.reduceSub, Int.reduceNeg, Int.reduceBNe, List.all_cons, List.all_nil, List.getElem?_cons_zero, List.getElem?_cons_succ, List.getElem?_nil, Option.map_some, List.length_cons, List.length_nil, List.set_cons_zero, List.set_cons_succ, List.map_cons, List.map_nil, List.drop_zero, List.drop_succ_cons, List.drop_nil, List.take_zero, List.take_succ_cons, List.take_nil, ite_true, ite_false, if_true, if_false, implies_true, forall_const, beq_self_eq_true, List.replicate_succ, List.replicate_zero, List.headD_cons, List.cons_append, List.nil_append, bne_self_eq_false]
      by_cases h4 : k = 4
      · subst h4
        have he' := he rfl
        simp only [hR, hk, hk6, hq, he', hb.sc, hb.fr, hb.be, hb.ce, hb.st, P12_0_eq, ↓evD, evU, Nat.reduceAdd, Nat.reduceSub, Nat.reduceMul, Nat.reduceLeDiff, Nat.reduceLT, Nat.reduceEqDiff, Nat.reduceBEq, reduceIte, reduceCtorEq, Int.reduceBEq, Int.reduceEq, Int.reduceLT, Int.reduceLE, Int.reduceGT, Int.reduceGE, Int.reduceAdd, Int.reduceSub, Int.reduceNeg, Int.reduceBNe, List.all_cons, List.all_nil, List.getElem?_cons_zero, List.getElem?_cons_succ, List.getElem?_nil, Option.map_some, List.length_cons, List.length_nil, List.set_cons_zero, List.set_cons_succ, List.map_cons, List.map_nil, List.drop_zero, List.drop_succ_cons, List.drop_nil, List.take_zero, List.take_succ_cons, List.take_nil, ite_true, ite_false, if_true, if_false, implies_true, forall_const, beq_self_eq_true, List.replicate_succ, List.replicate_zero, List.headD_cons, List.cons_append, List.nil_append, bne_self_eq_false]
      by_cases h6 : k = 6
      · subst h6; simp only [hR, hk, hk6, hq, hio, hii, l3, l4, List.length_append, hb.sc, hb.fr, hb.be, hb.ce, hb.st, P12_0_eq, ↓evD, evU, Nat.reduceAdd, Nat.reduceSub, Nat.reduceMul, Nat.reduceLeDiff, Nat.reduceLT, Nat.reduceEqDiff, Nat.reduceBEq, reduceIte, reduceCtorEq, Int.reduceBEq, Int.reduceEq, Int.reduceLT, Int.reduceLE, Int.reduceGT, Int.reduceGE, Int.reduceAdd, Int.reduceSub, Int.reduceNeg, Int.reduceBNe, List.all_cons, List.all_nil, List.getElem?_cons_zero, List.getElem?_cons_succ, List.getElem?_nil, Option.map_some, List.length_cons, List.length_nil, List.set_cons_zero, List.set_cons_succ, List.map_cons, List.map_nil, List.drop_zero, List.drop_succ_cons, List.drop_nil, List.take_zero, List.take_succ_cons, List.take_nil, ite_true, ite_false, if_true, if_false, implies_true, forall_const, beq_self_eq_true, List.replicate_succ, List.replicate_zero, List.headD_cons, List.cons_append, List.nil_append, bne_self_eq_false]
      simp only [hR, hk, hk6, hq, hf, h3, h4, h6, beq_false_of h3, beq_false_of h4, beq_false_of h6, hb.sc, hb.fr, hb.be, hb.ce, hb.st, P12_0_eq, ↓evD, evU, Nat.reduceAdd, Nat.reduceSub, Nat.reduceMul, Nat.reduceLeDiff, Nat.reduceLT, Nat.reduceEqDiff, Nat.reduceBEq, reduceIte, reduceCtorEq, Int.reduceBEq, Int.reduceEq, Int.reduceLT, Int.reduceLE, Int.reduceGT, Int.reduceGE, Int.reduceAdd, Int.reduceSub, Int.reduceNeg, Int.reduceBNe, List.all_cons, List.all_nil, List.getElem?_cons_zero, List.getElem?_cons_succ, List.getElem?_nil, Option.map_some, List.length_cons, List.length_nil, List.set_cons_zero, List.set_cons_succ, List.map_cons, List.map_nil, List.drop_zero, List.drop_succ_cons, List.drop_nil, List.take_zero, List.take_succ_cons, List.take_nil, ite_true, ite_false, if_true, if_false, implies_true, forall_const, beq_self_eq_true, List.replicate_succ, List.replicate_zero, List.headD_cons, List.cons_append, List.nil_append, bne_self_eq_false]
  · simp only [hR, hk, hk6, hb.sc, hb.fr, hb.be, hb.ce, hb.st, P12_0_eq, ↓evD, evU, Nat.reduceAdd, Nat.reduceSub, Nat.reduceMul, Nat.reduceLeDiff, Nat.reduceLT, Nat.reduceEqDiff, Nat.reduceBEq, reduceIte, reduceCtorEq, Int.reduceBEq, Int.reduceEq, Int.reduceLT, Int.reduceLE, Int.reduceGT, Int.reduceGE, Int.reduceAdd, Int.reduceSub, Int.reduceNeg, Int.reduceBNe, List.all_cons, List.all_nil, List.getElem?_cons_zero, List.getElem?_cons_succ, List.getElem?_nil, Option.map_some, List.length_cons, List.length_nil, List.set_cons_zero, List.set_cons_succ, List.map_cons, List.map_nil, List.drop_zero, List.drop_succ_cons, List.drop_nil, List.take_zero, List.take_succ_cons, List.take_nil, ite_true, ite_false, if_true, if_false, implies_true, forall_const, beq_self_eq_true, List.replicate_succ, List.replicate_zero, List.headD_cons, List.cons_append, List.nil_append, bne_self_eq_false]
end
end Go.Am.YthhceeaconflnaaDoor
namespace Go.Am.YthhceeaconflnaaDoor
set_option maxRecDepth 100000
set_option linter.unusedSimpArgs false
set_option linter.unusedVariables false
theorem bv_bs {b : PV} {l : List UInt8} (hb : Bv b l) : Bs b := ⟨hb.scalar, hb.frz, hb.strip, hb.below, hb.cells⟩
theorem u8_ne {x y : UInt8} : ((x.toNat : Int) != (y.toNat : Int)) = (x != y) := by
  by_cases h : x = y
  · subst h; simp
  · have h1 : (x != y) = true := by simpa using h
    rw [h1, bne_iff_ne]
    intro q
    exact h (UInt8.toNat_inj.1 (by omega))
theorem same_loop {h : Hp} {a b : PV} {l m : List UInt8} (ha : Rd a l) (hb : Rd b m) (hlm : l.length = m.length) (hl : l.length ≤ 4611686018427387904) : ∀ (k i : Nat), i + k = l.length →
    P19_0 (size h) (size h) (.int .i64 i) b a h = some (.bool (l.drop i == m.drop i), h)
  | 0, i, hk => by
    rw [P19_0_eq]
    have h1 : ((i : Int) < (l.length : Int)) = False := by simp; omega
    have e1 : l.drop i = [] := List.drop_eq_nil_of_le (by omega)
    have e2 : m.drop i = [] := List.drop_eq_nil_of_le (by omega)
    simp only [ha.len, h1, e1, e2, ↓evD, evU, Nat.reduceAdd, Nat.reduceSub, Nat.reduceMul, Nat.reduceLeDiff, Nat.reduceLT, Nat.reduceEqDiff, Nat.reduceBEq, reduceIte, reduceCtorEq, Int.reduceBEq, Int.reduceEq, Int.reduceLT, Int.reduceLE, Int.reduceGT, Int.reduceGE, Int.reduceAdd, Int.reduceSub, Int.reduceNeg, Int.reduceBNe, List.all_cons, List.all_nil, List.getElem?_cons_zero, List.getElem?_cons_succ, List.getElem?_nil, Option.map_some, List.length_cons, List.length_nil, List.set_cons_zero, List.set_cons_succ, List.map_cons, List.map_nil, List.drop_zero, List.drop_succ_cons, List.drop_nil, List.take_zero, List.take_succ_cons, List.take_nil, ite_true, ite_false, if_true, if_false, implies_true, forall_const, beq_self_eq_true, List.replicate_succ, List.replicate_zero, List.headD_cons, List.cons_append, List.nil_append, bne_self_eq_false]
  | k + 1, i, hk => by
    rw [P19_0_eq]
    have h1 : ((i : Int) < (l.length : Int)) = True := by simp; omega
    obtain ⟨x, hx⟩ : ∃ x, l[i]? = some x := ⟨_, List.getElem?_eq_getElem (by omega)⟩
    obtain ⟨y, hy⟩ : ∃ y, m[i]? = some y := ⟨_, List.getElem?_eq_getElem (by omega)⟩
    have e1 : l.drop i = x :: l.drop (i + 1) := by
      obtain ⟨hi, rfl⟩ := List.getElem?_eq_some_iff.1 hx
      exact List.drop_eq_getElem_cons hi
    have e2 : m.drop i = y :: m.drop (i + 1) := by
      obtain ⟨hi, rfl⟩ := List.getElem?_eq_some_iff.1 hy
      exact List.drop_eq_getElem_cons hi
    have w1 : IntKind.i64.wrap ((i : Int) + 1) = ((i + 1 : Nat) : Int) := by rw [wrap_small] <;> omega
    have ih := same_loop (h := h) ha hb hlm hl k (i + 1) (by omega)
    cases hq : (x == y)
    · have hq' : (x != y) = true := by simp [bne, hq]
      have e3 : (x :: l.drop (i + 1) == y :: m.drop (i + 1)) = false := by rw [List.cons_beq_cons, hq]; rfl
      simp only [ha.len, ha.idx hx, hb.idx hy, h1, u8_ne, hq', e1, e2, e3, ↓evD, evU, Nat.reduceAdd, Nat.reduceSub, Nat.reduceMul, Nat.reduceLeDiff, Nat.reduceLT, Nat.reduceEqDiff, Nat.reduceBEq, reduceIte, reduceCtorEq, Int.reduceBEq, Int.reduceEq, Int.reduceLT, Int.reduceLE, Int.reduceGT, Int.reduceGE, Int.reduceAdd, Int.reduceSub, Int.reduceNeg, Int.reduceBNe, List.all_cons, List.all_nil, List.getElem?_cons_zero, List.getElem?_cons_succ, List.getElem?_nil, Option.map_some, List.length_cons, List.length_nil, List.set_cons_zero, List.set_cons_succ, List.map_cons, List.map_nil, List.drop_zero, List.drop_succ_cons, List.drop_nil, List.take_zero, List.take_succ_cons, List.take_nil, ite_true, ite_false, if_true, if_false, implies_true, forall_const, beq_self_eq_true, List.replicate_succ, List.replicate_zero, List.headD_cons, List.cons_append, List.nil_append, bne_self_eq_false]
    · have hq' : (x != y) = false := by simp [bne, hq]
      have e3 : (x :: l.drop (i + 1) == y :: m.drop (i + 1)) = (l.drop (i + 1) == m.drop (i + 1)) := by rw [List.cons_beq_cons, hq]; rfl
      simp only [ha.len, ha.idx hx, hb.idx hy, h1, u8_ne, hq', e1, e2, e3, w1, ih, ↓evD, evU, Nat.reduceAdd, Nat.reduceSub, Nat.reduceMul, Nat.reduceLeDiff, Nat.reduceLT, Nat.reduceEqDiff, Nat.reduceBEq, reduceIte, reduceCtorEq, Int.reduceBEq, Int.reduceEq, Int.reduceLT, Int.reduceLE, Int.reduceGT, Int.reduceGE, Int.reduceAdd, Int.reduceSub, Int.reduceNeg, Int.reduceBNe, List.all_cons, List.all_nil, List.getElem?_cons_zero, List.getElem?_cons_succ, List.getElem?_nil, Option.map_some, List.length_cons, List.length_nil, List.set_cons_zero, List.set_cons_succ, List.map_cons, List.map_nil, List.drop_zero, List.drop_succ_cons, List.drop_nil, List.take_zero, List.take_succ_cons, List.take_nil, ite_true, ite_false, if_true, if_false, implies_true, forall_const, beq_self_eq_true, List.replicate_succ, List.replicate_zero, List.headD_cons, List.cons_append, List.nil_append, bne_self_eq_false]
theorem same_spec {base : Nat} {h : Hp} {a b : PV} {l m : List UInt8} (ha : Rd a l) (hb : Rd b m) (hl : l.length ≤ 4611686018427387904) : CallA T base 19 [a, b] h = some (.bool (l == m), h) := by
  rw [S19]
  by_cases hlm : l.length = m.length
  · have e1 : ((l.length : Int) != (m.length : Int)) = false := by rw [hlm]; simp
    have := same_loop (h := h) ha hb hlm hl l.length 0 (by omega)
    rw [List.drop_zero, List.drop_zero] at this
    simp only [ha.len, hb.len, e1, ↓evD, evU, Nat.reduceAdd, Nat.reduceSub, Nat.reduceMul, Nat.reduceLeDiff, Nat.reduceLT, Nat.reduceEqDiff, Nat.reduceBEq, reduceIte, reduceCtorEq, Int.reduceBEq, Int.reduceEq, Int.reduceLT, Int.reduceLE, Int.reduceGT, Int.reduceGE, Int.reduceAdd, Int.reduceSub, Int.reduceNeg, Int.reduceBNe, List.all_cons, List.all_nil, List.getElem?_cons_zero, List.getElem?_cons_succ, List.getElem?_nil, Option.map_some, List.length_cons, List.length_nil, List.set_cons_zero, List.set_cons_succ, List.map_cons, List.map_nil, List.drop_zero, List.drop_succ_cons, List.drop_nil, List.take_zero, List.take_succ_cons, List.take_nil, ite_true, ite_false, if_true, if_false, implies_true, forall_const, beq_self_eq_true, List.replicate_succ, List.replicate_zero, List.headD_cons, List.cons_append, List.nil_append, bne_self_eq_false]
    exact this
  · have e1 : ((l.length : Int) != (m.length : Int)) = true := by rw [bne_iff_ne]; omega
    have e2 : (l == m) = false := by rw [beq_eq_false_iff_ne]; rintro rfl; exact hlm rfl
    simp only [ha.len, hb.len, e1, e2, ↓evD, evU, Nat.reduceAdd, Nat.reduceSub, Nat.reduceMul, Nat.reduceLeDiff, Nat.reduceLT, Nat.reduceEqDiff, Nat.reduceBEq, reduceIte, reduceCtorEq, Int.reduceBEq, Int.reduceEq, Int.reduceLT, Int.reduceLE, Int.reduceGT, Int.reduceGE, Int.reduceAdd, Int.reduceSub, Int.reduceNeg, Int.reduceBNe, List.all_cons, List.all_nil, List.getElem?_cons_zero, List.getElem?_cons_succ, List.getElem?_nil, Option.map_some, List.length_cons, List.length_nil, List.set_cons_zero, List.set_cons_succ, List.map_cons, List.map_nil, List.drop_zero, List.drop_succ_cons, List.drop_nil, List.take_zero, List.take_succ_cons, List.take_nil, ite_true, ite_false, if_true, if_false, implies_true, forall_const, beq_self_eq_true, List.replicate_succ, List.replicate_zero, List.headD_cons, List.cons_append, List.nil_append, bne_self_eq_false]
theorem sameVal_spec {base : Nat} {h : Hp} (k n : Int) (s : List UInt8) {b : PV} {l : List UInt8} (o i k' n' : Int) (s' : List UInt8) {b' : PV} {l' : List UInt8} (o' i' : Int) (hb : Bv b l) (hb' : Bv b' l') (hl : l.length ≤ 4611686018427387904) :
    CallA T base 16 [val k n s b o i, val k' n' s' b' o' i'] h = some (.bool (k == k' && (n == n' && (s == s' && (l == l' && (o == o' && i == i'))))), h) := by
  rw [S16]
  have hS : ∀ base h, _ := fun base h => same_spec (base := base) (h := h) hb.rd hb'.rd hl
  cases h1 : (k == k')
  · simp only [hb.scalar, hb.cells, hb'.scalar, hb'.cells, h1, ↓evD, evU, Nat.reduceAdd, Nat.reduceSub, Nat.reduceMul, Nat.reduceLeDiff, Nat.reduceLT, Nat.reduceEqDiff, Nat.reduceBEq, reduceIte, reduceCtorEq, Int.reduceBEq, Int.reduceEq, Int.reduceLT, Int.reduceLE, Int.reduceGT, Int.reduceGE, Int.reduceAdd, Int.reduceSub, Int.reduceNeg, Int.reduceBNe, List.all_cons, List.all_nil, List.getElem?_cons_zero, List.getElem?_cons_succ, List.getElem?_nil, Option.map_some, List.length_cons, List.length_nil, List.set_cons_zero, List.set_cons_succ, List.map_cons, List.map_nil, List.drop_zero, List.drop_succ_cons, List.drop_nil, List.take_zero, List.take_succ_cons, List.take_nil, ite_true, ite_false, if_true, if_false, implies_true, forall_const, beq_self_eq_true, List.replicate_succ, List.replicate_zero, List.headD_cons, List.cons_append, List.nil_append, bne_self_eq_false]
  cases h2 : (n == n')
  · simp only [hb.scalar, hb.cells, hb'.scalar, hb'.cells, h1, h2, ↓evD, evU, Nat.reduceAdd, Nat.reduceSub, Nat.reduceMul, Nat.reduceLeDiff, Nat.reduceLT, Nat.reduceEqDiff, Nat.reduceBEq, reduceIte, reduceCtorEq, Int.reduceBEq, Int.reduceEq, Int.reduceLT, Int.reduceLE, Int.reduceGT, Int.reduceGE, Int.reduceAdd, Int.reduceSub, Int.reduceNeg, Int.reduceBNe, List.all_cons, List.all_nil, List.getElem?_cons_zero, List.getElem?_cons_succ, List.getElem?_nil, Option.map_some, List.length_cons, List.length_nil, List.set_cons_zero, List.set_cons_succ, List.map_cons, List.map_nil, List.drop_zero, List.drop_succ_cons, List.drop_nil, List.take_zero, List.take_succ_cons, List.take_nil, ite_true, ite_false, if_true, if_false, implies_true, forall_const, beq_self_eq_true, List.replicate_succ, List.replicate_zero, List.headD_cons, List.cons_append, List.nil_append, bne_self_eq_false]
  cases h3 : (s == s')
  · simp only [hb.scalar, hb.cells, hb'.scalar, hb'.cells, h1, h2, h3, ↓evD, evU, Nat.reduceAdd, Nat.reduceSub, Nat.reduceMul, Nat.reduceLeDiff, Nat.reduceLT, Nat.reduceEqDiff, Nat.reduceBEq, reduceIte, reduceCtorEq, Int.reduceBEq, Int.reduceEq, Int.reduceLT, Int.reduceLE, Int.reduceGT, Int.reduceGE, Int.reduceAdd, Int.reduceSub, Int.reduceNeg, Int.reduceBNe, List.all_cons, List.all_nil, List.getElem?_cons_zero, List.getElem?_cons_succ, List.getElem?_nil, Option.map_some, List.length_cons, List.length_nil, List.set_cons_zero, List.set_cons_succ, List.map_cons, List.map_nil, List.drop_zero, List.drop_succ_cons, List.drop_nil, List.take_zero, List.take_succ_cons, List.take_nil, ite_true, ite_false, if_true, if_false, implies_true, forall_const, beq_self_eq_true, List.replicate_succ, List.replicate_zero, List.headD_cons, List.cons_append, List.nil_append, bne_self_eq_false]
  cases h4 : (l == l')
  · simp only [hb.scalar, hb.cells, hb'.scalar, hb'.cells, h1, h2, h3, hS, h4, ↓evD, evU, Nat.reduceAdd, Nat.reduceSub, Nat.reduceMul, Nat.reduceLeDiff, Nat.reduceLT, Nat.reduceEqDiff, Nat.reduceBEq, reduceIte, reduceCtorEq, Int.reduceBEq, Int.reduceEq, Int.reduceLT, Int.reduceLE, Int.reduceGT, Int.reduceGE, Int.reduceAdd, Int.reduceSub, Int.reduceNeg, Int.reduceBNe, List.all_cons, List.all_nil, List.getElem?_cons_zero, List.getElem?_cons_succ, List.getElem?_nil, Option.map_some, List.length_cons, List.length_nil, List.set_cons_zero, List.set_cons_succ, List.map_cons, List.map_nil, List.drop_zero, List.drop_succ_cons, List.drop_nil, List.take_zero, List.take_succ_cons, List.take_nil, ite_true, ite_false, if_true, if_false, implies_true, forall_const, beq_self_eq_true, List.replicate_succ, List.replicate_zero, List.headD_cons, List.cons_append, List.nil_append, bne_self_eq_false]
  cases h5 : (o == o')
  · simp only [hb.scalar, hb.cells, hb'.scalar, hb'.cells, h1, h2, h3, hS, h4, h5, ↓evD, evU, Nat.reduceAdd, Nat.reduceSub, Nat.reduceMul, Nat.reduceLeDiff, Nat.reduceLT, Nat.reduceEqDiff, Nat.reduceBEq, reduceIte, reduceCtorEq, Int.reduceBEq, Int.reduceEq, Int.reduceLT, Int.reduceLE, Int.reduceGT, Int.reduceGE, Int.reduceAdd, Int.reduceSub, Int.reduceNeg, Int.reduceBNe, List.all_cons, List.all_nil, List.getElem?_cons_zero, List.getElem?_cons_succ, List.getElem?_nil, Option.map_some, List.length_cons, List.length_nil, List.set_cons_zero, List.set_cons_succ, List.map_cons, List.map_nil, List.drop_zero, List.drop_succ_cons, List.drop_nil, List.take_zero, List.take_succ_cons, List.take_nil, ite_true, ite_false, if_true, if_false, implies_true, forall_const, beq_self_eq_true, List.replicate_succ, List.replicate_zero, List.headD_cons, List.cons_append, List.nil_append, bne_self_eq_false]
  cases h6 : (i == i') <;> simp only [hb.scalar, hb.cells, hb'.scalar, hb'.cells, h1, h2, h3, hS, h4, h5, h6, ↓evD, evU, Nat.reduceAdd, Nat.reduceSub, Nat.reduceMul, Nat.reduceLeDiff, Nat.reduceLT, Nat.reduceEqDiff, Nat.reduceBEq, reduceIte, reduceCtorEq, Int.reduceBEq, Int.reduceEq, Int.reduceLT, Int.reduceLE, Int.reduceGT, Int.reduceGE, Int.reduceAdd, Int.reduceSub, Int.reduceNeg, Int.reduceBNe, List.all_cons, List.all_nil, List.getElem?_cons_zero, List.getElem?_cons_succ, List.getElem?_nil, Option.map_some, List.length_cons, List.length_nil, List.set_cons_zero, List.set_cons_succ, List.map_cons, List.map_nil, List.drop_zero, List.drop_succ_cons, List.drop_nil, List.take_zero, List.take_succ_cons, List.take_nil, ite_true, ite_false, if_true, if_false, implies_true, forall_const, beq_self_eq_true, List.replicate_succ, List.replicate_zero, List.headD_cons, List.cons_append, List.nil_append, bne_self_eq_false]
theorem bneI (n : Int) : ∃ b, (n != 0) = b ∧ (0 != n) = b := ⟨_, rfl, by rw [bne_comm]⟩
theorem bneS (s : List UInt8) : ∃ b, (s != []) = b ∧ ([] != s) = b := ⟨_, rfl, by rw [bne_comm]⟩
theorem bneL (n : Nat) : ∃ b, decide ((n : Int) > 0) = b ∧ ((0 : Int) != (n : Int)) = b := by
  refine ⟨_, rfl, ?_⟩
  cases n with
  | zero => rfl
  | succ n => rw [decide_eq_true (by omega), bne_iff_ne]; omega
set_option maxHeartbeats 4000000 in
theorem rightR_spec {base : Nat} {h : Hp} (k n : Int) (s : List UInt8) {b : PV} {l : List UInt8} (o i : Int) (hb : Bv b l) {c : Int} {r : Bool} (hr : ∀ base h, CallA T base 18 [.str s] h = some (.tup [i64 c, .bool r], h)) :
    CallA T base 13 [val k n s b o i] h = some (.bool (rightG k n s l.length o i r), h) := by
  rw [S13]
  unfold rightG extraG onlyN
  obtain ⟨b1, n1, n2⟩ := bneI n
  obtain ⟨b2, s1, s2⟩ := bneS s
  obtain ⟨b3, l1, l2⟩ := bneL l.length
  obtain ⟨b4, o1, o2⟩ := bneI o
  obtain ⟨b5, i1, i2⟩ := bneI i
  have z0 : ((0 : Nat) : Int) = 0 := rfl
  have dl := decide_len l.length
  by_cases h1 : k = 1
  · subst h1; cases b2 <;> cases b3 <;> cases b4 <;> cases b5 <;> simp only [hr, hb.scalar, hb.cells, hb.len, n1, n2, s1, s2, l1, l2, o1, o2, i1, i2, z0, P13_0_eq, ↓evD, evU, Nat.reduceAdd, Nat.reduceSub, Nat.reduceMul, Nat.reduceLeDiff, Nat.reduceLT, Nat.reduceEqDiff, Nat.reduceBEq, reduceIte, reduceCtorEq, Int.reduceBEq, Int.reduceEq, Int.reduceLT, Int.reduceLE, Int.reduceGT, Int.reduceGE, Int.reduceAdd, Int.reduceSub, Int.reduceNeg, Int.reduceBNe, List.all_cons, List.all_nil, List.getElem?_cons_zero, List.getElem?_cons_succ, List.getElem?_nil, Option.map_some, List.length_cons, List.length_nil, List.set_cons_zero, List.set_cons_succ, List.map_cons, List.map_nil, List.drop_zero, List.drop_succ_cons, List.drop_nil, List.take_zero, List.take_succ_cons, List.take_nil, ite_true, ite_false, if_true, if_false, implies_true, forall_const, beq_self_eq_true, List.replicate_succ, List.replicate_zero, List.headD_cons, List.cons_append, List.nil_append, bne_self_eq_false]
  by_cases h5 : k = 5
  · subst h5; cases b2 <;> cases b3 <;> cases b4 <;> cases b5 <;> simp only [hr, hb.scalar, hb.cells, hb.len, n1, n2, s1, s2, l1, l2, o1, o2, i1, i2, z0, P13_0_eq, ↓evD, evU, Nat.reduceAdd, Nat.reduceSub, Nat.reduceMul, Nat.reduceLeDiff, Nat.reduceLT, Nat.reduceEqDiff, Nat.reduceBEq, reduceIte, reduceCtorEq, Int.reduceBEq, Int.reduceEq, Int.reduceLT, Int.reduceLE, Int.reduceGT, Int.reduceGE, Int.reduceAdd, Int.reduceSub, Int.reduceNeg, Int.reduceBNe, List.all_cons, List.all_nil, List.getElem?_cons_zero, List.getElem?_cons_succ, List.getElem?_nil, Option.map_some, List.length_cons, List.length_nil, List.set_cons_zero, List.set_cons_succ, List.map_cons, List.map_nil, List.drop_zero, List.drop_succ_cons, List.drop_nil, List.take_zero, List.take_succ_cons, List.take_nil, ite_true, ite_false, if_true, if_false, implies_true, forall_const, beq_self_eq_true, List.replicate_succ, List.replicate_zero, List.headD_cons, List.cons_append, List.nil_append, bne_self_eq_false]
  by_cases h2 : k = 2
  · subst h2; cases q : (n == 0) <;> cases b2 <;> cases b3 <;> cases b4 <;> cases b5 <;> simp only [hr, hb.scalar, hb.cells, hb.len, n1, n2, s1, s2, l1, l2, o1, o2, i1, i2, z0, q, P13_0_eq, ↓evD, evU, Nat.reduceAdd, Nat.reduceSub, Nat.reduceMul, Nat.reduceLeDiff, Nat.reduceLT, Nat.reduceEqDiff, Nat.reduceBEq, reduceIte, reduceCtorEq, Int.reduceBEq, Int.reduceEq, Int.reduceLT, Int.reduceLE, Int.reduceGT, Int.reduceGE, Int.reduceAdd, Int.reduceSub, Int.reduceNeg, Int.reduceBNe, List.all_cons, List.all_nil, List.getElem?_cons_zero, List.getElem?_cons_succ, List.getElem?_nil, Option.map_some, List.length_cons, List.length_nil, List.set_cons_zero, List.set_cons_succ, List.map_cons, List.map_nil, List.drop_zero, List.drop_succ_cons, List.drop_nil, List.take_zero, List.take_succ_cons, List.take_nil, ite_true, ite_false, if_true, if_false, implies_true, forall_const, beq_self_eq_true, List.replicate_succ, List.replicate_zero, List.headD_cons, List.cons_append, List.nil_append, bne_self_eq_false]
  by_cases h3 : k = 3
  · subst h3; cases r <;> cases b1 <;> cases b3 <;> cases b4 <;> cases b5 <;> simp only [hr, hb.scalar, hb.cells, hb.len, n1, n2, s1, s2, l1, l2, o1, o2, i1, i2, z0, decide_len, P13_0_eq, ↓evD, evU, Nat.reduceAdd, Nat.reduceSub, Nat.reduceMul, Nat.reduceLeDiff, Nat.reduceLT, Nat.reduceEqDiff, Nat.reduceBEq, reduceIte, reduceCtorEq, Int.reduceBEq, Int.reduceEq, Int.reduceLT, Int.reduceLE, Int.reduceGT, Int.reduceGE, Int.reduceAdd, Int.reduceSub, Int.reduceNeg, Int.reduceBNe, List.all_cons, List.all_nil, List.getElem?_cons_zero, List.getElem?_cons_succ, List.getElem?_nil, Option.map_some, List.length_cons, List.length_nil, List.set_cons_zero, List.set_cons_succ, List.map_cons, List.map_nil, List.drop_zero, List.drop_succ_cons, List.drop_nil, List.take_zero, List.take_succ_cons, List.take_nil, ite_true, ite_false, if_true, if_false, implies_true, forall_const, beq_self_eq_true, List.replicate_succ, List.replicate_zero, List.headD_cons, List.cons_append, List.nil_append, bne_self_eq_false]
  by_cases h4 : k = 4
  · subst h4; cases b1 <;> cases b2 <;> cases b4 <;> cases b5 <;> simp only [hr, hb.scalar, hb.cells, hb.len, n1, n2, s1, s2, l1, l2, o1, o2, i1, i2, z0, decide_len, P13_0_eq, ↓evD, evU, Nat.reduceAdd, Nat.reduceSub, Nat.reduceMul, Nat.reduceLeDiff, Nat.reduceLT, Nat.reduceEqDiff, Nat.reduceBEq, reduceIte, reduceCtorEq, Int.reduceBEq, Int.reduceEq, Int.reduceLT, Int.reduceLE, Int.reduceGT, Int.reduceGE, Int.reduceAdd, Int.reduceSub, Int.reduceNeg, Int.reduceBNe, List.all_cons, List.all_nil, List.getElem?_cons_zero, List.getElem?_cons_succ, List.getElem?_nil, Option.map_some, List.length_cons, List.length_nil, List.set_cons_zero, List.set_cons_succ, List.map_cons, List.map_nil, List.drop_zero, List.drop_succ_cons, List.drop_nil, List.take_zero, List.take_succ_cons, List.take_nil, ite_true, ite_false, if_true, if_false, implies_true, forall_const, beq_self_eq_true, List.replicate_succ, List.replicate_zero, List.headD_cons, List.cons_append, List.nil_append, bne_self_eq_false]
  by_cases h6 : k = 6
  · subst h6
    by_cases q1 : 0 ≤ o <;> by_cases q2 : o ≤ 65535 <;> by_cases q3 : 0 ≤ i <;> by_cases q4 : i ≤ 65535 <;>
      cases b1 <;> cases b2 <;> cases b3 <;> simp only [ge_iff_le, hr, hb.scalar, hb.cells, hb.len, n1, n2, s1, s2, l1, l2, o1, o2, i1, i2, z0, q1, q2, q3, q4, P13_0_eq, ↓evD, evU, Nat.reduceAdd, Nat.reduceSub, Nat.reduceMul, Nat.reduceLeDiff, Nat.reduceLT, Nat.reduceEqDiff, Nat.reduceBEq, reduceIte, reduceCtorEq, Int.reduceBEq, Int.reduceEq, Int.reduceLT, Int.reduceLE, Int.reduceGT, Int.reduceGE, Int.reduceAdd, Int.reduceSub, Int.reduceNeg, Int.reduceBNe, List.all_cons, List.all_nil, List.getElem?_cons_zero, List.getElem?_cons_succ, List.getElem?_nil, Option.map_some, List.length_cons, List.length_nil, List.set_cons_zero, List.set_cons_succ, List.map_cons, List.map_nil, List.drop_zero, List.drop_succ_cons, List.drop_nil, List.take_zero, List.take_succ_cons, List.take_nil, ite_true, ite_false, if_true, if_false, implies_true, forall_const, beq_self_eq_true, List.replicate_succ, List.replicate_zero, List.headD_cons, List.cons_append, List.nil_append, bne_self_eq_false]
  have k1 := bne_true_of h1
  have k2 := bne_true_of h2
  have k3 := bne_true_of h3
  have k4 := bne_true_of h4
  have k5 := bne_true_of h5
  have k6 := bne_true_of h6
  cases b1 <;> cases b2 <;> cases b3 <;> cases b4 <;> cases b5 <;> simp only [hr, hb.scalar, hb.cells, hb.len, n1, n2, s1, s2, l1, l2, o1, o2, i1, i2, z0, k1, k2, k3, k4, k5, k6, h1, h2, h3, h4, h5, h6,
    beq_false_of h1, beq_false_of h2, beq_false_of h3, beq_false_of h4, beq_false_of h5, beq_false_of h6, P13_0_eq, ↓evD, evU, Nat.reduceAdd, Nat.reduceSub, Nat.reduceMul, Nat.reduceLeDiff, Nat.reduceLT, Nat.reduceEqDiff, Nat.reduceBEq, reduceIte, reduceCtorEq, Int.reduceBEq, Int.reduceEq, Int.reduceLT, Int.reduceLE, Int.reduceGT, Int.reduceGE, Int.reduceAdd, Int.reduceSub, Int.reduceNeg, Int.reduceBNe, List.all_cons, List.all_nil, List.getElem?_cons_zero, List.getElem?_cons_succ, List.getElem?_nil, Option.map_some, List.length_cons, List.length_nil, List.set_cons_zero, List.set_cons_succ, List.map_cons, List.map_nil, List.drop_zero, List.drop_succ_cons, List.drop_nil, List.take_zero, List.take_succ_cons, List.take_nil, ite_true, ite_false, if_true, if_false, implies_true, forall_const, beq_self_eq_true, List.replicate_succ, List.replicate_zero, List.headD_cons, List.cons_append, List.nil_append, bne_self_eq_false]
end Go.Am.YthhceeaconflnaaDoor
namespace Go.Am.YthhceeaconflnaaDoor
set_option linter.unusedSimpArgs false
open Go.Lib
theorem ofNat_toNat (u : Nat) (h : u < 256) : (UInt8.ofNat u).toNat = u := by simp [Nat.mod_eq_of_lt h]
theorem parse_digits (u : Nat) : ∀ (r : List UInt8), u ≤ 18446744073709551615 → parseUintM 18446744073709551615 0 (decDigits u ++ r) = parseUintM 18446744073709551615 u r := by
  induction u using Nat.strongRecOn with
  | _ u ih =>
    intro r hu
    by_cases h : u < 10
    · rw [decDigits, dif_pos h, List.singleton_append, parseUintM, ofNat_toNat _ (by omega), if_pos (by omega), if_neg (by omega), if_neg (by omega)]
      congr 1; omega
    · rw [decDigits, dif_neg h, List.append_assoc, ih (u / 10) (by omega) _ (by omega), List.singleton_append, parseUintM, ofNat_toNat _ (by omega), if_pos (by omega), if_neg (by omega), if_neg (by omega)]
      congr 1; omega
theorem digits_ne (u : Nat) : decDigits u ≠ [] := by
  intro h
  have := congrArg List.length h
  rw [decDigits_length] at this
  have := nDigits_pos u
  simp at *
  omega
theorem parse_dec (u : Nat) (hu : u ≤ 18446744073709551615) : parseUintB 64 (decDigits u) = .ok u := by
  unfold parseUintB
  rw [if_neg (digits_ne u)]
  have := parse_digits u [] hu
  rw [List.append_nil] at this
  show parseUintM (2 ^ 64 - 1) 0 _ = _
  have e : (2 : Nat) ^ 64 - 1 = 18446744073709551615 := by decide
  rw [e, this]
  rfl
theorem digits_mem (u : Nat) : ∀ c ∈ decDigits u, 48 ≤ c.toNat ∧ c.toNat ≤ 57 := by
  induction u using Nat.strongRecOn with
  | _ u ih =>
    intro c hc
    by_cases h : u < 10
    · rw [decDigits, dif_pos h] at hc
      rw [List.mem_singleton] at hc
      subst hc
      rw [ofNat_toNat _ (by omega)]; omega
    · rw [decDigits, dif_neg h] at hc
      simp only [List.mem_append, List.mem_singleton] at hc
      rcases hc with hc | rfl
      · exact ih _ (by omega) c hc
      · rw [ofNat_toNat _ (by omega)]; omega
/-- The first digit is 0 of 0 alone. -/
theorem digits_head (u : Nat) : ∃ c r, decDigits u = c :: r ∧ (c.toNat = 48 ↔ u = 0) := by
  induction u using Nat.strongRecOn with
  | _ u ih =>
    by_cases h : u < 10
    · rw [decDigits, dif_pos h]
      exact ⟨_, _, rfl, by rw [ofNat_toNat _ (by omega)]; omega⟩
    · obtain ⟨c, r, h1, h2⟩ := ih (u / 10) (by omega)
      rw [decDigits, dif_neg h, h1]
      exact ⟨c, _, rfl, by rw [h2]; omega⟩
theorem parse_itoa {n : Int} (hn : in64 n) : parseIntB 64 (itoa n) = .ok n := by
  have e63 : (2 : Nat) ^ (64 - 1) = 9223372036854775808 := by decide
  unfold in64 at hn
  unfold itoa
  by_cases h : n < 0
  · rw [if_pos h, parseIntB_minus, parse_dec _ (by omega), signedC, e63, if_neg (by omega)]
    congr 1; omega
  · rw [if_neg h]
    obtain ⟨c, r, h1, _⟩ := digits_head n.toNat
    have hm := digits_mem n.toNat c (by rw [h1]; simp)
    rw [h1, parseIntB_plain _ _ _ (by omega) (by omega), ← h1, parse_dec _ (by omega), signlessC, e63, if_neg (by omega)]
    congr 1; omega
theorem numG_itoa {n : Int} (hn : in64 n) : numG (itoa n) = (n, true) := by
  unfold numG
  rw [parse_itoa hn]
  simp
theorem itoa_head (n : Int) : ∃ c r, itoa n = c :: r ∧ (c.toNat = 45 ↔ n < 0) ∧ (c.toNat = 48 ↔ n = 0) := by
  unfold itoa
  by_cases h : n < 0
  · rw [if_pos h]
    refine ⟨45, _, rfl, ⟨fun _ => h, fun _ => rfl⟩, fun hq => ?_, fun hq => by omega⟩
    have e : (45 : UInt8).toNat = 45 := rfl
    omega
  · rw [if_neg h]
    obtain ⟨c, r, h1, h2⟩ := digits_head n.toNat
    have hm := digits_mem n.toNat c (by rw [h1]; simp)
    refine ⟨c, r, h1, ⟨fun hq => by omega, fun hq => by omega⟩, ?_⟩
    rw [h2]; omega
theorem itoa_mem (n : Int) : ∀ c ∈ itoa n, c.toNat = 45 ∨ (48 ≤ c.toNat ∧ c.toNat ≤ 57) := by
  intro c hc
  unfold itoa at hc
  split at hc
  · simp only [List.mem_cons] at hc
    rcases hc with rfl | hc
    · exact .inl rfl
    · exact .inr (digits_mem _ c hc)
  · exact .inr (digits_mem _ c hc)
theorem index_colon : ∀ (a r : List UInt8), (∀ c ∈ a, c ≠ 58) → index (a ++ 58 :: r) [58] = a.length
  | [], r, _ => by simp [index]
  | x :: a, r, h => by
    have hx : x ≠ 58 := h x (by simp)
    have ih := index_colon a r (fun c hc => h c (by simp [hc]))
    have hp : ([58] : List UInt8).isPrefixOf (x :: (a ++ 58 :: r)) = false := by
      simp only [List.isPrefixOf, Bool.and_eq_false_iff, beq_eq_false_iff_ne]
      exact .inl (fun hq => hx hq.symm)
    rw [List.cons_append, index, hp, ih]
    have h1 : ((a.length : Int) == -1) = false := by rw [beq_eq_false_iff_ne]; omega
    simp only [h1, Bool.false_eq_true, if_false, List.length_cons]
    omega
theorem cut_colon (a r : List UInt8) (h : ∀ c ∈ a, c ≠ 58) : cut (a ++ 58 :: r) [58] = (a, r, true) := by
  unfold cut
  rw [index_colon a r h, if_pos (by omega)]
  simp
theorem itoa_colon (n : Int) : ∀ c ∈ itoa n, c ≠ 58 := by
  intro c hc hq
  subst hq
  have := itoa_mem n _ hc
  have e : (58 : UInt8).toNat = 58 := rfl
  rw [e] at this
  omega
theorem linkG_itoa {o i : Int} (ho : 0 ≤ o ∧ o ≤ 65535) (hi : 0 ≤ i ∧ i ≤ 65535) : linkG (itoa o ++ [58] ++ itoa i) = (o, i, true) := by
  unfold linkG
  rw [List.append_assoc, List.singleton_append, cut_colon _ _ (itoa_colon o)]
  have h1 := numG_itoa (n := o) (by unfold in64; omega)
  have h2 := numG_itoa (n := i) (by unfold in64; omega)
  simp [h1, h2, ho, hi]
theorem linkG_nil : linkG [] = (0, 0, false) := by decide +kernel
end Go.Am.YthhceeaconflnaaDoor
namespace Go.Am.YthhceeaconflnaaDoor
set_option linter.unusedSimpArgs false
set_option linter.unusedVariables false
set_option maxRecDepth 100000
open Go.Lib
def digs : List UInt8 → Nat → Option Nat
  | [], u => some u
  | c :: r, u => if c.toNat < 48 ∨ 57 < c.toNat then none else digs r (u * 10 + (c.toNat - 48))
theorem digs_app : ∀ (a b : List UInt8) (u : Nat), digs (a ++ b) u = match digs a u with | none => none | some w => digs b w
  | [], b, u => rfl
  | c :: a, b, u => by
    simp only [List.cons_append, digs]
    split
    · rfl
    · exact digs_app a b _
theorem digs_dec (u : Nat) : digs (decDigits u) 0 = some u := by
  induction u using Nat.strongRecOn with
  | _ u ih =>
    by_cases h : u < 10
    · rw [decDigits, dif_pos h]
      simp only [digs]
      rw [ofNat_toNat _ (by omega), if_neg (by omega)]
      congr 1; omega
    · rw [decDigits, dif_neg h, digs_app, ih (u / 10) (by omega)]
      simp only [digs]
      rw [ofNat_toNat _ (by omega), if_neg (by omega)]
      congr 1; omega
theorem dec_len (k : Nat) : ∀ u : Nat, 1 ≤ k → u < 10 ^ k → (decDigits u).length ≤ k := by
  induction k with
  | zero => intro u hk; omega
  | succ k ih =>
    intro u hk hu
    by_cases h : u < 10
    · rw [decDigits, dif_pos h]; simp
    · rw [decDigits, dif_neg h, List.length_append, List.length_singleton]
      have : 1 ≤ k := by
        cases k with
        | zero => simp at hu; omega
        | succ k => omega
      have := ih (u / 10) this (by rw [Nat.pow_succ] at hu; omega)
      omega
theorem canon : ∀ (n : Nat) (d : List UInt8) (u : Nat), d.length = n → digs d 0 = some u → d ≠ [] → (d.head? ≠ some 48 ∨ d.length = 1) → decDigits u = d := by
  intro n
  induction n with
  | zero => intro d u hn _ hd; exact (hd (List.length_eq_zero_iff.1 hn)).elim
  | succ n ih =>
    intro d u hn hu hd hh
    have hdc : d = d.dropLast ++ [d.getLast hd] := (List.dropLast_concat_getLast hd).symm
    generalize d.getLast hd = c at hdc
    generalize hd' : d.dropLast = d' at hdc
    have hl : d'.length = n := by rw [← hd', List.length_dropLast]; omega
    rw [hdc, digs_app] at hu
    by_cases he : d' = []
    · subst he
      simp only [digs] at hu
      split at hu
      · cases hu
      rename_i hc
      cases hu
      have hc2 := c.toNat_lt
      rw [decDigits, dif_pos (by omega), hdc, List.nil_append]
      congr 1
      apply UInt8.toNat_inj.1
      rw [ofNat_toNat _ (by omega)]; omega
    · have hne : n ≠ 0 := by rintro rfl; exact he (List.length_eq_zero_iff.1 hl)
      have hh' : d'.head? ≠ some 48 := by
        have := hh.resolve_right (by omega)
        rw [hdc] at this
        cases d' with
        | nil => exact (he rfl).elim
        | cons x r => simpa using this
      cases hw : digs d' 0 with
      | none => rw [hw] at hu; cases hu
      | some w =>
        rw [hw] at hu
        simp only [digs] at hu
        split at hu
        · cases hu
        rename_i hc
        have hw' := ih d' w hl hw he (.inl hh')
        have hc2 := c.toNat_lt
        have hw0 : w ≠ 0 := by
          rintro rfl
          rw [decDigits, dif_pos (by omega)] at hw'
          rw [← hw'] at hh'
          exact hh' rfl
        cases hu
        rw [decDigits, dif_neg (by omega), hdc]
        have e1 : (w * 10 + (c.toNat - 48)) / 10 = w := by omega
        have e2 : (w * 10 + (c.toNat - 48)) % 10 = c.toNat - 48 := by omega
        rw [e1, e2, hw']
        congr 2
        apply UInt8.toNat_inj.1
        rw [ofNat_toNat _ (by omega)]; omega
/-- What the reference answers of digits. -/
def minS : List UInt8 := [45, 57, 50, 50, 51, 51, 55, 50, 48, 51, 54, 56, 53, 52, 55, 55, 53, 56, 48, 56]
def numD (d : List UInt8) (neg : Bool) : Int × Bool :=
  if d = [] ∨ 19 < d.length ∨ (d.head? = some 48 ∧ (1 < d.length ∨ neg = true)) then (0, false) else match digs d 0 with
    | none => (0, false)
    | some u => if 9223372036854775807 < u then (0, false) else (if neg then -(u : Int) else u, true)
def numM : List UInt8 → Int × Bool
  | 45 :: d => numD d true
  | d => numD d false
def numC (s : List UInt8) : Int × Bool := if s = minS then (-9223372036854775808, true) else numM s
def numR (s : List UInt8) : Int × Bool := if (numG s).2 then numG s else (0, false)
theorem numG_iff {s : List UInt8} {v : Int} : numG s = (v, true) ↔ in64 v ∧ itoa v = s := by
  constructor
  · intro h
    unfold numG at h
    split at h
    · rename_i w hw
      simp only [Prod.mk.injEq, beq_iff_eq] at h
      obtain ⟨rfl, h2⟩ := h
      exact ⟨in64_ok hw, h2⟩
    · cases h
    · cases h
  · rintro ⟨h1, rfl⟩
    exact numG_itoa h1
theorem numR_iff {s : List UInt8} {v : Int} : numR s = (v, true) ↔ in64 v ∧ itoa v = s := by
  rw [← numG_iff]
  unfold numR
  cases hq : (numG s).2
  · simp only [Bool.false_eq_true, if_false]
    constructor
    · intro h; cases h
    · intro h; rw [h] at hq; cases hq
  · simp only [if_true]
theorem numR_false {s : List UInt8} (h : ∀ v, ¬ (in64 v ∧ itoa v = s)) : numR s = (0, false) := by
  unfold numR
  cases hq : (numG s).2
  · simp
  · exfalso
    exact h (numG s).1 (numG_iff.1 (by rw [← hq]))
theorem minS_dec : decDigits 9223372036854775808 = minS.tail := by
  have := canon 19 minS.tail 9223372036854775808 rfl (by decide +kernel) (by decide) (.inl (by decide))
  exact this
theorem itoa_min : itoa (-9223372036854775808) = minS := by
  unfold itoa
  rw [if_pos (by decide)]
  have : (-9223372036854775808 : Int).natAbs = 9223372036854775808 := rfl
  rw [this, minS_dec]; rfl
theorem numD_iff {d : List UInt8} {neg : Bool} {v : Int} : numD d neg = (v, true) ↔ ∃ u : Nat, u ≤ 9223372036854775807 ∧ decDigits u = d ∧ (neg = true → u ≠ 0) ∧ v = if neg then -(u : Int) else u := by
  unfold numD
  constructor
  · intro h
    split at h
    · cases h
    rename_i hc
    split at h
    · cases h
    rename_i u hu
    split at h
    · cases h
    rename_i hb
    simp only [Prod.mk.injEq, and_true] at h
    have hne : d ≠ [] := fun q => hc (.inl q)
    have hhd : d.head? ≠ some 48 ∨ d.length = 1 := by
      by_cases hq : d.head? = some 48
      · right
        have : ¬ 1 < d.length := fun q => hc (.inr (.inr ⟨hq, .inl q⟩))
        have : 0 < d.length := List.length_pos_iff.2 hne
        omega
      · exact .inl hq
    have hdec := canon d.length d u rfl hu hne hhd
    refine ⟨u, by omega, hdec, fun hn q => ?_, h.symm⟩
    subst q
    have : d.head? = some 48 := by rw [← hdec, decDigits, dif_pos (by omega)]; rfl
    exact hc (.inr (.inr ⟨this, .inr hn⟩))
  · rintro ⟨u, hu, rfl, hz, rfl⟩
    rw [if_neg]
    · rw [digs_dec]
      simp only
      rw [if_neg (by omega)]
    · rintro (h | h | ⟨h1, h2⟩)
      · exact digits_ne u h
      · have := dec_len 19 u (by omega) (by omega)
        omega
      · obtain ⟨c, r, h3, h4⟩ := digits_head u
        rw [h3] at h1
        simp only [List.head?_cons, Option.some.injEq] at h1
        subst h1
        have hu0 : u = 0 := h4.1 rfl
        subst hu0
        rcases h2 with h2 | h2
        · rw [decDigits, dif_pos (by omega)] at h2; simp at h2
        · exact hz h2 rfl
theorem numD_snd {d : List UInt8} {neg : Bool} (h : (numD d neg).2 = false) : numD d neg = (0, false) := by
  unfold numD at *
  split
  · rfl
  rename_i hc
  rw [if_neg hc] at h
  split
  · rfl
  rename_i u hu
  rw [hu] at h
  simp only at h
  split
  · rfl
  rename_i hb
  rw [if_neg hb] at h
  cases h
theorem numC_iff {s : List UInt8} {v : Int} : numC s = (v, true) ↔ in64 v ∧ itoa v = s := by
  unfold numC numM
  by_cases hm : s = minS
  · rw [if_pos hm]
    subst hm
    constructor
    · intro h; cases h; exact ⟨by unfold in64; omega, itoa_min⟩
    · rintro ⟨h1, h2⟩
      have h3 := numG_itoa h1
      rw [h2, ← itoa_min, numG_itoa (by unfold in64; omega)] at h3
      rw [h3]
  · rw [if_neg hm]
    have neg_case : ∀ d, s = 45 :: d → (numD d true = (v, true) ↔ in64 v ∧ itoa v = s) := by
      rintro d rfl
      rw [numD_iff]
      constructor
      · rintro ⟨u, hu, rfl, hz, rfl⟩
        have := hz rfl
        refine ⟨by unfold in64; simp; omega, ?_⟩
        unfold itoa
        simp only [if_true]
        rw [if_pos (by omega)]
        congr 2
        omega
      · rintro ⟨h1, h2⟩
        obtain ⟨c, r, h3, h4, _⟩ := itoa_head v
        have hv : v < 0 := by
          rw [h2] at h3
          cases h3
          exact h4.1 rfl
        unfold in64 at h1
        have hvm : v ≠ -9223372036854775808 := by rintro rfl; rw [itoa_min] at h2; exact hm h2.symm
        unfold itoa at h2
        rw [if_pos hv] at h2
        refine ⟨v.natAbs, by omega, by simpa using h2, fun _ => by omega, by simp; omega⟩
    have pos_case : (∀ d, s ≠ 45 :: d) → (numD s false = (v, true) ↔ in64 v ∧ itoa v = s) := by
      intro hs
      rw [numD_iff]
      constructor
      · rintro ⟨u, hu, rfl, hz, rfl⟩
        refine ⟨by unfold in64; simp; omega, ?_⟩
        unfold itoa
        simp only [Bool.false_eq_true, if_false]
        rw [if_neg (by omega)]
        congr 1
      · rintro ⟨h1, h2⟩
        have hv : ¬ v < 0 := by
          intro hv
          unfold itoa at h2
          rw [if_pos hv] at h2
          exact hs _ h2.symm
        unfold in64 at h1
        unfold itoa at h2
        rw [if_neg hv] at h2
        refine ⟨v.toNat, by omega, by simpa using h2, (fun h => nomatch h), by simp only [Bool.false_eq_true, if_false]; omega⟩
    split
    · exact neg_case _ rfl
    · rename_i hn
      exact pos_case fun d hd => hn d hd
theorem numC_snd {s : List UInt8} (h : (numC s).2 = false) : numC s = (0, false) := by
  unfold numC numM at *
  split
  · rename_i hm; rw [if_pos hm] at h; cases h
  · rename_i hm
    rw [if_neg hm] at h
    split
    · exact numD_snd h
    · rename_i hn
      split at h
      · exact (hn _ rfl).elim
      · exact numD_snd h
theorem numC_eq (s : List UInt8) : numC s = numR s := by
  cases hq : (numC s).2
  · rw [numC_snd hq]
    symm
    apply numR_false
    intro v hv
    have := numC_iff.2 hv
    rw [this] at hq; cases hq
  · have h1 : numC s = ((numC s).1, true) := by rw [← hq]
    have h2 := numR_iff.2 (numC_iff.1 h1)
    rw [h1, h2]
end Go.Am.YthhceeaconflnaaDoor
namespace Go.Am.YthhceeaconflnaaDoor
def sgn : List UInt8 := [65, 66, 67, 68, 69, 70, 71, 72, 73, 74, 75, 76, 77, 78, 79, 80, 81, 82, 83, 84, 85, 86, 87, 88, 89, 90, 97, 98, 99, 100, 101, 102, 103, 104, 105, 106, 107, 108, 109, 110, 111, 112, 113, 114, 115, 116, 117, 118, 119, 120, 121, 122, 48, 49, 50, 51, 52, 53, 54, 55, 56, 57, 43, 47]
def letG (n : Nat) : UInt8 := sgn.getD n 0
def encL : List UInt8 → List UInt8
  | a :: b :: c :: r => letG (a.toNat / 4) :: letG (a.toNat % 4 * 16 + b.toNat / 16) :: letG (b.toNat % 16 * 4 + c.toNat / 64) :: letG (c.toNat % 64) :: encL r
  | [a, b] => [letG (a.toNat / 4), letG (a.toNat % 4 * 16 + b.toNat / 16), letG (b.toNat % 16 * 4), 61]
  | [a] => [letG (a.toNat / 4), letG (a.toNat % 4 * 16), 61, 61]
  | [] => []
theorem sgn_get {n : Nat} (h : n < 64) : sgn[n]? = some (letG n) := by
  unfold letG
  have : n < sgn.length := h
  simp [List.getD_eq_getElem?_getD, this]
theorem encL_len : ∀ l : List UInt8, (encL l).length = (l.length + 2) / 3 * 4
  | a :: b :: c :: r => by simp only [encL, List.length_cons, encL_len r]; omega
  | [a, b] => by simp [encL]
  | [a] => by simp [encL]
  | [] => by simp [encL]
end Go.Am.YthhceeaconflnaaDoor
namespace Go.Am.YthhceeaconflnaaDoor
set_option maxRecDepth 100000
set_option linter.unusedSimpArgs false
set_option linter.unusedVariables false
/-- A heap with a builder on top that holds a text. -/
def bld (h : Hp) (out : List UInt8) : Hp := if out = [] then ext h [.cells [.bnil 62, .nils]] else ext h [.cells [.ptr (size h) 0, .sl (.tok (size h + 1)) 1 (u8s out)], .tok out.length 5]
theorem strips_u8s : ∀ l : List UInt8, strips (u8s l) = u8s l
  | [] => rfl
  | c :: l => by show strip _ :: strips (u8s l) = _; rw [strips_u8s l]; rfl
theorem u8s_len (l : List UInt8) : (u8s l).length = l.length := by simp [u8s]
theorem u8s_append (a b : List UInt8) : u8s a ++ u8s b = u8s (a ++ b) := by simp [u8s]
theorem bytesOf_u8s (l : List UInt8) : bytesOf (u8s l) = some l := bytesOf_bytes l
theorem u8s_ne {l : List UInt8} (h : l ≠ []) : u8s l ≠ [] := by cases l <;> simp_all [u8s]
theorem growT_one_tok {h : Hp} {T' sz t : Nat} {es : List PV} {x : PV} (ht : getTok h t = some (es.length, T')) (hx : fits sz x = true) (hl : es.length + 1 ≤ lim2) :
    growT h T' sz (.sl (.tok t) sz es) [x] = some (.sl (.tok t) sz (es ++ [strip x]), setBx h t (.tok (es.length + 1) T')) := by
  simp [growT, hx, ht, hl, strips, Option.bnd_some]
theorem write_byte {h : Hp} {base : Nat} (hb : base ≤ size h) (out : List UInt8) (c : UInt8) (hl : out.length + 1 ≤ lim2) :
    CallA T base 32 [.ptr (size h) 0, .int .u8 c.toNat] (bld h out) = some (.nilif, bld h (out ++ [c])) := by
  have hlt : ¬ size h < base := by omega
  unfold bld
  rw [if_neg (by simp : out ++ [c] ≠ [])]
  by_cases ho : out = []
  · subst ho
    have hcc : CallA T base 43 [.ptr (size h) 0] (ext h [.cells [.bnil 62, .nils]]) = some (.tup [], ext h [.cells [.ptr (size h) 0, .nils]]) := by
      rw [CallA_prim T_43]
      simp only [pCopyCheck, primEnd, hlt, Option.isSome_some, ↓evD, evU, Nat.reduceAdd, Nat.reduceSub, Nat.reduceMul, Nat.reduceLeDiff, Nat.reduceLT, Nat.reduceEqDiff, Nat.reduceBEq, reduceIte, reduceCtorEq, Int.reduceBEq, Int.reduceEq, Int.reduceLT, Int.reduceLE, Int.reduceGT, Int.reduceGE, Int.reduceAdd, Int.reduceSub, Int.reduceNeg, Int.reduceBNe, List.all_cons, List.all_nil, List.getElem?_cons_zero, List.getElem?_cons_succ, List.getElem?_nil, Option.map_some, List.length_cons, List.length_nil, List.set_cons_zero, List.set_cons_succ, List.map_cons, List.map_nil, List.drop_zero, List.drop_succ_cons, List.drop_nil, List.take_zero, List.take_succ_cons, List.take_nil, ite_true, ite_false, if_true, if_false, implies_true, forall_const, beq_self_eq_true, List.replicate_succ, List.replicate_zero, List.headD_cons, List.cons_append, List.nil_append, bne_self_eq_false]
    rw [if_pos rfl, S32]
    simp only [hcc, hlt, growT_one_nils, fits_def, ↓evD, evU, Nat.reduceAdd, Nat.reduceSub, Nat.reduceMul, Nat.reduceLeDiff, Nat.reduceLT, Nat.reduceEqDiff, Nat.reduceBEq, reduceIte, reduceCtorEq, Int.reduceBEq, Int.reduceEq, Int.reduceLT, Int.reduceLE, Int.reduceGT, Int.reduceGE, Int.reduceAdd, Int.reduceSub, Int.reduceNeg, Int.reduceBNe, List.all_cons, List.all_nil, List.getElem?_cons_zero, List.getElem?_cons_succ, List.getElem?_nil, Option.map_some, List.length_cons, List.length_nil, List.set_cons_zero, List.set_cons_succ, List.map_cons, List.map_nil, List.drop_zero, List.drop_succ_cons, List.drop_nil, List.take_zero, List.take_succ_cons, List.take_nil, ite_true, ite_false, if_true, if_false, implies_true, forall_const, beq_self_eq_true, List.replicate_succ, List.replicate_zero, List.headD_cons, List.cons_append, List.nil_append, bne_self_eq_false]
    rfl
  · have hcc : CallA T base 43 [.ptr (size h) 0] (ext h [.cells [.ptr (size h) 0, .sl (.tok (size h + 1)) 1 (u8s out)], .tok out.length 5]) = some (.tup [], ext h [.cells [.ptr (size h) 0, .sl (.tok (size h + 1)) 1 (u8s out)], .tok out.length 5]) := by
      rw [CallA_prim T_43]
      simp only [pCopyCheck, primEnd, ↓evD, evU, Nat.reduceAdd, Nat.reduceSub, Nat.reduceMul, Nat.reduceLeDiff, Nat.reduceLT, Nat.reduceEqDiff, Nat.reduceBEq, reduceIte, reduceCtorEq, Int.reduceBEq, Int.reduceEq, Int.reduceLT, Int.reduceLE, Int.reduceGT, Int.reduceGE, Int.reduceAdd, Int.reduceSub, Int.reduceNeg, Int.reduceBNe, List.all_cons, List.all_nil, List.getElem?_cons_zero, List.getElem?_cons_succ, List.getElem?_nil, Option.map_some, List.length_cons, List.length_nil, List.set_cons_zero, List.set_cons_succ, List.map_cons, List.map_nil, List.drop_zero, List.drop_succ_cons, List.drop_nil, List.take_zero, List.take_succ_cons, List.take_nil, ite_true, ite_false, if_true, if_false, implies_true, forall_const, beq_self_eq_true, List.replicate_succ, List.replicate_zero, List.headD_cons, List.cons_append, List.nil_append, bne_self_eq_false]
    have hg : getTok (ext h [.cells [.ptr (size h) 0, .sl (.tok (size h + 1)) 1 (u8s out)], .tok out.length 5]) (size h + 1) = some ((u8s out).length, 5) := by
      simp only [u8s_len, ↓evD, evU, Nat.reduceAdd, Nat.reduceSub, Nat.reduceMul, Nat.reduceLeDiff, Nat.reduceLT, Nat.reduceEqDiff, Nat.reduceBEq, reduceIte, reduceCtorEq, Int.reduceBEq, Int.reduceEq, Int.reduceLT, Int.reduceLE, Int.reduceGT, Int.reduceGE, Int.reduceAdd, Int.reduceSub, Int.reduceNeg, Int.reduceBNe, List.all_cons, List.all_nil, List.getElem?_cons_zero, List.getElem?_cons_succ, List.getElem?_nil, Option.map_some, List.length_cons, List.length_nil, List.set_cons_zero, List.set_cons_succ, List.map_cons, List.map_nil, List.drop_zero, List.drop_succ_cons, List.drop_nil, List.take_zero, List.take_succ_cons, List.take_nil, ite_true, ite_false, if_true, if_false, implies_true, forall_const, beq_self_eq_true, List.replicate_succ, List.replicate_zero, List.headD_cons, List.cons_append, List.nil_append, bne_self_eq_false]
    have hgr := growT_one_tok (x := .int .u8 c.toNat) (sz := 1) hg rfl (by rw [u8s_len]; exact hl)
    rw [if_neg ho, S32]
    simp only [hcc, hlt, hgr, u8s_len, ↓evD, evU, Nat.reduceAdd, Nat.reduceSub, Nat.reduceMul, Nat.reduceLeDiff, Nat.reduceLT, Nat.reduceEqDiff, Nat.reduceBEq, reduceIte, reduceCtorEq, Int.reduceBEq, Int.reduceEq, Int.reduceLT, Int.reduceLE, Int.reduceGT, Int.reduceGE, Int.reduceAdd, Int.reduceSub, Int.reduceNeg, Int.reduceBNe, List.all_cons, List.all_nil, List.getElem?_cons_zero, List.getElem?_cons_succ, List.getElem?_nil, Option.map_some, List.length_cons, List.length_nil, List.set_cons_zero, List.set_cons_succ, List.map_cons, List.map_nil, List.drop_zero, List.drop_succ_cons, List.drop_nil, List.take_zero, List.take_succ_cons, List.take_nil, ite_true, ite_false, if_true, if_false, implies_true, forall_const, beq_self_eq_true, List.replicate_succ, List.replicate_zero, List.headD_cons, List.cons_append, List.nil_append, bne_self_eq_false]
    rw [← u8s_append]
    simp [u8s]
theorem string_of {h : Hp} {base : Nat} (out : List UInt8) (hl : out.length ≤ lim2) : CallA T base 33 [.ptr (size h) 0] (bld h out) = some (.str out, bld h out) := by
  unfold bld
  rw [CallA_prim T_33]
  by_cases ho : out = []
  · subst ho
    rw [if_pos rfl]
    simp only [pString, primEnd, ↓evD, evU, Nat.reduceAdd, Nat.reduceSub, Nat.reduceMul, Nat.reduceLeDiff, Nat.reduceLT, Nat.reduceEqDiff, Nat.reduceBEq, reduceIte, reduceCtorEq, Int.reduceBEq, Int.reduceEq, Int.reduceLT, Int.reduceLE, Int.reduceGT, Int.reduceGE, Int.reduceAdd, Int.reduceSub, Int.reduceNeg, Int.reduceBNe, List.all_cons, List.all_nil, List.getElem?_cons_zero, List.getElem?_cons_succ, List.getElem?_nil, Option.map_some, List.length_cons, List.length_nil, List.set_cons_zero, List.set_cons_succ, List.map_cons, List.map_nil, List.drop_zero, List.drop_succ_cons, List.drop_nil, List.take_zero, List.take_succ_cons, List.take_nil, ite_true, ite_false, if_true, if_false, implies_true, forall_const, beq_self_eq_true, List.replicate_succ, List.replicate_zero, List.headD_cons, List.cons_append, List.nil_append, bne_self_eq_false]
  · rw [if_neg ho]
    have h1 := u8s_ne ho
    have h2 := bytesOf_u8s out
    simp only [pString, primEnd, u8s_len, h1, h2, hl, ne_eq, ↓evD, evU, Nat.reduceAdd, Nat.reduceSub, Nat.reduceMul, Nat.reduceLeDiff, Nat.reduceLT, Nat.reduceEqDiff, Nat.reduceBEq, reduceIte, reduceCtorEq, Int.reduceBEq, Int.reduceEq, Int.reduceLT, Int.reduceLE, Int.reduceGT, Int.reduceGE, Int.reduceAdd, Int.reduceSub, Int.reduceNeg, Int.reduceBNe, List.all_cons, List.all_nil, List.getElem?_cons_zero, List.getElem?_cons_succ, List.getElem?_nil, Option.map_some, List.length_cons, List.length_nil, List.set_cons_zero, List.set_cons_succ, List.map_cons, List.map_nil, List.drop_zero, List.drop_succ_cons, List.drop_nil, List.take_zero, List.take_succ_cons, List.take_nil, ite_true, ite_false, if_true, if_false, implies_true, forall_const, beq_self_eq_true, List.replicate_succ, List.replicate_zero, List.headD_cons, List.cons_append, List.nil_append, bne_self_eq_false]
end Go.Am.YthhceeaconflnaaDoor
namespace Go.Am.YthhceeaconflnaaDoor
set_option linter.unusedSimpArgs false
theorem ofInt_nat (w x : Nat) (h : x < 2 ^ w) : (BitVec.ofInt w (x : Int)).toNat = x := by
  rw [BitVec.ofInt_natCast, BitVec.toNat_ofNat, Nat.mod_eq_of_lt h]
theorem wrap_u32 (x : Nat) (h : x < 4294967296) : IntKind.u32.wrap (x : Int) = x := by
  have : IntKind.u32.wrap (x : Int) = (x : Int) % 4294967296 := rfl
  rw [this]; omega
theorem wrap_u8 (x : Nat) : IntKind.u8.wrap (x : Int) = ((x % 256 : Nat) : Int) := by
  have : IntKind.u8.wrap (x : Int) = (x : Int) % 256 := rfl
  rw [this]; omega
theorem wrap_i64n (x : Nat) (h : x < 9223372036854775808) : IntKind.i64.wrap (x : Int) = x := by rw [wrap_small] <;> omega
theorem or_u32 {i x c : Nat} (hx : 2 ^ i * x + c < 4294967296) (hc : c < 2 ^ i) : intBits .or .u32 ((2 ^ i * x : Nat) : Int) (c : Int) = some (.int .u32 ((2 ^ i * x + c : Nat) : Int)) := by
  have h1 : 2 ^ i * x < 2 ^ 32 := by omega
  have h2 : c < 2 ^ 32 := by omega
  show some (PV.int _ (IntKind.u32.wrap ((BitVec.ofInt 32 ((2 ^ i * x : Nat) : Int) ||| BitVec.ofInt 32 (c : Int)).toNat))) = _
  rw [BitVec.toNat_or, ofInt_nat 32 _ h1, ofInt_nat 32 _ h2, ← Nat.two_pow_add_eq_or_of_lt hc, wrap_u32 _ hx]
theorem and_u32 {x : Nat} (i : Nat) (hx : x < 4294967296) (hi : 2 ^ i ≤ 4294967296) : intBits .and .u32 (x : Int) ((2 ^ i - 1 : Nat) : Int) = some (.int .u32 ((x % 2 ^ i : Nat) : Int)) := by
  have hp : 0 < 2 ^ i := Nat.two_pow_pos i
  have h2 : 2 ^ i - 1 < 2 ^ 32 := by omega
  show some (PV.int _ (IntKind.u32.wrap ((BitVec.ofInt 32 (x : Int) &&& BitVec.ofInt 32 ((2 ^ i - 1 : Nat) : Int)).toNat))) = _
  rw [BitVec.toNat_and, ofInt_nat 32 _ hx, ofInt_nat 32 _ h2, Nat.and_two_pow_sub_one_eq_mod, wrap_u32 _ (by have := Nat.mod_lt x hp; omega)]
theorem and_i64 {x : Nat} (i : Nat) (hx : x < 9223372036854775808) (hi : 2 ^ i ≤ 9223372036854775808) : intBits .and .i64 (x : Int) ((2 ^ i - 1 : Nat) : Int) = some (.int .i64 ((x % 2 ^ i : Nat) : Int)) := by
  have hp : 0 < 2 ^ i := Nat.two_pow_pos i
  have h2 : 2 ^ i - 1 < 2 ^ 64 := by omega
  show some (PV.int _ (IntKind.i64.wrap ((BitVec.ofInt 64 (x : Int) &&& BitVec.ofInt 64 ((2 ^ i - 1 : Nat) : Int)).toNat))) = _
  rw [BitVec.toNat_and, ofInt_nat 64 _ (by omega), ofInt_nat 64 _ h2, Nat.and_two_pow_sub_one_eq_mod, wrap_i64n _ (by have := Nat.mod_lt x hp; omega)]
theorem shl_u32 {x i : Nat} (h : x * 2 ^ i < 4294967296) (hi : i < 32) : shiftOp .shl .u32 (x : Int) (i : Int) = some (.int .u32 ((2 ^ i * x : Nat) : Int)) := by
  have e : min (i : Int).toNat IntKind.u32.bits = i := by
    have : IntKind.u32.bits = 32 := rfl
    rw [this, Int.toNat_natCast]; omega
  simp only [shiftOp, e]
  rw [if_neg (by omega)]
  have e2 : (x : Int) * 2 ^ i = ((2 ^ i * x : Nat) : Int) := by rw [Int.natCast_mul, Int.natCast_pow, Int.mul_comm]; rfl
  rw [e2, wrap_u32 _ (by rw [Nat.mul_comm]; exact h)]
theorem shl_i64 {x i : Nat} (h : x * 2 ^ i < 9223372036854775808) (hi : i < 64) : shiftOp .shl .i64 (x : Int) (i : Int) = some (.int .i64 ((2 ^ i * x : Nat) : Int)) := by
  have e : min (i : Int).toNat IntKind.i64.bits = i := by
    have : IntKind.i64.bits = 64 := rfl
    rw [this, Int.toNat_natCast]; omega
  simp only [shiftOp, e]
  rw [if_neg (by omega)]
  have e2 : (x : Int) * 2 ^ i = ((2 ^ i * x : Nat) : Int) := by rw [Int.natCast_mul, Int.natCast_pow, Int.mul_comm]; rfl
  rw [e2, wrap_i64n _ (by rw [Nat.mul_comm]; exact h)]
theorem shr_kind {k : IntKind} {x i : Nat} (hi : i ≤ k.bits) : shiftOp .shr k (x : Int) (i : Int) = some (.int k ((x / 2 ^ i : Nat) : Int)) := by
  have e : min (i : Int).toNat k.bits = i := by rw [Int.toNat_natCast]; omega
  simp only [shiftOp, e]
  rw [if_neg (by omega)]
  have : (x : Int).fdiv (2 ^ i) = ((x / 2 ^ i : Nat) : Int) := by
    rw [Int.fdiv_eq_ediv_of_nonneg _ (Int.le_of_lt (Int.pow_pos (by decide)))]
    simp
  rw [this]
end Go.Am.YthhceeaconflnaaDoor
namespace Go.Am.YthhceeaconflnaaDoor
set_option maxRecDepth 100000
set_option linter.unusedSimpArgs false
set_option linter.unusedVariables false
theorem intOp_or (k a b) : intOp .or k a b = intBits .or k a b := rfl
theorem intOp_and (k a b) : intOp .and k a b = intBits .and k a b := rfl
theorem sgn_length : sgn.length = 64 := rfl
theorem u8s_cons (a : UInt8) (l : List UInt8) : u8s (a :: l) = .int .u8 a.toNat :: u8s l := rfl
theorem u8s_nil : u8s [] = [] := rfl
theorem toInt_u8 (a : UInt8) : IntKind.u32.wrap (a.toNat : Int) = a.toNat := wrap_u32 _ (by have := a.toNat_lt; omega)
theorem wl0 : IntKind.i64.wrap 0 = 0 := rfl
theorem wl1 : IntKind.i64.wrap 1 = 1 := rfl
theorem wl2 : IntKind.i64.wrap 2 = 2 := rfl
theorem wl3 : IntKind.i64.wrap 3 = 3 := rfl
theorem wl4 : IntKind.i64.wrap 4 = 4 := rfl
theorem wl6 : IntKind.i64.wrap 6 = 6 := rfl
theorem wl12 : IntKind.i64.wrap 12 = 12 := rfl
theorem wl18 : IntKind.i64.wrap 18 = 18 := rfl
theorem sh0 : shiftOp .shl .u32 0 8 = some (.int .u32 0) := rfl
theorem or0 (a : UInt8) : intBits .or .u32 0 (a.toNat : Int) = some (.int .u32 (a.toNat : Int)) := by
  have := or_u32 (i := 8) (x := 0) (c := a.toNat) (by have := a.toNat_lt; omega) (by have := a.toNat_lt; omega)
  simpa using this
/-- The signs of a group: by the places of its bits. -/
theorem sign_at (g i : Nat) (hg : g < 16777216) (hi : i ≤ 32) : shiftOp .shr .u32 (g : Int) (i : Int) = some (.int .u32 ((g / 2 ^ i : Nat) : Int)) ∧
    intBits .and .u32 ((g / 2 ^ i : Nat) : Int) 63 = some (.int .u32 ((g / 2 ^ i % 64 : Nat) : Int)) := by
  refine ⟨shr_kind hi, ?_⟩
  have h1 : g / 2 ^ i ≤ g := Nat.div_le_self _ _
  exact and_u32 6 (by omega) (by decide)
theorem idx_sgn (j : Nat) : ix (.int .u32 ((j % 64 : Nat) : Int)) 64 = some (j % 64) ∧ sgn[j % 64]? = some (letG (j % 64)) := by
  have : j % 64 < 64 := Nat.mod_lt _ (by decide)
  exact ⟨ix_nat .u32 _ _ this, sgn_get this⟩
theorem len1 (out : List UInt8) (a : UInt8) : (out ++ [a]).length = out.length + 1 := by simp
theorem len2 (out : List UInt8) (a b : UInt8) : (out ++ [a] ++ [b]).length = out.length + 2 := by simp
theorem len3 (out : List UInt8) (a b c : UInt8) : (out ++ [a] ++ [b] ++ [c]).length = out.length + 3 := by simp
theorem len4 (out : List UInt8) (a b c d : UInt8) : (out ++ [a] ++ [b] ++ [c] ++ [d]).length = out.length + 4 := by simp
theorem wb {h : Hp} (out : List UInt8) (c : UInt8) (hl : out.length + 1 ≤ lim2) : CallA T (size h) 32 [.ptr (size h) 0, .int .u8 c.toNat] (bld h out) = some (.nilif, bld h (out ++ [c])) := write_byte (Nat.le_refl _) out c hl
/-- One round of the signs' loop: a sign of the group. -/
theorem enc_sign {h : Hp} (i g : Nat) (v0 : PV) (n : Int) (out : List UInt8) (hi : i < 4) (hn : (i : Int) ≤ n) (hg : g < 16777216) (hl : out.length + 1 ≤ lim2) :
    P21_2 (size h) (size h) (.int .i64 i) (.ptr (size h) 0) (.int .u32 g) (.int .i64 n) v0 (bld h out) =
    P21_2 (size h) (size h) (.int .i64 ((i + 1 : Nat) : Int)) (.ptr (size h) 0) (.int .u32 g) (.int .i64 n) v0 (bld h (out ++ [letG (g / 2 ^ (18 - 6 * i) % 64)])) := by
  rw [P21_2_eq]
  have h1 : ((i : Int) < 4) = True := by simp; omega
  have h2 : ((i : Int) > n) = False := by simp; omega
  have w1 : IntKind.i64.wrap (6 * (i : Int)) = ((6 * i : Nat) : Int) := by rw [wrap_small] <;> omega
  have w2 : IntKind.i64.wrap (18 - ((6 * i : Nat) : Int)) = ((18 - 6 * i : Nat) : Int) := by rw [wrap_small] <;> omega
  have w3 : IntKind.i64.wrap ((i : Int) + 1) = ((i + 1 : Nat) : Int) := by rw [wrap_small] <;> omega
  obtain ⟨s0, t0⟩ := sign_at g (18 - 6 * i) hg (by omega)
  obtain ⟨i0, k0⟩ := idx_sgn (g / 2 ^ (18 - 6 * i))
  have w0 := wb (h := h) out (letG (g / 2 ^ (18 - 6 * i) % 64)) hl
  have hs : [65, 66, 67, 68, 69, 70, 71, 72, 73, 74, 75, 76, 77, 78, 79, 80, 81, 82, 83, 84, 85, 86, 87, 88, 89, 90, 97, 98, 99, 100, 101, 102, 103, 104, 105, 106, 107, 108, 109, 110, 111, 112, 113, 114, 115, 116, 117, 118, 119, 120, 121, 122, 48, 49, 50, 51, 52, 53, 54, 55, 56, 57, 43, 47] = sgn := rfl
  simp only [h1, h2, w1, w2, w3, s0, t0, i0, k0, w0, hs, sgn_length, intOp_and, ↓evD, evU, Nat.reduceAdd, Nat.reduceSub, Nat.reduceMul, Nat.reduceLeDiff, Nat.reduceLT, Nat.reduceEqDiff, Nat.reduceBEq, reduceIte, reduceCtorEq, Int.reduceBEq, Int.reduceEq, Int.reduceLT, Int.reduceLE, Int.reduceGT, Int.reduceGE, Int.reduceAdd, Int.reduceSub, Int.reduceNeg, Int.reduceBNe, List.all_cons, List.all_nil, List.getElem?_cons_zero, List.getElem?_cons_succ, List.getElem?_nil, Option.map_some, List.length_cons, List.length_nil, List.set_cons_zero, List.set_cons_succ, List.map_cons, List.map_nil, List.drop_zero, List.drop_succ_cons, List.drop_nil, List.take_zero, List.take_succ_cons, List.take_nil, ite_true, ite_false, if_true, if_false, implies_true, forall_const, beq_self_eq_true, List.replicate_succ, List.replicate_zero, List.headD_cons, List.cons_append, List.nil_append, bne_self_eq_false]
theorem enc_pad {h : Hp} (i : Nat) (g : PV) (v0 : PV) (n : Int) (out : List UInt8) (hi : i < 4) (hn : n < i) (hl : out.length + 1 ≤ lim2) :
    P21_2 (size h) (size h) (.int .i64 i) (.ptr (size h) 0) g (.int .i64 n) v0 (bld h out) =
    P21_2 (size h) (size h) (.int .i64 ((i + 1 : Nat) : Int)) (.ptr (size h) 0) g (.int .i64 n) v0 (bld h (out ++ [61])) := by
  rw [P21_2_eq]
  have h1 : ((i : Int) < 4) = True := by simp; omega
  have h2 : ((i : Int) > n) = True := by simp; omega
  have w3 : IntKind.i64.wrap ((i : Int) + 1) = ((i + 1 : Nat) : Int) := by rw [wrap_small] <;> omega
  have w0 := wb (h := h) out 61 hl
  have z61 : (((61 : UInt8).toNat : Nat) : Int) = 61 := rfl
  rw [z61] at w0
  simp only [h1, h2, w3, w0, ↓evD, evU, Nat.reduceAdd, Nat.reduceSub, Nat.reduceMul, Nat.reduceLeDiff, Nat.reduceLT, Nat.reduceEqDiff, Nat.reduceBEq, reduceIte, reduceCtorEq, Int.reduceBEq, Int.reduceEq, Int.reduceLT, Int.reduceLE, Int.reduceGT, Int.reduceGE, Int.reduceAdd, Int.reduceSub, Int.reduceNeg, Int.reduceBNe, List.all_cons, List.all_nil, List.getElem?_cons_zero, List.getElem?_cons_succ, List.getElem?_nil, Option.map_some, List.length_cons, List.length_nil, List.set_cons_zero, List.set_cons_succ, List.map_cons, List.map_nil, List.drop_zero, List.drop_succ_cons, List.drop_nil, List.take_zero, List.take_succ_cons, List.take_nil, ite_true, ite_false, if_true, if_false, implies_true, forall_const, beq_self_eq_true, List.replicate_succ, List.replicate_zero, List.headD_cons, List.cons_append, List.nil_append, bne_self_eq_false]
theorem enc_over {h : Hp} (g : PV) (o : Own) (l : List UInt8) (n : Nat) (hn : n ≤ l.length) (out : List UInt8) :
    ∃ o', P21_2 (size h) (size h) (.int .i64 4) (.ptr (size h) 0) g (.int .i64 n) (.sl o 1 (u8s l)) (bld h out) = P21_0 (size h) (size h) (.sl o' 1 (u8s (l.drop n))) (.ptr (size h) 0) (bld h out) := by
  refine ⟨if (isFull o && (u8s l).length == (u8s l).length) = true then .full else .no, ?_⟩
  rw [P21_2_eq]
  have hb := bdV_nat (u8s l).length .i64 n (by rw [u8s_len]; exact hn)
  have hd : ((u8s l).drop n).take ((u8s l).length - n) = u8s (l.drop n) := by
    rw [List.take_of_length_le (by rw [List.length_drop]; exact Nat.le_refl _)]; simp [u8s]
  have h4 : ((4 : Int) < 4) = False := by simp
  simp only [h4, hb, hd, ↓evD, evU, Nat.reduceAdd, Nat.reduceSub, Nat.reduceMul, Nat.reduceLeDiff, Nat.reduceLT, Nat.reduceEqDiff, Nat.reduceBEq, reduceIte, reduceCtorEq, Int.reduceBEq, Int.reduceEq, Int.reduceLT, Int.reduceLE, Int.reduceGT, Int.reduceGE, Int.reduceAdd, Int.reduceSub, Int.reduceNeg, Int.reduceBNe, List.all_cons, List.all_nil, List.getElem?_cons_zero, List.getElem?_cons_succ, List.getElem?_nil, Option.map_some, List.length_cons, List.length_nil, List.set_cons_zero, List.set_cons_succ, List.map_cons, List.map_nil, List.drop_zero, List.drop_succ_cons, List.drop_nil, List.take_zero, List.take_succ_cons, List.take_nil, ite_true, ite_false, if_true, if_false, implies_true, forall_const, beq_self_eq_true, List.replicate_succ, List.replicate_zero, List.headD_cons, List.cons_append, List.nil_append, bne_self_eq_false]
theorem enc_done {h : Hp} (o : Own) (out : List UInt8) (hl : out.length ≤ lim2) : P21_0 (size h) (size h) (.sl o 1 (u8s [])) (.ptr (size h) 0) (bld h out) = some (.str out, h) := by
  rw [P21_0_eq]
  have hz : ((0 : Int) > 0) = False := by simp
  have hs : ∀ base, _ := fun base => string_of (base := base) (h := h) out hl
  have ht : trunc (bld h out) (size h) = h := by unfold bld; split <;> exact trunc_ext
  simp only [hz, u8s_nil, hs, ht, Int.ofNat_zero, Int.natCast_zero, ↓evD, evU, Nat.reduceAdd, Nat.reduceSub, Nat.reduceMul, Nat.reduceLeDiff, Nat.reduceLT, Nat.reduceEqDiff, Nat.reduceBEq, reduceIte, reduceCtorEq, Int.reduceBEq, Int.reduceEq, Int.reduceLT, Int.reduceLE, Int.reduceGT, Int.reduceGE, Int.reduceAdd, Int.reduceSub, Int.reduceNeg, Int.reduceBNe, List.all_cons, List.all_nil, List.getElem?_cons_zero, List.getElem?_cons_succ, List.getElem?_nil, Option.map_some, List.length_cons, List.length_nil, List.set_cons_zero, List.set_cons_succ, List.map_cons, List.map_nil, List.drop_zero, List.drop_succ_cons, List.drop_nil, List.take_zero, List.take_succ_cons, List.take_nil, ite_true, ite_false, if_true, if_false, implies_true, forall_const, beq_self_eq_true, List.replicate_succ, List.replicate_zero, List.headD_cons, List.cons_append, List.nil_append, bne_self_eq_false]
end Go.Am.YthhceeaconflnaaDoor
namespace Go.Am.YthhceeaconflnaaDoor
set_option maxRecDepth 100000
set_option linter.unusedSimpArgs false
set_option linter.unusedVariables false
theorem P21_2_of {h : Hp} {v0 : PV} {g g' : Nat} (hg : g = g') {n : Int} {k : Hp} : P21_2 (size h) (size h) (.int .i64 0) (.ptr (size h) 0) (.int .u32 g) (.int .i64 n) v0 k = P21_2 (size h) (size h) (.int .i64 ((0 : Nat) : Int)) (.ptr (size h) 0) (.int .u32 g') (.int .i64 n) v0 k := by rw [hg]; rfl
theorem ix_u8s {l : List UInt8} {i : Nat} (h : i < l.length) : ix (.int .i64 i) (u8s l).length = some i := ix_nat .i64 i _ (by rw [u8s_len]; exact h)
theorem get_u8s {l : List UInt8} {i : Nat} {c : UInt8} (h : l[i]? = some c) : (u8s l)[i]? = some (.int .u8 c.toNat) := by simp [u8s, h]
/-- One round of the group's loop. -/
theorem grp_in {h k : Hp} {o : Own} {l : List UInt8} {c : UInt8} (i x : Nat) (n : Nat) (hi : i < 3) (hn : i < n) (hc : l[i]? = some c) (hx : x < 65536) :
    P21_1 (size h) (size h) (.int .i64 i) (.sl o 1 (u8s l)) (.int .i64 n) (.int .u32 x) (.ptr (size h) 0) k =
    P21_1 (size h) (size h) (.int .i64 ((i + 1 : Nat) : Int)) (.sl o 1 (u8s l)) (.int .i64 n) (.int .u32 ((x * 256 + c.toNat : Nat) : Int)) (.ptr (size h) 0) k := by
  have hcl := c.toNat_lt
  rw [P21_1_eq]
  have h1 : ((i : Int) < 3) = True := by simp; omega
  have h2 : ((i : Int) < (n : Int)) = True := by simp; omega
  have o3 : shiftOp .shl .u32 (x : Int) 8 = _ := shl_u32 (x := x) (i := 8) (by omega) (by omega)
  have o4 := or_u32 (i := 8) (x := x) (c := c.toNat) (by omega) (by omega)
  have hi' : i < l.length := (List.getElem?_eq_some_iff.1 hc).1
  have w3 : IntKind.i64.wrap ((i : Int) + 1) = ((i + 1 : Nat) : Int) := by rw [wrap_small] <;> omega
  have e1 : (2 ^ 8 * x + c.toNat : Nat) = x * 256 + c.toNat := by omega
  rw [e1] at o4
  simp only [h1, h2, o3, o4, w3, ix_u8s hi', get_u8s hc, toInt_u8, intOp_or, ↓evD, evU, Nat.reduceAdd, Nat.reduceSub, Nat.reduceMul, Nat.reduceLeDiff, Nat.reduceLT, Nat.reduceEqDiff, Nat.reduceBEq, reduceIte, reduceCtorEq, Int.reduceBEq, Int.reduceEq, Int.reduceLT, Int.reduceLE, Int.reduceGT, Int.reduceGE, Int.reduceAdd, Int.reduceSub, Int.reduceNeg, Int.reduceBNe, List.all_cons, List.all_nil, List.getElem?_cons_zero, List.getElem?_cons_succ, List.getElem?_nil, Option.map_some, List.length_cons, List.length_nil, List.set_cons_zero, List.set_cons_succ, List.map_cons, List.map_nil, List.drop_zero, List.drop_succ_cons, List.drop_nil, List.take_zero, List.take_succ_cons, List.take_nil, ite_true, ite_false, if_true, if_false, implies_true, forall_const, beq_self_eq_true, List.replicate_succ, List.replicate_zero, List.headD_cons, List.cons_append, List.nil_append, bne_self_eq_false]
theorem grp_out {h k : Hp} {v : PV} (i x : Nat) (n : Nat) (hi : i < 3) (hn : n ≤ i) (hx : x < 65536) :
    P21_1 (size h) (size h) (.int .i64 i) v (.int .i64 n) (.int .u32 x) (.ptr (size h) 0) k =
    P21_1 (size h) (size h) (.int .i64 ((i + 1 : Nat) : Int)) v (.int .i64 n) (.int .u32 ((x * 256 : Nat) : Int)) (.ptr (size h) 0) k := by
  rw [P21_1_eq]
  have h1 : ((i : Int) < 3) = True := by simp; omega
  have h2 : ((i : Int) < (n : Int)) = False := by simp; omega
  have o3 : shiftOp .shl .u32 (x : Int) 8 = _ := shl_u32 (x := x) (i := 8) (by omega) (by omega)
  have w3 : IntKind.i64.wrap ((i : Int) + 1) = ((i + 1 : Nat) : Int) := by rw [wrap_small] <;> omega
  have e1 : (2 ^ 8 * x : Nat) = x * 256 := by omega
  rw [e1] at o3
  simp only [h1, h2, o3, w3, ↓evD, evU, Nat.reduceAdd, Nat.reduceSub, Nat.reduceMul, Nat.reduceLeDiff, Nat.reduceLT, Nat.reduceEqDiff, Nat.reduceBEq, reduceIte, reduceCtorEq, Int.reduceBEq, Int.reduceEq, Int.reduceLT, Int.reduceLE, Int.reduceGT, Int.reduceGE, Int.reduceAdd, Int.reduceSub, Int.reduceNeg, Int.reduceBNe, List.all_cons, List.all_nil, List.getElem?_cons_zero, List.getElem?_cons_succ, List.getElem?_nil, Option.map_some, List.length_cons, List.length_nil, List.set_cons_zero, List.set_cons_succ, List.map_cons, List.map_nil, List.drop_zero, List.drop_succ_cons, List.drop_nil, List.take_zero, List.take_succ_cons, List.take_nil, ite_true, ite_false, if_true, if_false, implies_true, forall_const, beq_self_eq_true, List.replicate_succ, List.replicate_zero, List.headD_cons, List.cons_append, List.nil_append, bne_self_eq_false]
theorem grp_over {h k : Hp} {v g n : PV} : P21_1 (size h) (size h) (.int .i64 ((3 : Nat) : Int)) v n g (.ptr (size h) 0) k = P21_2 (size h) (size h) (.int .i64 ((0 : Nat) : Int)) (.ptr (size h) 0) g n v k := by
  rw [P21_1_eq]
  have h1 : (((3 : Nat) : Int) < 3) = False := by simp
  simp only [h1, ↓evD, evU, Nat.reduceAdd, Nat.reduceSub, Nat.reduceMul, Nat.reduceLeDiff, Nat.reduceLT, Nat.reduceEqDiff, Nat.reduceBEq, reduceIte, reduceCtorEq, Int.reduceBEq, Int.reduceEq, Int.reduceLT, Int.reduceLE, Int.reduceGT, Int.reduceGE, Int.reduceAdd, Int.reduceSub, Int.reduceNeg, Int.reduceBNe, List.all_cons, List.all_nil, List.getElem?_cons_zero, List.getElem?_cons_succ, List.getElem?_nil, Option.map_some, List.length_cons, List.length_nil, List.set_cons_zero, List.set_cons_succ, List.map_cons, List.map_nil, List.drop_zero, List.drop_succ_cons, List.drop_nil, List.take_zero, List.take_succ_cons, List.take_nil, ite_true, ite_false, if_true, if_false, implies_true, forall_const, beq_self_eq_true, List.replicate_succ, List.replicate_zero, List.headD_cons, List.cons_append, List.nil_append, bne_self_eq_false]
  rfl
theorem enc_head {h k : Hp} {o : Own} {l : List UInt8} (hl : l ≠ []) : P21_0 (size h) (size h) (.sl o 1 (u8s l)) (.ptr (size h) 0) k =
    P21_1 (size h) (size h) (.int .i64 ((0 : Nat) : Int)) (.sl o 1 (u8s l)) (.int .i64 ((min l.length 3 : Nat) : Int)) (.int .u32 ((0 : Nat) : Int)) (.ptr (size h) 0) k := by
  rw [P21_0_eq]
  have hp : 0 < l.length := List.length_pos_iff.2 hl
  have h1 : ((l.length : Int) > 0) = True := by simp; omega
  have hm : (if (3 : Int) < (l.length : Int) then (3 : Int) else (l.length : Int)) = ((min l.length 3 : Nat) : Int) := by split <;> omega
  simp only [u8s_len, h1, hm, ↓evD, evU, Nat.reduceAdd, Nat.reduceSub, Nat.reduceMul, Nat.reduceLeDiff, Nat.reduceLT, Nat.reduceEqDiff, Nat.reduceBEq, reduceIte, reduceCtorEq, Int.reduceBEq, Int.reduceEq, Int.reduceLT, Int.reduceLE, Int.reduceGT, Int.reduceGE, Int.reduceAdd, Int.reduceSub, Int.reduceNeg, Int.reduceBNe, List.all_cons, List.all_nil, List.getElem?_cons_zero, List.getElem?_cons_succ, List.getElem?_nil, Option.map_some, List.length_cons, List.length_nil, List.set_cons_zero, List.set_cons_succ, List.map_cons, List.map_nil, List.drop_zero, List.drop_succ_cons, List.drop_nil, List.take_zero, List.take_succ_cons, List.take_nil, ite_true, ite_false, if_true, if_false, implies_true, forall_const, beq_self_eq_true, List.replicate_succ, List.replicate_zero, List.headD_cons, List.cons_append, List.nil_append, bne_self_eq_false]
  rfl
theorem enc_loop {h : Hp} : ∀ (l out : List UInt8) (o : Own), out.length + 4 * l.length + 8 ≤ lim2 → P21_0 (size h) (size h) (.sl o 1 (u8s l)) (.ptr (size h) 0) (bld h out) = some (.str (out ++ encL l), h)
  | [], out, o, hl => by rw [enc_done o out (by omega)]; simp [encL]
  | [a], out, o, hl => by
    have ha := a.toNat_lt
    simp only [List.length_cons, List.length_nil] at hl
    rw [enc_head (by simp)]
    show P21_1 _ _ _ _ (.int .i64 ((1 : Nat) : Int)) _ _ _ = _
    rw [grp_in 0 0 1 (by omega) (by omega) rfl (by omega), grp_out 1 _ 1 (by omega) (by omega) (by omega), grp_out 2 _ 1 (by omega) (by omega) (by omega), grp_over,
      enc_sign 0 _ _ _ _ (by omega) (by omega) (by omega) (by omega), enc_sign 1 _ _ _ _ (by omega) (by omega) (by omega) (by simp; omega),
      enc_pad 2 _ _ _ _ (by omega) (by omega) (by simp; omega), enc_pad 3 _ _ _ _ (by omega) (by omega) (by simp; omega)]
    obtain ⟨o', ho⟩ := enc_over (h := h) (.int .u32 (((0 * 256 + a.toNat) * 256 * 256 : Nat) : Int)) o [a] 1 (by simp) (out ++ [letG ((0 * 256 + a.toNat) * 256 * 256 / 2 ^ (18 - 6 * 0) % 64)] ++ [letG ((0 * 256 + a.toNat) * 256 * 256 / 2 ^ (18 - 6 * 1) % 64)] ++ [61] ++ [61])
    refine ho.trans ?_
    show P21_0 _ _ (.sl o' 1 (u8s [])) _ _ = _
    rw [enc_done _ _ (by simp; omega)]
    have e0 : (0 * 256 + a.toNat) * 256 * 256 / 2 ^ (18 - 6 * 0) % 64 = a.toNat / 4 := by omega
    have e1 : (0 * 256 + a.toNat) * 256 * 256 / 2 ^ (18 - 6 * 1) % 64 = a.toNat % 4 * 16 := by omega
    rw [e0, e1]
    simp [encL]
  | [a, b], out, o, hl => by
    have ha := a.toNat_lt
    have hb := b.toNat_lt
    simp only [List.length_cons, List.length_nil] at hl
    rw [enc_head (by simp)]
    show P21_1 _ _ _ _ (.int .i64 ((2 : Nat) : Int)) _ _ _ = _
    rw [grp_in 0 0 2 (by omega) (by omega) rfl (by omega), grp_in 1 _ 2 (by omega) (by omega) rfl (by omega), grp_out 2 _ 2 (by omega) (by omega) (by omega), grp_over,
      enc_sign 0 _ _ _ _ (by omega) (by omega) (by omega) (by omega), enc_sign 1 _ _ _ _ (by omega) (by omega) (by omega) (by simp; omega),
      enc_sign 2 _ _ _ _ (by omega) (by omega) (by omega) (by simp; omega), enc_pad 3 _ _ _ _ (by omega) (by omega) (by simp; omega)]
    obtain ⟨o', ho⟩ := enc_over (h := h) (.int .u32 ((((0 * 256 + a.toNat) * 256 + b.toNat) * 256 : Nat) : Int)) o [a, b] 2 (by simp)
      (out ++ [letG (((0 * 256 + a.toNat) * 256 + b.toNat) * 256 / 2 ^ (18 - 6 * 0) % 64)] ++ [letG (((0 * 256 + a.toNat) * 256 + b.toNat) * 256 / 2 ^ (18 - 6 * 1) % 64)] ++ [letG (((0 * 256 + a.toNat) * 256 + b.toNat) * 256 / 2 ^ (18 - 6 * 2) % 64)] ++ [61])
    refine ho.trans ?_
    show P21_0 _ _ (.sl o' 1 (u8s [])) _ _ = _
    rw [enc_done _ _ (by simp; omega)]
    have e0 : ((0 * 256 + a.toNat) * 256 + b.toNat) * 256 / 2 ^ (18 - 6 * 0) % 64 = a.toNat / 4 := by omega
    have e1 : ((0 * 256 + a.toNat) * 256 + b.toNat) * 256 / 2 ^ (18 - 6 * 1) % 64 = a.toNat % 4 * 16 + b.toNat / 16 := by omega
    have e2 : ((0 * 256 + a.toNat) * 256 + b.toNat) * 256 / 2 ^ (18 - 6 * 2) % 64 = b.toNat % 16 * 4 := by omega
    rw [e0, e1, e2]
    simp [encL]
  | a :: b :: c :: r, out, o, hl => by
    have ha := a.toNat_lt
    have hb := b.toNat_lt
    have hc := c.toNat_lt
    simp only [List.length_cons] at hl
    have hm : min (a :: b :: c :: r).length 3 = 3 := by simp
    rw [enc_head (by simp), hm, grp_in 0 0 3 (by omega) (by omega) rfl (by omega), grp_in 1 _ 3 (by omega) (by omega) rfl (by omega), grp_in 2 _ 3 (by omega) (by omega) rfl (by omega), grp_over,
      enc_sign 0 _ _ _ _ (by omega) (by omega) (by omega) (by omega), enc_sign 1 _ _ _ _ (by omega) (by omega) (by omega) (by simp; omega),
      enc_sign 2 _ _ _ _ (by omega) (by omega) (by omega) (by simp; omega), enc_sign 3 _ _ _ _ (by omega) (by omega) (by omega) (by simp; omega)]
    have e0 : (((0 * 256 + a.toNat) * 256 + b.toNat) * 256 + c.toNat) / 2 ^ (18 - 6 * 0) % 64 = a.toNat / 4 := by omega
    have e1 : (((0 * 256 + a.toNat) * 256 + b.toNat) * 256 + c.toNat) / 2 ^ (18 - 6 * 1) % 64 = a.toNat % 4 * 16 + b.toNat / 16 := by omega
    have e2 : (((0 * 256 + a.toNat) * 256 + b.toNat) * 256 + c.toNat) / 2 ^ (18 - 6 * 2) % 64 = b.toNat % 16 * 4 + c.toNat / 64 := by omega
    have e3 : (((0 * 256 + a.toNat) * 256 + b.toNat) * 256 + c.toNat) / 2 ^ (18 - 6 * 3) % 64 = c.toNat % 64 := by omega
    rw [e0, e1, e2, e3]
    obtain ⟨o', ho⟩ := enc_over (h := h) (.int .u32 (((((0 * 256 + a.toNat) * 256 + b.toNat) * 256 + c.toNat : Nat)) : Int)) o (a :: b :: c :: r) 3 (by simp)
      (out ++ [letG (a.toNat / 4)] ++ [letG (a.toNat % 4 * 16 + b.toNat / 16)] ++ [letG (b.toNat % 16 * 4 + c.toNat / 64)] ++ [letG (c.toNat % 64)])
    refine ho.trans ?_
    show P21_0 _ _ (.sl o' 1 (u8s r)) _ _ = _
    rw [enc_loop r _ o' (by simp; omega)]
    simp [encL]
theorem encode_spec {base : Nat} {h : Hp} (o : Own) (l : List UInt8) (hl : l.length ≤ 1000000) : CallA T base 21 [.sl o 1 (u8s l)] h = some (.str (encL l), h) := by
  rw [S21, allocK_eq]
  exact enc_loop (h := h) l [] o (by unfold lim2; simp; omega)
theorem encode_nil {base : Nat} {h : Hp} : CallA T base 21 [.nils] h = some (.str [], h) := by
  have hs : ∀ base, _ := fun base => string_of (base := base) (h := h) [] (by simp)
  have hb0 : ext h [.cells [.bnil 62, .nils]] = bld h [] := rfl
  have ht : trunc (bld h []) (size h) = h := by unfold bld; rw [if_pos rfl]; exact trunc_ext
  rw [S21, allocK_eq, P21_0_eq]
  have hz : ((0 : Int) > 0) = False := by simp
  simp only [hb0, hz, hs, ht, ↓evD, evU, Nat.reduceAdd, Nat.reduceSub, Nat.reduceMul, Nat.reduceLeDiff, Nat.reduceLT, Nat.reduceEqDiff, Nat.reduceBEq, reduceIte, reduceCtorEq, Int.reduceBEq, Int.reduceEq, Int.reduceLT, Int.reduceLE, Int.reduceGT, Int.reduceGE, Int.reduceAdd, Int.reduceSub, Int.reduceNeg, Int.reduceBNe, List.all_cons, List.all_nil, List.getElem?_cons_zero, List.getElem?_cons_succ, List.getElem?_nil, Option.map_some, List.length_cons, List.length_nil, List.set_cons_zero, List.set_cons_succ, List.map_cons, List.map_nil, List.drop_zero, List.drop_succ_cons, List.drop_nil, List.take_zero, List.take_succ_cons, List.take_nil, ite_true, ite_false, if_true, if_false, implies_true, forall_const, beq_self_eq_true, List.replicate_succ, List.replicate_zero, List.headD_cons, List.cons_append, List.nil_append, bne_self_eq_false]
theorem let_val : ∀ n : Fin 64, ((letG n.val).toNat : Nat) = if n.val < 26 then 65 + n.val else if n.val < 52 then 71 + n.val else if n.val < 62 then n.val - 4 else if n.val = 62 then 43 else 47 := by decide +kernel
theorem letter_spec {base : Nat} {h : Hp} (n : Nat) (hn : n < 64) : CallA T base 36 [.int .i64 n] h = some (.int .u8 (letG n).toNat, h) := by
  have hv := let_val ⟨n, hn⟩
  simp only at hv
  rw [hv, S36]
  by_cases h1 : n < 26
  · have c1 : ((n : Int) < 26) = True := by simp; omega
    have w1 : IntKind.i64.wrap (65 + (n : Int)) = ((65 + n : Nat) : Int) := by rw [wrap_small] <;> omega
    have w2 : IntKind.u8.wrap ((65 + n : Nat) : Int) = ((65 + n : Nat) : Int) := by rw [wrap_u8]; omega
    rw [if_pos h1]
    simp only [c1, w1, w2, ↓evD, evU, Nat.reduceAdd, Nat.reduceSub, Nat.reduceMul, Nat.reduceLeDiff, Nat.reduceLT, Nat.reduceEqDiff, Nat.reduceBEq, reduceIte, reduceCtorEq, Int.reduceBEq, Int.reduceEq, Int.reduceLT, Int.reduceLE, Int.reduceGT, Int.reduceGE, Int.reduceAdd, Int.reduceSub, Int.reduceNeg, Int.reduceBNe, List.all_cons, List.all_nil, List.getElem?_cons_zero, List.getElem?_cons_succ, List.getElem?_nil, Option.map_some, List.length_cons, List.length_nil, List.set_cons_zero, List.set_cons_succ, List.map_cons, List.map_nil, List.drop_zero, List.drop_succ_cons, List.drop_nil, List.take_zero, List.take_succ_cons, List.take_nil, ite_true, ite_false, if_true, if_false, implies_true, forall_const, beq_self_eq_true, List.replicate_succ, List.replicate_zero, List.headD_cons, List.cons_append, List.nil_append, bne_self_eq_false]
  have c1 : ((n : Int) < 26) = False := by simp; omega
  rw [if_neg h1]
  by_cases h2 : n < 52
  · have c2 : ((n : Int) < 52) = True := by simp; omega
    have w1 : IntKind.i64.wrap (97 + (n : Int)) = ((97 + n : Nat) : Int) := by rw [wrap_small] <;> omega
    have w2 : IntKind.i64.wrap (((97 + n : Nat) : Int) - 26) = ((71 + n : Nat) : Int) := by rw [wrap_small] <;> omega
    have w3 : IntKind.u8.wrap ((71 + n : Nat) : Int) = ((71 + n : Nat) : Int) := by rw [wrap_u8]; omega
    rw [if_pos h2]
    simp only [c1, c2, w1, w2, w3, ↓evD, evU, Nat.reduceAdd, Nat.reduceSub, Nat.reduceMul, Nat.reduceLeDiff, Nat.reduceLT, Nat.reduceEqDiff, Nat.reduceBEq, reduceIte, reduceCtorEq, Int.reduceBEq, Int.reduceEq, Int.reduceLT, Int.reduceLE, Int.reduceGT, Int.reduceGE, Int.reduceAdd, Int.reduceSub, Int.reduceNeg, Int.reduceBNe, List.all_cons, List.all_nil, List.getElem?_cons_zero, List.getElem?_cons_succ, List.getElem?_nil, Option.map_some, List.length_cons, List.length_nil, List.set_cons_zero, List.set_cons_succ, List.map_cons, List.map_nil, List.drop_zero, List.drop_succ_cons, List.drop_nil, List.take_zero, List.take_succ_cons, List.take_nil, ite_true, ite_false, if_true, if_false, implies_true, forall_const, beq_self_eq_true, List.replicate_succ, List.replicate_zero, List.headD_cons, List.cons_append, List.nil_append, bne_self_eq_false]
  have c2 : ((n : Int) < 52) = False := by simp; omega
  rw [if_neg h2]
  by_cases h3 : n < 62
  · have c3 : ((n : Int) < 62) = True := by simp; omega
    have w1 : IntKind.i64.wrap (48 + (n : Int)) = ((48 + n : Nat) : Int) := by rw [wrap_small] <;> omega
    have w2 : IntKind.i64.wrap (((48 + n : Nat) : Int) - 52) = ((n - 4 : Nat) : Int) := by rw [wrap_small] <;> omega
    have w3 : IntKind.u8.wrap ((n - 4 : Nat) : Int) = ((n - 4 : Nat) : Int) := by rw [wrap_u8]; omega
    rw [if_pos h3]
    simp only [c1, c2, c3, w1, w2, w3, ↓evD, evU, Nat.reduceAdd, Nat.reduceSub, Nat.reduceMul, Nat.reduceLeDiff, Nat.reduceLT, Nat.reduceEqDiff, Nat.reduceBEq, reduceIte, reduceCtorEq, Int.reduceBEq, Int.reduceEq, Int.reduceLT, Int.reduceLE, Int.reduceGT, Int.reduceGE, Int.reduceAdd, Int.reduceSub, Int.reduceNeg, Int.reduceBNe, List.all_cons, List.all_nil, List.getElem?_cons_zero, List.getElem?_cons_succ, List.getElem?_nil, Option.map_some, List.length_cons, List.length_nil, List.set_cons_zero, List.set_cons_succ, List.map_cons, List.map_nil, List.drop_zero, List.drop_succ_cons, List.drop_nil, List.take_zero, List.take_succ_cons, List.take_nil, ite_true, ite_false, if_true, if_false, implies_true, forall_const, beq_self_eq_true, List.replicate_succ, List.replicate_zero, List.headD_cons, List.cons_append, List.nil_append, bne_self_eq_false]
  have c3 : ((n : Int) < 62) = False := by simp; omega
  rw [if_neg h3]
  by_cases h4 : n = 62
  · have c4 : ((n : Int) == 62) = true := by simp; omega
    rw [if_pos h4]
    simp only [c1, c2, c3, c4, ↓evD, evU, Nat.reduceAdd, Nat.reduceSub, Nat.reduceMul, Nat.reduceLeDiff, Nat.reduceLT, Nat.reduceEqDiff, Nat.reduceBEq, reduceIte, reduceCtorEq, Int.reduceBEq, Int.reduceEq, Int.reduceLT, Int.reduceLE, Int.reduceGT, Int.reduceGE, Int.reduceAdd, Int.reduceSub, Int.reduceNeg, Int.reduceBNe, List.all_cons, List.all_nil, List.getElem?_cons_zero, List.getElem?_cons_succ, List.getElem?_nil, Option.map_some, List.length_cons, List.length_nil, List.set_cons_zero, List.set_cons_succ, List.map_cons, List.map_nil, List.drop_zero, List.drop_succ_cons, List.drop_nil, List.take_zero, List.take_succ_cons, List.take_nil, ite_true, ite_false, if_true, if_false, implies_true, forall_const, beq_self_eq_true, List.replicate_succ, List.replicate_zero, List.headD_cons, List.cons_append, List.nil_append, bne_self_eq_false]
    rfl
  · have c4 : ((n : Int) == 62) = false := by simp; omega
    rw [if_neg h4]
    simp only [c1, c2, c3, c4, ↓evD, evU, Nat.reduceAdd, Nat.reduceSub, Nat.reduceMul, Nat.reduceLeDiff, Nat.reduceLT, Nat.reduceEqDiff, Nat.reduceBEq, reduceIte, reduceCtorEq, Int.reduceBEq, Int.reduceEq, Int.reduceLT, Int.reduceLE, Int.reduceGT, Int.reduceGE, Int.reduceAdd, Int.reduceSub, Int.reduceNeg, Int.reduceBNe, List.all_cons, List.all_nil, List.getElem?_cons_zero, List.getElem?_cons_succ, List.getElem?_nil, Option.map_some, List.length_cons, List.length_nil, List.set_cons_zero, List.set_cons_succ, List.map_cons, List.map_nil, List.drop_zero, List.drop_succ_cons, List.drop_nil, List.take_zero, List.take_succ_cons, List.take_nil, ite_true, ite_false, if_true, if_false, implies_true, forall_const, beq_self_eq_true, List.replicate_succ, List.replicate_zero, List.headD_cons, List.cons_append, List.nil_append, bne_self_eq_false]
    rfl
end Go.Am.YthhceeaconflnaaDoor
