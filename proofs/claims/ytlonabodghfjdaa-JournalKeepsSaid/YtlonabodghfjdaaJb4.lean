/- What the functions do from point to point, as equations. Printed by wip/v2/shcode.sh, mksh.py. | The flash's functions, on the abstract machine. | The flash's functions, on the abstract machine (second part). | The flash's functions, on the abstract machine (third part): erase, read, image, load; sectors by addresses of their own. | The whole image; sectors by addresses of their own, on the abstract machine. | Check sums, on the abstract machine. | What is read of sealed bytes, on the abstract machine; records. | The journal's records, on the abstract machine: a record out of bytes, the bytes of a record. | The journal's values as a map; how many bytes they take; their keys in order. | The journal writes its records; a group is filled. | The journal fills a group, moves, writes. | The journal moves its values into the other group. | The journal writes a record, or moves. | The journal keeps a value, drops one, tells one. | 'Put', 'Drop', 'Get', 'Keys', on the abstract machine. | 'Get', 'Keys', 'Drop', on the abstract machine. | A new flash and its two groups.
   By the session's AI agent. -/
import Derived.Test.YtlonabodghfjdaaJb3
import Derived.KernelRfl
namespace Go.Am.Ytlonabodghfjdaa
set_option maxRecDepth 100000
set_option linter.unusedVariables false
noncomputable def P3_0 (base n0:Nat) (v42 v8 v6 v40 v41:PV) (h:Hp):Option (PV × Hp):=Pt T F3 [1,1,1,1,1,1,0,1,0,1] base n0 [(42,v42),(8,v8),(6,v6),(40,v40),(41,v41)] h
theorem P3_0_eq (base n0:Nat) (v42 v8 v6 v40 v41:PV) (h:Hp):P3_0 base n0 v42 v8 v6 v40 v41 h =
 (binOp .lss v42 v41).bnd fun x0 =>
 condB x0 (
 (idxAB v40 v42 3).bnd fun x1 =>
 (loadV 3 true x1 h).bnd fun x2 =>
 allocK [(.int .i64 0),(.int .i64 0),.nils] h fun x3 h4 =>
 (storeV base 3 x3 x2 h4).bnd fun h5 =>
 bnd2 (CallA T base 11 [v8] h5) fun x7 h8 =>
 bnd2 (CallA T base 12 [v8] h8) fun x10 h11 =>
 (fieldAB x3 1).bnd fun x15 =>
 (loadV 1 false x15 h11).bnd fun x16 =>
 bnd2 (CallA T base 13 [v8,x16] h11) fun x17 h18 =>
 (extractB x17 0).bnd fun x20 =>
 (extractB x17 1).bnd fun x21 =>
 (fieldAB x3 0).bnd fun x24 =>
 (loadV 1 false x24 h18).bnd fun x25 =>
 (binOp .neq x25 (.int .i64 0)).bnd fun x26 =>
 (wantB x26 true).bnd fun b29=>(whenB b29 ((fieldAB x3 0).bnd some) (some .undef)).bnd fun x28 =>
 (wantB x26 true).bnd fun b33=>(whenB b33 ((loadV 1 false x28 h18).bnd some) (some .undef)).bnd fun x32 =>
 (wantB x26 true).bnd fun b37=>(whenB b37 ((binOp .neq x32 (.int .i64 1)).bnd some) (some .undef)).bnd fun x36 =>
 (condB x26 (some x36) (some (.bool false))).bnd fun x40 =>
 condB x40 (
 (binOp .add v42 (.int .i64 1)).bnd fun x41 =>
 P3_0 base n0 x41 v8 v6 v40 v41 h18) (
 (fieldAB x3 1).bnd fun x44 =>
 (loadV 1 false x44 h18).bnd fun x45 =>
 (fieldAB x3 2).bnd fun x46 =>
 (loadV 1 false x46 h18).bnd fun x47 =>
 bnd2 (CallA T base 14 [v8,x45,x47] h18) fun x48 h49 =>
 (binOp .neq x48 (.int .i64 0)).bnd fun x50 =>
 condB x50 (
 bnd2 (CallA T base 11 [v8] h49) fun x52 h53 =>
 (binOp .neq x52 x7).bnd fun x55 =>
 (wantB x55 false).bnd fun b58=>(whenB b58 (some v8) (some .undef)).bnd fun x57 =>
 (wantB x55 false).bnd fun b62=>bnd2 (whenB b62 (bnd2 (CallA T base 12 [x57] h53) fun x64 h63=>some (x64,h63)) (some (.undef,h53))) fun x61 h63 =>
 (wantB x55 false).bnd fun b66=>(whenB b66 (some x10) (some .undef)).bnd fun x65 =>
 (wantB x55 false).bnd fun b70=>(whenB b70 ((binOp .neq x61 x65).bnd some) (some .undef)).bnd fun x69 =>
 (condB x55 (some (.bool true)) (some x69)).bnd fun x73 =>
 condB x73 (
 finV false false n0 [(.bool false)] h63) (
 (binOp .add v42 (.int .i64 1)).bnd fun x75 =>
 P3_0 base n0 x75 v8 v6 v40 v41 h63)) (
 (fieldAB x3 2).bnd fun x77 =>
 (loadV 1 false x77 h49).bnd fun x78 =>
 (lenB false x78).bnd fun x79 =>
 (binOp .add x79 (.int .i64 7)).bnd fun x80 =>
 (wantB x21 true).bnd fun b85=>(whenB b85 (some x20) (some .undef)).bnd fun x84 =>
 (wantB x21 true).bnd fun b89=>(whenB b89 ((fieldAB x3 2).bnd some) (some .undef)).bnd fun x88 =>
 (wantB x21 true).bnd fun b93=>(whenB b93 ((loadV 1 false x88 h49).bnd some) (some .undef)).bnd fun x92 =>
 (wantB x21 true).bnd fun b97=>bnd2 (whenB b97 (bnd2 (CallA T base 15 [x84,x92] h49) fun x99 h98=>some (x99,h98)) (some (.undef,h49))) fun x96 h98 =>
 (condB x21 (some x96) (some (.bool false))).bnd fun x100 =>
 condB x100 (
 bnd2 (CallA T base 11 [v8] h98) fun x103 h104 =>
 (binOp .neq x103 x7).bnd fun x106 =>
 (wantB x106 false).bnd fun b109=>(whenB b109 (some v8) (some .undef)).bnd fun x108 =>
 (wantB x106 false).bnd fun b113=>bnd2 (whenB b113 (bnd2 (CallA T base 12 [x108] h104) fun x115 h114=>some (x115,h114)) (some (.undef,h104))) fun x112 h114 =>
 (wantB x106 false).bnd fun b117=>(whenB b117 (some x10) (some .undef)).bnd fun x116 =>
 (wantB x106 false).bnd fun b121=>(whenB b121 ((binOp .neq x112 x116).bnd some) (some .undef)).bnd fun x120 =>
 (condB x106 (some (.bool true)) (some x120)).bnd fun x124 =>
 condB x124 (
 finV false false n0 [(.bool false)] h114) (
 (binOp .add v42 (.int .i64 1)).bnd fun x126 =>
 P3_0 base n0 x126 v8 v6 v40 v41 h114)) (
 (binOp .leq x80 x7).bnd fun x130 =>
 condB x130 (
 bnd2 (CallA T base 11 [v8] h98) fun x133 h134 =>
 (binOp .sub x7 x80).bnd fun x137 =>
 (binOp .neq x133 x137).bnd fun x138 =>
 (wantB x138 false).bnd fun b141=>(whenB b141 (some v8) (some .undef)).bnd fun x140 =>
 (wantB x138 false).bnd fun b145=>bnd2 (whenB b145 (bnd2 (CallA T base 12 [x140] h134) fun x147 h146=>some (x147,h146)) (some (.undef,h134))) fun x144 h146 =>
 (wantB x138 false).bnd fun b149=>(whenB b149 (some x10) (some .undef)).bnd fun x148 =>
 (wantB x138 false).bnd fun b153=>(whenB b153 ((binOp .neq x144 x148).bnd some) (some .undef)).bnd fun x152 =>
 (condB x138 (some (.bool true)) (some x152)).bnd fun x156 =>
 condB x156 (
 finV false false n0 [(.bool false)] h146) (
 (binOp .add v42 (.int .i64 1)).bnd fun x158 =>
 P3_0 base n0 x158 v8 v6 v40 v41 h146)) (
 bnd2 (CallA T base 12 [v8] h98) fun x161 h162 =>
 (binOp .add x10 (.int .u32 1)).bnd fun x164 =>
 (binOp .neq x161 x164).bnd fun x165 =>
 (wantB x165 false).bnd fun b168=>(whenB b168 (some v8) (some .undef)).bnd fun x167 =>
 (wantB x165 false).bnd fun b172=>bnd2 (whenB b172 (bnd2 (CallA T base 11 [x167] h162) fun x174 h173=>some (x174,h173)) (some (.undef,h162))) fun x171 h173 =>
 (wantB x165 false).bnd fun b176=>(whenB b176 (some v6) (some .undef)).bnd fun x175 =>
 (wantB x165 false).bnd fun b180=>bnd2 (whenB b180 (bnd2 (CallA T base 16 [x175] h173) fun x182 h181=>some (x182,h181)) (some (.undef,h173))) fun x179 h181 =>
 (wantB x165 false).bnd fun b184=>(whenB b184 (some v8) (some .undef)).bnd fun x183 =>
 (wantB x165 false).bnd fun b188=>bnd2 (whenB b188 (bnd2 (CallA T base 18 [x183] h181) fun x190 h189=>some (x190,h189)) (some (.undef,h181))) fun x187 h189 =>
 (wantB x165 false).bnd fun b192=>bnd2 (whenB b192 (bnd2 (CallA T base 17 [x187] h189) fun x194 h193=>some (x194,h193)) (some (.undef,h189))) fun x191 h193 =>
 (wantB x165 false).bnd fun b196=>(whenB b196 ((binOp .sub x179 x191).bnd some) (some .undef)).bnd fun x195 =>
 (wantB x165 false).bnd fun b200=>(whenB b200 ((binOp .neq x171 x195).bnd some) (some .undef)).bnd fun x199 =>
 (condB x165 (some (.bool true)) (some x199)).bnd fun x203 =>
 condB x203 (
 finV false false n0 [(.bool false)] h193) (
 (binOp .add v42 (.int .i64 1)).bnd fun x205 =>
 P3_0 base n0 x205 v8 v6 v40 v41 h193)))))) (
 finV false false n0 [(.bool true)] h):=(Pt_eq T F3 [1,1,1,1,1,1,0,1,0,1] base n0 [(42,v42),(8,v8),(6,v6),(40,v40),(41,v41)] h).trans (by kernel_rfl)
theorem S3 (base:Nat) (a0 a1:PV) (h:Hp):CallA T base 3 [a0,a1] h =
 bnd2 (CallA T (size h) 7 [] h) fun x1 h2 =>
 (unOp .not x1).bnd fun x3 =>
 condB x3 (
 finV false false (size h) [(.bool false)] h2) (
 (binOp .gtr a0 (.int .i64 128)).bnd fun x6 =>
 (wantB x6 false).bnd fun b9=>(whenB b9 (some a1) (some .undef)).bnd fun x8 =>
 (wantB x6 false).bnd fun b13=>bnd2 (whenB b13 (bnd2 (CallA T (size h) 8 [x8] h2) fun x15 h14=>some (x15,h14)) (some (.undef,h2))) fun x12 h14 =>
 (wantB x6 false).bnd fun b17=>(whenB b17 ((unOp .not x12).bnd some) (some .undef)).bnd fun x16 =>
 (condB x6 (some (.bool true)) (some x16)).bnd fun x20 =>
 condB x20 (
 finV false false (size h) [(.bool true)] h14) (
 bnd2 (CallA T (size h) 9 [a0] h14) fun x23 h24 =>
 (extractB x23 0).bnd fun x26 =>
 (extractB x23 1).bnd fun x27 =>
 (extractB x23 2).bnd fun x28 =>
 bnd2 (CallA T (size h) 10 [x27,x28] h24) fun x34 h35 =>
 (extractB x34 0).bnd fun x37 =>
 (extractB x34 1).bnd fun x38 =>
 (binOp .neq x38 (.int .i64 0)).bnd fun x42 =>
 condB x42 (
 finV false false (size h) [(.bool false)] h35) (
 (lenB false a1).bnd fun x45 =>
 P3_0 (size h) (size h) (.int .i64 0) x37 x27 a1 x45 h35))):=(Pt_enter T_3 base _ h).trans (by kernel_rfl)
noncomputable def P4_0 (base n0:Nat) (v56 v12 v10 v8 v54 v1 v7 v2 v55:PV) (h:Hp):Option (PV × Hp):=Pt T F4 [1,1,1,1,1,1,1,0,1,0,1] base n0 [(56,v56),(12,v12),(10,v10),(8,v8),(54,v54),(1,v1),(7,v7),(2,v2),(55,v55)] h
noncomputable def P4_1 (base n0:Nat) (v101 v10 v1 v99 v17 v7 v12 v8 v2 v100:PV) (h:Hp):Option (PV × Hp):=Pt T F4 [1,1,1,1,1,1,1,1,1,0,1,0,1] base n0 [(101,v101),(10,v10),(1,v1),(99,v99),(17,v17),(7,v7),(12,v12),(8,v8),(2,v2),(100,v100)] h
noncomputable def P4_2 (base n0:Nat) (v113 v20 v10 v1 v99 v17 v7 v12 v8 v2 v100 v101 v19 v112:PV) (h:Hp):Option (PV × Hp):=Pt T F4 [1,1,1,1,1,1,1,1,1,0,1,0,1,0,0,1,1,0,0,1,1,0,1,0,1] base n0 [(113,v113),(20,v20),(10,v10),(1,v1),(99,v99),(17,v17),(7,v7),(12,v12),(8,v8),(2,v2),(100,v100),(101,v101),(19,v19),(112,v112)] h
theorem P4_0_eq (base n0:Nat) (v56 v12 v10 v8 v54 v1 v7 v2 v55:PV) (h:Hp):P4_0 base n0 v56 v12 v10 v8 v54 v1 v7 v2 v55 h =
 (binOp .lss v56 v55).bnd fun x0 =>
 condB x0 (
 (idxAB v54 v56 1).bnd fun x2 =>
 (loadV 1 false x2 h).bnd fun x3 =>
 (lenB false x3).bnd fun x7 =>
 (binOp .gtr x7 (.int .i64 200)).bnd fun x8 =>
 condB x8 (
 finV false false n0 [(.bool true)] h) (
 bnd2 (CallA T base 16 [v8] h) fun x11 h12 =>
 (binOp .sub x11 v12).bnd fun x14 =>
 bnd2 (CallA T base 14 [v10,v56,x3] h12) fun x19 h20 =>
 (binOp .eql x19 (.int .i64 6)).bnd fun x23 =>
 (lenB false x3).bnd fun x25 =>
 (binOp .add x25 (.int .i64 7)).bnd fun x26 =>
 (binOp .gtr x26 x14).bnd fun x28 =>
 (boolB true x23 x28).bnd fun x29 =>
 (wantB x29 false).bnd fun b32=>(whenB b32 (some x19) (some .undef)).bnd fun x31 =>
 (wantB x29 false).bnd fun b36=>(whenB b36 ((binOp .neq x31 (.int .i64 0)).bnd some) (some .undef)).bnd fun x35 =>
 (wantB x29 false).bnd fun b40=>(whenB b40 (some x35) (some .undef)).bnd fun x39 =>
 (wantB x39 true).bnd fun b44=>(whenB b44 (some x19) (some .undef)).bnd fun x43 =>
 (wantB x39 true).bnd fun b48=>(whenB b48 ((binOp .neq x43 (.int .i64 6)).bnd some) (some .undef)).bnd fun x47 =>
 (wantB x29 false).bnd fun b52=>(whenB b52 ((condB x39 (some x47) (some (.bool false))).bnd some) (some .undef)).bnd fun x51 =>
 (condB x29 (some (.bool true)) (some x51)).bnd fun x55 =>
 condB x55 (
 finV false false n0 [(.bool false)] h20) (
 (binOp .eql x19 (.int .i64 0)).bnd fun x58 =>
 condB x58 (
 (lenB false x3).bnd fun x61 =>
 (binOp .add x61 (.int .i64 7)).bnd fun x62 =>
 (binOp .add v12 x62).bnd fun x63 =>
 (binOp .add v56 (.int .i64 1)).bnd fun x65 =>
 P4_0 base n0 x65 x63 v10 v8 v54 v1 v7 v2 v55 h20) (
 (binOp .add v56 (.int .i64 1)).bnd fun x67 =>
 P4_0 base n0 x67 v12 v10 v8 v54 v1 v7 v2 v55 h20)))) (
 bnd2 (CallA T base 19 [v7] h) fun x70 h71 =>
 bnd2 (CallA T base 20 [v10] h71) fun x74 h75 =>
 (lenB false x74).bnd fun x76 =>
 P4_1 base n0 (.int .i64 0) v10 v1 x74 x70 v7 v12 v8 v2 x76 h75):=(Pt_eq T F4 [1,1,1,1,1,1,1,0,1,0,1] base n0 [(56,v56),(12,v12),(10,v10),(8,v8),(54,v54),(1,v1),(7,v7),(2,v2),(55,v55)] h).trans (by kernel_rfl)
theorem P4_1_eq (base n0:Nat) (v101 v10 v1 v99 v17 v7 v12 v8 v2 v100:PV) (h:Hp):P4_1 base n0 v101 v10 v1 v99 v17 v7 v12 v8 v2 v100 h =
 (binOp .lss v101 v100).bnd fun x0 =>
 condB x0 (
 (idxAB v99 v101 1).bnd fun x1 =>
 (loadV 1 false x1 h).bnd fun x2 =>
 bnd2 (CallA T base 13 [v10,x2] h) fun x6 h7 =>
 (extractB x6 0).bnd fun x9 =>
 (extractB x6 1).bnd fun x10 =>
 (lenB false x9).bnd fun x14 =>
 P4_2 base n0 (.int .i64 0) x9 v10 v1 v99 v17 v7 v12 v8 v2 v100 v101 x2 x14 h7) (
 bnd2 (CallA T base 19 [v7] h) fun x17 h18 =>
 (binOp .neq x17 v17).bnd fun x20 =>
 condB x20 (
 finV false false n0 [(.bool false)] h18) (
 bnd2 (CallA T base 14 [v10,(.int .i64 20),v2] h18) fun x24 h25 =>
 (lenB false v2).bnd fun x28 =>
 (binOp .add x28 (.int .i64 7)).bnd fun x29 =>
 bnd2 (CallA T base 16 [v8] h25) fun x31 h32 =>
 (binOp .sub x31 v12).bnd fun x34 =>
 (binOp .gtr x29 x34).bnd fun x35 =>
 condB x35 (
 (binOp .eql x24 (.int .i64 6)).bnd fun x37 =>
 (wantB x37 true).bnd fun b40=>(whenB b40 (some v7) (some .undef)).bnd fun x39 =>
 (wantB x37 true).bnd fun b44=>bnd2 (whenB b44 (bnd2 (CallA T base 19 [x39] h32) fun x46 h45=>some (x46,h45)) (some (.undef,h32))) fun x43 h45 =>
 (wantB x37 true).bnd fun b48=>(whenB b48 (some v17) (some .undef)).bnd fun x47 =>
 (wantB x37 true).bnd fun b52=>(whenB b52 ((binOp .eql x43 x47).bnd some) (some .undef)).bnd fun x51 =>
 (condB x37 (some x51) (some (.bool false))).bnd fun x55 =>
 finV false false n0 [x55] h45) (
 (binOp .eql x24 (.int .i64 0)).bnd fun x58 =>
 finV false false n0 [x58] h32))):=(Pt_eq T F4 [1,1,1,1,1,1,1,1,1,0,1,0,1] base n0 [(101,v101),(10,v10),(1,v1),(99,v99),(17,v17),(7,v7),(12,v12),(8,v8),(2,v2),(100,v100)] h).trans (by kernel_rfl)
theorem P4_2_eq (base n0:Nat) (v113 v20 v10 v1 v99 v17 v7 v12 v8 v2 v100 v101 v19 v112:PV) (h:Hp):P4_2 base n0 v113 v20 v10 v1 v99 v17 v7 v12 v8 v2 v100 v101 v19 v112 h =
 (binOp .lss v113 v112).bnd fun x0 =>
 condB x0 (
 (idxAB v20 v113 1).bnd fun x5 =>
 (loadV 1 false x5 h).bnd fun x6 =>
 (binOp .add x6 (.int .u8 1)).bnd fun x7 =>
 (idxAB v20 v113 1).bnd fun x8 =>
 (storeV base 1 x8 x7 h).bnd fun h9 =>
 (binOp .add v113 (.int .i64 1)).bnd fun x10 =>
 P4_2 base n0 x10 v20 v10 v1 v99 v17 v7 v12 v8 v2 v100 v101 v19 v112 h9) (
 bnd2 (CallA T base 13 [v10,v19] h) fun x14 h15 =>
 (extractB x14 0).bnd fun x17 =>
 (extractB x14 1).bnd fun x18 =>
 (idxAB v1 v19 1).bnd fun x24 =>
 (loadV 1 false x24 h15).bnd fun x25 =>
 bnd2 (CallA T base 15 [x17,x25] h15) fun x26 h27 =>
 (unOp .not x26).bnd fun x28 =>
 (wantB x28 false).bnd fun b31=>(whenB b31 (some v10) (some .undef)).bnd fun x30 =>
 (wantB x28 false).bnd fun b35=>(whenB b35 (some v19) (some .undef)).bnd fun x34 =>
 (wantB x28 false).bnd fun b39=>(whenB b39 (some x17) (some .undef)).bnd fun x38 =>
 (wantB x28 false).bnd fun b43=>bnd2 (whenB b43 (bnd2 (CallA T base 14 [x30,x34,x38] h27) fun x45 h44=>some (x45,h44)) (some (.undef,h27))) fun x42 h44 =>
 (wantB x28 false).bnd fun b47=>(whenB b47 ((binOp .neq x42 (.int .i64 0)).bnd some) (some .undef)).bnd fun x46 =>
 (condB x28 (some (.bool true)) (some x46)).bnd fun x50 =>
 condB x50 (
 finV false false n0 [(.bool false)] h44) (
 (binOp .add v101 (.int .i64 1)).bnd fun x52 =>
 P4_1 base n0 x52 v10 v1 v99 v17 v7 v12 v8 v2 v100 h44)):=(Pt_eq T F4 [1,1,1,1,1,1,1,1,1,0,1,0,1,0,0,1,1,0,0,1,1,0,1,0,1] base n0 [(113,v113),(20,v20),(10,v10),(1,v1),(99,v99),(17,v17),(7,v7),(12,v12),(8,v8),(2,v2),(100,v100),(101,v101),(19,v19),(112,v112)] h).trans (by kernel_rfl)
theorem S4 (base:Nat) (a0 a1 a2:PV) (h:Hp):CallA T base 4 [a0,a1,a2] h =
 bnd2 (CallA T (size h) 7 [] h) fun x1 h2 =>
 (unOp .not x1).bnd fun x3 =>
 condB x3 (
 finV false false (size h) [(.bool false)] h2) (
 (binOp .gtr a0 (.int .i64 64)).bnd fun x6 =>
 (wantB x6 false).bnd fun b9=>(whenB b9 (some a1) (some .undef)).bnd fun x8 =>
 (wantB x6 false).bnd fun b13=>(whenB b13 ((lenB false x8).bnd some) (some .undef)).bnd fun x12 =>
 (wantB x6 false).bnd fun b17=>(whenB b17 ((binOp .gtr x12 (.int .i64 12)).bnd some) (some .undef)).bnd fun x16 =>
 (condB x6 (some (.bool true)) (some x16)).bnd fun x20 =>
 (wantB x20 false).bnd fun b23=>(whenB b23 (some a2) (some .undef)).bnd fun x22 =>
 (wantB x20 false).bnd fun b27=>(whenB b27 ((lenB false x22).bnd some) (some .undef)).bnd fun x26 =>
 (wantB x20 false).bnd fun b31=>(whenB b31 ((binOp .gtr x26 (.int .i64 200)).bnd some) (some .undef)).bnd fun x30 =>
 (condB x20 (some (.bool true)) (some x30)).bnd fun x34 =>
 condB x34 (
 finV false false (size h) [(.bool true)] h2) (
 bnd2 (CallA T (size h) 9 [a0] h2) fun x37 h38 =>
 (extractB x37 0).bnd fun x40 =>
 (extractB x37 1).bnd fun x41 =>
 (extractB x37 2).bnd fun x42 =>
 bnd2 (CallA T (size h) 10 [x41,x42] h38) fun x48 h49 =>
 (extractB x48 0).bnd fun x51 =>
 (extractB x48 1).bnd fun x52 =>
 (binOp .neq x52 (.int .i64 0)).bnd fun x56 =>
 condB x56 (
 finV false false (size h) [(.bool false)] h49) (
 (lenB false a1).bnd fun x60 =>
 P4_0 (size h) (size h) (.int .i64 0) (.int .i64 8) x51 x41 a1 a1 x40 a2 x60 h49))):=(Pt_enter T_4 base _ h).trans (by kernel_rfl)
noncomputable def P5_0 (base n0:Nat) (v14 v11 v10 v9 v3 v55 v12 v53 v15 v54:PV) (h:Hp):Option (PV × Hp):=Pt T F5 [1,1,1,1,1,1,1,1,0,1,0,1] base n0 [(14,v14),(11,v11),(10,v10),(9,v9),(3,v3),(55,v55),(12,v12),(53,v53),(15,v15),(54,v54)] h
noncomputable def P5_1 (base n0:Nat) (v62 v14 v11 v10 v9 v3 v12 v53 v54 v55 v17 v15 v18 v61:PV) (h:Hp):Option (PV × Hp):=Pt T F5 [1,1,1,1,1,1,1,1,0,1,0,1,0,0,1,1,0,0,1,1,1,0,1,0,1,1] base n0 [(62,v62),(14,v14),(11,v11),(10,v10),(9,v9),(3,v3),(12,v12),(53,v53),(54,v54),(55,v55),(17,v17),(15,v15),(18,v18),(61,v61)] h
noncomputable def P5_2 (base n0:Nat) (v15 v14 v11 v10 v19 v20 v9:PV) (h:Hp):Option (PV × Hp):=Pt T F5 [1,1,1,1,1,1,1,1,1,1,1,1,1,1] base n0 [(15,v15),(14,v14),(11,v11),(10,v10),(19,v19),(20,v20),(9,v9)] h
noncomputable def P5_3 (base n0:Nat) (v15 v14 v11 v10 v9 v3 v12 v53 v54 v55 v18:PV) (h:Hp):Option (PV × Hp):=Pt T F5 [1,1,1,1,1,1,1,1,0,1,0,1,0,0,1,1,0,0,1,1,1,1,1] base n0 [(15,v15),(14,v14),(11,v11),(10,v10),(9,v9),(3,v3),(12,v12),(53,v53),(54,v54),(55,v55),(18,v18)] h
theorem P5_0_eq (base n0:Nat) (v14 v11 v10 v9 v3 v55 v12 v53 v15 v54:PV) (h:Hp):P5_0 base n0 v14 v11 v10 v9 v3 v55 v12 v53 v15 v54 h =
 (binOp .lss v55 v54).bnd fun x0 =>
 condB x0 (
 (idxAB v53 v55 3).bnd fun x1 =>
 (loadV 3 true x1 h).bnd fun x2 =>
 allocK [(.int .i64 0),(.int .i64 0),.nils] h fun x3 h4 =>
 (storeV base 3 x3 x2 h4).bnd fun h5 =>
 (fieldAB x3 0).bnd fun x9 =>
 (loadV 1 false x9 h5).bnd fun x10 =>
 (binOp .eql x10 (.int .i64 0)).bnd fun x11 =>
 condB x11 (
 P5_1 base n0 x11 v14 v11 v10 v9 v3 v12 v53 v54 v55 x3 v14 (.int .i64 0) x10 h5) (
 (binOp .eql x10 (.int .i64 1)).bnd fun x13 =>
 P5_1 base n0 x13 v14 v11 v10 v9 v3 v12 v53 v54 v55 x3 v14 (.int .i64 0) x10 h5)) (
 bnd2 (CallA T base 26 [v9] h) fun x16 h17 =>
 (binOp .and v3 (.int .i64 511)).bnd fun x20 =>
 bnd2 (CallA T base 21 [v9,x20] h17) fun x21 h22 =>
 bnd2 (CallA T base 10 [v10,v11] h22) fun x25 h26 =>
 (extractB x25 0).bnd fun x28 =>
 (extractB x25 1).bnd fun x29 =>
 (binOp .eql x29 (.int .i64 30)).bnd fun x33 =>
 condB x33 (
 bnd2 (CallA T base 26 [v9] h26) fun x35 h36 =>
 bnd2 (CallA T base 10 [v10,v11] h36) fun x39 h40 =>
 (extractB x39 0).bnd fun x42 =>
 (extractB x39 1).bnd fun x43 =>
 P5_2 base n0 v15 v14 v11 v10 x42 x43 v9 h40) (
 P5_2 base n0 v15 v14 v11 v10 x28 x29 v9 h26)):=(Pt_eq T F5 [1,1,1,1,1,1,1,1,0,1,0,1] base n0 [(14,v14),(11,v11),(10,v10),(9,v9),(3,v3),(55,v55),(12,v12),(53,v53),(15,v15),(54,v54)] h).trans (by kernel_rfl)
theorem P5_1_eq (base n0:Nat) (v62 v14 v11 v10 v9 v3 v12 v53 v54 v55 v17 v15 v18 v61:PV) (h:Hp):P5_1 base n0 v62 v14 v11 v10 v9 v3 v12 v53 v54 v55 v17 v15 v18 v61 h =
 condB v62 (
 (fieldAB v17 1).bnd fun x1 =>
 (loadV 1 false x1 h).bnd fun x2 =>
 (fieldAB v17 2).bnd fun x3 =>
 (loadV 1 false x3 h).bnd fun x4 =>
 bnd2 (CallA T base 14 [v12,x2,x4] h) fun x5 h6 =>
 (binOp .eql x5 (.int .i64 0)).bnd fun x9 =>
 (wantB x9 false).bnd fun b12=>(whenB b12 (some x5) (some .undef)).bnd fun x11 =>
 (wantB x9 false).bnd fun b16=>(whenB b16 ((binOp .eql x11 (.int .i64 30)).bnd some) (some .undef)).bnd fun x15 =>
 (condB x9 (some (.bool true)) (some x15)).bnd fun x19 =>
 condB x19 (
 (fieldAB v17 1).bnd fun x21 =>
 (loadV 1 false x21 h6).bnd fun x22 =>
 (fieldAB v17 2).bnd fun x23 =>
 (loadV 1 false x23 h6).bnd fun x24 =>
 bnd2 (CallA T base 22 [v14,x22,x24] h6) fun x25 h26 =>
 P5_3 base n0 x25 v14 v11 v10 v9 v3 v12 v53 v54 v55 x5 h26) (
 P5_3 base n0 v15 v14 v11 v10 v9 v3 v12 v53 v54 v55 x5 h6)) (
 (binOp .eql v61 (.int .i64 2)).bnd fun x28 =>
 condB x28 (
 (fieldAB v17 1).bnd fun x31 =>
 (loadV 1 false x31 h).bnd fun x32 =>
 bnd2 (CallA T base 23 [v12,x32] h) fun x33 h34 =>
 (binOp .eql x33 (.int .i64 0)).bnd fun x37 =>
 (wantB x37 false).bnd fun b40=>(whenB b40 (some x33) (some .undef)).bnd fun x39 =>
 (wantB x37 false).bnd fun b44=>(whenB b44 ((binOp .eql x39 (.int .i64 30)).bnd some) (some .undef)).bnd fun x43 =>
 (condB x37 (some (.bool true)) (some x43)).bnd fun x47 =>
 condB x47 (
 (fieldAB v17 1).bnd fun x49 =>
 (loadV 1 false x49 h34).bnd fun x50 =>
 bnd2 (CallA T base 24 [v14,x50] h34) fun x51 h52 =>
 P5_3 base n0 x51 v14 v11 v10 v9 v3 v12 v53 v54 v55 x33 h52) (
 P5_3 base n0 v15 v14 v11 v10 v9 v3 v12 v53 v54 v55 x33 h34)) (
 P5_3 base n0 v15 v14 v11 v10 v9 v3 v12 v53 v54 v55 v18 h)):=(Pt_eq T F5 [1,1,1,1,1,1,1,1,0,1,0,1,0,0,1,1,0,0,1,1,1,0,1,0,1,1] base n0 [(62,v62),(14,v14),(11,v11),(10,v10),(9,v9),(3,v3),(12,v12),(53,v53),(54,v54),(55,v55),(17,v17),(15,v15),(18,v18),(61,v61)] h).trans (by kernel_rfl)
theorem P5_2_eq (base n0:Nat) (v15 v14 v11 v10 v19 v20 v9:PV) (h:Hp):P5_2 base n0 v15 v14 v11 v10 v19 v20 v9 h =
 bnd2 (CallA T base 26 [v9] h) fun x1 h2 =>
 (binOp .neq v20 (.int .i64 0)).bnd fun x4 =>
 condB x4 (
 finV false false n0 [(.bool false)] h2) (
 bnd2 (CallA T base 18 [v19] h2) fun x7 h8 =>
 bnd2 (CallA T base 10 [v10,v11] h8) fun x12 h13 =>
 (extractB x12 0).bnd fun x15 =>
 (extractB x12 1).bnd fun x16 =>
 (binOp .eql x16 (.int .i64 0)).bnd fun x20 =>
 (wantB x20 true).bnd fun b23=>(whenB b23 (some x7) (some .undef)).bnd fun x22 =>
 (wantB x20 true).bnd fun b27=>(whenB b27 (some v14) (some .undef)).bnd fun x26 =>
 (wantB x20 true).bnd fun b31=>bnd2 (whenB b31 (bnd2 (CallA T base 25 [x22,x26] h13) fun x33 h32=>some (x33,h32)) (some (.undef,h13))) fun x30 h32 =>
 (wantB x20 true).bnd fun b35=>(whenB b35 (some x30) (some .undef)).bnd fun x34 =>
 (wantB x34 false).bnd fun b39=>(whenB b39 (some x7) (some .undef)).bnd fun x38 =>
 (wantB x34 false).bnd fun b43=>(whenB b43 (some v15) (some .undef)).bnd fun x42 =>
 (wantB x34 false).bnd fun b47=>bnd2 (whenB b47 (bnd2 (CallA T base 25 [x38,x42] h32) fun x49 h48=>some (x49,h48)) (some (.undef,h32))) fun x46 h48 =>
 (wantB x20 true).bnd fun b51=>(whenB b51 ((condB x34 (some (.bool true)) (some x46)).bnd some) (some .undef)).bnd fun x50 =>
 (condB x20 (some x50) (some (.bool false))).bnd fun x54 =>
 (wantB x54 true).bnd fun b57=>(whenB b57 (some x15) (some .undef)).bnd fun x56 =>
 (wantB x54 true).bnd fun b61=>bnd2 (whenB b61 (bnd2 (CallA T base 18 [x56] h48) fun x63 h62=>some (x63,h62)) (some (.undef,h48))) fun x60 h62 =>
 (wantB x54 true).bnd fun b65=>(whenB b65 (some x7) (some .undef)).bnd fun x64 =>
 (wantB x54 true).bnd fun b69=>bnd2 (whenB b69 (bnd2 (CallA T base 25 [x60,x64] h62) fun x71 h70=>some (x71,h70)) (some (.undef,h62))) fun x68 h70 =>
 (condB x54 (some x68) (some (.bool false))).bnd fun x72 =>
 finV false false n0 [x72] h70):=(Pt_eq T F5 [1,1,1,1,1,1,1,1,1,1,1,1,1,1] base n0 [(15,v15),(14,v14),(11,v11),(10,v10),(19,v19),(20,v20),(9,v9)] h).trans (by kernel_rfl)
theorem P5_3_eq (base n0:Nat) (v15 v14 v11 v10 v9 v3 v12 v53 v54 v55 v18:PV) (h:Hp):P5_3 base n0 v15 v14 v11 v10 v9 v3 v12 v53 v54 v55 v18 h =
 (binOp .eql v18 (.int .i64 30)).bnd fun x1 =>
 condB x1 (
 bnd2 (CallA T base 26 [v9] h) fun x3 h4 =>
 (binOp .and v3 (.int .i64 511)).bnd fun x7 =>
 bnd2 (CallA T base 21 [v9,x7] h4) fun x8 h9 =>
 bnd2 (CallA T base 10 [v10,v11] h9) fun x12 h13 =>
 (extractB x12 0).bnd fun x15 =>
 (extractB x12 1).bnd fun x16 =>
 (binOp .eql x16 (.int .i64 30)).bnd fun x20 =>
 condB x20 (
 bnd2 (CallA T base 26 [v9] h13) fun x22 h23 =>
 bnd2 (CallA T base 10 [v10,v11] h23) fun x26 h27 =>
 (extractB x26 0).bnd fun x29 =>
 (extractB x26 1).bnd fun x30 =>
 P5_2 base n0 v15 v14 v11 v10 x29 x30 v9 h27) (
 P5_2 base n0 v15 v14 v11 v10 x15 x16 v9 h13)) (
 bnd2 (CallA T base 18 [v12] h) fun x36 h37 =>
 bnd2 (CallA T base 25 [x36,v15] h37) fun x39 h40 =>
 (unOp .not x39).bnd fun x41 =>
 condB x41 (
 finV false false n0 [(.bool false)] h40) (
 (binOp .add v55 (.int .i64 1)).bnd fun x43 =>
 P5_0 base n0 v15 v11 v10 v9 v3 x43 v12 v53 v15 v54 h40)):=(Pt_eq T F5 [1,1,1,1,1,1,1,1,0,1,0,1,0,0,1,1,0,0,1,1,1,1,1] base n0 [(15,v15),(14,v14),(11,v11),(10,v10),(9,v9),(3,v3),(12,v12),(53,v53),(54,v54),(55,v55),(18,v18)] h).trans (by kernel_rfl)
theorem S5 (base:Nat) (a0 a1 a2 a3:PV) (h:Hp):CallA T base 5 [a0,a1,a2,a3] h =
 bnd2 (CallA T (size h) 7 [] h) fun x1 h2 =>
 (unOp .not x1).bnd fun x3 =>
 condB x3 (
 finV false false (size h) [(.bool false)] h2) (
 (binOp .gtr a0 (.int .i64 128)).bnd fun x6 =>
 (wantB x6 false).bnd fun b9=>(whenB b9 (some a1) (some .undef)).bnd fun x8 =>
 (wantB x6 false).bnd fun b13=>bnd2 (whenB b13 (bnd2 (CallA T (size h) 8 [x8] h2) fun x15 h14=>some (x15,h14)) (some (.undef,h2))) fun x12 h14 =>
 (wantB x6 false).bnd fun b17=>(whenB b17 ((unOp .not x12).bnd some) (some .undef)).bnd fun x16 =>
 (condB x6 (some (.bool true)) (some x16)).bnd fun x20 =>
 condB x20 (
 finV false false (size h) [(.bool true)] h14) (
 bnd2 (CallA T (size h) 9 [a0] h14) fun x23 h24 =>
 (extractB x23 0).bnd fun x26 =>
 (extractB x23 1).bnd fun x27 =>
 (extractB x23 2).bnd fun x28 =>
 bnd2 (CallA T (size h) 10 [x27,x28] h24) fun x34 h35 =>
 (extractB x34 0).bnd fun x37 =>
 (extractB x34 1).bnd fun x38 =>
 (binOp .neq x38 (.int .i64 0)).bnd fun x42 =>
 condB x42 (
 finV false false (size h) [(.bool false)] h35) (
 (binOp .and a2 (.int .i64 4095)).bnd fun x46 =>
 bnd2 (CallA T (size h) 21 [x26,x46] h35) fun x47 h48 =>
 (buildSlV 2 true [(.int .i64 0),.nils] 0 []).bnd fun x49 =>
 (buildSlV 2 true [(.int .i64 0),.nils] 0 []).bnd fun x50 =>
 (lenB false a1).bnd fun x54 =>
 P5_0 (size h) (size h) x49 x28 x27 x26 a3 (.int .i64 0) x37 a1 x50 x54 h48))):=(Pt_enter T_5 base _ h).trans (by kernel_rfl)
theorem S6 (base:Nat) (a0 a1:PV) (h:Hp):CallA T base 6 [a0,a1] h =
 bnd2 (CallA T (size h) 7 [] h) fun x1 h2 =>
 (unOp .not x1).bnd fun x3 =>
 condB x3 (
 finV false false (size h) [(.bool false)] h2) (
 (binOp .gtr a0 (.int .i64 128)).bnd fun x6 =>
 (wantB x6 false).bnd fun b9=>(whenB b9 (some a1) (some .undef)).bnd fun x8 =>
 (wantB x6 false).bnd fun b13=>(whenB b13 ((lenB false x8).bnd some) (some .undef)).bnd fun x12 =>
 (wantB x6 false).bnd fun b17=>(whenB b17 ((binOp .gtr x12 (.int .i64 600)).bnd some) (some .undef)).bnd fun x16 =>
 (condB x6 (some (.bool true)) (some x16)).bnd fun x20 =>
 condB x20 (
 finV false false (size h) [(.bool true)] h2) (
 bnd2 (CallA T (size h) 9 [a0] h2) fun x23 h24 =>
 (extractB x23 0).bnd fun x26 =>
 (extractB x23 1).bnd fun x27 =>
 (extractB x23 2).bnd fun x28 =>
 bnd2 (CallA T (size h) 27 [x26,a1] h24) fun x34 h35 =>
 bnd2 (CallA T (size h) 10 [x27,x28] h35) fun x38 h39 =>
 (extractB x38 0).bnd fun x41 =>
 (extractB x38 1).bnd fun x42 =>
 (binOp .neq x42 (.int .i64 0)).bnd fun x46 =>
 condB x46 (
 bnd2 (CallA T (size h) 10 [x27,x28] h39) fun x49 h50 =>
 (extractB x49 0).bnd fun x52 =>
 (extractB x49 1).bnd fun x53 =>
 (isnilV 0 false x41).bnd fun x57 =>
 (wantB x57 true).bnd fun b60=>(whenB b60 (some x53) (some .undef)).bnd fun x59 =>
 (wantB x57 true).bnd fun b64=>(whenB b64 (some x42) (some .undef)).bnd fun x63 =>
 (wantB x57 true).bnd fun b68=>(whenB b68 ((binOp .eql x59 x63).bnd some) (some .undef)).bnd fun x67 =>
 (condB x57 (some x67) (some (.bool false))).bnd fun x71 =>
 finV false false (size h) [x71] h50) (
 bnd2 (CallA T (size h) 19 [x26] h39) fun x74 h75 =>
 bnd2 (CallA T (size h) 28 [x26] h75) fun x78 h79 =>
 bnd2 (CallA T (size h) 10 [x27,x28] h79) fun x83 h84 =>
 (extractB x83 0).bnd fun x86 =>
 (extractB x83 1).bnd fun x87 =>
 (binOp .eql x87 (.int .i64 0)).bnd fun x91 =>
 (wantB x91 true).bnd fun b94=>(whenB b94 (some x26) (some .undef)).bnd fun x93 =>
 (wantB x91 true).bnd fun b98=>bnd2 (whenB b98 (bnd2 (CallA T (size h) 19 [x93] h84) fun x100 h99=>some (x100,h99)) (some (.undef,h84))) fun x97 h99 =>
 (wantB x91 true).bnd fun b102=>(whenB b102 (some x74) (some .undef)).bnd fun x101 =>
 (wantB x91 true).bnd fun b106=>(whenB b106 ((binOp .eql x97 x101).bnd some) (some .undef)).bnd fun x105 =>
 (condB x91 (some x105) (some (.bool false))).bnd fun x109 =>
 (wantB x109 true).bnd fun b112=>(whenB b112 (some x26) (some .undef)).bnd fun x111 =>
 (wantB x109 true).bnd fun b116=>bnd2 (whenB b116 (bnd2 (CallA T (size h) 28 [x111] h99) fun x118 h117=>some (x118,h117)) (some (.undef,h99))) fun x115 h117 =>
 (wantB x109 true).bnd fun b120=>(whenB b120 (some x78) (some .undef)).bnd fun x119 =>
 (wantB x109 true).bnd fun b124=>bnd2 (whenB b124 (bnd2 (CallA T (size h) 15 [x115,x119] h117) fun x126 h125=>some (x126,h125)) (some (.undef,h117))) fun x123 h125 =>
 (condB x109 (some x123) (some (.bool false))).bnd fun x127 =>
 (wantB x127 true).bnd fun b130=>(whenB b130 (some x41) (some .undef)).bnd fun x129 =>
 (wantB x127 true).bnd fun b134=>bnd2 (whenB b134 (bnd2 (CallA T (size h) 18 [x129] h125) fun x136 h135=>some (x136,h135)) (some (.undef,h125))) fun x133 h135 =>
 (wantB x127 true).bnd fun b138=>(whenB b138 (some x86) (some .undef)).bnd fun x137 =>
 (wantB x127 true).bnd fun b142=>bnd2 (whenB b142 (bnd2 (CallA T (size h) 18 [x137] h135) fun x144 h143=>some (x144,h143)) (some (.undef,h135))) fun x141 h143 =>
 (wantB x127 true).bnd fun b146=>bnd2 (whenB b146 (bnd2 (CallA T (size h) 25 [x133,x141] h143) fun x148 h147=>some (x148,h147)) (some (.undef,h143))) fun x145 h147 =>
 (condB x127 (some x145) (some (.bool false))).bnd fun x149 =>
 (wantB x149 true).bnd fun b152=>(whenB b152 (some x41) (some .undef)).bnd fun x151 =>
 (wantB x149 true).bnd fun b156=>bnd2 (whenB b156 (bnd2 (CallA T (size h) 12 [x151] h147) fun x158 h157=>some (x158,h157)) (some (.undef,h147))) fun x155 h157 =>
 (wantB x149 true).bnd fun b160=>(whenB b160 (some x86) (some .undef)).bnd fun x159 =>
 (wantB x149 true).bnd fun b164=>bnd2 (whenB b164 (bnd2 (CallA T (size h) 12 [x159] h157) fun x166 h165=>some (x166,h165)) (some (.undef,h157))) fun x163 h165 =>
 (wantB x149 true).bnd fun b168=>(whenB b168 ((binOp .eql x155 x163).bnd some) (some .undef)).bnd fun x167 =>
 (condB x149 (some x167) (some (.bool false))).bnd fun x171 =>
 (wantB x171 true).bnd fun b174=>(whenB b174 (some x41) (some .undef)).bnd fun x173 =>
 (wantB x171 true).bnd fun b178=>bnd2 (whenB b178 (bnd2 (CallA T (size h) 11 [x173] h165) fun x180 h179=>some (x180,h179)) (some (.undef,h165))) fun x177 h179 =>
 (wantB x171 true).bnd fun b182=>(whenB b182 (some x86) (some .undef)).bnd fun x181 =>
 (wantB x171 true).bnd fun b186=>bnd2 (whenB b186 (bnd2 (CallA T (size h) 11 [x181] h179) fun x188 h187=>some (x188,h187)) (some (.undef,h179))) fun x185 h187 =>
 (wantB x171 true).bnd fun b190=>(whenB b190 ((binOp .eql x177 x185).bnd some) (some .undef)).bnd fun x189 =>
 (condB x171 (some x189) (some (.bool false))).bnd fun x193 =>
 finV false false (size h) [x193] h187))):=(Pt_enter T_6 base _ h).trans (by kernel_rfl)
theorem S7 (base:Nat) (h:Hp):CallA T base 7 [] h =
 bnd2 (CallA T (size h) 9 [(.int .i64 32)] h) fun x1 h2 =>
 (extractB x1 0).bnd fun x4 =>
 (extractB x1 1).bnd fun x5 =>
 (extractB x1 2).bnd fun x6 =>
 (isnilV 0 false x5).bnd fun x11 =>
 (wantB x11 false).bnd fun b14=>(whenB b14 (some x6) (some .undef)).bnd fun x13 =>
 (wantB x11 false).bnd fun b18=>(whenB b18 ((isnilV 0 false x13).bnd some) (some .undef)).bnd fun x17 =>
 (condB x11 (some (.bool true)) (some x17)).bnd fun x21 =>
 condB x21 (
 finV false false (size h) [(.bool false)] h2) (
 bnd2 (CallA T (size h) 10 [x5,x6] h2) fun x25 h26 =>
 (extractB x25 0).bnd fun x28 =>
 (extractB x25 1).bnd fun x29 =>
 (binOp .neq x29 (.int .i64 0)).bnd fun x33 =>
 (wantB x33 false).bnd fun b36=>(whenB b36 (some x28) (some .undef)).bnd fun x35 =>
 (wantB x33 false).bnd fun b40=>(whenB b40 ((isnilV 0 false x35).bnd some) (some .undef)).bnd fun x39 =>
 (condB x33 (some (.bool true)) (some x39)).bnd fun x43 =>
 (wantB x43 false).bnd fun b46=>(whenB b46 (some x28) (some .undef)).bnd fun x45 =>
 (wantB x43 false).bnd fun b50=>bnd2 (whenB b50 (bnd2 (CallA T (size h) 12 [x45] h26) fun x52 h51=>some (x52,h51)) (some (.undef,h26))) fun x49 h51 =>
 (wantB x43 false).bnd fun b54=>(whenB b54 ((binOp .neq x49 (.int .u32 1)).bnd some) (some .undef)).bnd fun x53 =>
 (condB x43 (some (.bool true)) (some x53)).bnd fun x57 =>
 (wantB x57 false).bnd fun b60=>(whenB b60 (some x28) (some .undef)).bnd fun x59 =>
 (wantB x57 false).bnd fun b64=>bnd2 (whenB b64 (bnd2 (genV (size h) h51 (.sliceBox [(.int .u8 97),(.int .u8 98)]) []) fun x66 h65=>some (x66,h65)) (some (.undef,h51))) fun x63 h65 =>
 (wantB x57 false).bnd fun b68=>bnd2 (whenB b68 (bnd2 (genV (size h) h65 .mark [x63]) fun x70 h69=>some (x70,h69)) (some (.undef,h65))) fun x67 h69 =>
 (wantB x57 false).bnd fun b72=>bnd2 (whenB b72 (bnd2 (CallA T (size h) 14 [x59,(.int .i64 3),x67] h69) fun x74 h73=>some (x74,h73)) (some (.undef,h69))) fun x71 h73 =>
 (wantB x57 false).bnd fun b76=>(whenB b76 ((binOp .neq x71 (.int .i64 0)).bnd some) (some .undef)).bnd fun x75 =>
 (condB x57 (some (.bool true)) (some x75)).bnd fun x79 =>
 (wantB x79 false).bnd fun b82=>(whenB b82 (some x28) (some .undef)).bnd fun x81 =>
 (wantB x79 false).bnd fun b86=>bnd2 (whenB b86 (bnd2 (CallA T (size h) 14 [x81,(.int .i64 40),.nils] h73) fun x88 h87=>some (x88,h87)) (some (.undef,h73))) fun x85 h87 =>
 (wantB x79 false).bnd fun b90=>(whenB b90 ((binOp .neq x85 (.int .i64 1)).bnd some) (some .undef)).bnd fun x89 =>
 (condB x79 (some (.bool true)) (some x89)).bnd fun x93 =>
 (wantB x93 false).bnd fun b96=>(whenB b96 (some x28) (some .undef)).bnd fun x95 =>
 (wantB x93 false).bnd fun b100=>bnd2 (whenB b100 (bnd2 (CallA T (size h) 23 [x95,(.int .i64 5)] h87) fun x102 h101=>some (x102,h101)) (some (.undef,h87))) fun x99 h101 =>
 (wantB x93 false).bnd fun b104=>(whenB b104 ((binOp .neq x99 (.int .i64 4)).bnd some) (some .undef)).bnd fun x103 =>
 (condB x93 (some (.bool true)) (some x103)).bnd fun x107 =>
 condB x107 (
 finV false false (size h) [(.bool false)] h101) (
 bnd2 (CallA T (size h) 28 [x4] h101) fun x110 h111 =>
 bnd2 (CallA T (size h) 13 [x28,(.int .i64 3)] h111) fun x114 h115 =>
 (extractB x114 0).bnd fun x117 =>
 (extractB x114 1).bnd fun x118 =>
 bnd2 (CallA T (size h) 20 [x28] h115) fun x122 h123 =>
 bnd2 (CallA T (size h) 10 [x5,x6] h123) fun x127 h128 =>
 (extractB x127 0).bnd fun x130 =>
 (extractB x127 1).bnd fun x131 =>
 (binOp .neq x131 (.int .i64 0)).bnd fun x135 =>
 condB x135 (
 finV false false (size h) [(.bool false)] h128) (
 bnd2 (CallA T (size h) 13 [x130,(.int .i64 3)] h128) fun x138 h139 =>
 (extractB x138 0).bnd fun x141 =>
 (extractB x138 1).bnd fun x142 =>
 (idxAB x110 (.int .i64 0) 1).bnd fun x146 =>
 (loadV 1 false x146 h139).bnd fun x147 =>
 (binOp .eql x147 (.int .u8 0)).bnd fun x148 =>
 (wantB x148 true).bnd fun b151=>(whenB b151 (some x110) (some .undef)).bnd fun x150 =>
 (wantB x148 true).bnd fun b155=>(whenB b155 ((idxAB x150 (.int .i64 1) 1).bnd some) (some .undef)).bnd fun x154 =>
 (wantB x148 true).bnd fun b159=>(whenB b159 ((loadV 1 false x154 h139).bnd some) (some .undef)).bnd fun x158 =>
 (wantB x148 true).bnd fun b163=>(whenB b163 ((binOp .eql x158 (.int .u8 1)).bnd some) (some .undef)).bnd fun x162 =>
 (condB x148 (some x162) (some (.bool false))).bnd fun x166 =>
 (wantB x166 true).bnd fun b169=>(whenB b169 (some x110) (some .undef)).bnd fun x168 =>
 (wantB x166 true).bnd fun b173=>(whenB b173 ((idxAB x168 (.int .i64 8) 1).bnd some) (some .undef)).bnd fun x172 =>
 (wantB x166 true).bnd fun b177=>(whenB b177 ((loadV 1 false x172 h139).bnd some) (some .undef)).bnd fun x176 =>
 (wantB x166 true).bnd fun b181=>(whenB b181 ((binOp .eql x176 (.int .u8 3)).bnd some) (some .undef)).bnd fun x180 =>
 (condB x166 (some x180) (some (.bool false))).bnd fun x184 =>
 (wantB x184 true).bnd fun b187=>(whenB b187 (some x110) (some .undef)).bnd fun x186 =>
 (wantB x184 true).bnd fun b191=>(whenB b191 ((idxAB x186 (.int .i64 9) 1).bnd some) (some .undef)).bnd fun x190 =>
 (wantB x184 true).bnd fun b195=>(whenB b195 ((loadV 1 false x190 h139).bnd some) (some .undef)).bnd fun x194 =>
 (wantB x184 true).bnd fun b199=>(whenB b199 ((binOp .eql x194 (.int .u8 2)).bnd some) (some .undef)).bnd fun x198 =>
 (condB x184 (some x198) (some (.bool false))).bnd fun x202 =>
 (wantB x202 true).bnd fun b205=>(whenB b205 (some x110) (some .undef)).bnd fun x204 =>
 (wantB x202 true).bnd fun b209=>(whenB b209 ((idxAB x204 (.int .i64 10) 1).bnd some) (some .undef)).bnd fun x208 =>
 (wantB x202 true).bnd fun b213=>(whenB b213 ((loadV 1 false x208 h139).bnd some) (some .undef)).bnd fun x212 =>
 (wantB x202 true).bnd fun b217=>(whenB b217 ((binOp .eql x212 (.int .u8 97)).bnd some) (some .undef)).bnd fun x216 =>
 (condB x202 (some x216) (some (.bool false))).bnd fun x220 =>
 (wantB x220 true).bnd fun b223=>(whenB b223 (some x110) (some .undef)).bnd fun x222 =>
 (wantB x220 true).bnd fun b227=>(whenB b227 ((idxAB x222 (.int .i64 16) 1).bnd some) (some .undef)).bnd fun x226 =>
 (wantB x220 true).bnd fun b231=>(whenB b231 ((loadV 1 false x226 h139).bnd some) (some .undef)).bnd fun x230 =>
 (wantB x220 true).bnd fun b235=>(whenB b235 ((binOp .eql x230 (.int .u8 0)).bnd some) (some .undef)).bnd fun x234 =>
 (condB x220 (some x234) (some (.bool false))).bnd fun x238 =>
 (wantB x238 true).bnd fun b241=>(whenB b241 (some x118) (some .undef)).bnd fun x240 =>
 (condB x238 (some x240) (some (.bool false))).bnd fun x244 =>
 (wantB x244 true).bnd fun b247=>(whenB b247 (some x117) (some .undef)).bnd fun x246 =>
 (wantB x244 true).bnd fun b251=>(whenB b251 ((bytesStrB h139 x246).bnd some) (some .undef)).bnd fun x250 =>
 (wantB x244 true).bnd fun b255=>(whenB b255 ((binOp .eql x250 (.str [97,98])).bnd some) (some .undef)).bnd fun x254 =>
 (condB x244 (some x254) (some (.bool false))).bnd fun x258 =>
 (wantB x258 true).bnd fun b261=>(whenB b261 (some x122) (some .undef)).bnd fun x260 =>
 (wantB x258 true).bnd fun b265=>(whenB b265 ((lenB false x260).bnd some) (some .undef)).bnd fun x264 =>
 (wantB x258 true).bnd fun b269=>(whenB b269 ((binOp .eql x264 (.int .i64 1)).bnd some) (some .undef)).bnd fun x268 =>
 (condB x258 (some x268) (some (.bool false))).bnd fun x272 =>
 (wantB x272 true).bnd fun b275=>(whenB b275 (some x122) (some .undef)).bnd fun x274 =>
 (wantB x272 true).bnd fun b279=>(whenB b279 ((idxAB x274 (.int .i64 0) 1).bnd some) (some .undef)).bnd fun x278 =>
 (wantB x272 true).bnd fun b283=>(whenB b283 ((loadV 1 false x278 h139).bnd some) (some .undef)).bnd fun x282 =>
 (wantB x272 true).bnd fun b287=>(whenB b287 ((binOp .eql x282 (.int .i64 3)).bnd some) (some .undef)).bnd fun x286 =>
 (condB x272 (some x286) (some (.bool false))).bnd fun x290 =>
 (wantB x290 true).bnd fun b293=>(whenB b293 (some x142) (some .undef)).bnd fun x292 =>
 (condB x290 (some x292) (some (.bool false))).bnd fun x296 =>
 (wantB x296 true).bnd fun b299=>(whenB b299 (some x141) (some .undef)).bnd fun x298 =>
 (wantB x296 true).bnd fun b303=>(whenB b303 ((bytesStrB h139 x298).bnd some) (some .undef)).bnd fun x302 =>
 (wantB x296 true).bnd fun b307=>(whenB b307 ((binOp .eql x302 (.str [97,98])).bnd some) (some .undef)).bnd fun x306 =>
 (condB x296 (some x306) (some (.bool false))).bnd fun x310 =>
 (wantB x310 true).bnd fun b313=>(whenB b313 (some x28) (some .undef)).bnd fun x312 =>
 (wantB x310 true).bnd fun b317=>bnd2 (whenB b317 (bnd2 (CallA T (size h) 11 [x312] h139) fun x319 h318=>some (x319,h318)) (some (.undef,h139))) fun x316 h318 =>
 (wantB x310 true).bnd fun b321=>(whenB b321 ((binOp .eql x316 (.int .i64 47)).bnd some) (some .undef)).bnd fun x320 =>
 (condB x310 (some x320) (some (.bool false))).bnd fun x324 =>
 (wantB x324 true).bnd fun b327=>(whenB b327 (some x130) (some .undef)).bnd fun x326 =>
 (wantB x324 true).bnd fun b331=>bnd2 (whenB b331 (bnd2 (CallA T (size h) 23 [x326,(.int .i64 3)] h318) fun x333 h332=>some (x333,h332)) (some (.undef,h318))) fun x330 h332 =>
 (wantB x324 true).bnd fun b335=>(whenB b335 ((binOp .eql x330 (.int .i64 0)).bnd some) (some .undef)).bnd fun x334 =>
 (condB x324 (some x334) (some (.bool false))).bnd fun x338 =>
 (wantB x338 true).bnd fun b341=>(whenB b341 (some x130) (some .undef)).bnd fun x340 =>
 (wantB x338 true).bnd fun b345=>bnd2 (whenB b345 (bnd2 (CallA T (size h) 20 [x340] h332) fun x347 h346=>some (x347,h346)) (some (.undef,h332))) fun x344 h346 =>
 (wantB x338 true).bnd fun b349=>(whenB b349 ((lenB false x344).bnd some) (some .undef)).bnd fun x348 =>
 (wantB x338 true).bnd fun b353=>(whenB b353 ((binOp .eql x348 (.int .i64 0)).bnd some) (some .undef)).bnd fun x352 =>
 (condB x338 (some x352) (some (.bool false))).bnd fun x356 =>
 finV false false (size h) [x356] h346))):=(Pt_enter T_7 base _ h).trans (by kernel_rfl)
noncomputable def P8_0 (base n0:Nat) (v7 v5 v0 v6:PV) (h:Hp):Option (PV × Hp):=Pt T F8 [1,0,1,0,1] base n0 [(7,v7),(5,v5),(0,v0),(6,v6)] h
theorem P8_0_eq (base n0:Nat) (v7 v5 v0 v6:PV) (h:Hp):P8_0 base n0 v7 v5 v0 v6 h =
 (binOp .lss v7 v6).bnd fun x0 =>
 condB x0 (
 (idxAB v5 v7 3).bnd fun x1 =>
 (loadV 3 true x1 h).bnd fun x2 =>
 allocK [(.int .i64 0),(.int .i64 0),.nils] h fun x3 h4 =>
 (storeV base 3 x3 x2 h4).bnd fun h5 =>
 (fieldAB x3 2).bnd fun x6 =>
 (loadV 1 false x6 h5).bnd fun x7 =>
 (lenB false x7).bnd fun x8 =>
 (binOp .gtr x8 (.int .i64 300)).bnd fun x9 =>
 condB x9 (
 finV false false n0 [(.bool false)] h5) (
 (binOp .add v7 (.int .i64 1)).bnd fun x11 =>
 P8_0 base n0 x11 v5 v0 v6 h5)) (
 (lenB false v0).bnd fun x14 =>
 (binOp .leq x14 (.int .i64 40)).bnd fun x15 =>
 finV false false n0 [x15] h):=(Pt_eq T F8 [1,0,1,0,1] base n0 [(7,v7),(5,v5),(0,v0),(6,v6)] h).trans (by kernel_rfl)
theorem S8 (base:Nat) (a0:PV) (h:Hp):CallA T base 8 [a0] h =
 (lenB false a0).bnd fun x2 =>
 P8_0 (size h) (size h) (.int .i64 0) a0 a0 x2 h:=(Pt_enter T_8 base _ h).trans (by kernel_rfl)
theorem S9 (base:Nat) (a0:PV) (h:Hp):CallA T base 9 [a0] h =
 bnd2 (CallA T base 29 [(.int .i64 4),a0] h) fun x4 h5 =>
 bnd2 (CallA T base 30 [x4,(.int .i64 0),(.int .i64 2)] h5) fun x8 h9 =>
 (extractB x8 0).bnd fun x11 =>
 (extractB x8 1).bnd fun x12 =>
 bnd2 (CallA T base 30 [x4,(.int .i64 2),(.int .i64 2)] h9) fun x16 h17 =>
 (extractB x16 0).bnd fun x19 =>
 (extractB x16 1).bnd fun x20 =>
 finV true false (size h) [x4,x11,x19] h17:=(Pt_enterK T_9 base _ h).trans (by kernel_rfl)
theorem S10 (base:Nat) (a0 a1:PV) (h:Hp):CallA T base 10 [a0,a1] h =
 (buildV [.nilp,.nilp] [(0,1,a0),(1,1,a1)]).bnd fun x4 =>
 bnd2 (CallA T base 16 [a0] h) fun x6 h7 =>
 bnd2 (CallA T base 16 [a1] h7) fun x9 h10 =>
 (minmaxV false [x6,x9]).bnd fun x11 =>
 (buildV [.nilp,.nilp,(.int .i64 0),(.int .i64 0),(.int .u32 0),(.int .i64 0),.nilm] [(0,2,x4),(2,1,x11)]).bnd fun x12 =>
 bnd2 (boxV 7 x12 h10) fun x13 h14 =>
 bnd2 (CallA T base 31 [a0] h14) fun x17 h18 =>
 bnd2 (CallA T base 32 [x17] h18) fun x19 h20 =>
 (wantB x19 false).bnd fun b23=>(whenB b23 (some a1) (some .undef)).bnd fun x22 =>
 (wantB x19 false).bnd fun b27=>bnd2 (whenB b27 (bnd2 (CallA T base 31 [x22] h20) fun x29 h28=>some (x29,h28)) (some (.undef,h20))) fun x26 h28 =>
 (wantB x19 false).bnd fun b31=>bnd2 (whenB b31 (bnd2 (CallA T base 32 [x26] h28) fun x33 h32=>some (x33,h32)) (some (.undef,h28))) fun x30 h32 =>
 (condB x19 (some (.bool true)) (some x30)).bnd fun x34 =>
 condB x34 (
 finV true false (size h) [.nilp,(.int .i64 30)] h32) (
 (nilckV x13).bnd fun x38 =>
 (fieldAB x38 2).bnd fun x39 =>
 (loadV 1 false x39 h32).bnd fun x40 =>
 (binOp .lss x40 (.int .i64 32)).bnd fun x41 =>
 condB x41 (
 finV true false (size h) [.nilp,(.int .i64 53)] h32) (
 bnd2 (CallA T base 33 [x13] h32) fun x45 h46 =>
 (extractB x45 0).bnd fun x48 =>
 (extractB x45 1).bnd fun x49 =>
 (binOp .neq x49 (.int .i64 0)).bnd fun x53 =>
 condB x53 (
 finV true false (size h) [.nilp,x49] h46) (
 (unOp .not x48).bnd fun x58 =>
 condB x58 (
 bnd2 (genV base h46 .makeMap []) fun x61 h62 =>
 (nilckV x13).bnd fun x63 =>
 (fieldAB x63 6).bnd fun x64 =>
 (storeV base 1 x64 x61 h62).bnd fun h65 =>
 (nilckV x13).bnd fun x66 =>
 (fieldAB x66 3).bnd fun x67 =>
 (storeV base 1 x67 (.int .i64 1) h65).bnd fun h68 =>
 (nilckV x13).bnd fun x71 =>
 (fieldAB x71 6).bnd fun x72 =>
 (loadV 1 false x72 h68).bnd fun x73 =>
 bnd2 (CallA T base 34 [x13,x73] h68) fun x74 h75 =>
 (binOp .neq x74 (.int .i64 0)).bnd fun x78 =>
 condB x78 (
 finV true false (size h) [.nilp,x74] h75) (
 finV true false (size h) [x13,(.int .i64 0)] h75)) (
 bnd2 (CallA T base 35 [x13] h46) fun x86 h87 =>
 (extractB x86 0).bnd fun x89 =>
 (extractB x86 1).bnd fun x90 =>
 (binOp .eql x90 (.int .i64 0)).bnd fun x94 =>
 (wantB x94 true).bnd fun b97=>(whenB b97 (some x89) (some .undef)).bnd fun x96 =>
 (condB x94 (some x96) (some (.bool false))).bnd fun x100 =>
 condB x100 (
 (nilckV x13).bnd fun x103 =>
 (fieldAB x103 6).bnd fun x104 =>
 (loadV 1 false x104 h87).bnd fun x105 =>
 bnd2 (CallA T base 34 [x13,x105] h87) fun x106 h107 =>
 (binOp .neq x106 (.int .i64 0)).bnd fun x110 =>
 condB x110 (
 finV true false (size h) [.nilp,x106] h107) (
 finV true false (size h) [x13,(.int .i64 0)] h107)) (
 (binOp .neq x90 (.int .i64 0)).bnd fun x118 =>
 condB x118 (
 finV true false (size h) [.nilp,x90] h87) (
 finV true false (size h) [x13,(.int .i64 0)] h87)))))):=(Pt_enterK T_10 base _ h).trans (by kernel_rfl)
theorem S11 (base:Nat) (a0:PV) (h:Hp):CallA T base 11 [a0] h =
 (nilckV a0).bnd fun x2 =>
 (fieldAB x2 2).bnd fun x3 =>
 (loadV 1 false x3 h).bnd fun x4 =>
 (nilckV a0).bnd fun x6 =>
 (fieldAB x6 5).bnd fun x7 =>
 (loadV 1 false x7 h).bnd fun x8 =>
 (binOp .sub x4 x8).bnd fun x9 =>
 finV false false (size h) [x9] h:=(Pt_enter T_11 base _ h).trans (by kernel_rfl)
theorem S12 (base:Nat) (a0:PV) (h:Hp):CallA T base 12 [a0] h =
 (nilckV a0).bnd fun x2 =>
 (fieldAB x2 4).bnd fun x3 =>
 (loadV 1 false x3 h).bnd fun x4 =>
 finV false false (size h) [x4] h:=(Pt_enter T_12 base _ h).trans (by kernel_rfl)
theorem S13 (base:Nat) (a0 a1:PV) (h:Hp):CallA T base 13 [a0,a1] h =
 (nilckV a0).bnd fun x3 =>
 (fieldAB x3 6).bnd fun x4 =>
 (loadV 1 false x4 h).bnd fun x5 =>
 bnd2 (genV (size h) h (.lookup [1] false .nils true) [x5,a1]) fun x7 h8 =>
 (extractB x7 0).bnd fun x10 =>
 (extractB x7 1).bnd fun x11 =>
 bnd2 (CallA T (size h) 36 [x10] h8) fun x15 h16 =>
 finV false true (size h) [x15,x11] h16:=(Pt_enter T_13 base _ h).trans (by kernel_rfl)
theorem S14 (base:Nat) (a0 a1 a2:PV) (h:Hp):CallA T base 14 [a0,a1,a2] h =
 bnd2 (CallA T base 37 [a0,a1,a2] h) fun x4 h5 =>
 (binOp .neq x4 (.int .i64 0)).bnd fun x8 =>
 condB x8 (
 finV true false (size h) [x4] h5) (
 (nilckV a0).bnd fun x12 =>
 (fieldAB x12 6).bnd fun x13 =>
 (loadV 1 false x13 h5).bnd fun x14 =>
 bnd2 (genV base h5 (.lookup [1] false .nils true) [x14,a1]) fun x16 h17 =>
 (extractB x16 0).bnd fun x19 =>
 (extractB x16 1).bnd fun x20 =>
 (wantB x20 true).bnd fun b26=>(whenB b26 (some x19) (some .undef)).bnd fun x25 =>
 (wantB x20 true).bnd fun b30=>(whenB b30 (some a2) (some .undef)).bnd fun x29 =>
 (wantB x20 true).bnd fun b34=>bnd2 (whenB b34 (bnd2 (CallA T base 38 [x25,x29] h17) fun x36 h35=>some (x36,h35)) (some (.undef,h17))) fun x33 h35 =>
 (condB x20 (some x33) (some (.bool false))).bnd fun x37 =>
 condB x37 (
 finV true false (size h) [(.int .i64 0)] h35) (
 (nilckV a0).bnd fun x40 =>
 (fieldAB x40 6).bnd fun x41 =>
 (loadV 1 false x41 h35).bnd fun x42 =>
 bnd2 (CallA T base 39 [x42] h35) fun x43 h44 =>
 bnd2 (orcQ (CallA T base) 36 [a2] h44) fun x49 h50=>(fun y=>if h50=h44 then y else none) <|
 bnd2 (genV base h44 (.mapUpd [1] false) [x43,a1,x49]) fun _ h51 =>
 bnd2 (orcQ (CallA T base) 41 [a1,a2,(.bool false)] h51) fun x55 h56=>(fun y=>if h56=h51 then y else none) <|
 bnd2 (CallA T base 40 [a0,x55,x43] h51) fun x58 h59 =>
 finV true false (size h) [x58] h59)):=(Pt_enterK T_14 base _ h).trans (by kernel_rfl)
noncomputable def P15_0 (base n0:Nat) (v5 v1 v0:PV) (h:Hp):Option (PV × Hp):=Pt T F15 [1,1,0,1,0,1] base n0 [(5,v5),(1,v1),(0,v0)] h
theorem P15_0_eq (base n0:Nat) (v5 v1 v0:PV) (h:Hp):P15_0 base n0 v5 v1 v0 h =
 (lenB false v0).bnd fun x2 =>
 (binOp .lss v5 x2).bnd fun x3 =>
 condB x3 (
 (idxAB v0 v5 1).bnd fun x6 =>
 (loadV 1 false x6 h).bnd fun x7 =>
 (idxAB v1 v5 1).bnd fun x10 =>
 (loadV 1 false x10 h).bnd fun x11 =>
 (binOp .neq x7 x11).bnd fun x12 =>
 condB x12 (
 finV false false n0 [(.bool false)] h) (
 (binOp .add v5 (.int .i64 1)).bnd fun x15 =>
 P15_0 base n0 x15 v1 v0 h)) (
 finV false false n0 [(.bool true)] h):=(Pt_eq T F15 [1,1,0,1,0,1] base n0 [(5,v5),(1,v1),(0,v0)] h).trans (by kernel_rfl)
theorem S15 (base:Nat) (a0 a1:PV) (h:Hp):CallA T base 15 [a0,a1] h =
 (lenB false a0).bnd fun x2 =>
 (lenB false a1).bnd fun x4 =>
 (binOp .neq x2 x4).bnd fun x5 =>
 condB x5 (
 finV false false (size h) [(.bool false)] h) (
 P15_0 (size h) (size h) (.int .i64 0) a1 a0 h):=(Pt_enter T_15 base _ h).trans (by kernel_rfl)
theorem S16 (base:Nat) (a0:PV) (h:Hp):CallA T base 16 [a0] h =
 (nilckV a0).bnd fun x2 =>
 (fieldAB x2 2).bnd fun x3 =>
 (loadV 1 false x3 h).bnd fun x4 =>
 (nilckV a0).bnd fun x6 =>
 (fieldAB x6 0).bnd fun x7 =>
 (loadV 1 false x7 h).bnd fun x8 =>
 bnd2 (orcQ (CallA T (size h)) 42 [x8] h) fun x9 h10=>(fun y=>if h10=h then y else none) <|
 (binOp .mul x4 x9).bnd fun x11 =>
 finV false false (size h) [x11] h:=(Pt_enter T_16 base _ h).trans (by kernel_rfl)
noncomputable def P17_0 (base n0:Nat) (v4 v0 v3:PV) (h:Hp):Option (PV × Hp):=Pt T F17 [1,1,0,1,0,1] base n0 [(4,v4),(0,v0),(3,v3)] h
theorem P17_0_eq (base n0:Nat) (v4 v0 v3:PV) (h:Hp):P17_0 base n0 v4 v0 v3 h =
 (lenB false v0).bnd fun x2 =>
 (binOp .lss v4 x2).bnd fun x3 =>
 condB x3 (
 (binOp .add v3 (.int .i64 7)).bnd fun x5 =>
 (idxAB v0 v4 2).bnd fun x8 =>
 (fieldAB x8 1).bnd fun x9 =>
 (loadV 1 false x9 h).bnd fun x10 =>
 (lenB false x10).bnd fun x11 =>
 (binOp .add x5 x11).bnd fun x12 =>
 (binOp .add v4 (.int .i64 1)).bnd fun x15 =>
 P17_0 base n0 x15 v0 x12 h) (
 finV false false n0 [v3] h):=(Pt_eq T F17 [1,1,0,1,0,1] base n0 [(4,v4),(0,v0),(3,v3)] h).trans (by kernel_rfl)
theorem S17 (base:Nat) (a0:PV) (h:Hp):CallA T base 17 [a0] h =
 P17_0 (size h) (size h) (.int .i64 0) a0 (.int .i64 8) h:=(Pt_enter T_17 base _ h).trans (by kernel_rfl)
noncomputable def P18_0 (base n0:Nat) (v12 v3 v0 v10 v11:PV) (h:Hp):Option (PV × Hp):=Pt T F18 [1,1,0,1,0,1] base n0 [(12,v12),(3,v3),(0,v0),(10,v10),(11,v11)] h
theorem P18_0_eq (base n0:Nat) (v12 v3 v0 v10 v11:PV) (h:Hp):P18_0 base n0 v12 v3 v0 v10 v11 h =
 (binOp .lss v12 v11).bnd fun x0 =>
 condB x0 (
 (idxAB v10 v12 1).bnd fun x1 =>
 (loadV 1 false x1 h).bnd fun x2 =>
 bnd2 (orcQ (CallA T base) 13 [v0,x2] h) fun x6 h7=>(fun y=>if h7=h then y else none) <|
 (extractB x6 0).bnd fun x9 =>
 (extractB x6 1).bnd fun x10 =>
 (unOp .not x10).bnd fun x14 =>
 condB x14 (
 finV false false n0 [.nils] h) (
 (buildV [(.int .i64 0),.nils] [(0,1,x2),(1,1,x9)]).bnd fun x19 =>
 (buildSlV 2 true [(.int .i64 0),.nils] 1 [(0,strip x19)]).bnd fun x20 =>
 bnd2 (appTV 78 2 v3 x20 h) fun x21 h22 =>
 (binOp .add v12 (.int .i64 1)).bnd fun x24 =>
 P18_0 base n0 x24 x21 v0 v10 v11 h22)) (
 finV false false n0 [v3] h):=(Pt_eq T F18 [1,1,0,1,0,1] base n0 [(12,v12),(3,v3),(0,v0),(10,v10),(11,v11)] h).trans (by kernel_rfl)
theorem S18 (base:Nat) (a0:PV) (h:Hp):CallA T base 18 [a0] h =
 (buildSlV 2 true [(.int .i64 0),.nils] 0 []).bnd fun x1 =>
 bnd2 (orcQ (CallA T (size h)) 20 [a0] h) fun x4 h5=>(fun y=>if h5=h then y else none) <|
 (lenB false x4).bnd fun x6 =>
 P18_0 (size h) (size h) (.int .i64 0) x1 a0 x4 x6 h:=(Pt_enter T_18 base _ h).trans (by kernel_rfl)
theorem S19 (base:Nat) (a0:PV) (h:Hp):CallA T base 19 [a0] h =
 (nilckV a0).bnd fun x2 =>
 (fieldAB x2 3).bnd fun x3 =>
 (loadV 1 false x3 h).bnd fun x4 =>
 finV false false (size h) [x4] h:=(Pt_enter T_19 base _ h).trans (by kernel_rfl)
theorem S20 (base:Nat) (a0:PV) (h:Hp):CallA T base 20 [a0] h =
 (nilckV a0).bnd fun x2 =>
 (fieldAB x2 6).bnd fun x3 =>
 (loadV 1 false x3 h).bnd fun x4 =>
 bnd2 (CallA T (size h) 44 [x4] h) fun x5 h6 =>
 bnd2 (CallA T (size h) 43 [x5] h6) fun x7 h8 =>
 finV false false (size h) [x7] h8:=(Pt_enter T_20 base _ h).trans (by kernel_rfl)
theorem S21 (base:Nat) (a0 a1:PV) (h:Hp):CallA T base 21 [a0,a1] h =
 (minmaxV true [a1,(.int .i64 (-1))]).bnd fun x2 =>
 (nilckV a0).bnd fun x3 =>
 (fieldAB x3 4).bnd fun x4 =>
 (storeV (size h) 1 x4 x2 h).bnd fun h5 =>
 finV false false (size h) [] h5:=(Pt_enter T_21 base _ h).trans (by kernel_rfl)
noncomputable def P22_0 (base n0:Nat) (v9 v0 v1 v2 v7 v8:PV) (h:Hp):Option (PV × Hp):=Pt T F22 [1,1,1,0,1,0,1] base n0 [(9,v9),(0,v0),(1,v1),(2,v2),(7,v7),(8,v8)] h
theorem P22_0_eq (base n0:Nat) (v9 v0 v1 v2 v7 v8:PV) (h:Hp):P22_0 base n0 v9 v0 v1 v2 v7 v8 h =
 (lenB false v0).bnd fun x2 =>
 (binOp .lss v9 x2).bnd fun x3 =>
 condB x3 (
 (unOp .not v8).bnd fun x5 =>
 (wantB x5 true).bnd fun b8=>(whenB b8 (some v0) (some .undef)).bnd fun x7 =>
 (wantB x5 true).bnd fun b12=>(whenB b12 (some v9) (some .undef)).bnd fun x11 =>
 (wantB x5 true).bnd fun b16=>(whenB b16 ((idxAB x7 x11 2).bnd some) (some .undef)).bnd fun x15 =>
 (wantB x5 true).bnd fun b20=>(whenB b20 ((fieldAB x15 0).bnd some) (some .undef)).bnd fun x19 =>
 (wantB x5 true).bnd fun b24=>(whenB b24 ((loadV 1 false x19 h).bnd some) (some .undef)).bnd fun x23 =>
 (wantB x5 true).bnd fun b28=>(whenB b28 (some v1) (some .undef)).bnd fun x27 =>
 (wantB x5 true).bnd fun b32=>(whenB b32 ((binOp .geq x23 x27).bnd some) (some .undef)).bnd fun x31 =>
 (condB x5 (some x31) (some (.bool false))).bnd fun x35 =>
 condB x35 (
 bnd2 (CallA T base 45 [v2] h) fun x39 h40 =>
 (buildV [(.int .i64 0),.nils] [(0,1,v1),(1,1,x39)]).bnd fun x41 =>
 (buildSlV 2 true [(.int .i64 0),.nils] 1 [(0,strip x41)]).bnd fun x42 =>
 bnd2 (appTV 78 2 v7 x42 h40) fun x43 h44 =>
 (idxAB v0 v9 2).bnd fun x49 =>
 (fieldAB x49 0).bnd fun x50 =>
 (loadV 1 false x50 h44).bnd fun x51 =>
 (binOp .neq x51 v1).bnd fun x53 =>
 condB x53 (
 (idxAB v0 v9 2).bnd fun x57 =>
 (loadV 2 true x57 h44).bnd fun x58 =>
 (buildSlV 2 true [(.int .i64 0),.nils] 1 [(0,strip x58)]).bnd fun x59 =>
 bnd2 (appTV 78 2 x43 x59 h44) fun x60 h61 =>
 (binOp .add v9 (.int .i64 1)).bnd fun x64 =>
 P22_0 base n0 x64 v0 v1 v2 x60 (.bool true) h61) (
 (binOp .add v9 (.int .i64 1)).bnd fun x67 =>
 P22_0 base n0 x67 v0 v1 v2 x43 (.bool true) h44)) (
 (idxAB v0 v9 2).bnd fun x71 =>
 (fieldAB x71 0).bnd fun x72 =>
 (loadV 1 false x72 h).bnd fun x73 =>
 (binOp .neq x73 v1).bnd fun x75 =>
 condB x75 (
 (idxAB v0 v9 2).bnd fun x79 =>
 (loadV 2 true x79 h).bnd fun x80 =>
 (buildSlV 2 true [(.int .i64 0),.nils] 1 [(0,strip x80)]).bnd fun x81 =>
 bnd2 (appTV 78 2 v7 x81 h) fun x82 h83 =>
 (binOp .add v9 (.int .i64 1)).bnd fun x86 =>
 P22_0 base n0 x86 v0 v1 v2 x82 v8 h83) (
 (binOp .add v9 (.int .i64 1)).bnd fun x89 =>
 P22_0 base n0 x89 v0 v1 v2 v7 v8 h))) (
 (unOp .not v8).bnd fun x92 =>
 condB x92 (
 bnd2 (CallA T base 45 [v2] h) fun x96 h97 =>
 (buildV [(.int .i64 0),.nils] [(0,1,v1),(1,1,x96)]).bnd fun x98 =>
 (buildSlV 2 true [(.int .i64 0),.nils] 1 [(0,strip x98)]).bnd fun x99 =>
 bnd2 (appTV 78 2 v7 x99 h97) fun x100 h101 =>
 finV false false n0 [x100] h101) (
 finV false false n0 [v7] h)):=(Pt_eq T F22 [1,1,1,0,1,0,1] base n0 [(9,v9),(0,v0),(1,v1),(2,v2),(7,v7),(8,v8)] h).trans (by kernel_rfl)
theorem S22 (base:Nat) (a0 a1 a2:PV) (h:Hp):CallA T base 22 [a0,a1,a2] h =
 (buildSlV 2 true [(.int .i64 0),.nils] 0 []).bnd fun x1 =>
 P22_0 (size h) (size h) (.int .i64 0) a0 a1 a2 x1 (.bool false) h:=(Pt_enter T_22 base _ h).trans (by kernel_rfl)
theorem S23 (base:Nat) (a0 a1:PV) (h:Hp):CallA T base 23 [a0,a1] h =
 bnd2 (CallA T base 37 [a0,a1,.nils] h) fun x3 h4 =>
 (binOp .neq x3 (.int .i64 0)).bnd fun x7 =>
 condB x7 (
 finV true false (size h) [x3] h4) (
 (nilckV a0).bnd fun x11 =>
 (fieldAB x11 6).bnd fun x12 =>
 (loadV 1 false x12 h4).bnd fun x13 =>
 bnd2 (genV base h4 (.lookup [1] false .nils true) [x13,a1]) fun x15 h16 =>
 (extractB x15 0).bnd fun x18 =>
 (extractB x15 1).bnd fun x19 =>
 (unOp .not x19).bnd fun x23 =>
 condB x23 (
 finV true false (size h) [(.int .i64 4)] h16) (
 (nilckV a0).bnd fun x26 =>
 (fieldAB x26 6).bnd fun x27 =>
 (loadV 1 false x27 h16).bnd fun x28 =>
 bnd2 (CallA T base 39 [x28] h16) fun x29 h30 =>
 bnd2 (genV base h30 (.mapDel [1] false) [x29,a1]) fun _ h34 =>
 bnd2 (CallA T base 41 [a1,.nils,(.bool true)] h34) fun x37 h38 =>
 bnd2 (CallA T base 40 [a0,x37,x29] h38) fun x40 h41 =>
 finV true false (size h) [x40] h41)):=(Pt_enterK T_23 base _ h).trans (by kernel_rfl)
noncomputable def P24_0 (base n0:Nat) (v6 v0 v5 v1:PV) (h:Hp):Option (PV × Hp):=Pt T F24 [1,1,0,1,0,1] base n0 [(6,v6),(0,v0),(5,v5),(1,v1)] h
theorem P24_0_eq (base n0:Nat) (v6 v0 v5 v1:PV) (h:Hp):P24_0 base n0 v6 v0 v5 v1 h =
 (lenB false v0).bnd fun x2 =>
 (binOp .lss v6 x2).bnd fun x3 =>
 condB x3 (
 (idxAB v0 v6 2).bnd fun x6 =>
 (fieldAB x6 0).bnd fun x7 =>
 (loadV 1 false x7 h).bnd fun x8 =>
 (binOp .neq x8 v1).bnd fun x10 =>
 condB x10 (
 (idxAB v0 v6 2).bnd fun x14 =>
 (loadV 2 true x14 h).bnd fun x15 =>
 (buildSlV 2 true [(.int .i64 0),.nils] 1 [(0,strip x15)]).bnd fun x16 =>
 bnd2 (appTV 78 2 v5 x16 h) fun x17 h18 =>
 (binOp .add v6 (.int .i64 1)).bnd fun x21 =>
 P24_0 base n0 x21 v0 x17 v1 h18) (
 (binOp .add v6 (.int .i64 1)).bnd fun x24 =>
 P24_0 base n0 x24 v0 v5 v1 h)) (
 finV false false n0 [v5] h):=(Pt_eq T F24 [1,1,0,1,0,1] base n0 [(6,v6),(0,v0),(5,v5),(1,v1)] h).trans (by kernel_rfl)
theorem S24 (base:Nat) (a0 a1:PV) (h:Hp):CallA T base 24 [a0,a1] h =
 (buildSlV 2 true [(.int .i64 0),.nils] 0 []).bnd fun x1 =>
 P24_0 (size h) (size h) (.int .i64 0) a0 x1 a1 h:=(Pt_enter T_24 base _ h).trans (by kernel_rfl)
noncomputable def P25_0 (base n0:Nat) (v5 v1 v0:PV) (h:Hp):Option (PV × Hp):=Pt T F25 [1,1,0,1,0,1] base n0 [(5,v5),(1,v1),(0,v0)] h
theorem P25_0_eq (base n0:Nat) (v5 v1 v0:PV) (h:Hp):P25_0 base n0 v5 v1 v0 h =
 (lenB false v0).bnd fun x2 =>
 (binOp .lss v5 x2).bnd fun x3 =>
 condB x3 (
 (idxAB v0 v5 2).bnd fun x6 =>
 (fieldAB x6 0).bnd fun x7 =>
 (loadV 1 false x7 h).bnd fun x8 =>
 (idxAB v1 v5 2).bnd fun x11 =>
 (fieldAB x11 0).bnd fun x12 =>
 (loadV 1 false x12 h).bnd fun x13 =>
 (binOp .neq x8 x13).bnd fun x14 =>
 (wantB x14 false).bnd fun b17=>(whenB b17 (some v0) (some .undef)).bnd fun x16 =>
 (wantB x14 false).bnd fun b21=>(whenB b21 (some v5) (some .undef)).bnd fun x20 =>
 (wantB x14 false).bnd fun b25=>(whenB b25 ((idxAB x16 x20 2).bnd some) (some .undef)).bnd fun x24 =>
 (wantB x14 false).bnd fun b29=>(whenB b29 ((fieldAB x24 1).bnd some) (some .undef)).bnd fun x28 =>
 (wantB x14 false).bnd fun b33=>(whenB b33 ((loadV 1 false x28 h).bnd some) (some .undef)).bnd fun x32 =>
 (wantB x14 false).bnd fun b37=>(whenB b37 (some v1) (some .undef)).bnd fun x36 =>
 (wantB x14 false).bnd fun b41=>(whenB b41 (some v5) (some .undef)).bnd fun x40 =>
 (wantB x14 false).bnd fun b45=>(whenB b45 ((idxAB x36 x40 2).bnd some) (some .undef)).bnd fun x44 =>
 (wantB x14 false).bnd fun b49=>(whenB b49 ((fieldAB x44 1).bnd some) (some .undef)).bnd fun x48 =>
 (wantB x14 false).bnd fun b53=>(whenB b53 ((loadV 1 false x48 h).bnd some) (some .undef)).bnd fun x52 =>
 (wantB x14 false).bnd fun b57=>bnd2 (whenB b57 (bnd2 (CallA T base 15 [x32,x52] h) fun x59 h58=>some (x59,h58)) (some (.undef,h))) fun x56 h58 =>
 (wantB x14 false).bnd fun b61=>(whenB b61 ((unOp .not x56).bnd some) (some .undef)).bnd fun x60 =>
 (condB x14 (some (.bool true)) (some x60)).bnd fun x64 =>
 condB x64 (
 finV false false n0 [(.bool false)] h58) (
 (binOp .add v5 (.int .i64 1)).bnd fun x67 =>
 P25_0 base n0 x67 v1 v0 h58)) (
 finV false false n0 [(.bool true)] h):=(Pt_eq T F25 [1,1,0,1,0,1] base n0 [(5,v5),(1,v1),(0,v0)] h).trans (by kernel_rfl)
theorem S25 (base:Nat) (a0 a1:PV) (h:Hp):CallA T base 25 [a0,a1] h =
 (lenB false a0).bnd fun x2 =>
 (lenB false a1).bnd fun x4 =>
 (binOp .neq x2 x4).bnd fun x5 =>
 condB x5 (
 finV false false (size h) [(.bool false)] h) (
 P25_0 (size h) (size h) (.int .i64 0) a1 a0 h):=(Pt_enter T_25 base _ h).trans (by kernel_rfl)
theorem S26 (base:Nat) (a0:PV) (h:Hp):CallA T base 26 [a0] h =
 (nilckV a0).bnd fun x2 =>
 (fieldAB x2 4).bnd fun x3 =>
 (storeV (size h) 1 x3 (.int .i64 (-1)) h).bnd fun h4 =>
 (nilckV a0).bnd fun x5 =>
 (fieldAB x5 5).bnd fun x6 =>
 (storeV (size h) 1 x6 (.bool false) h4).bnd fun h7 =>
 finV false false (size h) [] h7:=(Pt_enter T_26 base _ h).trans (by kernel_rfl)
theorem S27 (base:Nat) (a0 a1:PV) (h:Hp):CallA T base 27 [a0,a1] h =
 (nilckV a0).bnd fun x1 =>
 (fieldAB x1 0).bnd fun x2 =>
 (loadV 1 false x2 h).bnd fun x3 =>
 bnd2 (copyV (size h) x3 a1 h) fun x5 h6 =>
 bnd2 (CallA T (size h) 26 [a0] h6) fun x8 h9 =>
 finV false false (size h) [] h9:=(Pt_enter T_27 base _ h).trans (by kernel_rfl)
theorem S28 (base:Nat) (a0:PV) (h:Hp):CallA T base 28 [a0] h =
 (nilckV a0).bnd fun x2 =>
 (fieldAB x2 0).bnd fun x3 =>
 (loadV 1 false x3 h).bnd fun x4 =>
 bnd2 (CallA T (size h) 36 [x4] h) fun x5 h6 =>
 finV false false (size h) [x5] h6:=(Pt_enter T_28 base _ h).trans (by kernel_rfl)
theorem S30 (base:Nat) (a0 a1 a2:PV) (h:Hp):CallA T base 30 [a0,a1,a2] h =
 bnd2 (CallA T base 47 [a0] h) fun x3 h4 =>
 bnd2 (CallA T base 42 [a0] h4) fun x6 h7 =>
 (binOp .quo x3 x6).bnd fun x8 =>
 (binOp .lss a2 (.int .i64 1)).bnd fun x11 =>
 (wantB x11 false).bnd fun b14=>(whenB b14 (some a1) (some .undef)).bnd fun x13 =>
 (wantB x11 false).bnd fun b18=>(whenB b18 ((binOp .lss x13 (.int .i64 0)).bnd some) (some .undef)).bnd fun x17 =>
 (condB x11 (some (.bool true)) (some x17)).bnd fun x21 =>
 (wantB x21 false).bnd fun b24=>(whenB b24 (some a1) (some .undef)).bnd fun x23 =>
 (wantB x21 false).bnd fun b28=>(whenB b28 (some x8) (some .undef)).bnd fun x27 =>
 (wantB x21 false).bnd fun b32=>(whenB b32 ((binOp .geq x23 x27).bnd some) (some .undef)).bnd fun x31 =>
 (condB x21 (some (.bool true)) (some x31)).bnd fun x35 =>
 (wantB x35 false).bnd fun b38=>(whenB b38 (some a2) (some .undef)).bnd fun x37 =>
 (wantB x35 false).bnd fun b42=>(whenB b42 (some x8) (some .undef)).bnd fun x41 =>
 (wantB x35 false).bnd fun b46=>(whenB b46 (some a1) (some .undef)).bnd fun x45 =>
 (wantB x35 false).bnd fun b50=>(whenB b50 ((binOp .sub x41 x45).bnd some) (some .undef)).bnd fun x49 =>
 (wantB x35 false).bnd fun b54=>(whenB b54 ((binOp .gtr x37 x49).bnd some) (some .undef)).bnd fun x53 =>
 (condB x35 (some (.bool true)) (some x53)).bnd fun x57 =>
 condB x57 (
 finV true false (size h) [.nilp,(.int .i64 1)] h7) (
 (buildV [.nilp,(.int .i64 0),(.int .i64 0)] [(0,1,a0),(1,1,a1),(2,1,a2)]).bnd fun x63 =>
 bnd2 (boxV 3 x63 h7) fun x64 h65 =>
 finV true false (size h) [x64,(.int .i64 0)] h65):=(Pt_enterK T_30 base _ h).trans (by kernel_rfl)
theorem S31 (base:Nat) (a0:PV) (h:Hp):CallA T base 31 [a0] h =
 (nilckV a0).bnd fun x2 =>
 (fieldAB x2 0).bnd fun x3 =>
 (loadV 1 false x3 h).bnd fun x4 =>
 finV false false (size h) [x4] h:=(Pt_enter T_31 base _ h).trans (by kernel_rfl)
theorem S32 (base:Nat) (a0:PV) (h:Hp):CallA T base 32 [a0] h =
 (nilckV a0).bnd fun x2 =>
 (fieldAB x2 5).bnd fun x3 =>
 (loadV 1 false x3 h).bnd fun x4 =>
 finV false false (size h) [x4] h:=(Pt_enter T_32 base _ h).trans (by kernel_rfl)
noncomputable def P33_0 (base n0:Nat) (v10 v0 v4:PV) (h:Hp):Option (PV × Hp):=Pt T F33 [1,1,0,1,0,1] base n0 [(10,v10),(0,v0),(4,v4)] h
theorem P33_0_eq (base n0:Nat) (v10 v0 v4:PV) (h:Hp):P33_0 base n0 v10 v0 v4 h =
 (binOp .lss v10 (.int .i64 2)).bnd fun x0 =>
 condB x0 (
 bnd2 (CallA T base 48 [v0,v10] h) fun x5 h6 =>
 (extractB x5 0).bnd fun x8 =>
 (extractB x5 1).bnd fun x9 =>
 (binOp .neq x9 (.int .i64 0)).bnd fun x13 =>
 condB x13 (
 finV false false n0 [(.bool false),x9] h6) (
 (sliceV (some 1) (some (.int .i64 1)) none none x8).bnd fun x18 =>
 bnd2 (CallA T base 49 [x18] h6) fun x19 h20 =>
 (extractB x19 0).bnd fun x22 =>
 (extractB x19 1).bnd fun x23 =>
 (idxAB x8 (.int .i64 0) 1).bnd fun x27 =>
 (loadV 1 false x27 h20).bnd fun x28 =>
 (binOp .eql x28 (.int .u8 0)).bnd fun x29 =>
 (wantB x29 true).bnd fun b32=>(whenB b32 (some v4) (some .undef)).bnd fun x31 =>
 (wantB x29 true).bnd fun b36=>(whenB b36 ((unOp .not x31).bnd some) (some .undef)).bnd fun x35 =>
 (wantB x29 true).bnd fun b40=>(whenB b40 (some x35) (some .undef)).bnd fun x39 =>
 (wantB x39 false).bnd fun b44=>(whenB b44 (some x22) (some .undef)).bnd fun x43 =>
 (wantB x39 false).bnd fun b48=>(whenB b48 (some v0) (some .undef)).bnd fun x47 =>
 (wantB x39 false).bnd fun b52=>(whenB b52 ((nilckV x47).bnd some) (some .undef)).bnd fun x51 =>
 (wantB x39 false).bnd fun b56=>(whenB b56 ((fieldAB x51 4).bnd some) (some .undef)).bnd fun x55 =>
 (wantB x39 false).bnd fun b60=>(whenB b60 ((loadV 1 false x55 h20).bnd some) (some .undef)).bnd fun x59 =>
 (wantB x39 false).bnd fun b64=>(whenB b64 ((binOp .gtr x43 x59).bnd some) (some .undef)).bnd fun x63 =>
 (wantB x29 true).bnd fun b68=>(whenB b68 ((condB x39 (some (.bool true)) (some x63)).bnd some) (some .undef)).bnd fun x67 =>
 (condB x29 (some x67) (some (.bool false))).bnd fun x71 =>
 condB x71 (
 (nilckV v0).bnd fun x76 =>
 (fieldAB x76 3).bnd fun x77 =>
 (storeV base 1 x77 v10 h20).bnd fun h78 =>
 (nilckV v0).bnd fun x79 =>
 (fieldAB x79 4).bnd fun x80 =>
 (storeV base 1 x80 x22 h78).bnd fun h81 =>
 (binOp .add v10 (.int .i64 1)).bnd fun x83 =>
 P33_0 base n0 x83 v0 (.bool true) h81) (
 (binOp .add v10 (.int .i64 1)).bnd fun x85 =>
 P33_0 base n0 x85 v0 v4 h20))) (
 finV false false n0 [v4,(.int .i64 0)] h):=(Pt_eq T F33 [1,1,0,1,0,1] base n0 [(10,v10),(0,v0),(4,v4)] h).trans (by kernel_rfl)
theorem S33 (base:Nat) (a0:PV) (h:Hp):CallA T base 33 [a0] h =
 P33_0 (size h) (size h) (.int .i64 0) a0 (.bool false) h:=(Pt_enter T_33 base _ h).trans (by kernel_rfl)
noncomputable def P34_0 (base n0:Nat) (v0 v1 v8 v5 v6 v9:PV) (h:Hp):Option (PV × Hp):=Pt T F34 [1,1,1,1,1,1,1,1] base n0 [(0,v0),(1,v1),(8,v8),(5,v5),(6,v6),(9,v9)] h
theorem P34_0_eq (base n0:Nat) (v0 v1 v8 v5 v6 v9:PV) (h:Hp):P34_0 base n0 v0 v1 v8 v5 v6 v9 h =
 (binOp .eql v9 (.int .i64 0)).bnd fun x1 =>
 condB x1 (
 (buildSlV 1 false [(.int .u8 0)] 1 [(0,strip (.int .u8 0))]).bnd fun x3 =>
 bnd2 (CallA T base 53 [v6,(.int .i64 0),x3] h) fun x4 h5 =>
 (binOp .neq x4 (.int .i64 0)).bnd fun x8 =>
 condB x8 (
 finV true false n0 [x4] h5) (
 (nilckV v0).bnd fun x17 =>
 (fieldAB x17 3).bnd fun x18 =>
 (storeV base 1 x18 v5 h5).bnd fun h19 =>
 (nilckV v0).bnd fun x20 =>
 (fieldAB x20 5).bnd fun x21 =>
 (storeV base 1 x21 v8 h19).bnd fun h22 =>
 (nilckV v0).bnd fun x23 =>
 (fieldAB x23 6).bnd fun x24 =>
 (storeV base 1 x24 v1 h22).bnd fun h25 =>
 (nilckV v0).bnd fun x27 =>
 (fieldAB x27 4).bnd fun x28 =>
 (loadV 1 false x28 h25).bnd fun x29 =>
 (binOp .add x29 (.int .u32 1)).bnd fun x30 =>
 (nilckV v0).bnd fun x31 =>
 (fieldAB x31 4).bnd fun x32 =>
 (storeV base 1 x32 x30 h25).bnd fun h33 =>
 finV true false n0 [(.int .i64 0)] h33)) (
 (binOp .neq v9 (.int .i64 0)).bnd fun x36 =>
 condB x36 (
 finV true false n0 [v9] h) (
 (nilckV v0).bnd fun x45 =>
 (fieldAB x45 3).bnd fun x46 =>
 (storeV base 1 x46 v5 h).bnd fun h47 =>
 (nilckV v0).bnd fun x48 =>
 (fieldAB x48 5).bnd fun x49 =>
 (storeV base 1 x49 v8 h47).bnd fun h50 =>
 (nilckV v0).bnd fun x51 =>
 (fieldAB x51 6).bnd fun x52 =>
 (storeV base 1 x52 v1 h50).bnd fun h53 =>
 (nilckV v0).bnd fun x55 =>
 (fieldAB x55 4).bnd fun x56 =>
 (loadV 1 false x56 h53).bnd fun x57 =>
 (binOp .add x57 (.int .u32 1)).bnd fun x58 =>
 (nilckV v0).bnd fun x59 =>
 (fieldAB x59 4).bnd fun x60 =>
 (storeV base 1 x60 x58 h53).bnd fun h61 =>
 finV true false n0 [(.int .i64 0)] h61)):=(Pt_eq T F34 [1,1,1,1,1,1,1,1] base n0 [(0,v0),(1,v1),(8,v8),(5,v5),(6,v6),(9,v9)] h).trans (by kernel_rfl)
theorem S34 (base:Nat) (a0 a1:PV) (h:Hp):CallA T base 34 [a0,a1] h =
 bnd2 (orcQ (CallA T base) 50 [a1] h) fun x2 h3=>(fun y=>if h3=h then y else none) <|
 (nilckV a0).bnd fun x5 =>
 (fieldAB x5 2).bnd fun x6 =>
 (loadV 1 false x6 h).bnd fun x7 =>
 (binOp .gtr x2 x7).bnd fun x8 =>
 condB x8 (
 finV true false (size h) [(.int .i64 6)] h) (
 (nilckV a0).bnd fun x12 =>
 (fieldAB x12 4).bnd fun x13 =>
 (loadV 1 false x13 h).bnd fun x14 =>
 (binOp .eql x14 (.int .u32 4294967295)).bnd fun x15 =>
 condB x15 (
 finV true false (size h) [(.int .i64 3)] h) (
 (nilckV a0).bnd fun x19 =>
 (fieldAB x19 3).bnd fun x20 =>
 (loadV 1 false x20 h).bnd fun x21 =>
 (binOp .sub (.int .i64 1) x21).bnd fun x22 =>
 (nilckV a0).bnd fun x26 =>
 (fieldAB x26 0).bnd fun x27 =>
 (idxArrV 1 2 x27 x22).bnd fun x28 =>
 (loadV 1 false x28 h).bnd fun x29 =>
 bnd2 (CallA T base 51 [x29] h) fun x32 h33 =>
 (binOp .neq x32 (.int .i64 0)).bnd fun x36 =>
 condB x36 (
 finV true false (size h) [x32] h33) (
 bnd2 (CallA T base 52 [x29,a1] h33) fun x41 h42 =>
 (extractB x41 0).bnd fun x44 =>
 (extractB x41 1).bnd fun x45 =>
 (binOp .eql x45 (.int .i64 0)).bnd fun x49 =>
 condB x49 (
 (nilckV a0).bnd fun x52 =>
 (fieldAB x52 4).bnd fun x53 =>
 (loadV 1 false x53 h42).bnd fun x54 =>
 (binOp .add x54 (.int .u32 1)).bnd fun x55 =>
 bnd2 (CallA T base 54 [.nils,x55] h42) fun x56 h57 =>
 bnd2 (CallA T base 53 [x29,(.int .i64 1),x56] h57) fun x58 h59 =>
 P34_0 base (size h) a0 a1 x44 x22 x29 x58 h59) (
 P34_0 base (size h) a0 a1 x44 x22 x29 x45 h42)))):=(Pt_enterK T_34 base _ h).trans (by kernel_rfl)
noncomputable def P35_0 (base n0:Nat) (v0 v4:PV) (h:Hp):Option (PV × Hp):=Pt T F35 [1,1,1,1,0,0,1] base n0 [(0,v0),(4,v4)] h
noncomputable def P35_1 (base n0:Nat) (v76 v74 v75:PV) (h:Hp):Option (PV × Hp):=Pt T F35 [1,1,1,1,1,0,1,0,1] base n0 [(76,v76),(74,v74),(75,v75)] h
theorem P35_0_eq (base n0:Nat) (v0 v4:PV) (h:Hp):P35_0 base n0 v0 v4 h =
 (nilckV v0).bnd fun x2 =>
 (fieldAB x2 5).bnd fun x3 =>
 (loadV 1 false x3 h).bnd fun x4 =>
 bnd2 (CallA T base 55 [v4,x4] h) fun x5 h6 =>
 (extractB x5 0).bnd fun x8 =>
 (extractB x5 1).bnd fun x9 =>
 allocK [(.int .i64 0),.nils,(.bool false),(.int .i64 0)] h6 fun x10 h11 =>
 (storeV base 4 x10 x8 h11).bnd fun h12 =>
 (unOp .not x9).bnd fun x15 =>
 condB x15 (
 (nilckV v0).bnd fun x18 =>
 (fieldAB x18 5).bnd fun x19 =>
 (loadV 1 false x19 h12).bnd fun x20 =>
 (sliceV (some 1) (some x20) none none v4).bnd fun x21 =>
 (lenB false x21).bnd fun x22 =>
 P35_1 base n0 (.int .i64 0) x21 x22 h12) (
 (nilckV v0).bnd fun x26 =>
 (fieldAB x26 5).bnd fun x27 =>
 (loadV 1 false x27 h12).bnd fun x28 =>
 (loadV 4 true x10 h12).bnd fun x29 =>
 bnd2 (CallA T base 56 [v4,x28,x29] h12) fun x30 h31 =>
 (unOp .not x30).bnd fun x32 =>
 condB x32 (
 finV true false n0 [(.bool false),(.int .i64 40)] h31) (
 (fieldAB x10 2).bnd fun x35 =>
 (loadV 1 false x35 h31).bnd fun x36 =>
 condB x36 (
 (nilckV v0).bnd fun x38 =>
 (fieldAB x38 6).bnd fun x39 =>
 (loadV 1 false x39 h31).bnd fun x40 =>
 (fieldAB x10 0).bnd fun x41 =>
 (loadV 1 false x41 h31).bnd fun x42 =>
 bnd2 (genV base h31 (.mapDel [1] false) [x40,x42]) fun _ h43 =>
 (fieldAB x10 3).bnd fun x45 =>
 (loadV 1 false x45 h43).bnd fun x46 =>
 (nilckV v0).bnd fun x47 =>
 (fieldAB x47 5).bnd fun x48 =>
 (storeV base 1 x48 x46 h43).bnd fun h49 =>
 P35_0 base n0 v0 v4 h49) (
 (nilckV v0).bnd fun x51 =>
 (fieldAB x51 6).bnd fun x52 =>
 (loadV 1 false x52 h31).bnd fun x53 =>
 (fieldAB x10 0).bnd fun x54 =>
 (loadV 1 false x54 h31).bnd fun x55 =>
 (fieldAB x10 1).bnd fun x56 =>
 (loadV 1 false x56 h31).bnd fun x57 =>
 bnd2 (orcQ (CallA T base) 36 [x57] h31) fun x58 h59=>(fun y=>if h59=h31 then y else none) <|
 bnd2 (genV base h31 (.mapUpd [1] false) [x53,x55,x58]) fun _ h60 =>
 (fieldAB x10 3).bnd fun x62 =>
 (loadV 1 false x62 h60).bnd fun x63 =>
 (nilckV v0).bnd fun x64 =>
 (fieldAB x64 5).bnd fun x65 =>
 (storeV base 1 x65 x63 h60).bnd fun h66 =>
 P35_0 base n0 v0 v4 h66))):=(Pt_eq T F35 [1,1,1,1,0,0,1] base n0 [(0,v0),(4,v4)] h).trans (by kernel_rfl)
theorem P35_1_eq (base n0:Nat) (v76 v74 v75:PV) (h:Hp):P35_1 base n0 v76 v74 v75 h =
 (binOp .lss v76 v75).bnd fun x0 =>
 condB x0 (
 (idxAB v74 v76 1).bnd fun x1 =>
 (loadV 1 false x1 h).bnd fun x2 =>
 (binOp .neq x2 (.int .u8 255)).bnd fun x5 =>
 condB x5 (
 finV true false n0 [(.bool true),(.int .i64 0)] h) (
 (binOp .add v76 (.int .i64 1)).bnd fun x8 =>
 P35_1 base n0 x8 v74 v75 h)) (
 finV true false n0 [(.bool false),(.int .i64 0)] h):=(Pt_eq T F35 [1,1,1,1,1,0,1,0,1] base n0 [(76,v76),(74,v74),(75,v75)] h).trans (by kernel_rfl)
theorem S35 (base:Nat) (a0:PV) (h:Hp):CallA T base 35 [a0] h =
 (nilckV a0).bnd fun x4 =>
 (fieldAB x4 3).bnd fun x5 =>
 (loadV 1 false x5 h).bnd fun x6 =>
 bnd2 (CallA T base 48 [a0,x6] h) fun x7 h8 =>
 (extractB x7 0).bnd fun x10 =>
 (extractB x7 1).bnd fun x11 =>
 (binOp .neq x11 (.int .i64 0)).bnd fun x15 =>
 condB x15 (
 finV true false (size h) [(.bool false),x11] h8) (
 bnd2 (genV base h8 .makeMap []) fun x21 h22 =>
 (nilckV a0).bnd fun x23 =>
 (fieldAB x23 6).bnd fun x24 =>
 (storeV base 1 x24 x21 h22).bnd fun h25 =>
 (nilckV a0).bnd fun x26 =>
 (fieldAB x26 5).bnd fun x27 =>
 (storeV base 1 x27 (.int .i64 8) h25).bnd fun h28 =>
 P35_0 base (size h) a0 x10 h28):=(Pt_enterK T_35 base _ h).trans (by kernel_rfl)
theorem S36 (base:Nat) (a0:PV) (h:Hp):CallA T base 36 [a0] h =
 (isnilV 1 false a0).bnd fun x2 =>
 condB x2 (
 finV false true (size h) [.nils] h) (
 (buildSlV 1 false [(.int .u8 0)] 0 []).bnd fun x4 =>
 bnd2 (appBoxV 1 x4 a0 h) fun x6 h7 =>
 finV false true (size h) [x6] h7):=(Pt_enter T_36 base _ h).trans (by kernel_rfl)
theorem S37 (base:Nat) (a0 a1 a2:PV) (h:Hp):CallA T base 37 [a0,a1,a2] h =
 (nilckV a0).bnd fun x2 =>
 (fieldAB x2 0).bnd fun x3 =>
 (idxArrV 1 2 x3 (.int .i64 0)).bnd fun x4 =>
 (loadV 1 false x4 h).bnd fun x5 =>
 bnd2 (CallA T (size h) 31 [x5] h) fun x6 h7 =>
 bnd2 (CallA T (size h) 32 [x6] h7) fun x8 h9 =>
 condB x8 (
 condB x8 (
 finV false false (size h) [(.int .i64 30)] h9) (
 (binOp .lss a1 (.int .i64 0)).bnd fun x13 =>
 (wantB x13 false).bnd fun b16=>(whenB b16 (some a1) (some .undef)).bnd fun x15 =>
 (wantB x13 false).bnd fun b20=>(whenB b20 ((binOp .geq x15 (.int .i64 32)).bnd some) (some .undef)).bnd fun x19 =>
 (condB x13 (some (.bool true)) (some x19)).bnd fun x23 =>
 condB x23 (
 finV false false (size h) [(.int .i64 1)] h9) (
 (lenB false a2).bnd fun x27 =>
 (binOp .gtr x27 (.int .i64 250)).bnd fun x28 =>
 condB x28 (
 finV false false (size h) [(.int .i64 2)] h9) (
 finV false false (size h) [(.int .i64 0)] h9)))) (
 (nilckV a0).bnd fun x33 =>
 (fieldAB x33 0).bnd fun x34 =>
 (idxArrV 1 2 x34 (.int .i64 1)).bnd fun x35 =>
 (loadV 1 false x35 h9).bnd fun x36 =>
 bnd2 (CallA T (size h) 31 [x36] h9) fun x37 h38 =>
 bnd2 (CallA T (size h) 32 [x37] h38) fun x39 h40 =>
 condB x39 (
 finV false false (size h) [(.int .i64 30)] h40) (
 (binOp .lss a1 (.int .i64 0)).bnd fun x44 =>
 (wantB x44 false).bnd fun b47=>(whenB b47 (some a1) (some .undef)).bnd fun x46 =>
 (wantB x44 false).bnd fun b51=>(whenB b51 ((binOp .geq x46 (.int .i64 32)).bnd some) (some .undef)).bnd fun x50 =>
 (condB x44 (some (.bool true)) (some x50)).bnd fun x54 =>
 condB x54 (
 finV false false (size h) [(.int .i64 1)] h40) (
 (lenB false a2).bnd fun x58 =>
 (binOp .gtr x58 (.int .i64 250)).bnd fun x59 =>
 condB x59 (
 finV false false (size h) [(.int .i64 2)] h40) (
 finV false false (size h) [(.int .i64 0)] h40)))):=(Pt_enter T_37 base _ h).trans (by kernel_rfl)
theorem S38 (base:Nat) (a0 a1:PV) (h:Hp):CallA T base 38 [a0,a1] h =
 (bytesStrB h a0).bnd fun x2 =>
 (bytesStrB h a1).bnd fun x4 =>
 (binOp .eql x2 x4).bnd fun x5 =>
 finV false false (size h) [x5] h:=(Pt_enter T_38 base _ h).trans (by kernel_rfl)
theorem S40 (base:Nat) (a0 a1 a2:PV) (h:Hp):CallA T base 40 [a0,a1,a2] h =
 (lenB false a1).bnd fun x2 =>
 (binOp .add x2 (.int .i64 1)).bnd fun x3 =>
 bnd2 (orcQ (CallA T base) 50 [a2] h) fun x6 h7=>(fun y=>if h7=h then y else none) <|
 (nilckV a0).bnd fun x9 =>
 (fieldAB x9 2).bnd fun x10 =>
 (loadV 1 false x10 h).bnd fun x11 =>
 (binOp .gtr x6 x11).bnd fun x12 =>
 condB x12 (
 finV true false (size h) [(.int .i64 6)] h) (
 bnd2 (CallA T base 11 [a0] h) fun x17 h18 =>
 (binOp .gtr x3 x17).bnd fun x19 =>
 condB x19 (
 bnd2 (CallA T base 34 [a0,a2] h18) fun x23 h24 =>
 finV true false (size h) [x23] h24) (
 (nilckV a0).bnd fun x28 =>
 (fieldAB x28 3).bnd fun x29 =>
 (loadV 1 false x29 h18).bnd fun x30 =>
 (nilckV a0).bnd fun x31 =>
 (fieldAB x31 0).bnd fun x32 =>
 (idxArrV 1 2 x32 x30).bnd fun x33 =>
 (loadV 1 false x33 h18).bnd fun x34 =>
 (nilckV a0).bnd fun x36 =>
 (fieldAB x36 5).bnd fun x37 =>
 (loadV 1 false x37 h18).bnd fun x38 =>
 bnd2 (CallA T base 58 [x34,x38,a1] h18) fun x40 h41 =>
 (binOp .neq x40 (.int .i64 0)).bnd fun x44 =>
 condB x44 (
 finV true false (size h) [x40] h41) (
 (nilckV a0).bnd fun x48 =>
 (fieldAB x48 5).bnd fun x49 =>
 (loadV 1 false x49 h41).bnd fun x50 =>
 (binOp .add x50 x3).bnd fun x52 =>
 (nilckV a0).bnd fun x53 =>
 (fieldAB x53 5).bnd fun x54 =>
 (storeV base 1 x54 x52 h41).bnd fun h55 =>
 (nilckV a0).bnd fun x58 =>
 (fieldAB x58 6).bnd fun x59 =>
 (storeV base 1 x59 a2 h55).bnd fun h60 =>
 finV true false (size h) [(.int .i64 0)] h60))):=(Pt_enterK T_40 base _ h).trans (by kernel_rfl)
theorem S41 (base:Nat) (a0 a1 a2:PV) (h:Hp):CallA T base 41 [a0,a1,a2] h =
 (lenB false a1).bnd fun x2 =>
 condB a2 (
 (toIntB a0 .u8).bnd fun x7 =>
 (toIntB (.int .i64 254) .u8).bnd fun x9 =>
 (buildSlV 1 false [(.int .u8 0)] 2 [(0,strip x7),(1,strip x9)]).bnd fun x10 =>
 bnd2 (appTV 5 1 x10 a1 h) fun x12 h13 =>
 bnd2 (CallA T (size h) 59 [x12] h13) fun x14 h15 =>
 finV false false (size h) [x14] h15) (
 (toIntB a0 .u8).bnd fun x18 =>
 (toIntB x2 .u8).bnd fun x20 =>
 (buildSlV 1 false [(.int .u8 0)] 2 [(0,strip x18),(1,strip x20)]).bnd fun x21 =>
 bnd2 (appTV 5 1 x21 a1 h) fun x23 h24 =>
 bnd2 (CallA T (size h) 59 [x23] h24) fun x25 h26 =>
 finV false false (size h) [x25] h26):=(Pt_enter T_41 base _ h).trans (by kernel_rfl)
theorem S42 (base:Nat) (a0:PV) (h:Hp):CallA T base 42 [a0] h =
 (nilckV a0).bnd fun x2 =>
 (fieldAB x2 1).bnd fun x3 =>
 (loadV 1 false x3 h).bnd fun x4 =>
 finV false false (size h) [x4] h:=(Pt_enter T_42 base _ h).trans (by kernel_rfl)
theorem S44 (base:Nat) (a0:PV) (h:Hp):CallA T base 44 [a0] h =
 bnd2 (boxV 1 a0 h) fun x0 h1 =>
 finV true false (size h) [(.fn 62 [x0])] h1:=(Pt_enterK T_44 base _ h).trans (by kernel_rfl)
noncomputable def P45_0 (base n0:Nat) (v4 v0 v3:PV) (h:Hp):Option (PV × Hp):=Pt T F45 [1,1,0,1,0,1] base n0 [(4,v4),(0,v0),(3,v3)] h
theorem P45_0_eq (base n0:Nat) (v4 v0 v3:PV) (h:Hp):P45_0 base n0 v4 v0 v3 h =
 (lenB false v0).bnd fun x2 =>
 (binOp .lss v4 x2).bnd fun x3 =>
 condB x3 (
 (idxAB v0 v4 1).bnd fun x7 =>
 (loadV 1 false x7 h).bnd fun x8 =>
 (buildSlV 1 false [(.int .u8 0)] 1 [(0,strip x8)]).bnd fun x9 =>
 bnd2 (appTV 5 1 v3 x9 h) fun x10 h11 =>
 (binOp .add v4 (.int .i64 1)).bnd fun x14 =>
 P45_0 base n0 x14 v0 x10 h11) (
 finV false false n0 [v3] h):=(Pt_eq T F45 [1,1,0,1,0,1] base n0 [(4,v4),(0,v0),(3,v3)] h).trans (by kernel_rfl)
theorem S45 (base:Nat) (a0:PV) (h:Hp):CallA T base 45 [a0] h =
 (buildSlV 1 false [(.int .u8 0)] 0 []).bnd fun x1 =>
 P45_0 (size h) (size h) (.int .i64 0) a0 x1 h:=(Pt_enter T_45 base _ h).trans (by kernel_rfl)
theorem S47 (base:Nat) (a0:PV) (h:Hp):CallA T base 47 [a0] h =
 (nilckV a0).bnd fun x2 =>
 (fieldAB x2 0).bnd fun x3 =>
 (loadV 1 false x3 h).bnd fun x4 =>
 (lenB false x4).bnd fun x5 =>
 finV false false (size h) [x5] h:=(Pt_enter T_47 base _ h).trans (by kernel_rfl)
theorem S48 (base:Nat) (a0 a1:PV) (h:Hp):CallA T base 48 [a0,a1] h =
 (nilckV a0).bnd fun x4 =>
 (fieldAB x4 0).bnd fun x5 =>
 (idxArrV 1 2 x5 a1).bnd fun x6 =>
 (loadV 1 false x6 h).bnd fun x7 =>
 (nilckV a0).bnd fun x9 =>
 (fieldAB x9 2).bnd fun x10 =>
 (loadV 1 false x10 h).bnd fun x11 =>
 bnd2 (CallA T (size h) 65 [x7,(.int .i64 0),x11] h) fun x12 h13 =>
 (extractB x12 0).bnd fun x14 =>
 (extractB x12 1).bnd fun x15 =>
 finV false false (size h) [x14,x15] h13:=(Pt_enter T_48 base _ h).trans (by kernel_rfl)
noncomputable def P49_0 (base n0:Nat) (v9 v0 v4:PV) (h:Hp):Option (PV × Hp):=Pt T F49 [1,1,1,0,1,0,1] base n0 [(9,v9),(0,v0),(4,v4)] h
theorem P49_0_eq (base n0:Nat) (v9 v0 v4:PV) (h:Hp):P49_0 base n0 v9 v0 v4 h =
 (binOp .lss v9 (.int .i64 4)).bnd fun x0 =>
 condB x0 (
 (idxAB v0 v9 1).bnd fun x6 =>
 (loadV 1 false x6 h).bnd fun x7 =>
 (toIntB x7 .u32).bnd fun x8 =>
 (binOp .mul (.int .i64 8) v9).bnd fun x10 =>
 (binOp .shl x8 x10).bnd fun x11 =>
 (binOp .or v4 x11).bnd fun x12 =>
 (binOp .add v9 (.int .i64 1)).bnd fun x14 =>
 P49_0 base n0 x14 v0 x12 h) (
 finV false false n0 [v4,(.bool true)] h):=(Pt_eq T F49 [1,1,1,0,1,0,1] base n0 [(9,v9),(0,v0),(4,v4)] h).trans (by kernel_rfl)
theorem S49 (base:Nat) (a0:PV) (h:Hp):CallA T base 49 [a0] h =
 (lenB false a0).bnd fun x3 =>
 (binOp .lss x3 (.int .i64 4)).bnd fun x4 =>
 condB x4 (
 finV false false (size h) [(.int .u32 0),(.bool false)] h) (
 P49_0 (size h) (size h) (.int .i64 0) a0 (.int .u32 0) h):=(Pt_enter T_49 base _ h).trans (by kernel_rfl)
noncomputable def P51_0 (base n0:Nat) (v9 v0 v8:PV) (h:Hp):Option (PV × Hp):=Pt T F51 [1,0,1,0,1] base n0 [(9,v9),(0,v0),(8,v8)] h
theorem P51_0_eq (base n0:Nat) (v9 v0 v8:PV) (h:Hp):P51_0 base n0 v9 v0 v8 h =
 (binOp .lss v9 v8).bnd fun x0 =>
 condB x0 (
 (nilckV v0).bnd fun x4 =>
 (fieldAB x4 0).bnd fun x5 =>
 (loadV 1 false x5 h).bnd fun x6 =>
 (nilckV v0).bnd fun x8 =>
 (fieldAB x8 1).bnd fun x9 =>
 (loadV 1 false x9 h).bnd fun x10 =>
 (binOp .add x10 v9).bnd fun x12 =>
 bnd2 (CallA T base 67 [x6,x12] h) fun x13 h14 =>
 (binOp .neq x13 (.int .i64 0)).bnd fun x17 =>
 condB x17 (
 finV false false n0 [x13] h14) (
 (binOp .add v9 (.int .i64 1)).bnd fun x20 =>
 P51_0 base n0 x20 v0 v8 h14)) (
 finV false false n0 [(.int .i64 0)] h):=(Pt_eq T F51 [1,0,1,0,1] base n0 [(9,v9),(0,v0),(8,v8)] h).trans (by kernel_rfl)
theorem S51 (base:Nat) (a0:PV) (h:Hp):CallA T base 51 [a0] h =
 (nilckV a0).bnd fun x2 =>
 (fieldAB x2 2).bnd fun x3 =>
 (loadV 1 false x3 h).bnd fun x4 =>
 P51_0 (size h) (size h) (.int .i64 0) a0 x4 h:=(Pt_enter T_51 base _ h).trans (by kernel_rfl)
noncomputable def P52_0 (base n0:Nat) (v14 v1 v6 v0 v12 v13:PV) (h:Hp):Option (PV × Hp):=Pt T F52 [1,1,0,1,0,1] base n0 [(14,v14),(1,v1),(6,v6),(0,v0),(12,v12),(13,v13)] h
theorem P52_0_eq (base n0:Nat) (v14 v1 v6 v0 v12 v13:PV) (h:Hp):P52_0 base n0 v14 v1 v6 v0 v12 v13 h =
 (binOp .lss v14 v13).bnd fun x0 =>
 condB x0 (
 (idxAB v12 v14 1).bnd fun x1 =>
 (loadV 1 false x1 h).bnd fun x2 =>
 bnd2 (genV base h (.lookup [1] false .nils false) [v1,x2]) fun x9 h10 =>
 bnd2 (CallA T base 41 [x2,x9,(.bool false)] h10) fun x11 h12 =>
 bnd2 (CallA T base 58 [v0,v6,x11] h12) fun x13 h14 =>
 (binOp .neq x13 (.int .i64 0)).bnd fun x17 =>
 condB x17 (
 finV false false n0 [(.int .i64 0),x13] h14) (
 bnd2 (genV base h14 (.lookup [1] false .nils false) [v1,x2]) fun x24 h25 =>
 bnd2 (CallA T base 66 [x24] h25) fun x26 h27 =>
 (binOp .add v6 x26).bnd fun x28 =>
 (binOp .add v14 (.int .i64 1)).bnd fun x30 =>
 P52_0 base n0 x30 v1 x28 v0 v12 v13 h27)) (
 finV false false n0 [v6,(.int .i64 0)] h):=(Pt_eq T F52 [1,1,0,1,0,1] base n0 [(14,v14),(1,v1),(6,v6),(0,v0),(12,v12),(13,v13)] h).trans (by kernel_rfl)
theorem S52 (base:Nat) (a0 a1:PV) (h:Hp):CallA T base 52 [a0,a1] h =
 bnd2 (CallA T (size h) 44 [a1] h) fun x4 h5 =>
 bnd2 (CallA T (size h) 43 [x4] h5) fun x6 h7 =>
 (lenB false x6).bnd fun x8 =>
 P52_0 (size h) (size h) (.int .i64 0) a1 (.int .i64 8) a0 x6 x8 h7:=(Pt_enter T_52 base _ h).trans (by kernel_rfl)
theorem S53 (base:Nat) (a0 a1 a2:PV) (h:Hp):CallA T base 53 [a0,a1,a2] h =
 (lenB false a2).bnd fun x4 =>
 bnd2 (CallA T (size h) 68 [a0,a1,x4] h) fun x5 h6 =>
 (binOp .neq x5 (.int .i64 0)).bnd fun x9 =>
 condB x9 (
 finV false false (size h) [x5] h6) (
 (nilckV a0).bnd fun x13 =>
 (fieldAB x13 0).bnd fun x14 =>
 (loadV 1 false x14 h6).bnd fun x15 =>
 bnd2 (orcQ (CallA T (size h)) 70 [a0] h6) fun x17 h18=>(fun y=>if h18=h6 then y else none) <|
 (binOp .add x17 a1).bnd fun x20 =>
 bnd2 (CallA T (size h) 69 [x15,x20,a2] h6) fun x22 h23 =>
 finV false false (size h) [x22] h23):=(Pt_enter T_53 base _ h).trans (by kernel_rfl)
noncomputable def P54_0 (base n0:Nat) (v9 v1 v5:PV) (h:Hp):Option (PV × Hp):=Pt T F54 [1,1,0,1,0,1] base n0 [(9,v9),(1,v1),(5,v5)] h
theorem P54_0_eq (base n0:Nat) (v9 v1 v5:PV) (h:Hp):P54_0 base n0 v9 v1 v5 h =
 (binOp .lss v9 (.int .i64 4)).bnd fun x0 =>
 condB x0 (
 (binOp .mul (.int .i64 8) v9).bnd fun x6 =>
 (binOp .shr v1 x6).bnd fun x7 =>
 (toIntB x7 .u8).bnd fun x8 =>
 (buildSlV 1 false [(.int .u8 0)] 1 [(0,strip x8)]).bnd fun x9 =>
 bnd2 (genV base h (.appK 1) [v5,x9]) fun x10 h11 =>
 (binOp .add v9 (.int .i64 1)).bnd fun x13 =>
 P54_0 base n0 x13 v1 x10 h11) (
 finV false false n0 [v5] h):=(Pt_eq T F54 [1,1,0,1,0,1] base n0 [(9,v9),(1,v1),(5,v5)] h).trans (by kernel_rfl)
theorem S54 (base:Nat) (a0 a1:PV) (h:Hp):CallA T base 54 [a0,a1] h =
 bnd2 (CallA T (size h) 36 [a0] h) fun x2 h3 =>
 P54_0 (size h) (size h) (.int .i64 0) a1 x2 h3:=(Pt_enter T_54 base _ h).trans (by kernel_rfl)
noncomputable def P55_0 (base n0:Nat) (v4 v6 v7 v1 v0:PV) (h:Hp):Option (PV × Hp):=Pt T F55 [1,1,1,1,1,1] base n0 [(4,v4),(6,v6),(7,v7),(1,v1),(0,v0)] h
theorem P55_0_eq (base n0:Nat) (v4 v6 v7 v1 v0:PV) (h:Hp):P55_0 base n0 v4 v6 v7 v1 v0 h =
 (binOp .add v1 (.int .i64 7)).bnd fun x1 =>
 (binOp .add x1 v7).bnd fun x3 =>
 (fieldAB v6 3).bnd fun x4 =>
 (storeV base 1 x4 x3 h).bnd fun h5 =>
 (fieldAB v6 3).bnd fun x6 =>
 (loadV 1 false x6 h5).bnd fun x7 =>
 (lenB false v0).bnd fun x9 =>
 (binOp .gtr x7 x9).bnd fun x10 =>
 (wantB x10 false).bnd fun b13=>(whenB b13 (some v0) (some .undef)).bnd fun x12 =>
 (wantB x10 false).bnd fun b17=>(whenB b17 ((fieldAB v6 3).bnd some) (some .undef)).bnd fun x16 =>
 (wantB x10 false).bnd fun b21=>(whenB b21 ((loadV 1 false x16 h5).bnd some) (some .undef)).bnd fun x20 =>
 (wantB x10 false).bnd fun b25=>(whenB b25 ((binOp .sub x20 (.int .i64 1)).bnd some) (some .undef)).bnd fun x24 =>
 (wantB x10 false).bnd fun b29=>(whenB b29 ((idxAB x12 x24 1).bnd some) (some .undef)).bnd fun x28 =>
 (wantB x10 false).bnd fun b33=>(whenB b33 ((loadV 1 false x28 h5).bnd some) (some .undef)).bnd fun x32 =>
 (wantB x10 false).bnd fun b37=>(whenB b37 ((binOp .neq x32 (.int .u8 0)).bnd some) (some .undef)).bnd fun x36 =>
 (condB x10 (some (.bool true)) (some x36)).bnd fun x40 =>
 condB x40 (
 (buildV [(.int .i64 0),.nils,(.bool false),(.int .i64 0)] []).bnd fun x41 =>
 (storeV base 4 v4 x41 h5).bnd fun h42 =>
 (resB v4 h42 4 true).bnd fun r44 =>
 finV false false n0 [r44,(.bool false)] h42) (
 (binOp .add v1 (.int .i64 2)).bnd fun x47 =>
 (binOp .add v1 (.int .i64 2)).bnd fun x49 =>
 (binOp .add x49 v7).bnd fun x51 =>
 (binOp .add v1 (.int .i64 2)).bnd fun x53 =>
 (binOp .add x53 v7).bnd fun x55 =>
 (sliceV (some 1) (some x47) (some x51) (some x55) v0).bnd fun x56 =>
 (fieldAB v6 1).bnd fun x57 =>
 (storeV base 1 x57 x56 h5).bnd fun h58 =>
 (loadV 4 true v6 h58).bnd fun x59 =>
 (storeV base 4 v4 x59 h58).bnd fun h60 =>
 (resB v4 h60 4 true).bnd fun r62 =>
 finV false false n0 [r62,(.bool true)] h60):=(Pt_eq T F55 [1,1,1,1,1,1] base n0 [(4,v4),(6,v6),(7,v7),(1,v1),(0,v0)] h).trans (by kernel_rfl)
theorem S55 (base:Nat) (a0 a1:PV) (h:Hp):CallA T base 55 [a0,a1] h =
 allocK [(.int .i64 0),.nils,(.bool false),(.int .i64 0)] h fun x0 h1 =>
 (binOp .add a1 (.int .i64 2)).bnd fun x4 =>
 (lenB false a0).bnd fun x6 =>
 (binOp .gtr x4 x6).bnd fun x7 =>
 (wantB x7 false).bnd fun b10=>(whenB b10 (some a0) (some .undef)).bnd fun x9 =>
 (wantB x7 false).bnd fun b14=>(whenB b14 (some a1) (some .undef)).bnd fun x13 =>
 (wantB x7 false).bnd fun b18=>(whenB b18 ((idxAB x9 x13 1).bnd some) (some .undef)).bnd fun x17 =>
 (wantB x7 false).bnd fun b22=>(whenB b22 ((loadV 1 false x17 h1).bnd some) (some .undef)).bnd fun x21 =>
 (wantB x7 false).bnd fun b26=>(whenB b26 ((binOp .geq x21 (.int .u8 32)).bnd some) (some .undef)).bnd fun x25 =>
 (condB x7 (some (.bool true)) (some x25)).bnd fun x29 =>
 condB x29 (
 (buildV [(.int .i64 0),.nils,(.bool false),(.int .i64 0)] []).bnd fun x30 =>
 (storeV (size h) 4 x0 x30 h1).bnd fun h31 =>
 (resB x0 h31 4 true).bnd fun r33 =>
 finV false false (size h) [r33,(.bool false)] h31) (
 (idxAB a0 a1 1).bnd fun x36 =>
 (loadV 1 false x36 h1).bnd fun x37 =>
 (toIntB x37 .i64).bnd fun x38 =>
 (binOp .add a1 (.int .i64 1)).bnd fun x41 =>
 (idxAB a0 x41 1).bnd fun x42 =>
 (loadV 1 false x42 h1).bnd fun x43 =>
 (binOp .eql x43 (.int .u8 254)).bnd fun x44 =>
 (buildV [(.int .i64 0),.nils,(.bool false),(.int .i64 0)] [(0,1,x38),(2,1,x44)]).bnd fun x45 =>
 allocK [(.int .i64 0),.nils,(.bool false),(.int .i64 0)] h1 fun x46 h47 =>
 (storeV (size h) 4 x46 x45 h47).bnd fun h48 =>
 (binOp .add a1 (.int .i64 1)).bnd fun x51 =>
 (idxAB a0 x51 1).bnd fun x52 =>
 (loadV 1 false x52 h48).bnd fun x53 =>
 (toIntB x53 .i64).bnd fun x54 =>
 (fieldAB x46 2).bnd fun x56 =>
 (loadV 1 false x56 h48).bnd fun x57 =>
 condB x57 (
 P55_0 (size h) (size h) x0 x46 (.int .i64 0) a1 a0 h48) (
 (binOp .gtr x54 (.int .i64 250)).bnd fun x61 =>
 condB x61 (
 (buildV [(.int .i64 0),.nils,(.bool false),(.int .i64 0)] []).bnd fun x63 =>
 (storeV (size h) 4 x0 x63 h48).bnd fun h64 =>
 (resB x0 h64 4 true).bnd fun r66 =>
 finV false false (size h) [r66,(.bool false)] h64) (
 P55_0 (size h) (size h) x0 x46 x54 a1 a0 h48))):=(Pt_enter T_55 base _ h).trans (by kernel_rfl)
theorem S56 (base:Nat) (a0 a1 a2:PV) (h:Hp):CallA T base 56 [a0,a1,a2] h =
 bnd2 (boxV 4 a2 h) fun x0 h1 =>
 (fieldAB x0 3).bnd fun x5 =>
 (loadV 1 false x5 h1).bnd fun x6 =>
 (binOp .sub x6 (.int .i64 1)).bnd fun x7 =>
 (sliceV (some 1) (some a1) (some x7) none a0).bnd fun x8 =>
 bnd2 (CallA T (size h) 71 [x8] h1) fun x9 h10 =>
 (extractB x9 0).bnd fun x12 =>
 (extractB x9 1).bnd fun x13 =>
 finV false false (size h) [x13] h10:=(Pt_enter T_56 base _ h).trans (by kernel_rfl)
theorem S58 (base:Nat) (a0 a1 a2:PV) (h:Hp):CallA T base 58 [a0,a1,a2] h =
 bnd2 (CallA T (size h) 53 [a0,a1,a2] h) fun x4 h5 =>
 (binOp .neq x4 (.int .i64 0)).bnd fun x8 =>
 condB x8 (
 finV false false (size h) [x4] h5) (
 (lenB false a2).bnd fun x14 =>
 (binOp .add a1 x14).bnd fun x15 =>
 (buildSlV 1 false [(.int .u8 0)] 1 [(0,strip (.int .u8 0))]).bnd fun x16 =>
 bnd2 (CallA T (size h) 53 [a0,x15,x16] h5) fun x17 h18 =>
 finV false false (size h) [x17] h18):=(Pt_enter T_58 base _ h).trans (by kernel_rfl)
theorem S59 (base:Nat) (a0:PV) (h:Hp):CallA T base 59 [a0] h =
 bnd2 (CallA T (size h) 72 [a0] h) fun x3 h4 =>
 bnd2 (CallA T (size h) 54 [a0,x3] h4) fun x5 h6 =>
 finV false false (size h) [x5] h6:=(Pt_enter T_59 base _ h).trans (by kernel_rfl)
theorem S65 (base:Nat) (a0 a1 a2:PV) (h:Hp):CallA T base 65 [a0,a1,a2] h =
 bnd2 (CallA T (size h) 68 [a0,a1,a2] h) fun x5 h6 =>
 (binOp .neq x5 (.int .i64 0)).bnd fun x9 =>
 condB x9 (
 finV false false (size h) [.nils,x5] h6) (
 (nilckV a0).bnd fun x14 =>
 (fieldAB x14 0).bnd fun x15 =>
 (loadV 1 false x15 h6).bnd fun x16 =>
 bnd2 (orcQ (CallA T (size h)) 70 [a0] h6) fun x18 h19=>(fun y=>if h19=h6 then y else none) <|
 (binOp .add x18 a1).bnd fun x21 =>
 bnd2 (CallA T (size h) 78 [x16,x21,a2] h6) fun x23 h24 =>
 (extractB x23 0).bnd fun x25 =>
 (extractB x23 1).bnd fun x26 =>
 finV false false (size h) [x25,x26] h24):=(Pt_enter T_65 base _ h).trans (by kernel_rfl)
theorem S66 (base:Nat) (a0:PV) (h:Hp):CallA T base 66 [a0] h =
 (lenB false a0).bnd fun x2 =>
 (binOp .add (.int .i64 7) x2).bnd fun x3 =>
 finV false false (size h) [x3] h:=(Pt_enter T_66 base _ h).trans (by kernel_rfl)
noncomputable def P67_0 (base n0:Nat) (v42 v0 v1 v41:PV) (h:Hp):Option (PV × Hp):=Pt T F67 [1,1,1,0,1,0,1] base n0 [(42,v42),(0,v0),(1,v1),(41,v41)] h
theorem P67_0_eq (base n0:Nat) (v42 v0 v1 v41:PV) (h:Hp):P67_0 base n0 v42 v0 v1 v41 h =
 (binOp .lss v42 v41).bnd fun x0 =>
 condB x0 (
 (nilckV v0).bnd fun x6 =>
 (fieldAB x6 1).bnd fun x7 =>
 (loadV 1 false x7 h).bnd fun x8 =>
 (binOp .mul v1 x8).bnd fun x9 =>
 (binOp .add x9 v42).bnd fun x11 =>
 bnd2 (CallA T base 79 [v0,x11,(.int .u8 255)] h) fun x12 h13 =>
 (unOp .not x12).bnd fun x14 =>
 condB x14 (
 finV false false n0 [(.int .i64 30)] h13) (
 (binOp .add v42 (.int .i64 1)).bnd fun x16 =>
 P67_0 base n0 x16 v0 v1 v41 h13)) (
 finV false false n0 [(.int .i64 0)] h):=(Pt_eq T F67 [1,1,1,0,1,0,1] base n0 [(42,v42),(0,v0),(1,v1),(41,v41)] h).trans (by kernel_rfl)
theorem S67 (base:Nat) (a0 a1:PV) (h:Hp):CallA T base 67 [a0,a1] h =
 (nilckV a0).bnd fun x2 =>
 (fieldAB x2 5).bnd fun x3 =>
 (loadV 1 false x3 h).bnd fun x4 =>
 condB x4 (
 finV false false (size h) [(.int .i64 30)] h) (
 (binOp .lss a1 (.int .i64 0)).bnd fun x8 =>
 (wantB x8 false).bnd fun b11=>(whenB b11 (some a1) (some .undef)).bnd fun x10 =>
 (wantB x8 false).bnd fun b15=>(whenB b15 (some a0) (some .undef)).bnd fun x14 =>
 (wantB x8 false).bnd fun b19=>(whenB b19 ((nilckV x14).bnd some) (some .undef)).bnd fun x18 =>
 (wantB x8 false).bnd fun b23=>(whenB b23 ((fieldAB x18 2).bnd some) (some .undef)).bnd fun x22 =>
 (wantB x8 false).bnd fun b27=>(whenB b27 ((loadV 1 false x22 h).bnd some) (some .undef)).bnd fun x26 =>
 (wantB x8 false).bnd fun b31=>(whenB b31 ((lenB false x26).bnd some) (some .undef)).bnd fun x30 =>
 (wantB x8 false).bnd fun b35=>(whenB b35 ((binOp .geq x10 x30).bnd some) (some .undef)).bnd fun x34 =>
 (condB x8 (some (.bool true)) (some x34)).bnd fun x38 =>
 condB x38 (
 finV false false (size h) [(.int .i64 1)] h) (
 (nilckV a0).bnd fun x42 =>
 (fieldAB x42 2).bnd fun x43 =>
 (loadV 1 false x43 h).bnd fun x44 =>
 (nilckV a0).bnd fun x47 =>
 (fieldAB x47 2).bnd fun x48 =>
 (loadV 1 false x48 h).bnd fun x49 =>
 (idxAB x49 a1 1).bnd fun x51 =>
 (loadV 1 false x51 h).bnd fun x52 =>
 (binOp .add x52 (.int .i64 1)).bnd fun x53 =>
 (minmaxV false [x53,(.int .i64 1073741824)]).bnd fun x54 =>
 (idxAB x44 a1 1).bnd fun x55 =>
 (storeV (size h) 1 x55 x54 h).bnd fun h56 =>
 (nilckV a0).bnd fun x58 =>
 (fieldAB x58 1).bnd fun x59 =>
 (loadV 1 false x59 h56).bnd fun x60 =>
 P67_0 (size h) (size h) (.int .i64 0) a0 a1 x60 h56)):=(Pt_enter T_67 base _ h).trans (by kernel_rfl)
theorem S68 (base:Nat) (a0 a1 a2:PV) (h:Hp):CallA T base 68 [a0,a1,a2] h =
 (nilckV a0).bnd fun x2 =>
 (fieldAB x2 0).bnd fun x3 =>
 (loadV 1 false x3 h).bnd fun x4 =>
 bnd2 (CallA T (size h) 32 [x4] h) fun x5 h6 =>
 condB x5 (
 finV false false (size h) [(.int .i64 30)] h6) (
 bnd2 (CallA T (size h) 80 [a0,a1,a2] h6) fun x12 h13 =>
 (unOp .not x12).bnd fun x14 =>
 condB x14 (
 finV false false (size h) [(.int .i64 1)] h13) (
 finV false false (size h) [(.int .i64 0)] h13)):=(Pt_enter T_68 base _ h).trans (by kernel_rfl)
noncomputable def P69_0 (base n0:Nat) (v29 v1 v0 v27 v28:PV) (h:Hp):Option (PV × Hp):=Pt T F69 [1,1,0,1,0,1] base n0 [(29,v29),(1,v1),(0,v0),(27,v27),(28,v28)] h
theorem P69_0_eq (base n0:Nat) (v29 v1 v0 v27 v28:PV) (h:Hp):P69_0 base n0 v29 v1 v0 v27 v28 h =
 (binOp .lss v29 v28).bnd fun x0 =>
 condB x0 (
 (idxAB v27 v29 1).bnd fun x2 =>
 (loadV 1 false x2 h).bnd fun x3 =>
 (binOp .add v1 v29).bnd fun x9 =>
 bnd2 (CallA T base 79 [v0,x9,x3] h) fun x11 h12 =>
 (unOp .not x11).bnd fun x13 =>
 condB x13 (
 finV false false n0 [(.int .i64 30)] h12) (
 (binOp .add v29 (.int .i64 1)).bnd fun x15 =>
 P69_0 base n0 x15 v1 v0 v27 v28 h12)) (
 finV false false n0 [(.int .i64 0)] h):=(Pt_eq T F69 [1,1,0,1,0,1] base n0 [(29,v29),(1,v1),(0,v0),(27,v27),(28,v28)] h).trans (by kernel_rfl)
theorem S69 (base:Nat) (a0 a1 a2:PV) (h:Hp):CallA T base 69 [a0,a1,a2] h =
 (nilckV a0).bnd fun x2 =>
 (fieldAB x2 5).bnd fun x3 =>
 (loadV 1 false x3 h).bnd fun x4 =>
 condB x4 (
 finV false false (size h) [(.int .i64 30)] h) (
 (lenB false a2).bnd fun x10 =>
 bnd2 (CallA T (size h) 81 [a0,a1,x10] h) fun x11 h12 =>
 (unOp .not x11).bnd fun x13 =>
 condB x13 (
 finV false false (size h) [(.int .i64 1)] h12) (
 bnd2 (CallA T (size h) 82 [a0,a1,a2] h12) fun x19 h20 =>
 (unOp .not x19).bnd fun x21 =>
 condB x21 (
 finV false false (size h) [(.int .i64 31)] h20) (
 (lenB false a2).bnd fun x25 =>
 P69_0 (size h) (size h) (.int .i64 0) a1 a0 a2 x25 h20))):=(Pt_enter T_69 base _ h).trans (by kernel_rfl)
theorem S70 (base:Nat) (a0:PV) (h:Hp):CallA T base 70 [a0] h =
 (nilckV a0).bnd fun x2 =>
 (fieldAB x2 1).bnd fun x3 =>
 (loadV 1 false x3 h).bnd fun x4 =>
 (nilckV a0).bnd fun x6 =>
 (fieldAB x6 0).bnd fun x7 =>
 (loadV 1 false x7 h).bnd fun x8 =>
 bnd2 (orcQ (CallA T (size h)) 42 [x8] h) fun x9 h10=>(fun y=>if h10=h then y else none) <|
 (binOp .mul x4 x9).bnd fun x11 =>
 finV false false (size h) [x11] h:=(Pt_enter T_70 base _ h).trans (by kernel_rfl)
theorem S71 (base:Nat) (a0:PV) (h:Hp):CallA T base 71 [a0] h =
 (lenB false a0).bnd fun x3 =>
 (binOp .sub x3 (.int .i64 4)).bnd fun x4 =>
 (binOp .lss x4 (.int .i64 0)).bnd fun x7 =>
 condB x7 (
 finV false false (size h) [.nils,(.bool false)] h) (
 (sliceV (some 1) (some x4) none none a0).bnd fun x12 =>
 bnd2 (CallA T (size h) 49 [x12] h) fun x13 h14 =>
 (extractB x13 0).bnd fun x16 =>
 (extractB x13 1).bnd fun x17 =>
 (sliceV (some 1) none (some x4) none a0).bnd fun x23 =>
 bnd2 (CallA T (size h) 72 [x23] h14) fun x24 h25 =>
 (binOp .neq x16 x24).bnd fun x26 =>
 condB x26 (
 finV false false (size h) [.nils,(.bool false)] h25) (
 (sliceV (some 1) none (some x4) none a0).bnd fun x31 =>
 bnd2 (CallA T (size h) 36 [x31] h25) fun x32 h33 =>
 finV false false (size h) [x32,(.bool true)] h33)):=(Pt_enter T_71 base _ h).trans (by kernel_rfl)
theorem S72 (base:Nat) (a0:PV) (h:Hp):CallA T base 72 [a0] h =
 bnd2 (CallA T (size h) 83 [(.int .u32 0),a0] h) fun x2 h3 =>
 finV false false (size h) [x2] h3:=(Pt_enter T_72 base _ h).trans (by kernel_rfl)
theorem S78 (base:Nat) (a0 a1 a2:PV) (h:Hp):CallA T base 78 [a0,a1,a2] h =
 (nilckV a0).bnd fun x3 =>
 (fieldAB x3 5).bnd fun x4 =>
 (loadV 1 false x4 h).bnd fun x5 =>
 condB x5 (
 finV false false (size h) [.nils,(.int .i64 30)] h) (
 bnd2 (CallA T (size h) 81 [a0,a1,a2] h) fun x12 h13 =>
 (unOp .not x12).bnd fun x14 =>
 condB x14 (
 finV false false (size h) [.nils,(.int .i64 1)] h13) (
 (nilckV a0).bnd fun x19 =>
 (fieldAB x19 0).bnd fun x20 =>
 (loadV 1 false x20 h13).bnd fun x21 =>
 (binOp .add a1 a2).bnd fun x25 =>
 (sliceV (some 1) (some a1) (some x25) none x21).bnd fun x26 =>
 bnd2 (CallA T (size h) 36 [x26] h13) fun x27 h28 =>
 finV false false (size h) [x27,(.int .i64 0)] h28)):=(Pt_enter T_78 base _ h).trans (by kernel_rfl)
theorem S79 (base:Nat) (a0 a1 a2:PV) (h:Hp):CallA T base 79 [a0,a1,a2] h =
 (nilckV a0).bnd fun x2 =>
 (fieldAB x2 4).bnd fun x3 =>
 (loadV 1 false x3 h).bnd fun x4 =>
 (binOp .eql x4 (.int .i64 0)).bnd fun x5 =>
 condB x5 (
 (nilckV a0).bnd fun x7 =>
 (fieldAB x7 5).bnd fun x8 =>
 (storeV (size h) 1 x8 (.bool true) h).bnd fun h9 =>
 finV false false (size h) [(.bool false)] h9) (
 (nilckV a0).bnd fun x12 =>
 (fieldAB x12 4).bnd fun x13 =>
 (loadV 1 false x13 h).bnd fun x14 =>
 (binOp .gtr x14 (.int .i64 0)).bnd fun x15 =>
 condB x15 (
 (nilckV a0).bnd fun x17 =>
 (fieldAB x17 4).bnd fun x18 =>
 (loadV 1 false x18 h).bnd fun x19 =>
 (binOp .sub x19 (.int .i64 1)).bnd fun x20 =>
 (nilckV a0).bnd fun x21 =>
 (fieldAB x21 4).bnd fun x22 =>
 (storeV (size h) 1 x22 x20 h).bnd fun h23 =>
 (nilckV a0).bnd fun x25 =>
 (fieldAB x25 0).bnd fun x26 =>
 (loadV 1 false x26 h23).bnd fun x27 =>
 (idxAB x27 a1 1).bnd fun x30 =>
 (storeV (size h) 1 x30 a2 h23).bnd fun h31 =>
 (nilckV a0).bnd fun x34 =>
 (fieldAB x34 3).bnd fun x35 =>
 (loadV 1 false x35 h31).bnd fun x36 =>
 (binOp .add x36 (.int .i64 1)).bnd fun x37 =>
 (minmaxV false [x37,(.int .i64 1073741824)]).bnd fun x38 =>
 (nilckV a0).bnd fun x39 =>
 (fieldAB x39 3).bnd fun x40 =>
 (storeV (size h) 1 x40 x38 h31).bnd fun h41 =>
 finV false false (size h) [(.bool true)] h41) (
 (nilckV a0).bnd fun x44 =>
 (fieldAB x44 0).bnd fun x45 =>
 (loadV 1 false x45 h).bnd fun x46 =>
 (idxAB x46 a1 1).bnd fun x49 =>
 (storeV (size h) 1 x49 a2 h).bnd fun h50 =>
 (nilckV a0).bnd fun x53 =>
 (fieldAB x53 3).bnd fun x54 =>
 (loadV 1 false x54 h50).bnd fun x55 =>
 (binOp .add x55 (.int .i64 1)).bnd fun x56 =>
 (minmaxV false [x56,(.int .i64 1073741824)]).bnd fun x57 =>
 (nilckV a0).bnd fun x58 =>
 (fieldAB x58 3).bnd fun x59 =>
 (storeV (size h) 1 x59 x57 h50).bnd fun h60 =>
 finV false false (size h) [(.bool true)] h60)):=(Pt_enter T_79 base _ h).trans (by kernel_rfl)
theorem S80 (base:Nat) (a0 a1 a2:PV) (h:Hp):CallA T base 80 [a0,a1,a2] h =
 (binOp .geq a1 (.int .i64 0)).bnd fun x2 =>
 (wantB x2 true).bnd fun b5=>(whenB b5 (some a2) (some .undef)).bnd fun x4 =>
 (wantB x2 true).bnd fun b9=>(whenB b9 ((binOp .geq x4 (.int .i64 0)).bnd some) (some .undef)).bnd fun x8 =>
 (condB x2 (some x8) (some (.bool false))).bnd fun x12 =>
 (wantB x12 true).bnd fun b15=>(whenB b15 (some a1) (some .undef)).bnd fun x14 =>
 (wantB x12 true).bnd fun b19=>(whenB b19 (some a0) (some .undef)).bnd fun x18 =>
 (wantB x12 true).bnd fun b23=>bnd2 (whenB b23 (bnd2 (CallA T (size h) 16 [x18] h) fun x25 h24=>some (x25,h24)) (some (.undef,h))) fun x22 h24 =>
 (wantB x12 true).bnd fun b27=>(whenB b27 ((binOp .leq x14 x22).bnd some) (some .undef)).bnd fun x26 =>
 (condB x12 (some x26) (some (.bool false))).bnd fun x30 =>
 (wantB x30 true).bnd fun b33=>(whenB b33 (some a2) (some .undef)).bnd fun x32 =>
 (wantB x30 true).bnd fun b37=>(whenB b37 (some a0) (some .undef)).bnd fun x36 =>
 (wantB x30 true).bnd fun b41=>bnd2 (whenB b41 (bnd2 (CallA T (size h) 16 [x36] h24) fun x43 h42=>some (x43,h42)) (some (.undef,h24))) fun x40 h42 =>
 (wantB x30 true).bnd fun b45=>(whenB b45 (some a1) (some .undef)).bnd fun x44 =>
 (wantB x30 true).bnd fun b49=>(whenB b49 ((binOp .sub x40 x44).bnd some) (some .undef)).bnd fun x48 =>
 (wantB x30 true).bnd fun b53=>(whenB b53 ((binOp .leq x32 x48).bnd some) (some .undef)).bnd fun x52 =>
 (condB x30 (some x52) (some (.bool false))).bnd fun x56 =>
 finV false false (size h) [x56] h42:=(Pt_enter T_80 base _ h).trans (by kernel_rfl)
theorem S81 (base:Nat) (a0 a1 a2:PV) (h:Hp):CallA T base 81 [a0,a1,a2] h =
 (binOp .geq a1 (.int .i64 0)).bnd fun x2 =>
 (wantB x2 true).bnd fun b5=>(whenB b5 (some a2) (some .undef)).bnd fun x4 =>
 (wantB x2 true).bnd fun b9=>(whenB b9 ((binOp .geq x4 (.int .i64 0)).bnd some) (some .undef)).bnd fun x8 =>
 (condB x2 (some x8) (some (.bool false))).bnd fun x12 =>
 (wantB x12 true).bnd fun b15=>(whenB b15 (some a1) (some .undef)).bnd fun x14 =>
 (wantB x12 true).bnd fun b19=>(whenB b19 (some a0) (some .undef)).bnd fun x18 =>
 (wantB x12 true).bnd fun b23=>(whenB b23 ((nilckV x18).bnd some) (some .undef)).bnd fun x22 =>
 (wantB x12 true).bnd fun b27=>(whenB b27 ((fieldAB x22 0).bnd some) (some .undef)).bnd fun x26 =>
 (wantB x12 true).bnd fun b31=>(whenB b31 ((loadV 1 false x26 h).bnd some) (some .undef)).bnd fun x30 =>
 (wantB x12 true).bnd fun b35=>(whenB b35 ((lenB false x30).bnd some) (some .undef)).bnd fun x34 =>
 (wantB x12 true).bnd fun b39=>(whenB b39 ((binOp .leq x14 x34).bnd some) (some .undef)).bnd fun x38 =>
 (condB x12 (some x38) (some (.bool false))).bnd fun x42 =>
 (wantB x42 true).bnd fun b45=>(whenB b45 (some a2) (some .undef)).bnd fun x44 =>
 (wantB x42 true).bnd fun b49=>(whenB b49 (some a0) (some .undef)).bnd fun x48 =>
 (wantB x42 true).bnd fun b53=>(whenB b53 ((nilckV x48).bnd some) (some .undef)).bnd fun x52 =>
 (wantB x42 true).bnd fun b57=>(whenB b57 ((fieldAB x52 0).bnd some) (some .undef)).bnd fun x56 =>
 (wantB x42 true).bnd fun b61=>(whenB b61 ((loadV 1 false x56 h).bnd some) (some .undef)).bnd fun x60 =>
 (wantB x42 true).bnd fun b65=>(whenB b65 ((lenB false x60).bnd some) (some .undef)).bnd fun x64 =>
 (wantB x42 true).bnd fun b69=>(whenB b69 (some a1) (some .undef)).bnd fun x68 =>
 (wantB x42 true).bnd fun b73=>(whenB b73 ((binOp .sub x64 x68).bnd some) (some .undef)).bnd fun x72 =>
 (wantB x42 true).bnd fun b77=>(whenB b77 ((binOp .leq x44 x72).bnd some) (some .undef)).bnd fun x76 =>
 (condB x42 (some x76) (some (.bool false))).bnd fun x80 =>
 finV false false (size h) [x80] h:=(Pt_enter T_81 base _ h).trans (by kernel_rfl)
noncomputable def P82_0 (base n0:Nat) (v11 v1 v0 v9 v10:PV) (h:Hp):Option (PV × Hp):=Pt T F82 [1,0,1,0,1] base n0 [(11,v11),(1,v1),(0,v0),(9,v9),(10,v10)] h
theorem P82_0_eq (base n0:Nat) (v11 v1 v0 v9 v10:PV) (h:Hp):P82_0 base n0 v11 v1 v0 v9 v10 h =
 (binOp .lss v11 v10).bnd fun x0 =>
 condB x0 (
 (idxAB v9 v11 1).bnd fun x2 =>
 (loadV 1 false x2 h).bnd fun x3 =>
 (nilckV v0).bnd fun x8 =>
 (fieldAB x8 0).bnd fun x9 =>
 (loadV 1 false x9 h).bnd fun x10 =>
 (binOp .add v1 v11).bnd fun x13 =>
 (idxAB x10 x13 1).bnd fun x14 =>
 (loadV 1 false x14 h).bnd fun x15 =>
 (binOp .andNot x3 x15).bnd fun x16 =>
 (binOp .neq x16 (.int .u8 0)).bnd fun x17 =>
 condB x17 (
 finV false false n0 [(.bool false)] h) (
 (binOp .add v11 (.int .i64 1)).bnd fun x19 =>
 P82_0 base n0 x19 v1 v0 v9 v10 h)) (
 finV false false n0 [(.bool true)] h):=(Pt_eq T F82 [1,0,1,0,1] base n0 [(11,v11),(1,v1),(0,v0),(9,v9),(10,v10)] h).trans (by kernel_rfl)
theorem S82 (base:Nat) (a0 a1 a2:PV) (h:Hp):CallA T base 82 [a0,a1,a2] h =
 (lenB false a2).bnd fun x2 =>
 P82_0 (size h) (size h) (.int .i64 0) a1 a0 a2 x2 h:=(Pt_enter T_82 base _ h).trans (by kernel_rfl)
noncomputable def P83_0 (base n0:Nat) (v12 v5 v10 v11:PV) (h:Hp):Option (PV × Hp):=Pt T F83 [1,1,0,1,0,1] base n0 [(12,v12),(5,v5),(10,v10),(11,v11)] h
theorem P83_0_eq (base n0:Nat) (v12 v5 v10 v11:PV) (h:Hp):P83_0 base n0 v12 v5 v10 v11 h =
 (binOp .lss v12 v11).bnd fun x0 =>
 condB x0 (
 (idxAB v10 v12 1).bnd fun x1 =>
 (loadV 1 false x1 h).bnd fun x2 =>
 bnd2 (CallA T base 95 [v5,x2] h) fun x6 h7 =>
 (binOp .add v12 (.int .i64 1)).bnd fun x9 =>
 P83_0 base n0 x9 x6 v10 v11 h7) (
 (unOp .xor v5).bnd fun x12 =>
 finV false false n0 [x12] h):=(Pt_eq T F83 [1,1,0,1,0,1] base n0 [(12,v12),(5,v5),(10,v10),(11,v11)] h).trans (by kernel_rfl)
theorem S83 (base:Nat) (a0 a1:PV) (h:Hp):CallA T base 83 [a0,a1] h =
 (unOp .xor a0).bnd fun x2 =>
 (lenB false a1).bnd fun x5 =>
 P83_0 (size h) (size h) (.int .i64 0) x2 a1 x5 h:=(Pt_enter T_83 base _ h).trans (by kernel_rfl)
noncomputable def P95_0 (base n0:Nat) (v10 v0:PV) (h:Hp):Option (PV × Hp):=Pt T F95 [1,1,0,1,0,1] base n0 [(10,v10),(0,v0)] h
theorem P95_0_eq (base n0:Nat) (v10 v0:PV) (h:Hp):P95_0 base n0 v10 v0 h =
 (binOp .lss v10 (.int .i64 8)).bnd fun x0 =>
 condB x0 (
 (binOp .and v0 (.int .u32 1)).bnd fun x2 =>
 (binOp .shr v0 (.int .u64 1)).bnd fun x5 =>
 (binOp .eql x2 (.int .u32 1)).bnd fun x8 =>
 condB x8 (
 (binOp .xor x5 (.int .u32 3988292384)).bnd fun x10 =>
 (binOp .add v10 (.int .i64 1)).bnd fun x12 =>
 P95_0 base n0 x12 x10 h) (
 (binOp .add v10 (.int .i64 1)).bnd fun x14 =>
 P95_0 base n0 x14 x5 h)) (
 finV false false n0 [v0] h):=(Pt_eq T F95 [1,1,0,1,0,1] base n0 [(10,v10),(0,v0)] h).trans (by kernel_rfl)
theorem S95 (base:Nat) (a0 a1:PV) (h:Hp):CallA T base 95 [a0,a1] h =
 (toIntB a1 .u32).bnd fun x3 =>
 (binOp .xor a0 x3).bnd fun x4 =>
 P95_0 (size h) (size h) (.int .i64 0) x4 h:=(Pt_enter T_95 base _ h).trans (by kernel_rfl)
end Go.Am.Ytlonabodghfjdaa
namespace Go.Am.Ytlonabodghfjdaa
set_option maxRecDepth 100000
set_option linter.unusedSimpArgs false
set_option linter.unusedVariables false
variable {h:Hp} {p:FP} {F:Fl}
theorem turned_spec (hp:FOk h p) (base:Nat):CallA T base 19 [.ptr p.f 0] (putF h p F)=some (.int .i64 F.turned,putF h p F):=by
 rw [S19];simp only [size_putF,ld3 hp,trunc_putF0,↓evD,evU,evL,evM,Nat.reduceAdd,Nat.reduceSub,Nat.reduceMul,Nat.reduceLeDiff,Nat.reduceLT,Nat.reduceEqDiff,Nat.reduceBEq,reduceIte,reduceCtorEq,Int.reduceBEq,Int.reduceEq,Int.reduceLT,Int.reduceLE,Int.reduceGT,Int.reduceGE,Int.reduceAdd,Int.reduceSub,Int.reduceNeg,Int.reduceBNe,ite_true,ite_false,if_true,if_false,implies_true,forall_const]
theorem down_spec (hp:FOk h p) (base:Nat):CallA T base 32 [.ptr p.f 0] (putF h p F)=some (.bool F.down,putF h p F):=by
 rw [S32];simp only [size_putF,ld5 hp,trunc_putF0,↓evD,evU,evL,evM,Nat.reduceAdd,Nat.reduceSub,Nat.reduceMul,Nat.reduceLeDiff,Nat.reduceLT,Nat.reduceEqDiff,Nat.reduceBEq,reduceIte,reduceCtorEq,Int.reduceBEq,Int.reduceEq,Int.reduceLT,Int.reduceLE,Int.reduceGT,Int.reduceGE,Int.reduceAdd,Int.reduceSub,Int.reduceNeg,Int.reduceBNe,ite_true,ite_false,if_true,if_false,implies_true,forall_const]
theorem sector_spec (hp:FOk h p) (base:Nat):CallA T base 42 [.ptr p.f 0] (putF h p F)=some (.int .i64 F.sector,putF h p F):=by
 rw [S42];simp only [size_putF,ld1 hp,trunc_putF0,↓evD,evU,evL,evM,Nat.reduceAdd,Nat.reduceSub,Nat.reduceMul,Nat.reduceLeDiff,Nat.reduceLT,Nat.reduceEqDiff,Nat.reduceBEq,reduceIte,reduceCtorEq,Int.reduceBEq,Int.reduceEq,Int.reduceLT,Int.reduceLE,Int.reduceGT,Int.reduceGE,Int.reduceAdd,Int.reduceSub,Int.reduceNeg,Int.reduceBNe,ite_true,ite_false,if_true,if_false,implies_true,forall_const]
theorem size_spec (hp:FOk h p) (base:Nat):CallA T base 47 [.ptr p.f 0] (putF h p F)=some (.int .i64 F.b.length,putF h p F):=by
 rw [S47];simp only [size_putF,ld0 hp,trunc_putF0,↓evD,evU,evL,evM,Nat.reduceAdd,Nat.reduceSub,Nat.reduceMul,Nat.reduceLeDiff,Nat.reduceLT,Nat.reduceEqDiff,Nat.reduceBEq,reduceIte,reduceCtorEq,Int.reduceBEq,Int.reduceEq,Int.reduceLT,Int.reduceLE,Int.reduceGT,Int.reduceGE,Int.reduceAdd,Int.reduceSub,Int.reduceNeg,Int.reduceBNe,ite_true,ite_false,if_true,if_false,implies_true,forall_const]
theorem cut_spec (hp:FOk h p) (base:Nat) (n:Int):CallA T base 21 [.ptr p.f 0,.int .i64 n] (putF h p F)=some (.tup [],putF h p { F with left:=if -1 > n then -1 else n }):=by
 rw [S21];simp only [size_putF,minmaxV_cons,st4 hp,trunc_putF0,↓evD,evU,evL,evM,Nat.reduceAdd,Nat.reduceSub,Nat.reduceMul,Nat.reduceLeDiff,Nat.reduceLT,Nat.reduceEqDiff,Nat.reduceBEq,reduceIte,reduceCtorEq,Int.reduceBEq,Int.reduceEq,Int.reduceLT,Int.reduceLE,Int.reduceGT,Int.reduceGE,Int.reduceAdd,Int.reduceSub,Int.reduceNeg,Int.reduceBNe,ite_true,ite_false,if_true,if_false,implies_true,forall_const]
theorem restore_spec (hp:FOk h p) (base:Nat):CallA T base 26 [.ptr p.f 0] (putF h p F)=some (.tup [],putF h p { F with left:=-1,down:=false }):=by
 rw [S26];simp only [size_putF,st4 hp,st5 hp,putF_putF hp,trunc_putF0,↓evD,evU,evL,evM,Nat.reduceAdd,Nat.reduceSub,Nat.reduceMul,Nat.reduceLeDiff,Nat.reduceLT,Nat.reduceEqDiff,Nat.reduceBEq,reduceIte,reduceCtorEq,Int.reduceBEq,Int.reduceEq,Int.reduceLT,Int.reduceLE,Int.reduceGT,Int.reduceGE,Int.reduceAdd,Int.reduceSub,Int.reduceNeg,Int.reduceBNe,ite_true,ite_false,if_true,if_false,implies_true,forall_const]
theorem turn_spec (hp:FOk h p) (base:Nat) {i:Nat} {c:UInt8} (hi:i < F.b.length) (ht:F.turned≤1073741824) (hl:-1≤F.left∧F.left≤9223372036854775807) :
  CallA T base 79 [.ptr p.f 0,.int .i64 i,.int .u8 c.toNat] (putF h p F)=some (.bool (F.turn i c).1,putF h p (F.turn i c).2):=by
 rw [S79]
 unfold Fl.turn
 have hm:(if ((1073741824:Int) < ((F.turned+1:Nat):Int)) then (1073741824:Int) else ((F.turned+1:Nat):Int))=((min (F.turned+1) 1073741824:Nat):Int):=by split <;> omega
 by_cases h0:F.left=0
 ·simp only [size_putF,ld4 hp,st5 hp,h0,trunc_putF0,↓evD,evU,evL,evM,Nat.reduceAdd,Nat.reduceSub,Nat.reduceMul,Nat.reduceLeDiff,Nat.reduceLT,Nat.reduceEqDiff,Nat.reduceBEq,reduceIte,reduceCtorEq,Int.reduceBEq,Int.reduceEq,Int.reduceLT,Int.reduceLE,Int.reduceGT,Int.reduceGE,Int.reduceAdd,Int.reduceSub,Int.reduceNeg,Int.reduceBNe,ite_true,ite_false,if_true,if_false,implies_true,forall_const]
 ·have e0:(F.left == 0)=false:=by simpa using h0
  by_cases h1:F.left > 0
  ·have ew:IntKind.i64.wrap (F.left - 1)=F.left - 1:=wrap_small (by omega) (by omega)
   simp (disch:=omega) only [size_putF,ld4 hp,ld0 hp,ld3 hp,st4 hp,h0,e0,h1,ew,decide_true,trunc_putF0,ix_nat,hi,stb hp,st3 hp,putF_putF hp,minmaxV_cons,wr_a1,hm,List.length_set,↓evD,evU,evL,evM,Nat.reduceAdd,Nat.reduceSub,Nat.reduceMul,Nat.reduceLeDiff,Nat.reduceLT,Nat.reduceEqDiff,Nat.reduceBEq,reduceIte,reduceCtorEq,Int.reduceBEq,Int.reduceEq,Int.reduceLT,Int.reduceLE,Int.reduceGT,Int.reduceGE,Int.reduceAdd,Int.reduceSub,Int.reduceNeg,Int.reduceBNe,ite_true,ite_false,if_true,if_false,implies_true,forall_const]
  ·simp (disch:=omega) only [size_putF,ld4 hp,ld0 hp,ld3 hp,st4 hp,h0,e0,h1,decide_false,trunc_putF0,ix_nat,hi,stb hp,st3 hp,putF_putF hp,minmaxV_cons,wr_a1,hm,List.length_set,↓evD,evU,evL,evM,Nat.reduceAdd,Nat.reduceSub,Nat.reduceMul,Nat.reduceLeDiff,Nat.reduceLT,Nat.reduceEqDiff,Nat.reduceBEq,reduceIte,reduceCtorEq,Int.reduceBEq,Int.reduceEq,Int.reduceLT,Int.reduceLE,Int.reduceGT,Int.reduceGE,Int.reduceAdd,Int.reduceSub,Int.reduceNeg,Int.reduceBNe,ite_true,ite_false,if_true,if_false,implies_true,forall_const]
end Go.Am.Ytlonabodghfjdaa
namespace Go.Am.Ytlonabodghfjdaa
set_option maxRecDepth 100000
set_option linter.unusedSimpArgs false
set_option linter.unusedVariables false
variable {h:Hp} {p:FP} {F:Fl}
theorem within_spec (hp:FOk h p) (base:Nat) (a n:Nat) (hb:F.b.length≤1000000) :
  CallA T base 81 [.ptr p.f 0,.int .i64 a,.int .i64 n] (putF h p F)=some (.bool (decide (a+n≤F.b.length)),putF h p F):=by
 rw [S81]
 by_cases h1:a≤F.b.length
 ·by_cases h2:n≤F.b.length - a
  ·have e3:a+n≤F.b.length:=by omega
   simp (disch:=omega) only [size_putF,ld0 hp,dec_nonneg,dec_le,h1,h2,e3,decide_true,wr_sub,trunc_putF0,↓evD,evU,evL,evM,Nat.reduceAdd,Nat.reduceSub,Nat.reduceMul,Nat.reduceLeDiff,Nat.reduceLT,Nat.reduceEqDiff,Nat.reduceBEq,reduceIte,reduceCtorEq,Int.reduceBEq,Int.reduceEq,Int.reduceLT,Int.reduceLE,Int.reduceGT,Int.reduceGE,Int.reduceAdd,Int.reduceSub,Int.reduceNeg,Int.reduceBNe,ite_true,ite_false,if_true,if_false,implies_true,forall_const]
  ·have e3:¬ (a+n≤F.b.length):=by omega
   simp (disch:=omega) only [size_putF,ld0 hp,dec_nonneg,dec_le,h1,h2,e3,decide_true,decide_false,wr_sub,trunc_putF0,↓evD,evU,evL,evM,Nat.reduceAdd,Nat.reduceSub,Nat.reduceMul,Nat.reduceLeDiff,Nat.reduceLT,Nat.reduceEqDiff,Nat.reduceBEq,reduceIte,reduceCtorEq,Int.reduceBEq,Int.reduceEq,Int.reduceLT,Int.reduceLE,Int.reduceGT,Int.reduceGE,Int.reduceAdd,Int.reduceSub,Int.reduceNeg,Int.reduceBNe,ite_true,ite_false,if_true,if_false,implies_true,forall_const]
 ·have e3:¬ (a+n≤F.b.length):=by omega
  simp (disch:=omega) only [size_putF,ld0 hp,dec_nonneg,dec_le,h1,e3,decide_true,decide_false,wr_sub,trunc_putF0,↓evD,evU,evL,evM,Nat.reduceAdd,Nat.reduceSub,Nat.reduceMul,Nat.reduceLeDiff,Nat.reduceLT,Nat.reduceEqDiff,Nat.reduceBEq,reduceIte,reduceCtorEq,Int.reduceBEq,Int.reduceEq,Int.reduceLT,Int.reduceLE,Int.reduceGT,Int.reduceGE,Int.reduceAdd,Int.reduceSub,Int.reduceNeg,Int.reduceBNe,ite_true,ite_false,if_true,if_false,implies_true,forall_const]
structure Bv (v:PV) (l:List UInt8):Prop where
 len:lenB false v=some (.int .i64 l.length)
 ix:∀ (k:IntKind) (i:Nat) (c:UInt8),l[i]?=some c→idxAB v (.int k i) 1=some (.ep [.int .u8 c.toNat] 0)
 el:∀ h,elems h v=some (u8s l)
 below:∀ n,below n v=true
 frz:∀ n h,frz n h v=some v
 strip:strip v=v
theorem bv_sl {o:Own} (ho:o=.no∨o=.full) (l:List UInt8):Bv (.sl o 1 (u8s l)) l:=by
 have hs:∀ n,belows n (u8s l)=true:=by
  intro n;induction l with
  | nil=>rfl
  | cons c l ih=>simp only [u8s,List.map_cons,belows,Bool.and_eq_true] at *;exact ⟨rfl,ih⟩
 refine ⟨by rw [lenB_sl,u8s_length],fun k i c hc=>?_,fun _=>rfl,fun n=>?_,fun n h=>?_,?_⟩
 ·have hi:=(List.getElem?_eq_some_iff.1 hc).1
  rw [idxAB_sl,if_pos rfl,ix_nat k i _ (by rw [u8s_length];exact hi),Option.bnd_some,u8s_get,hc];rfl
 ·rcases ho with rfl | rfl <;> simp [below,Own.below,hs]
 ·rcases ho with rfl | rfl <;> rfl
 ·rcases ho with rfl | rfl <;> rfl
theorem bv_nils:Bv .nils []:=⟨rfl,fun k i c hc=>by simp at hc,fun _=>rfl,fun _=>rfl,fun _ _=>rfl,rfl⟩
theorem andNot_u8 (c d:UInt8):intOp .andNot .u8 (c.toNat:Int) (d.toNat:Int)=some (.int .u8 ((c &&& ~~~ d).toNat:Nat)):=by
 have h1:∀ c:UInt8,BitVec.ofInt 8 (c.toNat:Int)=c.toBitVec:=by intro c;apply BitVec.eq_of_toNat_eq;simp
 show some (PV.int .u8 (IntKind.u8.wrap ((BitVec.ofInt 8 (c.toNat:Int) &&& ~~~ (BitVec.ofInt 8 (d.toNat:Int))).toNat:Int)))=_
 rw [h1,h1,show (c.toBitVec &&& ~~~ d.toBitVec)=(c &&& ~~~ d).toBitVec from rfl]
 have h2:(c &&& ~~~ d).toBitVec.toNat < 256:=(c &&& ~~~ d).toBitVec.isLt
 have h3:∀ n:Nat,n < 256→IntKind.u8.wrap (n:Int)=n:=by
  intro n hn
  simp only [IntKind.wrap,IntKind.signed,IntKind.bits,Bool.false_and,Bool.false_eq_true,if_false]
  omega
 rw [h3 _ h2];rfl
theorem clears_loop (hp:FOk h p) (base:Nat) (a:Nat) (l:List UInt8) {v:PV} (hv:Bv v l) (hb:a+l.length≤F.b.length) (hs:F.b.length≤1000000):∀ (m k:Nat),k+m=l.length →
  P82_0 base (size h) (.int .i64 k) (.int .i64 a) (.ptr p.f 0) v (.int .i64 l.length) (putF h p F)=some (.bool ((l.drop k).zipIdx k |>.all fun q=>q.1 &&& ~~~ (F.b.getD (a+q.2) 0) == 0),putF h p F)
 | 0,k,hk=>by
  have e0:¬ (k < l.length):=by omega
  rw [P82_0_eq]
  simp only [dec_lt,e0,decide_false,trunc_putF0,List.drop_of_length_le (show l.length≤k by omega),List.zipIdx_nil,List.all_nil,↓evD,evU,evL,evM,Nat.reduceAdd,Nat.reduceSub,Nat.reduceMul,Nat.reduceLeDiff,Nat.reduceLT,Nat.reduceEqDiff,Nat.reduceBEq,reduceIte,reduceCtorEq,Int.reduceBEq,Int.reduceEq,Int.reduceLT,Int.reduceLE,Int.reduceGT,Int.reduceGE,Int.reduceAdd,Int.reduceSub,Int.reduceNeg,Int.reduceBNe,ite_true,ite_false,if_true,if_false,implies_true,forall_const]
 | m+1,k,hk=>by
  have e0:k < l.length:=by omega
  have hc:l[k]?=some l[k]:=List.getElem?_eq_getElem e0
  have hi:=hv.ix .i64 k _ hc
  have hd:F.b[a+k]?=some F.b[a+k]:=List.getElem?_eq_getElem (by omega)
  have ihx:=clears_loop hp base a l hv hb hs m (k+1) (by omega)
  rw [P82_0_eq]
  have hdrop:(l.drop k).zipIdx k=(l[k],k) :: (l.drop (k+1)).zipIdx (k+1):=by rw [List.drop_eq_getElem_cons e0,List.zipIdx_cons]
  have hgd:F.b.getD (a+k) 0=F.b[a+k]:=by rw [List.getD_eq_getElem?_getD,hd];rfl
  have hbe:((((l[k] &&& ~~~ F.b[a+k]).toNat:Nat):Int) != 0)=!(l[k] &&& ~~~ F.b[a+k] == 0):=by
   rw [bne,Bool.not_inj_iff,Bool.eq_iff_iff,beq_iff_eq,beq_iff_eq]
   constructor
   ·intro hq;apply UInt8.toNat_inj.1;have:(l[k] &&& ~~~ F.b[a+k]).toNat=0:=by omega
    simpa using this
   ·intro hq;rw [hq];rfl
  have hlt:a+k < F.b.length:=by omega
  rw [hdrop,List.all_cons,hgd]
  cases hz:(l[k] &&& ~~~ F.b[a+k] == 0) with
  | true =>
   rw [hz] at hbe
   simp (disch:=omega) only [dec_lt,e0,decide_true,hi,ld0 hp,wr_add,ix_nat,hlt,ldb hp hd,andNot_u8,hbe,wr_a1,ihx,Bool.not_true,Bool.true_and,↓evD,evU,evL,evM,Nat.reduceAdd,Nat.reduceSub,Nat.reduceMul,Nat.reduceLeDiff,Nat.reduceLT,Nat.reduceEqDiff,Nat.reduceBEq,reduceIte,reduceCtorEq,Int.reduceBEq,Int.reduceEq,Int.reduceLT,Int.reduceLE,Int.reduceGT,Int.reduceGE,Int.reduceAdd,Int.reduceSub,Int.reduceNeg,Int.reduceBNe,ite_true,ite_false,if_true,if_false,implies_true,forall_const]
  | false =>
   rw [hz] at hbe
   simp (disch:=omega) only [dec_lt,e0,decide_true,hi,ld0 hp,wr_add,ix_nat,hlt,ldb hp hd,andNot_u8,hbe,trunc_putF0,Bool.not_false,Bool.false_and,↓evD,evU,evL,evM,Nat.reduceAdd,Nat.reduceSub,Nat.reduceMul,Nat.reduceLeDiff,Nat.reduceLT,Nat.reduceEqDiff,Nat.reduceBEq,reduceIte,reduceCtorEq,Int.reduceBEq,Int.reduceEq,Int.reduceLT,Int.reduceLE,Int.reduceGT,Int.reduceGE,Int.reduceAdd,Int.reduceSub,Int.reduceNeg,Int.reduceBNe,ite_true,ite_false,if_true,if_false,implies_true,forall_const]
theorem clears_spec (hp:FOk h p) (base:Nat) (a:Nat) (l:List UInt8) {v:PV} (hv:Bv v l) (hb:a+l.length≤F.b.length) (hs:F.b.length≤1000000) :
  CallA T base 82 [.ptr p.f 0,.int .i64 a,v] (putF h p F)=some (.bool (F.clears a l),putF h p F):=by
 rw [S82]
 have:=clears_loop (h:=h) hp (size h) a l hv hb hs l.length 0 (by omega)
 simp only [hv.len,size_putF,↓evD,evU,evL,evM,Nat.reduceAdd,Nat.reduceSub,Nat.reduceMul,Nat.reduceLeDiff,Nat.reduceLT,Nat.reduceEqDiff,Nat.reduceBEq,reduceIte,reduceCtorEq,Int.reduceBEq,Int.reduceEq,Int.reduceLT,Int.reduceLE,Int.reduceGT,Int.reduceGE,Int.reduceAdd,Int.reduceSub,Int.reduceNeg,Int.reduceBNe,ite_true,ite_false,if_true,if_false,implies_true,forall_const]
 rw [show ((0:Nat):Int)=0 from rfl] at this
 rw [this];rfl
structure FIn (F:Fl):Prop where
 turned:F.turned≤1073741824
 left:-1≤F.left∧F.left≤9223372036854775807
 len:F.b.length≤1000000
 wear:∀ n∈F.wear,n≤1073741824
theorem FIn.turn (hF:FIn F) (i:Nat) (c:UInt8):FIn (F.turn i c).2∧(F.turn i c).2.b.length=F.b.length∧(F.turn i c).2.wear=F.wear∧(F.turn i c).2.sector=F.sector:=by
 unfold Fl.turn
 split
 ·exact ⟨⟨hF.turned,hF.left,hF.len,hF.wear⟩,rfl,rfl,rfl⟩
 ·refine ⟨⟨Nat.min_le_right _ _,?_,by simpa using hF.len,hF.wear⟩,by simp,rfl,rfl⟩
  have:=hF.left
  dsimp only
  split <;> omega
theorem FIn.prog:∀ (l:List UInt8) {F:Fl} (hF:FIn F) (i:Nat),FIn (F.prog i l).2∧(F.prog i l).2.b.length=F.b.length∧(F.prog i l).2.wear=F.wear∧(F.prog i l).2.sector=F.sector
 | [],F,hF,i=>⟨hF,rfl,rfl,rfl⟩
 | c :: l,F,hF,i=>by
  obtain ⟨h1,h2,h3,h4⟩:=hF.turn i c
  simp only [Fl.prog]
  split
  ·obtain ⟨q1,q2,q3,q4⟩:=FIn.prog l h1 (i+1)
   exact ⟨q1,q2.trans h2,q3.trans h3,q4.trans h4⟩
  ·exact ⟨h1,h2,h3,h4⟩
theorem prog_loop (hp:FOk h p) (base:Nat) (a:Nat) (l:List UInt8) {v:PV} (hv:Bv v l):∀ (m k:Nat) {F:Fl},FIn F→a+l.length≤F.b.length→k+m=l.length →
  P69_0 base (size h) (.int .i64 k) (.int .i64 a) (.ptr p.f 0) v (.int .i64 l.length) (putF h p F)=some (.int .i64 ((F.prog (a+k) (l.drop k)).1:Nat),putF h p (F.prog (a+k) (l.drop k)).2)
 | 0,k,F,hF,hb,hk=>by
  have e0:¬ (k < l.length):=by omega
  rw [P69_0_eq]
  simp only [dec_lt,e0,decide_false,trunc_putF0,List.drop_of_length_le (show l.length≤k by omega),Fl.prog,↓evD,evU,evL,evM,Nat.reduceAdd,Nat.reduceSub,Nat.reduceMul,Nat.reduceLeDiff,Nat.reduceLT,Nat.reduceEqDiff,Nat.reduceBEq,reduceIte,reduceCtorEq,Int.reduceBEq,Int.reduceEq,Int.reduceLT,Int.reduceLE,Int.reduceGT,Int.reduceGE,Int.reduceAdd,Int.reduceSub,Int.reduceNeg,Int.reduceBNe,ite_true,ite_false,if_true,if_false,implies_true,forall_const] <;> rfl
 | m+1,k,F,hF,hb,hk=>by
  have e0:k < l.length:=by omega
  have hc:l[k]?=some l[k]:=List.getElem?_eq_getElem e0
  have hi:=hv.ix .i64 k _ hc
  obtain ⟨t1,t2,t3,t4⟩:=hF.turn (a+k) l[k]
  have hl:=hF.len
  have ht:=fun b=>turn_spec (h:=h) (F:=F) hp b (i:=a+k) (c:=l[k]) (by omega) hF.turned hF.left
  have ihx:=prog_loop hp base a l hv m (k+1) t1 (by omega) (by omega)
  rw [P69_0_eq,List.drop_eq_getElem_cons e0]
  simp only [Fl.prog]
  cases hz:(F.turn (a+k) l[k]).1 with
  | true =>
   simp (disch:=omega) only [dec_lt,e0,decide_true,hi,wr_add,ht,hz,wr_a1,ihx,↓evD,evU,evL,evM,Nat.reduceAdd,Nat.reduceSub,Nat.reduceMul,Nat.reduceLeDiff,Nat.reduceLT,Nat.reduceEqDiff,Nat.reduceBEq,reduceIte,reduceCtorEq,Int.reduceBEq,Int.reduceEq,Int.reduceLT,Int.reduceLE,Int.reduceGT,Int.reduceGE,Int.reduceAdd,Int.reduceSub,Int.reduceNeg,Int.reduceBNe,ite_true,ite_false,if_true,if_false,implies_true,forall_const]
   rw [Nat.add_assoc]
  | false =>
   simp (disch:=omega) only [dec_lt,e0,decide_true,hi,wr_add,ht,hz,trunc_putF0,↓evD,evU,evL,evM,Nat.reduceAdd,Nat.reduceSub,Nat.reduceMul,Nat.reduceLeDiff,Nat.reduceLT,Nat.reduceEqDiff,Nat.reduceBEq,reduceIte,reduceCtorEq,Int.reduceBEq,Int.reduceEq,Int.reduceLT,Int.reduceLE,Int.reduceGT,Int.reduceGE,Int.reduceAdd,Int.reduceSub,Int.reduceNeg,Int.reduceBNe,ite_true,ite_false,if_true,if_false,implies_true,forall_const] <;> rfl
theorem program_spec (hp:FOk h p) (base:Nat) (a:Nat) (l:List UInt8) {v:PV} (hv:Bv v l) (hF:FIn F) (hb:a+l.length≤F.b.length) :
  CallA T base 69 [.ptr p.f 0,.int .i64 a,v] (putF h p F)=some (.int .i64 ((F.program a l).1:Nat),putF h p (F.program a l).2):=by
 rw [S69]
 have hw:=fun b=>within_spec (h:=h) (F:=F) hp b a l.length hF.len
 have hcl:=fun b=>clears_spec (h:=h) (F:=F) hp b a l hv hb hF.len
 have hlp:=fun b=>prog_loop (h:=h) hp b a l hv l.length 0 hF hb (by omega)
 simp only [show ((0:Nat):Int)=0 from rfl,Nat.add_zero,List.drop_zero] at hlp
 unfold Fl.program
 cases hd:F.down with
 | true=>simp only [size_putF,ld5 hp,hd,trunc_putF0,↓evD,evU,evL,evM,Nat.reduceAdd,Nat.reduceSub,Nat.reduceMul,Nat.reduceLeDiff,Nat.reduceLT,Nat.reduceEqDiff,Nat.reduceBEq,reduceIte,reduceCtorEq,Int.reduceBEq,Int.reduceEq,Int.reduceLT,Int.reduceLE,Int.reduceGT,Int.reduceGE,Int.reduceAdd,Int.reduceSub,Int.reduceNeg,Int.reduceBNe,ite_true,ite_false,if_true,if_false,implies_true,forall_const];rfl
 | false =>
  cases hz:F.clears a l with
  | false=>simp only [size_putF,ld5 hp,hd,hv.len,hw,hb,decide_true,hcl,hz,trunc_putF0,↓evD,evU,evL,evM,Nat.reduceAdd,Nat.reduceSub,Nat.reduceMul,Nat.reduceLeDiff,Nat.reduceLT,Nat.reduceEqDiff,Nat.reduceBEq,reduceIte,reduceCtorEq,Int.reduceBEq,Int.reduceEq,Int.reduceLT,Int.reduceLE,Int.reduceGT,Int.reduceGE,Int.reduceAdd,Int.reduceSub,Int.reduceNeg,Int.reduceBNe,ite_true,ite_false,if_true,if_false,implies_true,forall_const];rfl
  | true=>simp only [size_putF,ld5 hp,hd,hv.len,hw,hb,decide_true,hcl,hz,hlp,trunc_putF0,↓evD,evU,evL,evM,Nat.reduceAdd,Nat.reduceSub,Nat.reduceMul,Nat.reduceLeDiff,Nat.reduceLT,Nat.reduceEqDiff,Nat.reduceBEq,reduceIte,reduceCtorEq,Int.reduceBEq,Int.reduceEq,Int.reduceLT,Int.reduceLE,Int.reduceGT,Int.reduceGE,Int.reduceAdd,Int.reduceSub,Int.reduceNeg,Int.reduceBNe,ite_true,ite_false,if_true,if_false,implies_true,forall_const]
end Go.Am.Ytlonabodghfjdaa
namespace Go.Am.Ytlonabodghfjdaa
set_option maxRecDepth 100000
set_option linter.unusedSimpArgs false
set_option linter.unusedVariables false
variable {h:Hp} {p:FP} {F:Fl}
theorem erase_loop (hp:FOk h p) (base:Nat) (s:Nat):∀ (m k:Nat) {F:Fl},FIn F→s * F.sector+F.sector≤F.b.length→k+m=F.sector →
  P67_0 base (size h) (.int .i64 k) (.ptr p.f 0) (.int .i64 s) (.int .i64 F.sector) (putF h p F)=some (.int .i64 ((F.prog (s * F.sector+k) (List.replicate m 255)).1:Nat),putF h p (F.prog (s * F.sector+k) (List.replicate m 255)).2)
 | 0,k,F,hF,hb,hk=>by
  have e0:¬ (k < F.sector):=by omega
  rw [P67_0_eq]
  simp only [dec_lt,e0,decide_false,trunc_putF0,List.replicate_zero,Fl.prog,↓evD,evU,evL,evM,Nat.reduceAdd,Nat.reduceSub,Nat.reduceMul,Nat.reduceLeDiff,Nat.reduceLT,Nat.reduceEqDiff,Nat.reduceBEq,reduceIte,reduceCtorEq,Int.reduceBEq,Int.reduceEq,Int.reduceLT,Int.reduceLE,Int.reduceGT,Int.reduceGE,Int.reduceAdd,Int.reduceSub,Int.reduceNeg,Int.reduceBNe,ite_true,ite_false,if_true,if_false,implies_true,forall_const] <;> rfl
 | m+1,k,F,hF,hb,hk=>by
  have e0:k < F.sector:=by omega
  have hl:=hF.len
  obtain ⟨t1,t2,t3,t4⟩:=hF.turn (s * F.sector+k) 255
  have ht:=fun b=>turn_spec (h:=h) (F:=F) hp b (i:=s * F.sector+k) (c:=255) (by omega) hF.turned hF.left
  simp only [show (((255:UInt8).toNat:Nat):Int)=255 from rfl] at ht
  have ihx:=erase_loop hp base s m (k+1) t1 (by rw [t4,t2];omega) (by rw [t4];omega)
  rw [t4] at ihx
  rw [P67_0_eq,List.replicate_succ]
  simp only [Fl.prog]
  cases hz:(F.turn (s * F.sector+k) 255).1 with
  | true =>
   simp (disch:=omega) only [dec_lt,e0,decide_true,ld1 hp,wr_mul,wr_add,ht,hz,wr_a1,ihx,↓evD,evU,evL,evM,Nat.reduceAdd,Nat.reduceSub,Nat.reduceMul,Nat.reduceLeDiff,Nat.reduceLT,Nat.reduceEqDiff,Nat.reduceBEq,reduceIte,reduceCtorEq,Int.reduceBEq,Int.reduceEq,Int.reduceLT,Int.reduceLE,Int.reduceGT,Int.reduceGE,Int.reduceAdd,Int.reduceSub,Int.reduceNeg,Int.reduceBNe,ite_true,ite_false,if_true,if_false,implies_true,forall_const]
   rw [Nat.add_assoc]
  | false =>
   simp (disch:=omega) only [dec_lt,e0,decide_true,ld1 hp,wr_mul,wr_add,ht,hz,trunc_putF0,↓evD,evU,evL,evM,Nat.reduceAdd,Nat.reduceSub,Nat.reduceMul,Nat.reduceLeDiff,Nat.reduceLT,Nat.reduceEqDiff,Nat.reduceBEq,reduceIte,reduceCtorEq,Int.reduceBEq,Int.reduceEq,Int.reduceLT,Int.reduceLE,Int.reduceGT,Int.reduceGE,Int.reduceAdd,Int.reduceSub,Int.reduceNeg,Int.reduceBNe,ite_true,ite_false,if_true,if_false,implies_true,forall_const] <;> rfl
theorem erase_spec (hp:FOk h p) (base:Nat) (s:Nat) (hF:FIn F) (hs:s < F.wear.length) (hb:s * F.sector+F.sector≤F.b.length) (hs2:s≤1000000) (hw2:F.wear.length≤1000000) :
  CallA T base 67 [.ptr p.f 0,.int .i64 s] (putF h p F)=some (.int .i64 ((F.erase s).1:Nat),putF h p (F.erase s).2):=by
 rw [S67]
 unfold Fl.erase
 cases hd:F.down with
 | true=>simp only [size_putF,ld5 hp,hd,trunc_putF0,↓evD,evU,evL,evM,Nat.reduceAdd,Nat.reduceSub,Nat.reduceMul,Nat.reduceLeDiff,Nat.reduceLT,Nat.reduceEqDiff,Nat.reduceBEq,reduceIte,reduceCtorEq,Int.reduceBEq,Int.reduceEq,Int.reduceLT,Int.reduceLE,Int.reduceGT,Int.reduceGE,Int.reduceAdd,Int.reduceSub,Int.reduceNeg,Int.reduceBNe,ite_true,ite_false,if_true,if_false,implies_true,forall_const];rfl
 | false =>
  have hg:F.wear[s]?=some F.wear[s]:=List.getElem?_eq_getElem hs
  have hgd:F.wear.getD s 0=F.wear[s]:=by rw [List.getD_eq_getElem?_getD,hg];rfl
  have hwb:=hF.wear _ (List.mem_of_getElem? hg)
  have hm:(if ((1073741824:Int) < ((F.wear[s]+1:Nat):Int)) then (1073741824:Int) else ((F.wear[s]+1:Nat):Int))=((min (F.wear[s]+1) 1073741824:Nat):Int):=by split <;> omega
  have hF':FIn { F with wear:=F.wear.set s (min (F.wear[s]+1) 1073741824) }:=⟨hF.turned,hF.left,hF.len,fun n hn=>by
   rcases List.mem_or_eq_of_mem_set hn with h1 | rfl
   ·exact hF.wear n h1
   ·exact Nat.min_le_right _ _⟩
  have hlp:=fun b=>erase_loop (h:=h) hp b s F.sector 0 hF' (by exact hb) (Nat.zero_add _)
  simp only [show ((0:Nat):Int)=0 from rfl,Nat.add_zero,hd] at hlp
  have hns:¬ (s ≥ F.wear.length):=by omega
  rw [hgd]
  simp (disch:=omega) only [size_putF,ld5 hp,ld2 hp,ld1 hp,hd,dec_neg,dec_ge,hns,decide_false,hs,ix_nat,ldw hp hg,wr_a1,minmaxV_cons,hm,stw hp,hlp,↓evD,evU,evL,evM,Nat.reduceAdd,Nat.reduceSub,Nat.reduceMul,Nat.reduceLeDiff,Nat.reduceLT,Nat.reduceEqDiff,Nat.reduceBEq,reduceIte,reduceCtorEq,Int.reduceBEq,Int.reduceEq,Int.reduceLT,Int.reduceLE,Int.reduceGT,Int.reduceGE,Int.reduceAdd,Int.reduceSub,Int.reduceNeg,Int.reduceBNe,ite_true,ite_false,if_true,if_false,implies_true,forall_const]
def clV (l:List UInt8):PV:=if l=[] then .sl .full 1 [] else .sl .no 1 (u8s l)
theorem bv_clV (l:List UInt8):Bv (clV l) l:=by
 unfold clV
 split
 ·rename_i hq;subst hq;exact bv_sl (.inr rfl) []
 ·exact bv_sl (.inl rfl) l
theorem clV_nil (l:List UInt8):nilK 1 (clV l)=some false:=by unfold clV;split <;> rfl
theorem u8s_scalar (l:List UInt8):(u8s l).all scalar=true:=by induction l <;> simp_all [u8s,scalar]
theorem u8s_one (l:List UInt8):(u8s l).all (fun x=>x.cells.length == 1)=true:=by induction l <;> simp_all [u8s,PV.cells]
theorem u8s_below (l:List UInt8) (n:Nat):belows n (u8s l)=true:=by
 induction l with
 | nil=>rfl
 | cons c l ih=>simp only [u8s,List.map_cons,belows,Bool.and_eq_true] at *;exact ⟨rfl,ih⟩
theorem u8s_strips (l:List UInt8):strips (u8s l)=u8s l:=by
 induction l with
 | nil=>rfl
 | cons c l ih=>simp only [u8s,List.map_cons,strips] at *;rw [ih];rfl
theorem u8s_nil {l:List UInt8}:u8s l=[] ↔ l=[]:=by cases l <;> simp [u8s]
theorem clone_spec (base:Nat) {v:PV} {l:List UInt8} (hn:nilK 1 v=some false) (he:elems h v=some (u8s l)) (hl:l.length≤1000000) :
  CallA T base 36 [v] h=some (if l=[] then (.sl .full 1 [],h) else (.bsl false (size h) 0 l.length 1,ext h [.cells (u8s l)])):=by
 rw [S36]
 have ha:appBoxV 1 (.sl .full 1 []) v h=some (if l=[] then (.sl .full 1 [],h) else (.bsl false (size h) 0 l.length 1,ext h [.cells (u8s l)])):=by
  unfold appBoxV
  rw [he,Option.bnd_some]
  simp only [fullEs,Option.bnd_some]
  by_cases h0:l=[]
  ·rw [if_pos (u8s_nil.2 h0),if_pos h0]
  ·simp only [u8s_nil,h0,if_false,u8s_one,u8s_scalar,List.all_nil,List.length_nil,Nat.zero_add,u8s_length,List.nil_append,and_true,true_and,lim2]
   rw [if_pos (by omega)]
 by_cases h0:l=[]
 ·rw [if_pos h0] at ha ⊢
  simp only [isnilV_eq,hn,ha,↓evD,evU,evL,evM,Nat.reduceAdd,Nat.reduceSub,Nat.reduceMul,Nat.reduceLeDiff,Nat.reduceLT,Nat.reduceEqDiff,Nat.reduceBEq,reduceIte,reduceCtorEq,Int.reduceBEq,Int.reduceEq,Int.reduceLT,Int.reduceLE,Int.reduceGT,Int.reduceGE,Int.reduceAdd,Int.reduceSub,Int.reduceNeg,Int.reduceBNe,ite_true,ite_false,if_true,if_false,implies_true,forall_const]
 ·rw [if_neg h0] at ha ⊢
  simp only [isnilV_eq,hn,ha,u8s_below,↓evD,evU,evL,evM,Nat.reduceAdd,Nat.reduceSub,Nat.reduceMul,Nat.reduceLeDiff,Nat.reduceLT,Nat.reduceEqDiff,Nat.reduceBEq,reduceIte,reduceCtorEq,Int.reduceBEq,Int.reduceEq,Int.reduceLT,Int.reduceLE,Int.reduceGT,Int.reduceGE,Int.reduceAdd,Int.reduceSub,Int.reduceNeg,Int.reduceBNe,ite_true,ite_false,if_true,if_false,implies_true,forall_const]
theorem clone_nils (base:Nat):CallA T base 36 [.nils] h=some (.nils,h):=by
 rw [S36];simp only [isnilV_eq,↓evD,evU,evL,evM,Nat.reduceAdd,Nat.reduceSub,Nat.reduceMul,Nat.reduceLeDiff,Nat.reduceLT,Nat.reduceEqDiff,Nat.reduceBEq,reduceIte,reduceCtorEq,Int.reduceBEq,Int.reduceEq,Int.reduceLT,Int.reduceLE,Int.reduceGT,Int.reduceGE,Int.reduceAdd,Int.reduceSub,Int.reduceNeg,Int.reduceBNe,ite_true,ite_false,if_true,if_false,implies_true,forall_const]
theorem frz_box (k:Nat) (l:List UInt8) (hk:size h≤k) {g:Hp} (hg:getBox g k=some (u8s l)):frz (size h) g (.bsl false k 0 l.length 1)=some (.sl .no 1 (u8s l)):=by
 have ht:(u8s l).take l.length=u8s l:=by rw [←u8s_length l,List.take_length]
 simp only [frz_bsl,if_neg (show ¬ k < size h by omega),hg,Option.bnd_some,List.drop_zero,elemsOf_one,Bool.false_eq_true,if_false,ht]
 rw [if_pos ⟨by rw [u8s_length];exact Nat.le_refl _,u8s_scalar l⟩,Option.bnd_some,u8s_strips]
theorem cloneQ_spec (base:Nat) {v:PV} {l:List UInt8} (hn:nilK 1 v=some false) (he:elems h v=some (u8s l)) (hl:l.length≤1000000):orcQ (CallA T base) 36 [v] h=some (clV l,h):=by
 rw [orcQ_eq,clone_spec base hn he hl,Option.bnd_some]
 unfold clV
 by_cases h0:l=[]
 ·rw [if_pos h0,if_pos h0,forget_same]
 ·rw [if_neg h0,if_neg h0]
  unfold forget
  have hne:(ext h [Box.cells (u8s l)])≠h:=by
   intro hq
   have:=congrArg size hq
   rw [size_ext] at this
   simp at this
  rw [if_neg hne]
  simp only
  rw [frz_box (h:=h) (size h) l (Nat.le_refl _) (by rw [getBox_ext_0];rfl),Option.bnd_some,if_pos ⟨by simp [below,Own.below,u8s_below],by rw [size_ext];omega,trunc_ext⟩]
theorem elems_fl (hp:FOk h p) (f:Bool) (a n:Nat) (hb:a+n≤F.b.length):elems (putF h p F) (.bsl f p.bb a n 1)=some (u8s ((F.b.drop a).take n)):=by
 rw [elems_bsl,getFb hp,Option.bnd_some]
 have:((u8s F.b).drop a).take n=u8s ((F.b.drop a).take n):=by simp [u8s]
 rw [this,if_pos ⟨by rw [u8s_length];exact hb,u8s_scalar _⟩]
theorem read_spec (hp:FOk h p) (base:Nat) (a n:Nat) (hF:FIn F) (hb:a+n≤F.b.length) :
  CallA T base 78 [.ptr p.f 0,.int .i64 a,.int .i64 n] (putF h p F)=some (if F.down then .tup [.nils,.int .i64 30] else .tup [clV ((F.b.drop a).take n),.int .i64 0],putF h p F):=by
 rw [S78]
 cases hd:F.down with
 | true=>simp only [size_putF,ld5 hp,hd,trunc_putF0,↓evD,evU,evL,evM,Nat.reduceAdd,Nat.reduceSub,Nat.reduceMul,Nat.reduceLeDiff,Nat.reduceLT,Nat.reduceEqDiff,Nat.reduceBEq,reduceIte,reduceCtorEq,Int.reduceBEq,Int.reduceEq,Int.reduceLT,Int.reduceLE,Int.reduceGT,Int.reduceGE,Int.reduceAdd,Int.reduceSub,Int.reduceNeg,Int.reduceBNe,ite_true,ite_false,if_true,if_false,implies_true,forall_const]
 | false =>
  have hw:=fun b=>within_spec (h:=h) (F:=F) hp b a n hF.len
  have hl:=hF.len
  have hbd1:bdV F.b.length (.int .i64 ((a+n:Nat):Int))=some (a+n):=bdV_nat _ _ _ hb
  have hbd2:bdV (a+n) (.int .i64 (a:Int))=some a:=bdV_nat _ _ _ (by omega)
  by_cases h0:n=0
  ·subst h0
   have hcl:=fun b=>clone_spec (h:=putF h p F) b (v:=.sl .no 1 []) (l:=[]) rfl rfl (by simp)
   simp only [if_true] at hcl
   have hz:a - a=0:=by omega
   simp only [Nat.add_zero] at hb hbd1 hbd2 hw
   have hw0:IntKind.i64.wrap ((a:Int)+((0:Nat):Int))=a:=by rw [wr_add _ _ (by omega)];simp
   simp (disch:=omega) only [hw0,size_putF,ld5 hp,ld0 hp,hd,hw,hb,decide_true,wr_add,sliceV_bsl,bdW_some,hbd1,hbd2,hz,hcl,clV,List.take_zero,trunc_putF0,↓evD,evU,evL,evM,Nat.reduceAdd,Nat.reduceSub,Nat.reduceMul,Nat.reduceLeDiff,Nat.reduceLT,Nat.reduceEqDiff,Nat.reduceBEq,reduceIte,reduceCtorEq,Int.reduceBEq,Int.reduceEq,Int.reduceLT,Int.reduceLE,Int.reduceGT,Int.reduceGE,Int.reduceAdd,Int.reduceSub,Int.reduceNeg,Int.reduceBNe,ite_true,ite_false,if_true,if_false,implies_true,forall_const]
   first | rfl | skip
  ·have hne:¬ ((F.b.drop a).take n=[]):=by
    intro hq
    have:=congrArg List.length hq
    simp at this;omega
   have hln:((F.b.drop a).take n).length=n:=by simp;omega
   have hz:a+n - a=n:=by omega
   have hcl:=fun (b:Nat) (f:Bool)=>clone_spec (h:=putF h p F) b (v:=.bsl f p.bb a n 1) rfl (elems_fl hp f a n hb) (by omega)
   simp only [if_neg hne,hln] at hcl
   have hfz:=frz_box (h:=putF h p F) (size (putF h p F)) ((F.b.drop a).take n) (Nat.le_refl _) (g:=ext (putF h p F) [.cells (u8s ((F.b.drop a).take n))]) (by rw [getBox_ext_0];rfl)
   rw [size_putF,hln] at hfz
   have hcv:clV ((F.b.drop a).take n)=.sl .no 1 (u8s ((F.b.drop a).take n)):=by unfold clV;rw [if_neg hne]
   have htr:trunc (ext (putF h p F) [.cells (u8s ((F.b.drop a).take n))]) (size h)=putF h p F:=by
    have:=trunc_ext (h:=putF h p F) (l:=[.cells (u8s ((F.b.drop a).take n))])
    rwa [size_putF] at this
   rw [hcv]
   simp (disch:=omega) only [size_putF,ld5 hp,ld0 hp,hd,hw,hb,decide_true,wr_add,sliceV_bsl,bdW_some,hbd1,hbd2,hz,h0,Nat.zero_add,Nat.mul_one,hcl,hfz,u8s_below,htr,↓evD,evU,evL,evM,Nat.reduceAdd,Nat.reduceSub,Nat.reduceMul,Nat.reduceLeDiff,Nat.reduceLT,Nat.reduceEqDiff,Nat.reduceBEq,reduceIte,reduceCtorEq,Int.reduceBEq,Int.reduceEq,Int.reduceLT,Int.reduceLE,Int.reduceGT,Int.reduceGE,Int.reduceAdd,Int.reduceSub,Int.reduceNeg,Int.reduceBNe,ite_true,ite_false,if_true,if_false,implies_true,forall_const]
end Go.Am.Ytlonabodghfjdaa
namespace Go.Am.Ytlonabodghfjdaa
set_option maxRecDepth 100000
set_option linter.unusedSimpArgs false
set_option linter.unusedVariables false
variable {h:Hp} {p:FP} {F:Fl}
theorem image_spec (hp:FOk h p) (base:Nat) (hF:FIn F) (h0:F.b≠[]):CallA T base 28 [.ptr p.f 0] (putF h p F)=some (clV F.b,putF h p F):=by
 rw [S28]
 have hl:=hF.len
 have he:=elems_fl (F:=F) hp true 0 F.b.length (by omega)
 rw [List.drop_zero,List.take_length] at he
 have hcl:=fun (b:Nat)=>clone_spec (h:=putF h p F) b (v:=.bsl true p.bb 0 F.b.length 1) rfl he hl
 simp only [if_neg h0] at hcl
 have hfz:=frz_box (h:=putF h p F) (size (putF h p F)) F.b (Nat.le_refl _) (g:=ext (putF h p F) [.cells (u8s F.b)]) (by rw [getBox_ext_0];rfl)
 rw [size_putF] at hfz
 have htr:trunc (ext (putF h p F) [.cells (u8s F.b)]) (size h)=putF h p F:=by
  have:=trunc_ext (h:=putF h p F) (l:=[.cells (u8s F.b)])
  rwa [size_putF] at this
 have hcv:clV F.b=.sl .no 1 (u8s F.b):=by unfold clV;rw [if_neg h0]
 rw [hcv]
 simp only [size_putF,ld0 hp,hcl,hfz,u8s_below,htr,↓evD,evU,evL,evM,Nat.reduceAdd,Nat.reduceSub,Nat.reduceMul,Nat.reduceLeDiff,Nat.reduceLT,Nat.reduceEqDiff,Nat.reduceBEq,reduceIte,reduceCtorEq,Int.reduceBEq,Int.reduceEq,Int.reduceLT,Int.reduceLE,Int.reduceGT,Int.reduceGE,Int.reduceAdd,Int.reduceSub,Int.reduceNeg,Int.reduceBNe,ite_true,ite_false,if_true,if_false,implies_true,forall_const]
theorem setRange_u8:∀ (l t:List UInt8) (k:Nat),k+l.length≤t.length→setRange (u8s t) k (u8s l)=u8s (t.take k ++ l ++ t.drop (k+l.length))
 | [],t,k,hk=>by simp [u8s,setRange]
 | c :: l,t,k,hk=>by
  simp only [List.length_cons] at hk
  have e1:(u8s t).set k (.int .u8 c.toNat)=u8s (t.set k c):=u8s_set t k c
  have e2:u8s (c :: l)=.int .u8 c.toNat :: u8s l:=rfl
  rw [e2,setRange,e1,setRange_u8 l (t.set k c) (k+1) (by simp;omega)]
  congr 1
  rw [List.drop_set_of_lt (by omega)]
  have:(t.set k c).take (k+1)=t.take k ++ [c]:=by
   rw [List.take_set,List.take_succ_eq_append_getElem (by omega),List.set_append]
   simp [Nat.min_eq_left (show k≤t.length by omega)]
  rw [this]
  simp [Nat.add_assoc,Nat.add_comm,Nat.add_left_comm]
def _root_.Go.Am.Fl.load (F:Fl) (l:List UInt8):Fl:={ F with b:=l.take F.b.length ++ F.b.drop (min l.length F.b.length),left:=-1,down:=false }
theorem load_spec (hp:FOk h p) (base:Nat) {v:PV} {l:List UInt8} (hv:Bv v l):CallA T base 27 [.ptr p.f 0,v] (putF h p F)=some (.tup [],putF h p (F.load l)):=by
 rw [S27]
 have hcp:copyV (size h) (.bsl true p.bb 0 F.b.length 1) v (putF h p F)=some (.int .i64 (min l.length F.b.length:Nat),putF h p { F with b:=l.take F.b.length ++ F.b.drop (min l.length F.b.length) }):=by
  have htk:(u8s l).take F.b.length=u8s (l.take F.b.length):=by simp [u8s]
  rw [copyV_bsl,hv.el,Option.bnd_some,getFb hp,Option.bnd_some,if_pos ⟨rfl,by rw [u8s_length];omega,u8s_scalar l,fun _=>by rw [htk];exact u8s_below _ _⟩,u8s_length,htk,
   setRange_u8 _ _ _ (by simp;omega),List.take_zero,List.nil_append,Nat.zero_add,setFb hp (by simp;omega)]
  congr 4
  congr 1
  congr 1
  simp [Nat.min_comm]
 have hr:=fun (b:Nat) (G:Fl)=>restore_spec (h:=h) (F:=G) hp b
 simp only [size_putF,ld0 hp,hcp,hr,trunc_putF0,↓evD,evU,evL,evM,Nat.reduceAdd,Nat.reduceSub,Nat.reduceMul,Nat.reduceLeDiff,Nat.reduceLT,Nat.reduceEqDiff,Nat.reduceBEq,reduceIte,reduceCtorEq,Int.reduceBEq,Int.reduceEq,Int.reduceLT,Int.reduceLE,Int.reduceGT,Int.reduceGE,Int.reduceAdd,Int.reduceSub,Int.reduceNeg,Int.reduceBNe,ite_true,ite_false,if_true,if_false,implies_true,forall_const] <;> rfl
structure PtOk (h:Hp) (p:FP) (q:Nat) (first count:Nat):Prop where
 get:getBox h q=some [.ptr p.f 0,.int .i64 first,.int .i64 count]
 n1:q≠p.f
 n2:q≠p.bb
 n3:q≠p.wb
section
variable {q first count:Nat} (hp:FOk h p) (hq:PtOk h p q first count)
include hp hq
theorem pget:getBox (putF h p F) q=some [.ptr p.f 0,.int .i64 first,.int .i64 count]:=by rw [getBox_putF hp hq.n1 hq.n2 hq.n3];exact hq.get
theorem pflash_spec (base:Nat):CallA T base 31 [.ptr q 0] (putF h p F)=some (.ptr p.f 0,putF h p F):=by
 rw [S31];simp only [size_putF,pget hp hq,hp.lf,decide_true,trunc_putF0,↓evD,evU,evL,evM,Nat.reduceAdd,Nat.reduceSub,Nat.reduceMul,Nat.reduceLeDiff,Nat.reduceLT,Nat.reduceEqDiff,Nat.reduceBEq,reduceIte,reduceCtorEq,Int.reduceBEq,Int.reduceEq,Int.reduceLT,Int.reduceLE,Int.reduceGT,Int.reduceGE,Int.reduceAdd,Int.reduceSub,Int.reduceNeg,Int.reduceBNe,ite_true,ite_false,if_true,if_false,implies_true,forall_const]
theorem psize_spec (base:Nat) (hb:count * F.sector≤1000000):CallA T base 16 [.ptr q 0] (putF h p F)=some (.int .i64 (count * F.sector:Nat),putF h p F):=by
 rw [S16]
 have hs:=fun (b:Nat)=>sector_spec (h:=h) (F:=F) hp b
 simp (disch:=omega) only [size_putF,pget hp hq,orcQ_eq,hs,Option.bnd_some,forget_same,chkK_eq,wr_mul,trunc_putF0,↓evD,evU,evL,evM,Nat.reduceAdd,Nat.reduceSub,Nat.reduceMul,Nat.reduceLeDiff,Nat.reduceLT,Nat.reduceEqDiff,Nat.reduceBEq,reduceIte,reduceCtorEq,Int.reduceBEq,Int.reduceEq,Int.reduceLT,Int.reduceLE,Int.reduceGT,Int.reduceGE,Int.reduceAdd,Int.reduceSub,Int.reduceNeg,Int.reduceBNe,ite_true,ite_false,if_true,if_false,implies_true,forall_const]
theorem pbase_spec (base:Nat) (hb:first * F.sector≤1000000):CallA T base 70 [.ptr q 0] (putF h p F)=some (.int .i64 (first * F.sector:Nat),putF h p F):=by
 rw [S70]
 have hs:=fun (b:Nat)=>sector_spec (h:=h) (F:=F) hp b
 simp (disch:=omega) only [size_putF,pget hp hq,orcQ_eq,hs,Option.bnd_some,forget_same,chkK_eq,wr_mul,trunc_putF0,↓evD,evU,evL,evM,Nat.reduceAdd,Nat.reduceSub,Nat.reduceMul,Nat.reduceLeDiff,Nat.reduceLT,Nat.reduceEqDiff,Nat.reduceBEq,reduceIte,reduceCtorEq,Int.reduceBEq,Int.reduceEq,Int.reduceLT,Int.reduceLE,Int.reduceGT,Int.reduceGE,Int.reduceAdd,Int.reduceSub,Int.reduceNeg,Int.reduceBNe,ite_true,ite_false,if_true,if_false,implies_true,forall_const]
theorem pwithin_spec (base:Nat) (a n:Nat) (hb:count * F.sector≤1000000) :
  CallA T base 80 [.ptr q 0,.int .i64 a,.int .i64 n] (putF h p F)=some (.bool (decide (a+n≤count * F.sector)),putF h p F):=by
 rw [S80]
 have hs:=fun (b:Nat)=>psize_spec (F:=F) hp hq b hb
 by_cases h1:a≤count * F.sector
 ·by_cases h2:n≤count * F.sector - a
  ·have e3:a+n≤count * F.sector:=by omega
   simp (disch:=omega) only [size_putF,dec_nonneg,dec_le,h1,h2,e3,hs,decide_true,wr_sub,trunc_putF0,↓evD,evU,evL,evM,Nat.reduceAdd,Nat.reduceSub,Nat.reduceMul,Nat.reduceLeDiff,Nat.reduceLT,Nat.reduceEqDiff,Nat.reduceBEq,reduceIte,reduceCtorEq,Int.reduceBEq,Int.reduceEq,Int.reduceLT,Int.reduceLE,Int.reduceGT,Int.reduceGE,Int.reduceAdd,Int.reduceSub,Int.reduceNeg,Int.reduceBNe,ite_true,ite_false,if_true,if_false,implies_true,forall_const]
  ·have e3:¬ (a+n≤count * F.sector):=by omega
   simp (disch:=omega) only [size_putF,dec_nonneg,dec_le,h1,h2,e3,hs,decide_true,decide_false,wr_sub,trunc_putF0,↓evD,evU,evL,evM,Nat.reduceAdd,Nat.reduceSub,Nat.reduceMul,Nat.reduceLeDiff,Nat.reduceLT,Nat.reduceEqDiff,Nat.reduceBEq,reduceIte,reduceCtorEq,Int.reduceBEq,Int.reduceEq,Int.reduceLT,Int.reduceLE,Int.reduceGT,Int.reduceGE,Int.reduceAdd,Int.reduceSub,Int.reduceNeg,Int.reduceBNe,ite_true,ite_false,if_true,if_false,implies_true,forall_const]
 ·have e3:¬ (a+n≤count * F.sector):=by omega
  simp (disch:=omega) only [size_putF,dec_nonneg,dec_le,h1,e3,hs,decide_true,decide_false,wr_sub,trunc_putF0,↓evD,evU,evL,evM,Nat.reduceAdd,Nat.reduceSub,Nat.reduceMul,Nat.reduceLeDiff,Nat.reduceLT,Nat.reduceEqDiff,Nat.reduceBEq,reduceIte,reduceCtorEq,Int.reduceBEq,Int.reduceEq,Int.reduceLT,Int.reduceLE,Int.reduceGT,Int.reduceGE,Int.reduceAdd,Int.reduceSub,Int.reduceNeg,Int.reduceBNe,ite_true,ite_false,if_true,if_false,implies_true,forall_const]
theorem pfault_spec (base:Nat) (a n:Nat) (hb:count * F.sector≤1000000) :
  CallA T base 68 [.ptr q 0,.int .i64 a,.int .i64 n] (putF h p F)=some (.int .i64 (if F.down then 30 else if a+n≤count * F.sector then 0 else 1:Nat),putF h p F):=by
 rw [S68]
 have hs:=fun (b:Nat)=>pwithin_spec (F:=F) hp hq b a n hb
 have hd:=fun (b:Nat)=>down_spec (h:=h) (F:=F) hp b
 cases hdn:F.down with
 | true=>simp only [size_putF,pget hp hq,hd,hdn,trunc_putF0,↓evD,evU,evL,evM,Nat.reduceAdd,Nat.reduceSub,Nat.reduceMul,Nat.reduceLeDiff,Nat.reduceLT,Nat.reduceEqDiff,Nat.reduceBEq,reduceIte,reduceCtorEq,Int.reduceBEq,Int.reduceEq,Int.reduceLT,Int.reduceLE,Int.reduceGT,Int.reduceGE,Int.reduceAdd,Int.reduceSub,Int.reduceNeg,Int.reduceBNe,ite_true,ite_false,if_true,if_false,implies_true,forall_const];rfl
 | false =>
  by_cases h1:a+n≤count * F.sector
  ·simp only [size_putF,pget hp hq,hd,hdn,hs,h1,decide_true,trunc_putF0,↓evD,evU,evL,evM,Nat.reduceAdd,Nat.reduceSub,Nat.reduceMul,Nat.reduceLeDiff,Nat.reduceLT,Nat.reduceEqDiff,Nat.reduceBEq,reduceIte,reduceCtorEq,Int.reduceBEq,Int.reduceEq,Int.reduceLT,Int.reduceLE,Int.reduceGT,Int.reduceGE,Int.reduceAdd,Int.reduceSub,Int.reduceNeg,Int.reduceBNe,ite_true,ite_false,if_true,if_false,implies_true,forall_const];rfl
  ·simp only [size_putF,pget hp hq,hd,hdn,hs,h1,decide_false,trunc_putF0,↓evD,evU,evL,evM,Nat.reduceAdd,Nat.reduceSub,Nat.reduceMul,Nat.reduceLeDiff,Nat.reduceLT,Nat.reduceEqDiff,Nat.reduceBEq,reduceIte,reduceCtorEq,Int.reduceBEq,Int.reduceEq,Int.reduceLT,Int.reduceLE,Int.reduceGT,Int.reduceGE,Int.reduceAdd,Int.reduceSub,Int.reduceNeg,Int.reduceBNe,ite_true,ite_false,if_true,if_false,implies_true,forall_const];rfl
theorem pread_spec (base:Nat) (a n:Nat) (hF:FIn F) (hin:a+n≤count * F.sector) (hb:(first+count) * F.sector≤F.b.length) :
  CallA T base 65 [.ptr q 0,.int .i64 a,.int .i64 n] (putF h p F)=some (if F.down then .tup [.nils,.int .i64 30] else .tup [clV ((F.b.drop (first * F.sector+a)).take n),.int .i64 0],putF h p F):=by
 rw [S65]
 have hl:=hF.len
 rw [Nat.add_mul] at hb
 have hf:=fun (b:Nat)=>pfault_spec (F:=F) hp hq b a n (by omega)
 have hbs:=fun (b:Nat)=>pbase_spec (F:=F) hp hq b (by omega)
 have hr:=fun (b:Nat)=>read_spec (h:=h) (F:=F) hp b (first * F.sector+a) n hF (by omega)
 have hcb:=(bv_clV ((F.b.drop (first * F.sector+a)).take n)).below (size h)
 have hcf:=(bv_clV ((F.b.drop (first * F.sector+a)).take n)).frz
 cases hdn:F.down with
 | true =>
  rw [hdn] at hf
  simp only [if_true,show ((30:Nat):Int)=30 from rfl] at hf
  simp only [size_putF,hf,trunc_putF0,↓evD,evU,evL,evM,Nat.reduceAdd,Nat.reduceSub,Nat.reduceMul,Nat.reduceLeDiff,Nat.reduceLT,Nat.reduceEqDiff,Nat.reduceBEq,reduceIte,reduceCtorEq,Int.reduceBEq,Int.reduceEq,Int.reduceLT,Int.reduceLE,Int.reduceGT,Int.reduceGE,Int.reduceAdd,Int.reduceSub,Int.reduceNeg,Int.reduceBNe,ite_true,ite_false,if_true,if_false,implies_true,forall_const]
 | false =>
  rw [hdn] at hf hr
  simp only [Bool.false_eq_true,if_false,if_pos hin,show ((0:Nat):Int)=0 from rfl] at hf hr
  simp (disch:=omega) only [size_putF,hf,pget hp hq,orcQ_eq,hbs,Option.bnd_some,forget_same,chkK_eq,wr_add,hr,hcb,hcf,trunc_putF0,↓evD,evU,evL,evM,Nat.reduceAdd,Nat.reduceSub,Nat.reduceMul,Nat.reduceLeDiff,Nat.reduceLT,Nat.reduceEqDiff,Nat.reduceBEq,reduceIte,reduceCtorEq,Int.reduceBEq,Int.reduceEq,Int.reduceLT,Int.reduceLE,Int.reduceGT,Int.reduceGE,Int.reduceAdd,Int.reduceSub,Int.reduceNeg,Int.reduceBNe,ite_true,ite_false,if_true,if_false,implies_true,forall_const]
theorem pwrite_spec (base:Nat) (a:Nat) (l:List UInt8) {v:PV} (hv:Bv v l) (hF:FIn F) (hin:a+l.length≤count * F.sector) (hb:(first+count) * F.sector≤F.b.length) :
  CallA T base 53 [.ptr q 0,.int .i64 a,v] (putF h p F)=some (.int .i64 ((F.program (first * F.sector+a) l).1:Nat),putF h p (F.program (first * F.sector+a) l).2):=by
 rw [S53]
 have hl:=hF.len
 rw [Nat.add_mul] at hb
 have hf:=fun (b:Nat)=>pfault_spec (F:=F) hp hq b a l.length (by omega)
 have hbs:=fun (b:Nat)=>pbase_spec (F:=F) hp hq b (by omega)
 have hr:=fun (b:Nat)=>program_spec (h:=h) (F:=F) hp b (first * F.sector+a) l hv hF (by omega)
 cases hdn:F.down with
 | true =>
  rw [hdn] at hf
  simp only [if_true,show ((30:Nat):Int)=30 from rfl] at hf
  have hpr:F.program (first * F.sector+a) l=(30,F):=by unfold Fl.program;rw [if_pos hdn]
  rw [hpr]
  simp only [size_putF,hv.len,hf,trunc_putF0,↓evD,evU,evL,evM,Nat.reduceAdd,Nat.reduceSub,Nat.reduceMul,Nat.reduceLeDiff,Nat.reduceLT,Nat.reduceEqDiff,Nat.reduceBEq,reduceIte,reduceCtorEq,Int.reduceBEq,Int.reduceEq,Int.reduceLT,Int.reduceLE,Int.reduceGT,Int.reduceGE,Int.reduceAdd,Int.reduceSub,Int.reduceNeg,Int.reduceBNe,ite_true,ite_false,if_true,if_false,implies_true,forall_const] <;> rfl
 | false =>
  rw [hdn] at hf
  simp only [Bool.false_eq_true,if_false,if_pos hin,show ((0:Nat):Int)=0 from rfl] at hf
  simp (disch:=omega) only [size_putF,hv.len,hf,pget hp hq,orcQ_eq,hbs,Option.bnd_some,forget_same,chkK_eq,wr_add,hr,trunc_putF0,↓evD,evU,evL,evM,Nat.reduceAdd,Nat.reduceSub,Nat.reduceMul,Nat.reduceLeDiff,Nat.reduceLT,Nat.reduceEqDiff,Nat.reduceBEq,reduceIte,reduceCtorEq,Int.reduceBEq,Int.reduceEq,Int.reduceLT,Int.reduceLE,Int.reduceGT,Int.reduceGE,Int.reduceAdd,Int.reduceSub,Int.reduceNeg,Int.reduceBNe,ite_true,ite_false,if_true,if_false,implies_true,forall_const]
end
def _root_.Go.Am.Fl.clear (F:Fl) (s:Nat):Nat→Nat × Fl
 | 0=>(0,F)
 | n+1=>if (F.erase s).1=0 then (F.erase s).2.clear (s+1) n else F.erase s
theorem FIn.erase (hF:FIn F) (s:Nat) (hs:s < F.wear.length):FIn (F.erase s).2∧(F.erase s).2.b.length=F.b.length∧(F.erase s).2.wear.length=F.wear.length∧(F.erase s).2.sector=F.sector:=by
 unfold Fl.erase
 split
 ·exact ⟨hF,rfl,rfl,rfl⟩
 ·have hF':FIn { F with wear:=F.wear.set s (min (F.wear.getD s 0+1) 1073741824) }:=⟨hF.turned,hF.left,hF.len,fun n hn=>by
   rcases List.mem_or_eq_of_mem_set hn with h1 | rfl
   ·exact hF.wear n h1
   ·exact Nat.min_le_right _ _⟩
  obtain ⟨h1,h2,h3,h4⟩:=FIn.prog (List.replicate F.sector 255) hF' (s * F.sector)
  exact ⟨h1,h2,by rw [h3];simp,h4⟩
theorem clear_loop (hp:FOk h p) {q first count:Nat} (hq:PtOk h p q first count) (base:Nat):∀ (m k:Nat) {F:Fl},FIn F→(first+count) * F.sector≤F.b.length→first+count≤F.wear.length→F.wear.length≤1000000→k+m=count →
  P51_0 base (size h) (.int .i64 k) (.ptr q 0) (.int .i64 count) (putF h p F)=some (.int .i64 ((F.clear (first+k) m).1:Nat),putF h p (F.clear (first+k) m).2)
 | 0,k,F,hF,hb,hw,hw2,hk=>by
  have e0:¬ (k < count):=by omega
  rw [P51_0_eq]
  simp only [dec_lt,e0,decide_false,trunc_putF0,Fl.clear,↓evD,evU,evL,evM,Nat.reduceAdd,Nat.reduceSub,Nat.reduceMul,Nat.reduceLeDiff,Nat.reduceLT,Nat.reduceEqDiff,Nat.reduceBEq,reduceIte,reduceCtorEq,Int.reduceBEq,Int.reduceEq,Int.reduceLT,Int.reduceLE,Int.reduceGT,Int.reduceGE,Int.reduceAdd,Int.reduceSub,Int.reduceNeg,Int.reduceBNe,ite_true,ite_false,if_true,if_false,implies_true,forall_const] <;> rfl
 | m+1,k,F,hF,hb,hw,hw2,hk=>by
  have e0:k < count:=by omega
  obtain ⟨t1,t2,t3,t4⟩:=hF.erase (first+k) (by omega)
  have hsec:(first+k) * F.sector+F.sector≤(first+count) * F.sector:=by
   have:=Nat.mul_le_mul_right F.sector (show first+k+1≤first+count by omega)
   rwa [Nat.succ_mul] at this
  have ht:=fun b=>erase_spec (h:=h) (F:=F) hp b (first+k) hF (by omega) (by omega) (by omega) hw2
  have ihx:=clear_loop hp hq base m (k+1) t1 (by rw [t4,t2];exact hb) (by rw [t3];exact hw) (by rw [t3];exact hw2) (by omega)
  rw [P51_0_eq]
  simp only [Fl.clear]
  by_cases hz:(F.erase (first+k)).1=0
  ·rw [if_pos hz]
   have hz2:(((F.erase (first+k)).1:Int) != 0)=false:=by rw [hz];rfl
   simp (disch:=omega) only [dec_lt,e0,decide_true,pget hp hq,wr_add,ht,hz2,wr_a1,ihx,↓evD,evU,evL,evM,Nat.reduceAdd,Nat.reduceSub,Nat.reduceMul,Nat.reduceLeDiff,Nat.reduceLT,Nat.reduceEqDiff,Nat.reduceBEq,reduceIte,reduceCtorEq,Int.reduceBEq,Int.reduceEq,Int.reduceLT,Int.reduceLE,Int.reduceGT,Int.reduceGE,Int.reduceAdd,Int.reduceSub,Int.reduceNeg,Int.reduceBNe,ite_true,ite_false,if_true,if_false,implies_true,forall_const]
   rw [Nat.add_assoc]
  ·rw [if_neg hz]
   have hz2:(((F.erase (first+k)).1:Int) != 0)=true:=by simpa using hz
   simp (disch:=omega) only [dec_lt,e0,decide_true,pget hp hq,wr_add,ht,hz2,trunc_putF0,↓evD,evU,evL,evM,Nat.reduceAdd,Nat.reduceSub,Nat.reduceMul,Nat.reduceLeDiff,Nat.reduceLT,Nat.reduceEqDiff,Nat.reduceBEq,reduceIte,reduceCtorEq,Int.reduceBEq,Int.reduceEq,Int.reduceLT,Int.reduceLE,Int.reduceGT,Int.reduceGE,Int.reduceAdd,Int.reduceSub,Int.reduceNeg,Int.reduceBNe,ite_true,ite_false,if_true,if_false,implies_true,forall_const]
theorem pclear_spec (hp:FOk h p) {q first count:Nat} (hq:PtOk h p q first count) (base:Nat) (hF:FIn F) (hb:(first+count) * F.sector≤F.b.length) (hw:first+count≤F.wear.length) (hw2:F.wear.length≤1000000) :
  CallA T base 51 [.ptr q 0] (putF h p F)=some (.int .i64 ((F.clear first count).1:Nat),putF h p (F.clear first count).2):=by
 rw [S51]
 have hl:=fun b=>clear_loop hp hq b count 0 hF hb hw hw2 (by omega)
 simp only [show ((0:Nat):Int)=0 from rfl,Nat.add_zero] at hl
 simp only [size_putF,pget hp hq,hl,↓evD,evU,evL,evM,Nat.reduceAdd,Nat.reduceSub,Nat.reduceMul,Nat.reduceLeDiff,Nat.reduceLT,Nat.reduceEqDiff,Nat.reduceBEq,reduceIte,reduceCtorEq,Int.reduceBEq,Int.reduceEq,Int.reduceLT,Int.reduceLE,Int.reduceGT,Int.reduceGE,Int.reduceAdd,Int.reduceSub,Int.reduceNeg,Int.reduceBNe,ite_true,ite_false,if_true,if_false,implies_true,forall_const]
end Go.Am.Ytlonabodghfjdaa
namespace Go.Am.Ytlonabodghfjdaa
set_option maxRecDepth 100000
set_option linter.unusedSimpArgs false
set_option linter.unusedVariables false
variable {h:Hp}
def uV (a:BitVec 32):PV:=.int .u32 (a.toNat:Int)
theorem of32 (a:BitVec 32):BitVec.ofInt 32 (a.toNat:Int)=a:=by apply BitVec.eq_of_toNat_eq;simp
theorem wr32 (a:BitVec 32):IntKind.u32.wrap (a.toNat:Int)=(a.toNat:Int):=by
 have:=a.isLt
 simp [IntKind.wrap,IntKind.signed,IntKind.bits]
 omega
theorem wr8 (m:Nat):IntKind.u8.wrap (m:Int)=((UInt8.ofNat m).toNat:Int):=by
 simp [IntKind.wrap,IntKind.signed,IntKind.bits]
theorem xor32 (a b:BitVec 32):binOp .xor (uV a) (uV b)=some (uV (a ^^^ b)):=by
 show some (PV.int .u32 (IntKind.u32.wrap ((BitVec.ofInt 32 (a.toNat:Int) ^^^ BitVec.ofInt 32 (b.toNat:Int)).toNat:Int)))=_
 rw [of32,of32,wr32];rfl
theorem and32 (a b:BitVec 32):binOp .and (uV a) (uV b)=some (uV (a &&& b)):=by
 show some (PV.int .u32 (IntKind.u32.wrap ((BitVec.ofInt 32 (a.toNat:Int) &&& BitVec.ofInt 32 (b.toNat:Int)).toNat:Int)))=_
 rw [of32,of32,wr32];rfl
theorem or32 (a b:BitVec 32):binOp .or (uV a) (uV b)=some (uV (a ||| b)):=by
 show some (PV.int .u32 (IntKind.u32.wrap ((BitVec.ofInt 32 (a.toNat:Int) ||| BitVec.ofInt 32 (b.toNat:Int)).toNat:Int)))=_
 rw [of32,of32,wr32];rfl
theorem not32 (a:BitVec 32):unOp .xor (uV a)=some (uV (~~~ a)):=by
 show some (PV.int .u32 (IntKind.u32.wrap ((BitVec.ofInt 32 IntKind.u32.max ^^^ BitVec.ofInt 32 (a.toNat:Int)).toNat:Int)))=_
 rw [of32,wr32]
 congr 2
theorem shr32 (k:IntKind) (a:BitVec 32) (n:Nat) (hn:n≤32):binOp .shr (uV a) (.int k (n:Int))=some (uV (a >>> n)):=by
 show (if ((n:Nat):Int) < 0 then none else some (PV.int .u32 ((a.toNat:Int).fdiv (2 ^ (min ((n:Int)).toNat 32)))))=_
 rw [if_neg (by omega)]
 have:min ((n:Int)).toNat 32=n:=by simp;omega
 rw [this]
 show some (PV.int .u32 _)=some (PV.int .u32 _)
 congr 2
 rw [BitVec.toNat_ushiftRight,Nat.shiftRight_eq_div_pow]
 rw [Int.fdiv_eq_ediv_of_nonneg _ (Int.pow_nonneg (by decide))]
 simp
theorem shl32 (k:IntKind) (a:BitVec 32) (n:Nat) (hn:n≤32):binOp .shl (uV a) (.int k (n:Int))=some (uV (a <<< n)):=by
 show (if ((n:Nat):Int) < 0 then none else some (PV.int .u32 (IntKind.u32.wrap ((a.toNat:Int) * (2 ^ (min ((n:Int)).toNat 32))))))=_
 rw [if_neg (by omega)]
 have:min ((n:Int)).toNat 32=n:=by simp;omega
 rw [this]
 show some (PV.int .u32 _)=some (PV.int .u32 _)
 congr 2
 rw [BitVec.toNat_shiftLeft,Nat.shiftLeft_eq]
 simp [IntKind.wrap,IntKind.signed,IntKind.bits]
theorem eql32 (a b:BitVec 32):binOp .eql (uV a) (uV b)=some (.bool (a == b)):=by
 show some (PV.bool ((a.toNat:Int) == (b.toNat:Int)))=_
 congr 2
 rw [Bool.eq_iff_iff,beq_iff_eq,beq_iff_eq,Int.natCast_inj,BitVec.toNat_inj]
theorem neq32 (a b:BitVec 32):binOp .neq (uV a) (uV b)=some (.bool (a != b)):=by
 show some (PV.bool ((a.toNat:Int) != (b.toNat:Int)))=_
 congr 2
 rw [bne,bne]
 congr 1
 rw [Bool.eq_iff_iff,beq_iff_eq,beq_iff_eq,Int.natCast_inj,BitVec.toNat_inj]
theorem to32 (c:UInt8):toIntB (.int .u8 (c.toNat:Int)) .u32=some (uV (c.toBitVec.setWidth 32)):=by
 show some (PV.int .u32 (IntKind.u32.wrap (c.toNat:Int)))=_
 congr 2
 have:=c.toNat_lt
 simp [IntKind.wrap,IntKind.signed,IntKind.bits]
 omega
theorem to8 (a:BitVec 32):toIntB (uV a) .u8=some (.int .u8 ((UInt8.ofNat a.toNat).toNat:Int)):=by
 show some (PV.int .u8 (IntKind.u8.wrap (a.toNat:Int)))=_
 rw [wr8]
/-! ### The sum -/
def round (x:BitVec 32):BitVec 32:=if (x &&& 1#32) == 1#32 then (x >>> 1) ^^^ 3988292384#32 else x >>> 1
def rounds:Nat→BitVec 32→BitVec 32
 | 0,x=>x
 | n+1,x=>rounds n (round x)
def stepC (r:BitVec 32) (c:UInt8):BitVec 32:=rounds 8 (r ^^^ c.toBitVec.setWidth 32)
def crcE (s:BitVec 32) (l:List UInt8):BitVec 32 := ~~~ (l.foldl stepC (~~~ s))
def crcS (l:List UInt8):BitVec 32:=crcE 0#32 l
theorem fin_u (n0:Nat) (a:BitVec 32):finV false false n0 [uV a] h=some (uV a,trunc h n0):=rfl
theorem step_loop (base:Nat):∀ (m k:Nat) (r:BitVec 32),k+m=8→P95_0 base (size h) (.int .i64 k) (uV r) h=some (uV (rounds m r),h)
 | 0,k,r,hk=>by
  have e0:¬ (k < 8):=by omega
  have hd:decide ((k:Int) < 8)=false:=by simp;omega
  rw [P95_0_eq]
  simp only [hd,fin_u,trunc_self,rounds,↓evD,evU,evL,evM,Nat.reduceAdd,Nat.reduceSub,Nat.reduceMul,Nat.reduceLeDiff,Nat.reduceLT,Nat.reduceEqDiff,Nat.reduceBEq,reduceIte,reduceCtorEq,Int.reduceBEq,Int.reduceEq,Int.reduceLT,Int.reduceLE,Int.reduceGT,Int.reduceGE,Int.reduceAdd,Int.reduceSub,Int.reduceNeg,Int.reduceBNe,ite_true,ite_false,if_true,if_false,implies_true,forall_const] <;> rfl
 | m+1,k,r,hk=>by
  have hd:decide ((k:Int) < 8)=true:=by simp;omega
  have ih:=fun r=>step_loop base m (k+1) r (by omega)
  have h1:binOp .and (uV r) (.int .u32 1)=some (uV (r &&& 1#32)):=and32 r 1#32
  have h2:binOp .shr (uV r) (.int .u64 1)=some (uV (r >>> 1)):=shr32 .u64 r 1 (by decide)
  have h3:binOp .eql (uV (r &&& 1#32)) (.int .u32 1)=some (.bool ((r &&& 1#32) == 1#32)):=eql32 _ 1#32
  have h4:binOp .xor (uV (r >>> 1)) (.int .u32 3988292384)=some (uV ((r >>> 1) ^^^ 3988292384#32)):=xor32 _ 3988292384#32
  rw [P95_0_eq]
  simp only [rounds,round]
  cases hq:((r &&& 1#32) == 1#32) with
  | true =>
   rw [hq] at h3
   simp (disch:=omega) only [hd,h1,h2,h3,h4,wr_a1,ih,if_true,↓evD,evU,evL,evM,Nat.reduceAdd,Nat.reduceSub,Nat.reduceMul,Nat.reduceLeDiff,Nat.reduceLT,Nat.reduceEqDiff,Nat.reduceBEq,reduceIte,reduceCtorEq,Int.reduceBEq,Int.reduceEq,Int.reduceLT,Int.reduceLE,Int.reduceGT,Int.reduceGE,Int.reduceAdd,Int.reduceSub,Int.reduceNeg,Int.reduceBNe,ite_true,ite_false,if_true,if_false,implies_true,forall_const]
  | false =>
   rw [hq] at h3
   simp (disch:=omega) only [hd,h1,h2,h3,h4,wr_a1,ih,if_false,Bool.false_eq_true,↓evD,evU,evL,evM,Nat.reduceAdd,Nat.reduceSub,Nat.reduceMul,Nat.reduceLeDiff,Nat.reduceLT,Nat.reduceEqDiff,Nat.reduceBEq,reduceIte,reduceCtorEq,Int.reduceBEq,Int.reduceEq,Int.reduceLT,Int.reduceLE,Int.reduceGT,Int.reduceGE,Int.reduceAdd,Int.reduceSub,Int.reduceNeg,Int.reduceBNe,ite_true,ite_false,if_true,if_false,implies_true,forall_const]
theorem step_spec (base:Nat) (r:BitVec 32) (c:UInt8):CallA T base 95 [uV r,.int .u8 (c.toNat:Int)] h=some (uV (stepC r c),h):=by
 have hl:=step_loop (h:=h) (size h) 8 0 (r ^^^ c.toBitVec.setWidth 32) rfl
 simp only [show ((0:Nat):Int)=0 from rfl] at hl
 rw [S95]
 simp only [to32,xor32,hl,Option.bnd_some,stepC]
structure Rd (h:Hp) (v:PV) (l:List UInt8):Prop where
 len:lenB false v=some (.int .i64 l.length)
 rd:∀ (k:IntKind) (i:Nat) (c:UInt8),l[i]?=some c→∃ a,idxAB v (.int k i) 1=some a∧loadV 1 false a h=some (.int .u8 c.toNat)
 el:elems h v=some (u8s l)
 nn:nilK 1 v=some false∨v=.nils
theorem Bv.rd {v:PV} {l:List UInt8} (hv:Bv v l) (hn:nilK 1 v=some false∨v=.nils):Rd h v l :=
 ⟨hv.len,fun k i c hc=>⟨_,hv.ix k i c hc,rfl⟩,hv.el h,hn⟩
theorem extend_loop (base:Nat) {v:PV} {l:List UInt8} (hv:Rd h v l) (hl:l.length≤1000000):∀ (m k:Nat) (r:BitVec 32),k+m=l.length →
  P83_0 base (size h) (.int .i64 k) (uV r) v (.int .i64 l.length) h=some (uV (~~~ ((l.drop k).foldl stepC r)),h)
 | 0,k,r,hk=>by
  have e0:¬ (k < l.length):=by omega
  rw [P83_0_eq]
  simp only [dec_lt,e0,decide_false,not32,fin_u,trunc_self,↓evD,evU,evL,evM,Nat.reduceAdd,Nat.reduceSub,Nat.reduceMul,Nat.reduceLeDiff,Nat.reduceLT,Nat.reduceEqDiff,Nat.reduceBEq,reduceIte,reduceCtorEq,Int.reduceBEq,Int.reduceEq,Int.reduceLT,Int.reduceLE,Int.reduceGT,Int.reduceGE,Int.reduceAdd,Int.reduceSub,Int.reduceNeg,Int.reduceBNe,ite_true,ite_false,if_true,if_false,implies_true,forall_const]
  rw [List.drop_of_length_le (by omega)]
  rfl
 | m+1,k,r,hk=>by
  have e0:k < l.length:=by omega
  obtain ⟨a,a1,a2⟩:=hv.rd .i64 k l[k] (List.getElem?_eq_getElem e0)
  have ih:=fun r=>extend_loop base hv hl m (k+1) r (by omega)
  rw [P83_0_eq]
  simp (disch:=omega) only [dec_lt,e0,decide_true,a1,a2,step_spec,wr_a1,ih,↓evD,evU,evL,evM,Nat.reduceAdd,Nat.reduceSub,Nat.reduceMul,Nat.reduceLeDiff,Nat.reduceLT,Nat.reduceEqDiff,Nat.reduceBEq,reduceIte,reduceCtorEq,Int.reduceBEq,Int.reduceEq,Int.reduceLT,Int.reduceLE,Int.reduceGT,Int.reduceGE,Int.reduceAdd,Int.reduceSub,Int.reduceNeg,Int.reduceBNe,ite_true,ite_false,if_true,if_false,implies_true,forall_const]
  rw [List.drop_eq_getElem_cons e0]
  rfl
theorem extend_spec (base:Nat) (s:BitVec 32) {v:PV} {l:List UInt8} (hv:Rd h v l) (hl:l.length≤1000000):CallA T base 83 [uV s,v] h=some (uV (crcE s l),h):=by
 have hq:=extend_loop (size h) hv hl l.length 0 (~~~ s) (by omega)
 simp only [show ((0:Nat):Int)=0 from rfl,List.drop_zero] at hq
 rw [S83]
 simp only [not32,hv.len,hq,Option.bnd_some,crcE]
theorem sum_spec (base:Nat) {v:PV} {l:List UInt8} (hv:Rd h v l) (hl:l.length≤1000000):CallA T base 72 [v] h=some (uV (crcS l),h):=by
 have:=fun b=>extend_spec b 0#32 hv hl
 have h0:uV 0#32=.int .u32 0:=rfl
 rw [h0] at this
 rw [S72]
 simp only [this,fin_u,trunc_self,↓evD,evU,evL,evM,Nat.reduceAdd,Nat.reduceSub,Nat.reduceMul,Nat.reduceLeDiff,Nat.reduceLT,Nat.reduceEqDiff,Nat.reduceBEq,reduceIte,reduceCtorEq,Int.reduceBEq,Int.reduceEq,Int.reduceLT,Int.reduceLE,Int.reduceGT,Int.reduceGE,Int.reduceAdd,Int.reduceSub,Int.reduceNeg,Int.reduceBNe,ite_true,ite_false,if_true,if_false,implies_true,forall_const] <;> rfl
/-! ### Numbers as bytes -/
def byteAt (n:BitVec 32) (i:Nat):UInt8:=UInt8.ofNat (n >>> (8 * i)).toNat
def bytes4 (n:BitVec 32):List UInt8:=[byteAt n 0,byteAt n 1,byteAt n 2,byteAt n 3]
theorem put_loop {h:Hp} (base:Nat) (n:BitVec 32):∀ (m k:Nat) {H:Hp} {v:PV} {l:List UInt8},GK h H v (u8s l)→l.length+m≤900000→k+m=4→(k=4→l≠[]) →
  P54_0 base (size h) (.int .i64 k) (uV n) v H=some (.sl .no 1 (u8s (l ++ (List.range' k m).map (byteAt n))),h)
 | 0,k,H,v,l,hg,hl,hk,hne=>by
  have hd:decide ((k:Int) < 4)=false:=by simp;omega
  rw [P54_0_eq]
  have:=hg.fin (u8s_strips l) (fun hq=>hne (by omega) (u8s_nil.1 hq))
  simp only [hd,this,↓evD,evU,evL,evM,Nat.reduceAdd,Nat.reduceSub,Nat.reduceMul,Nat.reduceLeDiff,Nat.reduceLT,Nat.reduceEqDiff,Nat.reduceBEq,reduceIte,reduceCtorEq,Int.reduceBEq,Int.reduceEq,Int.reduceLT,Int.reduceLE,Int.reduceGT,Int.reduceGE,Int.reduceAdd,Int.reduceSub,Int.reduceNeg,Int.reduceBNe,ite_true,ite_false,if_true,if_false,implies_true,forall_const]
  simp
 | m+1,k,H,v,l,hg,hl,hk,hne=>by
  have hd:decide ((k:Int) < 4)=true:=by simp;omega
  have h1:=shr32 .i64 n (8 * k) (by omega)
  have h2:=to8 (n >>> (8 * k))
  have e1:((8:Nat):Int)=8:=rfl
  have hw:=wr_mul 8 k (by omega)
  rw [e1] at hw
  obtain ⟨v',H',g1,g2⟩:=hg.app base (o:=.full) (xs:=[.int .u8 (((byteAt n k).toNat:Nat):Int)]) rfl rfl (by rw [u8s_length];simp;omega) (by simp)
  have e2:u8s l ++ [.int .u8 (((byteAt n k).toNat:Nat):Int)]=u8s (l ++ [byteAt n k]):=by simp [u8s]
  rw [e2] at g2
  have ih:=put_loop base n m (k+1) g2 (by simp;omega) (by omega) (by simp)
  rw [P54_0_eq]
  have h3:buildSlV 1 false [(.int .u8 0)] 1 [(0,strip (.int .u8 (((byteAt n k).toNat:Nat):Int)))]=some (.sl .full 1 [.int .u8 (((byteAt n k).toNat:Nat):Int)]):=rfl
  simp only [byteAt] at h3 g1
  simp (disch:=omega) only [hd,hw,h1,h2,h3,g1,wr_a1,ih,↓evD,evU,evL,evM,Nat.reduceAdd,Nat.reduceSub,Nat.reduceMul,Nat.reduceLeDiff,Nat.reduceLT,Nat.reduceEqDiff,Nat.reduceBEq,reduceIte,reduceCtorEq,Int.reduceBEq,Int.reduceEq,Int.reduceLT,Int.reduceLE,Int.reduceGT,Int.reduceGE,Int.reduceAdd,Int.reduceSub,Int.reduceNeg,Int.reduceBNe,ite_true,ite_false,if_true,if_false,implies_true,forall_const]
  rw [List.range'_succ,List.map_cons,List.append_assoc]
  rfl
theorem put32_nil (base:Nat) (n:BitVec 32):CallA T base 54 [.nils,uV n] h=some (.sl .no 1 (u8s (bytes4 n)),h):=by
 have hq:=put_loop (h:=h) (l:=[]) (size h) n 4 0 (show GK h h .nils (u8s []) from GK.nil (.inl rfl)) (by simp) rfl (by simp)
 simp only [show ((0:Nat):Int)=0 from rfl] at hq
 rw [S54,clone_nils,bnd2_some,hq]
 rfl
theorem put32_spec (base:Nat) {v:PV} {l:List UInt8} (hv:Rd h v l) (hn:nilK 1 v=some false) (hl:l.length≤800000) (n:BitVec 32):CallA T base 54 [v,uV n] h=some (.sl .no 1 (u8s (l ++ bytes4 n)),h):=by
 have hc:=clone_spec (size h) hn hv.el (by omega)
 by_cases h0:l=[]
 ·subst h0
  rw [if_pos rfl] at hc
  have hq:=put_loop (h:=h) (l:=[]) (size h) n 4 0 (show GK h h (.sl .full 1 []) (u8s []) from GK.nil (.inr rfl)) (by simp) rfl (by simp)
  simp only [show ((0:Nat):Int)=0 from rfl] at hq
  rw [S54,hc,bnd2_some,hq]
  rfl
 ·rw [if_neg h0] at hc
  have hg:GK h (ext h [.cells (u8s l)]) (.bsl false (size h) 0 (u8s l).length 1) (u8s l):=GK.of_ext (u8s_scalar l) (u8s_below l _)
  rw [u8s_length] at hg
  have hq:=put_loop (h:=h) (size h) n 4 0 hg (by omega) rfl (by simp)
  simp only [show ((0:Nat):Int)=0 from rfl] at hq
  rw [S54,hc,bnd2_some,hq]
  rfl
theorem seal_spec (base:Nat) {v:PV} {l:List UInt8} (hv:Rd h v l) (hn:nilK 1 v=some false) (hl:l.length≤800000):CallA T base 59 [v] h=some (.sl .no 1 (u8s (l ++ bytes4 (crcS l))),h):=by
 have h1:=fun b=>sum_spec b hv (by omega)
 have h2:=fun b=>put32_spec b hv hn hl (crcS l)
 have h3:=(bv_sl (.inl rfl) (l ++ bytes4 (crcS l))).frz
 have h4:=(bv_sl (.inl rfl) (l ++ bytes4 (crcS l))).below
 rw [S59]
 simp only [h1,h2,h3,h4,trunc_self,↓evD,evU,evL,evM,Nat.reduceAdd,Nat.reduceSub,Nat.reduceMul,Nat.reduceLeDiff,Nat.reduceLT,Nat.reduceEqDiff,Nat.reduceBEq,reduceIte,reduceCtorEq,Int.reduceBEq,Int.reduceEq,Int.reduceLT,Int.reduceLE,Int.reduceGT,Int.reduceGE,Int.reduceAdd,Int.reduceSub,Int.reduceNeg,Int.reduceBNe,ite_true,ite_false,if_true,if_false,implies_true,forall_const]
end Go.Am.Ytlonabodghfjdaa
namespace Go.Am.Ytlonabodghfjdaa
set_option maxRecDepth 100000
set_option linter.unusedSimpArgs false
set_option linter.unusedVariables false
variable {h:Hp}
def Nf (o:Own):Prop:=o=.no∨o=.full
theorem u8s_cut (l:List UInt8) (a n:Nat):((u8s l).drop a).take n=u8s ((l.drop a).take n):=by simp [u8s]
theorem slc {o:Own} (l:List UInt8) {lo hi:Option PV} {a b:Nat} (ha:bdW b 0 lo=some a) (hb:bdW l.length l.length hi=some b):∃ o',Nf o'∧sliceV (some 1) lo hi none (.sl o 1 (u8s l))=some (.sl o' 1 (u8s ((l.drop a).take (b - a)))):=by
 rw [sliceV_sl]
 simp only [u8s_length,hb,ha,Option.bnd_some,u8s_cut]
 exact ⟨_,by unfold Nf;split <;> simp,rfl⟩
theorem slc3 {o:Own} (l:List UInt8) {a b:Nat} (ha:a≤b) (hb:b≤l.length):sliceV (some 1) (some (.int .i64 (a:Int))) (some (.int .i64 (b:Int))) (some (.int .i64 (b:Int))) (.sl o 1 (u8s l))=some (.sl .full 1 (u8s ((l.drop a).take (b - a)))):=by
 simp only [sliceV,if_true,bdW_some,u8s_length]
 rw [bdV_nat _ _ _ hb,Option.bnd_some,bdV_nat _ _ _ (Nat.le_refl b),Option.bnd_some,bdV_nat _ _ _ ha,Option.bnd_some]
 simp only [Option.isSome_some,beq_self_eq_true,Bool.and_self,if_true,u8s_cut]
theorem rd_sl {o:Own} (ho:Nf o) (l:List UInt8):Rd h (.sl o 1 (u8s l)) l:=(bv_sl ho l).rd (.inl rfl)
/-! ### Numbers out of bytes -/
def getN:List UInt8→Nat→Nat→BitVec 32→BitVec 32
 | l,k,0,x=>x
 | l,k,m+1,x=>getN l (k+1) m (x ||| ((l.getD k 0).toBitVec.setWidth 32) <<< (8 * k))
def get4 (l:List UInt8):BitVec 32:=getN l 0 4 0#32
theorem w32u (c:UInt8):PV.int .u32 (IntKind.u32.wrap (c.toNat:Int))=uV (c.toBitVec.setWidth 32):=by
 have:=to32 c
 rw [toIntB_int] at this
 exact Option.some.inj this
theorem get_loop (base:Nat) {v:PV} {l:List UInt8} (hv:Rd h v l) (hl:4≤l.length):∀ (m k:Nat) (x:BitVec 32),k+m=4 →
  P49_0 base (size h) (.int .i64 k) v (uV x) h=some (.tup [uV (getN l k m x),.bool true],h)
 | 0,k,x,hk=>by
  have hd:decide ((k:Int) < 4)=false:=by simp;omega
  rw [P49_0_eq]
  simp only [hd,getN,↓evD,evU,evL,evM,Nat.reduceAdd,Nat.reduceSub,Nat.reduceMul,Nat.reduceLeDiff,Nat.reduceLT,Nat.reduceEqDiff,Nat.reduceBEq,reduceIte,reduceCtorEq,Int.reduceBEq,Int.reduceEq,Int.reduceLT,Int.reduceLE,Int.reduceGT,Int.reduceGE,Int.reduceAdd,Int.reduceSub,Int.reduceNeg,Int.reduceBNe,ite_true,ite_false,if_true,if_false,implies_true,forall_const]
  rw [show frz (size h) h (uV x)=some (uV x) from rfl]
  simp only [↓evD,evU,evL,evM,Nat.reduceAdd,Nat.reduceSub,Nat.reduceMul,Nat.reduceLeDiff,Nat.reduceLT,Nat.reduceEqDiff,Nat.reduceBEq,reduceIte,reduceCtorEq,Int.reduceBEq,Int.reduceEq,Int.reduceLT,Int.reduceLE,Int.reduceGT,Int.reduceGE,Int.reduceAdd,Int.reduceSub,Int.reduceNeg,Int.reduceBNe,ite_true,ite_false,if_true,if_false,implies_true,forall_const] <;> rfl
 | m+1,k,x,hk=>by
  have hd:decide ((k:Int) < 4)=true:=by simp;omega
  have hkl:k < l.length:=by omega
  obtain ⟨a,a1,a2⟩:=hv.rd .i64 k l[k] (List.getElem?_eq_getElem hkl)
  have e1:((8:Nat):Int)=8:=rfl
  have hw:=wr_mul 8 k (by omega)
  rw [e1] at hw
  have h1:=shl32 .i64 (l[k].toBitVec.setWidth 32) (8 * k) (by omega)
  have ih:=get_loop base hv hl m (k+1) (x ||| (l[k].toBitVec.setWidth 32) <<< (8 * k)) (by omega)
  have hg:l.getD k 0=l[k]:=by simp [hkl]
  rw [P49_0_eq]
  simp (disch:=omega) only [hd,a1,a2,to32,hw,w32u,h1,or32,wr_a1,ih,getN,hg,↓evD,evU,evL,evM,Nat.reduceAdd,Nat.reduceSub,Nat.reduceMul,Nat.reduceLeDiff,Nat.reduceLT,Nat.reduceEqDiff,Nat.reduceBEq,reduceIte,reduceCtorEq,Int.reduceBEq,Int.reduceEq,Int.reduceLT,Int.reduceLE,Int.reduceGT,Int.reduceGE,Int.reduceAdd,Int.reduceSub,Int.reduceNeg,Int.reduceBNe,ite_true,ite_false,if_true,if_false,implies_true,forall_const]
theorem get32_spec (base:Nat) {v:PV} {l:List UInt8} (hv:Rd h v l) (hl:4≤l.length):CallA T base 49 [v] h=some (.tup [uV (get4 l),.bool true],h):=by
 have hq:=get_loop (size h) hv hl 4 0 0#32 rfl
 simp only [show ((0:Nat):Int)=0 from rfl,show uV 0#32=.int .u32 0 from rfl] at hq
 have hd:decide (((l.length:Nat):Int) < 4)=false:=by simp;omega
 rw [S49]
 simp only [hv.len,hd,hq,get4,↓evD,evU,evL,evM,Nat.reduceAdd,Nat.reduceSub,Nat.reduceMul,Nat.reduceLeDiff,Nat.reduceLT,Nat.reduceEqDiff,Nat.reduceBEq,reduceIte,reduceCtorEq,Int.reduceBEq,Int.reduceEq,Int.reduceLT,Int.reduceLE,Int.reduceGT,Int.reduceGE,Int.reduceAdd,Int.reduceSub,Int.reduceNeg,Int.reduceBNe,ite_true,ite_false,if_true,if_false,implies_true,forall_const]
def openB (l:List UInt8):Bool:=decide (4≤l.length) && get4 (l.drop (l.length - 4)) == crcS (l.take (l.length - 4))
theorem open_spec (base:Nat) {o:Own} (ho:Nf o) (l:List UInt8) (hl:l.length≤1000000):∃ x,CallA T base 71 [.sl o 1 (u8s l)] h=some (.tup [x,.bool (openB l)],h)∧(openB l=true→x=.sl (if l.length - 4=0 then .full else .no) 1 (u8s (l.take (l.length - 4)))):=by
 by_cases h4:4≤l.length
 ·have hd:decide (((l.length - 4:Nat):Int) < 0)=false:=by simp
  have b0:bdW l.length l.length none=some l.length:=rfl
  have b1:bdW l.length 0 (some (.int .i64 ((l.length - 4:Nat):Int)))=some (l.length - 4):=(bdW_some _ _ _).trans (bdV_nat _ .i64 _ (by omega))
  have b2:bdW l.length l.length (some (.int .i64 ((l.length - 4:Nat):Int)))=some (l.length - 4):=(bdW_some _ _ _).trans (bdV_nat _ .i64 _ (by omega))
  have b3:bdW (l.length - 4) 0 none=some 0:=rfl
  obtain ⟨o1,p1,s1⟩:=slc (o:=o) l b1 b0
  obtain ⟨o2,p2,s2⟩:=slc (o:=o) l b3 b2
  have e1:(l.drop (l.length - 4)).take (l.length - (l.length - 4))=l.drop (l.length - 4):=by rw [List.take_of_length_le (by simp)]
  have e2:(l.drop 0).take (l.length - 4 - 0)=l.take (l.length - 4):=by simp
  rw [e1] at s1
  rw [e2] at s2
  have hg:=fun b=>get32_spec (h:=h) b (rd_sl p1 (l.drop (l.length - 4))) (by simp;omega)
  have hs:=fun b=>sum_spec (h:=h) b (rd_sl p2 (l.take (l.length - 4))) (by simp;omega)
  have hc:=fun b=>clone_spec (h:=h) (v:=.sl o2 1 (u8s (l.take (l.length - 4)))) b rfl (rd_sl p2 _).el (by simp;omega)
  have h4':openB l=(get4 (l.drop (l.length - 4)) == crcS (l.take (l.length - 4))):=by simp [openB,h4]
  cases hq:(get4 (l.drop (l.length - 4)) == crcS (l.take (l.length - 4))) with
  | false =>
   have hn:(get4 (l.drop (l.length - 4)) != crcS (l.take (l.length - 4)))=true:=by rw [bne,hq];rfl
   refine ⟨.nils,?_,by rw [h4',hq];simp⟩
   rw [h4',hq,S71]
   simp (disch:=omega) only [lenB_sl,u8s_length,wr_s4,hd,s1,s2,hg,hs,neq32,hn,trunc_self,↓evD,evU,evL,evM,Nat.reduceAdd,Nat.reduceSub,Nat.reduceMul,Nat.reduceLeDiff,Nat.reduceLT,Nat.reduceEqDiff,Nat.reduceBEq,reduceIte,reduceCtorEq,Int.reduceBEq,Int.reduceEq,Int.reduceLT,Int.reduceLE,Int.reduceGT,Int.reduceGE,Int.reduceAdd,Int.reduceSub,Int.reduceNeg,Int.reduceBNe,ite_true,ite_false,if_true,if_false,implies_true,forall_const]
  | true =>
   have hn:(get4 (l.drop (l.length - 4)) != crcS (l.take (l.length - 4)))=false:=by rw [bne,hq];rfl
   refine ⟨_,?_,fun _=>rfl⟩
   rw [h4',hq,S71]
   by_cases h0:l.length - 4=0
   ·have ht:l.take (l.length - 4)=[]:=by rw [h0];rfl
    simp only [ht,if_true] at hc
    rw [if_pos h0,ht]
    rw [ht] at s2 hs hn
    simp (disch:=omega) only [lenB_sl,u8s_length,wr_s4,hd,s1,s2,hg,hs,neq32,hn,hc,trunc_self,↓evD,evU,evL,evM,Nat.reduceAdd,Nat.reduceSub,Nat.reduceMul,Nat.reduceLeDiff,Nat.reduceLT,Nat.reduceEqDiff,Nat.reduceBEq,reduceIte,reduceCtorEq,Int.reduceBEq,Int.reduceEq,Int.reduceLT,Int.reduceLE,Int.reduceGT,Int.reduceGE,Int.reduceAdd,Int.reduceSub,Int.reduceNeg,Int.reduceBNe,ite_true,ite_false,if_true,if_false,implies_true,forall_const] <;> rfl
   ·have ht:¬ l.take (l.length - 4)=[]:=by
     intro hq2;have:=congrArg List.length hq2;simp at this;omega
    simp only [ht,if_false] at hc
    rw [if_neg h0]
    have hfz:=frz_box (h:=h) (g:=ext h [.cells (u8s (l.take (l.length - 4)))]) (size h) (l.take (l.length - 4)) (Nat.le_refl _) (by rw [getBox_ext_0];rfl)
    have hbl:=(bv_sl (.inl rfl) (l.take (l.length - 4))).below
    simp (disch:=omega) only [lenB_sl,u8s_length,wr_s4,hd,s1,s2,hg,hs,neq32,hn,hc,finV_code,frzs,hfz,hbl,trunc_self,trunc_ext,↓evD,evU,evL,evM,Nat.reduceAdd,Nat.reduceSub,Nat.reduceMul,Nat.reduceLeDiff,Nat.reduceLT,Nat.reduceEqDiff,Nat.reduceBEq,reduceIte,reduceCtorEq,Int.reduceBEq,Int.reduceEq,Int.reduceLT,Int.reduceLE,Int.reduceGT,Int.reduceGE,Int.reduceAdd,Int.reduceSub,Int.reduceNeg,Int.reduceBNe,ite_true,ite_false,if_true,if_false,implies_true,forall_const]
 ·have hlt:IntKind.i64.wrap ((l.length:Int) - 4)=(l.length:Int) - 4:=wrap_small (by omega) (by omega)
  have hd:decide (((l.length:Nat):Int) - 4 < 0)=true:=by simp;omega
  have h4':openB l=false:=by simp [openB,h4]
  refine ⟨.nils,?_,by rw [h4'];simp⟩
  rw [h4',S71]
  simp only [lenB_sl,u8s_length,hlt,hd,↓evD,evU,evL,evM,Nat.reduceAdd,Nat.reduceSub,Nat.reduceMul,Nat.reduceLeDiff,Nat.reduceLT,Nat.reduceEqDiff,Nat.reduceBEq,reduceIte,reduceCtorEq,Int.reduceBEq,Int.reduceEq,Int.reduceLT,Int.reduceLE,Int.reduceGT,Int.reduceGE,Int.reduceAdd,Int.reduceSub,Int.reduceNeg,Int.reduceBNe,ite_true,ite_false,if_true,if_false,implies_true,forall_const]
end Go.Am.Ytlonabodghfjdaa
namespace Go.Am.Ytlonabodghfjdaa
set_option maxRecDepth 100000
set_option linter.unusedSimpArgs false
set_option linter.unusedVariables false
variable {h:Hp}
structure Rec where
 key:UInt8
 val:List UInt8
 drop:Bool
 fin:Nat
def nextT (b:List UInt8) (a:Nat) (key:UInt8) (dr:Bool) (n:Nat):Option Rec :=
 if 250 < n then none else if b.length < a+7+n then none else if b.getD (a+7+n - 1) 0≠0 then none else some ⟨key,(b.drop (a+2)).take n,dr,a+7+n⟩
def nextL (b:List UInt8) (a:Nat):Option Rec :=
 if b.length < a+2 then none else if 32≤b.getD a 0 then none else
  nextT b a (b.getD a 0) (b.getD (a+1) 0 == 254) (if b.getD (a+1) 0 == 254 then 0 else (b.getD (a+1) 0).toNat)
def recV (r:Rec):PV:=.agg [.int .i64 (r.key.toNat:Int),.sl .full 1 (u8s r.val),.bool r.drop,.int .i64 (r.fin:Int)]
def zeroR:PV:=.agg [.int .i64 0,.nils,.bool false,.int .i64 0]
def nextR:Option Rec→PV
 | none=>.tup [zeroR,.bool false]
 | some r=>.tup [recV r,.bool true]
theorem toI64 (c:UInt8):IntKind.i64.wrap (c.toNat:Int)=(c.toNat:Int):=by
 have:=c.toNat_lt
 rw [wrap_small (by omega) (by omega)]
theorem geU8 (c:UInt8):decide ((c.toNat:Int) ≥ 32)=decide (32≤c):=by
 have:(32≤c) ↔ 32≤c.toNat:=UInt8.le_iff_toNat_le
 simp only [this]
 congr 1
 apply propext
 constructor <;> intro h <;> omega
theorem geZ (c:UInt8):((c.toNat:Int) != 0)=decide (c≠0):=by
 rw [Bool.eq_iff_iff,bne_iff_ne,decide_eq_true_eq]
 constructor
 ·intro hq hc;subst hc;exact hq rfl
 ·intro hq hc;exact hq (UInt8.toNat_inj.1 (by have:((0:UInt8).toNat)=0:=rfl;omega))
theorem fin55 {o:Own} (ho:Nf o) (b:List UInt8) (a n:Nat) (key:UInt8) (dr:Bool) (hb:b.length≤1000000) (hn:n≤255) (ha:a+2≤b.length) :
  P55_0 (size h) (size h) (.ptr (size h) 0) (.ptr (size h+1) 0) (.int .i64 (n:Int)) (.int .i64 (a:Int)) (.sl o 1 (u8s b))
   (ext h [.cells [.int .i64 0,.nils,.bool false,.int .i64 0],.cells [.int .i64 (key.toNat:Int),.nils,.bool dr,.int .i64 0]]) =
   some (nextR (if b.length < a+7+n then none else if b.getD (a+7+n - 1) 0≠0 then none else some ⟨key,(b.drop (a+2)).take n,dr,a+7+n⟩),h):=by
 have zr:nextR none=.tup [.agg [.int .i64 0,.nils,.bool false,.int .i64 0],.bool false]:=rfl
 rw [P55_0_eq]
 by_cases h1:b.length < a+7+n
 ·have d1:decide (a+7+n > b.length)=true:=by simpa using h1
  rw [if_pos h1]
  simp (disch:=omega) only [wr_a7,wr_add,lenB_sl,u8s_length,dec_gt,d1,zr,↓evD,evU,evL,evM,Nat.reduceAdd,Nat.reduceSub,Nat.reduceMul,Nat.reduceLeDiff,Nat.reduceLT,Nat.reduceEqDiff,Nat.reduceBEq,reduceIte,reduceCtorEq,Int.reduceBEq,Int.reduceEq,Int.reduceLT,Int.reduceLE,Int.reduceGT,Int.reduceGE,Int.reduceAdd,Int.reduceSub,Int.reduceNeg,Int.reduceBNe,ite_true,ite_false,if_true,if_false,implies_true,forall_const]
 ·have d1:decide (a+7+n > b.length)=false:=by simpa using h1
  have a0:=(bv_sl ho b).ix .i64 (a+7+n - 1) b[a+7+n - 1] (List.getElem?_eq_getElem (by omega))
  have g0:b.getD (a+7+n - 1) 0=b[a+7+n - 1]:=by simp;rw [List.getElem?_eq_getElem (by omega)];rfl
  rw [if_neg h1,g0]
  by_cases h2:b[a+7+n - 1]≠0
  ·have d2:decide (b[a+7+n - 1]≠0)=true:=by simpa using h2
   rw [if_pos h2]
   simp (disch:=omega) only [wr_a7,wr_add,wr_s1,lenB_sl,u8s_length,dec_gt,d1,a0,geZ,d2,zr,↓evD,evU,evL,evM,Nat.reduceAdd,Nat.reduceSub,Nat.reduceMul,Nat.reduceLeDiff,Nat.reduceLT,Nat.reduceEqDiff,Nat.reduceBEq,reduceIte,reduceCtorEq,Int.reduceBEq,Int.reduceEq,Int.reduceLT,Int.reduceLE,Int.reduceGT,Int.reduceGE,Int.reduceAdd,Int.reduceSub,Int.reduceNeg,Int.reduceBNe,ite_true,ite_false,if_true,if_false,implies_true,forall_const]
  ·have d2:decide (b[a+7+n - 1]≠0)=false:=by simpa using h2
   have hs:=slc3 (o:=o) b (a:=a+2) (b:=a+2+n) (by omega) (by omega)
   have e1:a+2+n - (a+2)=n:=by omega
   rw [e1] at hs
   rw [if_neg h2]
   simp (disch:=omega) only [wr_a7,wr_a2,wr_add,wr_s1,lenB_sl,u8s_length,dec_gt,d1,a0,geZ,d2,hs,↓evD,evU,evL,evM,Nat.reduceAdd,Nat.reduceSub,Nat.reduceMul,Nat.reduceLeDiff,Nat.reduceLT,Nat.reduceEqDiff,Nat.reduceBEq,reduceIte,reduceCtorEq,Int.reduceBEq,Int.reduceEq,Int.reduceLT,Int.reduceLE,Int.reduceGT,Int.reduceGE,Int.reduceAdd,Int.reduceSub,Int.reduceNeg,Int.reduceBNe,ite_true,ite_false,if_true,if_false,implies_true,forall_const]
   rw [if_pos (u8s_below _ _)]
   rfl
theorem next_spec (base:Nat) {o:Own} (ho:Nf o) (b:List UInt8) (a:Nat) (hb:b.length≤1000000) (ha:a≤b.length):CallA T base 55 [.sl o 1 (u8s b),.int .i64 (a:Int)] h=some (nextR (nextL b a),h):=by
 have hrd:∀ {H:Hp},Rd H (.sl o 1 (u8s b)) b:=rd_sl ho b
 rw [S55]
 unfold nextL
 have zr:nextR none=.tup [.agg [.int .i64 0,.nils,.bool false,.int .i64 0],.bool false]:=rfl
 by_cases h1:b.length < a+2
 ·have d1:decide (a+2 > b.length)=true:=by simpa using h1
  rw [if_pos h1]
  simp (disch:=omega) only [wr_a2,lenB_sl,u8s_length,dec_gt,d1,zr,↓evD,evU,evL,evM,Nat.reduceAdd,Nat.reduceSub,Nat.reduceMul,Nat.reduceLeDiff,Nat.reduceLT,Nat.reduceEqDiff,Nat.reduceBEq,reduceIte,reduceCtorEq,Int.reduceBEq,Int.reduceEq,Int.reduceLT,Int.reduceLE,Int.reduceGT,Int.reduceGE,Int.reduceAdd,Int.reduceSub,Int.reduceNeg,Int.reduceBNe,ite_true,ite_false,if_true,if_false,implies_true,forall_const]
 have d1:decide (a+2 > b.length)=false:=by simpa using h1
 rw [if_neg h1]
 have a0:=(bv_sl ho b).ix .i64 a b[a] (List.getElem?_eq_getElem (by omega))
 have a1:=(bv_sl ho b).ix .i64 (a+1) b[a+1] (List.getElem?_eq_getElem (by omega))
 have g0:b.getD a 0=b[a]:=by simp;rw [List.getElem?_eq_getElem (by omega)];rfl
 have g1:b.getD (a+1) 0=b[a+1]:=by simp;rw [List.getElem?_eq_getElem (by omega)];rfl
 rw [g0]
 by_cases h2:32≤b[a]
 ·have d2:decide ((b[a].toNat:Int) ≥ 32)=true:=by rw [geU8];simpa using h2
  rw [if_pos h2]
  simp (disch:=omega) only [wr_a2,lenB_sl,u8s_length,dec_gt,d1,a0,d2,zr,↓evD,evU,evL,evM,Nat.reduceAdd,Nat.reduceSub,Nat.reduceMul,Nat.reduceLeDiff,Nat.reduceLT,Nat.reduceEqDiff,Nat.reduceBEq,reduceIte,reduceCtorEq,Int.reduceBEq,Int.reduceEq,Int.reduceLT,Int.reduceLE,Int.reduceGT,Int.reduceGE,Int.reduceAdd,Int.reduceSub,Int.reduceNeg,Int.reduceBNe,ite_true,ite_false,if_true,if_false,implies_true,forall_const]
 rw [if_neg h2,g1]
 unfold nextT
 have d2:decide ((b[a].toNat:Int) ≥ 32)=false:=by rw [geU8];simpa using h2
 by_cases h3:b[a+1]=254
 ·have d3:((b[a+1].toNat:Int) == 254)=true:=by rw [h3];rfl
  simp (disch:=omega) only [wr_a2,wr_a1,lenB_sl,u8s_length,dec_gt,d1,a0,a1,d2,d3,toI64,zr,↓evD,evU,evL,evM,Nat.reduceAdd,Nat.reduceSub,Nat.reduceMul,Nat.reduceLeDiff,Nat.reduceLT,Nat.reduceEqDiff,Nat.reduceBEq,reduceIte,reduceCtorEq,Int.reduceBEq,Int.reduceEq,Int.reduceLT,Int.reduceLE,Int.reduceGT,Int.reduceGE,Int.reduceAdd,Int.reduceSub,Int.reduceNeg,Int.reduceBNe,ite_true,ite_false,if_true,if_false,implies_true,forall_const]
  have e3:(b[a+1] == 254)=true:=by rw [h3];rfl
  have hf:=fin55 (h:=h) ho b a 0 b[a] true hb (by omega) (by omega)
  simp only [show ((0:Nat):Int)=0 from rfl] at hf
  rw [hf,e3]
  rfl
 ·have d3:((b[a+1].toNat:Int) == 254)=false:=by
   rw [beq_eq_false_iff_ne]
   intro hq
   exact h3 (UInt8.toNat_inj.1 (by have:((254:UInt8).toNat)=254:=rfl;omega))
  have e3:(b[a+1] == 254)=false:=by rw [beq_eq_false_iff_ne];exact h3
  simp only [e3,Bool.false_eq_true,if_false]
  by_cases h4:250 < b[a+1].toNat
  ·have d4:decide ((b[a+1].toNat:Int) > 250)=true:=by simp;omega
   rw [if_pos h4]
   simp (disch:=omega) only [wr_a2,wr_a1,lenB_sl,u8s_length,dec_gt,d1,a0,a1,d2,d3,d4,toI64,zr,↓evD,evU,evL,evM,Nat.reduceAdd,Nat.reduceSub,Nat.reduceMul,Nat.reduceLeDiff,Nat.reduceLT,Nat.reduceEqDiff,Nat.reduceBEq,reduceIte,reduceCtorEq,Int.reduceBEq,Int.reduceEq,Int.reduceLT,Int.reduceLE,Int.reduceGT,Int.reduceGE,Int.reduceAdd,Int.reduceSub,Int.reduceNeg,Int.reduceBNe,ite_true,ite_false,if_true,if_false,implies_true,forall_const]
  ·have d4:decide ((b[a+1].toNat:Int) > 250)=false:=by simp;omega
   have hf:=fin55 (h:=h) ho b a b[a+1].toNat b[a] false hb (by omega) (by omega)
   rw [if_neg h4]
   simp (disch:=omega) only [wr_a2,wr_a1,lenB_sl,u8s_length,dec_gt,d1,a0,a1,d2,d3,d4,toI64,hf,↓evD,evU,evL,evM,Nat.reduceAdd,Nat.reduceSub,Nat.reduceMul,Nat.reduceLeDiff,Nat.reduceLT,Nat.reduceEqDiff,Nat.reduceBEq,reduceIte,reduceCtorEq,Int.reduceBEq,Int.reduceEq,Int.reduceLT,Int.reduceLE,Int.reduceGT,Int.reduceGE,Int.reduceAdd,Int.reduceSub,Int.reduceNeg,Int.reduceBNe,ite_true,ite_false,if_true,if_false,implies_true,forall_const]
theorem nextL_fin {b:List UInt8} {a:Nat} {r:Rec} (hr:nextL b a=some r):a+7≤r.fin∧r.fin≤b.length∧r.val.length+a+7=r.fin∧r.val.length≤250∧r.key.toNat < 32∧(r.drop=true→r.val=[]):=by
 unfold nextL at hr
 split at hr
 ·cases hr
 split at hr
 ·cases hr
 rename_i h1 h2
 generalize hn:(if (b.getD (a+1) 0 == 254)=true then 0 else (b.getD (a+1) 0).toNat)=n at hr
 unfold nextT at hr
 split at hr
 ·cases hr
 split at hr
 ·cases hr
 split at hr
 ·cases hr
 rename_i h3 h4 h5
 simp only [Option.some.injEq] at hr
 subst hr
 simp only
 have hl:((b.drop (a+2)).take n).length=n:=by simp;omega
 refine ⟨by omega,by omega,by rw [hl];omega,by rw [hl];omega,?_,fun hd=>?_⟩
 ·have:¬ (32≤(b.getD a 0).toNat):=fun hq=>h2 (UInt8.le_iff_toNat_le.2 hq)
  omega
 ·rw [hd] at hn
  simp only [if_true] at hn
  rw [←hn];rfl
theorem right_spec (base:Nat) {o:Own} (ho:Nf o) (b:List UInt8) (a:Nat) (r:Rec) (hb:b.length≤1000000) (h1:a+1≤r.fin) (h2:r.fin≤b.length) :
  CallA T base 56 [.sl o 1 (u8s b),.int .i64 (a:Int),recV r] h=some (.bool (openB ((b.drop a).take (r.fin - 1 - a))),h):=by
 have b1:bdW b.length b.length (some (.int .i64 ((r.fin - 1:Nat):Int)))=some (r.fin - 1):=(bdW_some _ _ _).trans (bdV_nat _ .i64 _ (by omega))
 have b0:bdW (r.fin - 1) 0 (some (.int .i64 (a:Int)))=some a:=(bdW_some _ _ _).trans (bdV_nat _ .i64 _ (by omega))
 obtain ⟨o1,p1,s1⟩:=slc (o:=o) b b0 b1
 have hop:∀ (H:Hp) (base:Nat),∃ x,CallA T base 71 [.sl o1 1 (u8s ((b.drop a).take (r.fin - 1 - a)))] H=some (.tup [x,.bool (openB ((b.drop a).take (r.fin - 1 - a)))],H):=fun H base =>
  let ⟨x,h1,_⟩:=open_spec (h:=H) base p1 _ (by simp;omega);⟨x,h1⟩
 obtain ⟨x,hx⟩:=hop (ext h [.cells [.int .i64 (r.key.toNat:Int),.sl .full 1 (u8s r.val),.bool r.drop,.int .i64 (r.fin:Int)]]) (size h)
 rw [S56]
 generalize PV.sl o 1 (u8s b)=v at s1 ⊢
 simp (disch:=omega) only [recV,wr_s1,s1,hx,↓evD,evU,evL,evM,Nat.reduceAdd,Nat.reduceSub,Nat.reduceMul,Nat.reduceLeDiff,Nat.reduceLT,Nat.reduceEqDiff,Nat.reduceBEq,reduceIte,reduceCtorEq,Int.reduceBEq,Int.reduceEq,Int.reduceLT,Int.reduceLE,Int.reduceGT,Int.reduceGE,Int.reduceAdd,Int.reduceSub,Int.reduceNeg,Int.reduceBNe,ite_true,ite_false,if_true,if_false,implies_true,forall_const]
/-! ### The bytes of a record -/
def bodyL (key:UInt8) (l:List UInt8) (dr:Bool):List UInt8 :=
 (key :: (if dr then 254 else UInt8.ofNat l.length) :: l) ++ bytes4 (crcS (key :: (if dr then 254 else UInt8.ofNat l.length) :: l))
theorem bodyL_length (key:UInt8) (l:List UInt8) (dr:Bool):(bodyL key l dr).length=l.length+6:=by simp [bodyL,bytes4]
theorem rd_any {o:Own} (l:List UInt8):Rd h (.sl o 1 (u8s l)) l:=by
 refine ⟨by rw [lenB_sl,u8s_length],fun k i c hc=>?_,rfl,.inl rfl⟩
 have hi:=(List.getElem?_eq_some_iff.1 hc).1
 refine ⟨.ep [.int .u8 c.toNat] 0,?_,rfl⟩
 rw [idxAB_sl,if_pos rfl,ix_nat k i _ (by rw [u8s_length];exact hi),Option.bnd_some,u8s_get,hc];rfl
theorem fits_u8s (l:List UInt8):(u8s l).all (fits 1)=true:=(one_cells (u8s_scalar l)).1
theorem app_head {v:PV} {l:List UInt8} (hv:elems h v=some (u8s l)) (hl:l.length≤700000) (x y:UInt8):appTV 5 1 (.sl .full 1 [.int .u8 (x.toNat:Int),.int .u8 (y.toNat:Int)]) v h =
  some (if l=[] then (.sl .full 1 (u8s [x,y]),h) else (.sl (.tok (size h)) 1 (u8s (x :: y :: l)),ext h [.tok (2+l.length) 5])):=by
 rw [appTV_eq,hv,Option.bnd_some]
 unfold growT
 rw [if_pos (fits_u8s l)]
 simp only [List.length_cons,List.length_nil,u8s_length,lim2,true_and]
 rw [if_pos (by omega)]
 by_cases h0:l=[]
 ·subst h0;rfl
 ·have:(u8s l).isEmpty=false:=by
   cases l with
   | nil=>exact (h0 rfl).elim
   | cons c l=>rfl
  rw [if_neg h0,this,u8s_strips]
  simp only [Bool.false_eq_true,if_false]
  rfl
theorem body_spec (base:Nat) (k:Nat) {v:PV} {l:List UInt8} (hv:Rd h v l) (hl:l.length≤700000) (dr:Bool) :
  CallA T base 41 [.int .i64 (k:Int),v,.bool dr] h=some (.sl .no 1 (u8s (bodyL (UInt8.ofNat k) l dr)),h):=by
 have ha:=fun x y=>app_head (h:=h) hv.el hl x y
 have hb:=(bv_sl (.inl rfl) (bodyL (UInt8.ofNat k) l dr)).below
 have hf:=(bv_sl (.inl rfl) (bodyL (UInt8.ofNat k) l dr)).frz
 have fin:∀ y:UInt8,bodyL (UInt8.ofNat k) l dr=(UInt8.ofNat k :: y :: l) ++ bytes4 (crcS (UInt8.ofNat k :: y :: l)) →
   (bnd2 (some (if l=[] then (PV.sl Own.full 1 (u8s [UInt8.ofNat k,y]),h) else (PV.sl (Own.tok (size h)) 1 (u8s (UInt8.ofNat k :: y :: l)),ext h [Box.tok (2+l.length) 5]))) fun x12 h13 =>
   bnd2 (CallA T (size h) 59 [x12] h13) fun x14 h15 =>
    Option.bnd (fun vs=>if belows (size h) vs=true then some (result1 vs,trunc h15 (size h)) else none)
     (Option.bnd (fun v=>some [v]) (frz (size h) h15 x14)))=some (PV.sl Own.no 1 (u8s (bodyL (UInt8.ofNat k) l dr)),h):=by
  intro y hy
  by_cases h0:l=[]
  ·subst h0
   have hs:=seal_spec (h:=h) (size h) (rd_any (h:=h) (o:=.full) [UInt8.ofNat k,y]) rfl (by simp)
   rw [←hy] at hs
   simp only [if_true,hs,hf,hb,trunc_self,↓evD,evU,evL,evM,Nat.reduceAdd,Nat.reduceSub,Nat.reduceMul,Nat.reduceLeDiff,Nat.reduceLT,Nat.reduceEqDiff,Nat.reduceBEq,reduceIte,reduceCtorEq,Int.reduceBEq,Int.reduceEq,Int.reduceLT,Int.reduceLE,Int.reduceGT,Int.reduceGE,Int.reduceAdd,Int.reduceSub,Int.reduceNeg,Int.reduceBNe,ite_true,ite_false,if_true,if_false,implies_true,forall_const]
  ·have hs:=seal_spec (h:=ext h [Box.tok (2+l.length) 5]) (size h) (rd_any (o:=.tok (size h)) (UInt8.ofNat k :: y :: l)) rfl (by simp;omega)
   rw [←hy] at hs
   simp only [h0,if_false,hs,hf,hb,trunc_ext,↓evD,evU,evL,evM,Nat.reduceAdd,Nat.reduceSub,Nat.reduceMul,Nat.reduceLeDiff,Nat.reduceLT,Nat.reduceEqDiff,Nat.reduceBEq,reduceIte,reduceCtorEq,Int.reduceBEq,Int.reduceEq,Int.reduceLT,Int.reduceLE,Int.reduceGT,Int.reduceGE,Int.reduceAdd,Int.reduceSub,Int.reduceNeg,Int.reduceBNe,ite_true,ite_false,if_true,if_false,implies_true,forall_const]
 rw [S41]
 cases dr with
 | true =>
  have h2:IntKind.u8.wrap 254=(((254:UInt8).toNat:Nat):Int):=rfl
  simp (disch:=omega) only [hv.len,wr8,h2,ha,↓evD,evU,evL,evM,Nat.reduceAdd,Nat.reduceSub,Nat.reduceMul,Nat.reduceLeDiff,Nat.reduceLT,Nat.reduceEqDiff,Nat.reduceBEq,reduceIte,reduceCtorEq,Int.reduceBEq,Int.reduceEq,Int.reduceLT,Int.reduceLE,Int.reduceGT,Int.reduceGE,Int.reduceAdd,Int.reduceSub,Int.reduceNeg,Int.reduceBNe,ite_true,ite_false,if_true,if_false,implies_true,forall_const]
  exact fin _ rfl
 | false =>
  simp (disch:=omega) only [hv.len,wr8,ha,↓evD,evU,evL,evM,Nat.reduceAdd,Nat.reduceSub,Nat.reduceMul,Nat.reduceLeDiff,Nat.reduceLT,Nat.reduceEqDiff,Nat.reduceBEq,reduceIte,reduceCtorEq,Int.reduceBEq,Int.reduceEq,Int.reduceLT,Int.reduceLE,Int.reduceGT,Int.reduceGE,Int.reduceAdd,Int.reduceSub,Int.reduceNeg,Int.reduceBNe,ite_true,ite_false,if_true,if_false,implies_true,forall_const]
  exact fin _ rfl
end Go.Am.Ytlonabodghfjdaa
namespace Go.Am.Ytlonabodghfjdaa
set_option maxRecDepth 100000
set_option linter.unusedSimpArgs false
set_option linter.unusedVariables false
variable {h:Hp}
abbrev Vs:=List (Nat × Option (List UInt8))
def vV:Option (List UInt8)→PV
 | none=>.nils
 | some l=>clV l
def vB:Option (List UInt8)→List UInt8
 | none=>[]
 | some l=>l
def ents (vs:Vs):List (PV × PV):=vs.map fun e=>(.int .i64 (e.1:Int),vV e.2)
theorem vV_bv (v:Option (List UInt8)):Bv (vV v) (vB v):=by
 cases v with
 | none=>exact bv_nils
 | some l=>exact bv_clV l
theorem vV_nn (v:Option (List UInt8)):nilK 1 (vV v)=some false∨vV v=.nils:=by
 cases v with
 | none=>exact .inr rfl
 | some l=>exact .inl (clV_nil l)
theorem vV_rd (v:Option (List UInt8)):Rd h (vV v) (vB v):=(vV_bv v).rd (vV_nn v)
def idxOf:Vs→Int→Option Nat
 | [],_=>none
 | e :: r,k=>if (e.1:Int)=k then some 0 else (idxOf r k).map (·+1)
def getV:Vs→Int→Option (Option (List UInt8))
 | [],_=>none
 | e :: r,k=>if (e.1:Int)=k then some e.2 else getV r k
def setV:Vs→Nat→Option (List UInt8)→Vs
 | [],k,v=>[(k,v)]
 | e :: r,k,v=>if e.1=k then (k,v) :: r else e :: setV r k v
def delV:Vs→Int→Vs
 | [],_=>[]
 | e :: r,k=>if (e.1:Int)=k then r else e :: delV r k
theorem find_ents (key:Int):∀ (vs:Vs) (i:Nat),findM [1] false (.int .i64 key) (ents vs) i=some ((idxOf vs key).map (·+i))
 | [],i=>rfl
 | e :: r,i=>by
  have ih:=find_ents key r (i+1)
  unfold ents at ih ⊢
  simp only [List.map_cons,findM,eqKey,List.headD_cons,eqCell,if_true,Option.bnd_some,idxOf]
  by_cases hk:(e.1:Int)=key
  ·have:(key == (e.1:Int))=true:=by rw [hk];simp
   rw [this,if_pos hk];simp
  ·have:(key == (e.1:Int))=false:=by rw [beq_eq_false_iff_ne];exact fun q=>hk q.symm
   rw [this,if_neg hk,ih]
   cases idxOf r key <;> simp;omega
theorem idx_get (key:Int):∀ (vs:Vs),getV vs key=(idxOf vs key).bind fun i=>(vs[i]?).map (·.2)
 | []=>rfl
 | e :: r=>by
  simp only [getV,idxOf]
  by_cases hk:(e.1:Int)=key
  ·rw [if_pos hk,if_pos hk];rfl
  ·rw [if_neg hk,if_neg hk,idx_get key r]
   cases idxOf r key <;> simp
theorem idx_lt (key:Int):∀ (vs:Vs) (i:Nat),idxOf vs key=some i→i < vs.length
 | [],i,h=>by simp [idxOf] at h
 | e :: r,i,h=>by
  simp only [idxOf] at h
  split at h
  ·cases h;simp
  ·simp only [Option.map_eq_some_iff] at h
   obtain ⟨j,hj,rfl⟩:=h
   have:=idx_lt key r j hj
   simp;omega
theorem upd_ents (k:Nat) (v:Option (List UInt8)):∀ (vs:Vs),updM (.int .i64 (k:Int)) (vV v) (ents vs) (idxOf vs k)=ents (setV vs k v)
 | []=>rfl
 | e :: r=>by
  have ih:=upd_ents k v r
  simp only [idxOf,setV,Int.natCast_inj]
  by_cases hk:e.1=k
  ·rw [if_pos hk,if_pos hk];rfl
  ·rw [if_neg hk,if_neg hk]
   simp only [ents,List.map_cons] at ih ⊢
   cases hq:idxOf r k with
   | none=>rw [hq] at ih;simp only [updM,Option.map_none] at ih ⊢;rw [List.cons_append,ih]
   | some j=>rw [hq] at ih;simp only [updM,Option.map_some] at ih ⊢;rw [List.set_cons_succ,ih]
theorem del_ents (k:Int):∀ (vs:Vs),delM (ents vs) (idxOf vs k)=ents (delV vs k)
 | []=>rfl
 | e :: r=>by
  have ih:=del_ents k r
  simp only [idxOf,delV]
  by_cases hk:(e.1:Int)=k
  ·rw [if_pos hk,if_pos hk];rfl
  ·rw [if_neg hk,if_neg hk]
   simp only [ents,List.map_cons] at ih ⊢
   cases hq:idxOf r k with
   | none=>rw [hq] at ih;simp only [delM,Option.map_none] at ih ⊢;rw [ih]
   | some j=>rw [hq] at ih;simp only [delM,Option.map_some] at ih ⊢;rw [List.eraseIdx_cons_succ,ih]
def lkR (ok:Bool) (r:Option (Option (List UInt8))):PV :=
 let v:=match r with | none=>PV.nils | some v=>vV v
 if ok then .tup [v,.bool r.isSome] else v
theorem lookup_spec (base:Nat) {m:Nat} {vs:Vs} (hm:getMap h m=some (ents vs)) (ok:Bool) (key:Int):genV base h (.lookup [1] false .nils ok) [.mref m,.int .i64 key]=some (lkR ok (getV vs key),h):=by
 rw [genV_lookup,entriesOf_mref,hm,Option.bnd_some,keyOk_int,if_pos (by decide),find_ents,Option.bnd_some,idx_get]
 cases hq:idxOf vs key with
 | none=>cases ok <;> rfl
 | some i =>
  have hi:=idx_lt key vs i hq
  have hg:(ents vs)[i]?=some (.int .i64 ((vs[i]).1:Int),vV (vs[i]).2):=by simp [ents,hi]
  simp only [Option.map_some,Nat.add_zero,lookM,hg,Option.bnd_some,Option.bind_some,List.getElem?_eq_getElem hi]
  cases ok <;> rfl
theorem vV_scalar (v:Option (List UInt8)):(vV v).cells.all scalar=true:=by
 cases v with
 | none=>rfl
 | some l=>simp only [vV,clV];split <;> rfl
theorem upd_spec (base:Nat) {m:Nat} {vs:Vs} (hm:getMap h m=some (ents vs)) (k:Nat) (v:Option (List UInt8)):genV base h (.mapUpd [1] false) [.mref m,.int .i64 (k:Int),vV v]=some (.undef,setBx h m (.map (ents (setV vs k v)))):=by
 rw [genV_mapUpd,hm,Option.bnd_some,keyOk_int]
 rw [if_pos ⟨rfl,rfl,vV_scalar v,fun _=>⟨rfl,by rw [(vV_bv v).strip];exact (vV_bv v).below 0⟩⟩,find_ents,Option.bnd_some,(vV_bv v).strip]
 have:(idxOf vs (k:Int)).map (·+0)=idxOf vs k:=by cases idxOf vs (k:Int) <;> rfl
 rw [this]
 have:=upd_ents k v vs
 simp only [strip]
 rw [this]
theorem del_spec (base:Nat) {m:Nat} {vs:Vs} (hm:getMap h m=some (ents vs)) (k:Int):genV base h (.mapDel [1] false) [.mref m,.int .i64 k]=some (.tup [],setBx h m (.map (ents (delV vs k)))):=by
 rw [genV_mapDel,hm,Option.bnd_some,keyOk_int,if_pos (by decide),find_ents,Option.bnd_some]
 have:(idxOf vs k).map (·+0)=idxOf vs k:=by cases idxOf vs k <;> rfl
 rw [this,del_ents]
def needV (vs:Vs):Nat:=8+(vs.map fun e=>7+(vB e.2).length).sum
theorem lens_ents:∀ (vs:Vs),lensOf (ents vs)=some (vs.map fun e=>(vB e.2).length)
 | []=>rfl
 |(k,v) :: r=>by
  have ih:=lens_ents r
  unfold ents at ih ⊢
  rw [List.map_cons,List.map_cons]
  cases v with
  | none =>
   rw [show vV (none:Option (List UInt8))=.nils from rfl,lensOf,ih];rfl
  | some l =>
   rw [show vV (some l)=clV l from rfl]
   unfold clV
   split
   ·rename_i h0;subst h0;rw [lensOf,ih];rfl
   ·rw [lensOf,ih,u8s_length];rfl
def Small (vs:Vs):Prop:=vs.length≤32∧∀ e∈vs,e.1 < 32∧(vB e.2).length≤250
theorem pneed_spec {m:Nat} {vs:Vs} (hm:getMap h m=some (ents vs)) (hs:Small vs):pNeed [.mref m] h=some (.int .i64 (needV vs:Nat),none):=by
 have hl:=hs.1
 simp only [pNeed,hm,Option.bnd_some]
 rw [if_pos (by simp [ents];omega),lens_ents,Option.bnd_some,if_pos]
 ·simp only [needV,List.map_map]
  rfl
 ·rw [List.all_eq_true]
  intro n hn
  obtain ⟨e,he,rfl⟩:=List.mem_map.1 hn
  have:=(hs.2 e he).2
  simp;omega
end Go.Am.Ytlonabodghfjdaa
namespace Go.Am.Ytlonabodghfjdaa
set_option maxRecDepth 100000
set_option linter.unusedSimpArgs false
set_option linter.unusedVariables false
variable {h:Hp} {p:FP} {F:Fl}
theorem FIn.program (hF:FIn F) (i:Nat) (l:List UInt8):FIn (F.program i l).2∧(F.program i l).2.b.length=F.b.length∧(F.program i l).2.wear=F.wear∧(F.program i l).2.sector=F.sector:=by
 unfold Fl.program
 split
 ·exact ⟨hF,rfl,rfl,rfl⟩
 ·split
  ·exact FIn.prog l hF i
  ·exact ⟨hF,rfl,rfl,rfl⟩
def _root_.Go.Am.Fl.lay (F:Fl) (a:Nat) (l:List UInt8):Nat × Fl:=if (F.program a l).1=0 then (F.program a l).2.program (a+l.length) [0] else F.program a l
theorem FIn.lay (hF:FIn F) (i:Nat) (l:List UInt8):FIn (F.lay i l).2∧(F.lay i l).2.b.length=F.b.length∧(F.lay i l).2.wear=F.wear∧(F.lay i l).2.sector=F.sector:=by
 obtain ⟨h1,h2,h3,h4⟩:=hF.program i l
 unfold Fl.lay
 split
 ·obtain ⟨g1,g2,g3,g4⟩:=h1.program (i+l.length) [0]
  exact ⟨g1,g2.trans h2,g3.trans h3,g4.trans h4⟩
 ·exact ⟨h1,h2,h3,h4⟩
theorem zero_bv:Bv (.sl .full 1 [.int .u8 0]) [0]:=bv_sl (.inr rfl) [0]
theorem lay_spec (hp:FOk h p) {q first count:Nat} (hq:PtOk h p q first count) (base:Nat) (a:Nat) (l:List UInt8) {v:PV} (hv:Bv v l) (hF:FIn F) (hin:a+l.length+1≤count * F.sector) (hb:(first+count) * F.sector≤F.b.length) :
  CallA T base 58 [.ptr q 0,.int .i64 a,v] (putF h p F)=some (.int .i64 ((F.lay (first * F.sector+a) l).1:Nat),putF h p (F.lay (first * F.sector+a) l).2):=by
 have hl:=hF.len
 have hmul:=hb
 rw [Nat.add_mul] at hmul
 have h1:=fun b=>pwrite_spec (F:=F) hp hq b a l hv hF (by omega) hb
 obtain ⟨t1,t2,t3,t4⟩:=hF.program (first * F.sector+a) l
 have h2:=fun b=>pwrite_spec (F:=(F.program (first * F.sector+a) l).2) hp hq b (a+l.length) [0] zero_bv t1 (by rw [t4];simp;omega) (by rw [t4,t2];exact hb)
 rw [t4] at h2
 have hz:buildSlV 1 false [(.int .u8 0)] 1 [(0,strip (.int .u8 0))]=some (.sl .full 1 [.int .u8 0]):=rfl
 rw [S58]
 unfold Fl.lay
 by_cases hc:(F.program (first * F.sector+a) l).1=0
 ·rw [if_pos hc]
  have e0:(((F.program (first * F.sector+a) l).1:Int) != 0)=false:=by rw [hc];rfl
  simp (disch:=omega) only [size_putF,h1,e0,hv.len,wr_add,hz,h2,trunc_putF0,←Nat.add_assoc,↓evD,evU,evL,evM,Nat.reduceAdd,Nat.reduceSub,Nat.reduceMul,Nat.reduceLeDiff,Nat.reduceLT,Nat.reduceEqDiff,Nat.reduceBEq,reduceIte,reduceCtorEq,Int.reduceBEq,Int.reduceEq,Int.reduceLT,Int.reduceLE,Int.reduceGT,Int.reduceGE,Int.reduceAdd,Int.reduceSub,Int.reduceNeg,Int.reduceBNe,ite_true,ite_false,if_true,if_false,implies_true,forall_const]
 ·rw [if_neg hc]
  have e0:(((F.program (first * F.sector+a) l).1:Int) != 0)=true:=by simpa using hc
  simp (disch:=omega) only [size_putF,h1,e0,trunc_putF0,↓evD,evU,evL,evM,Nat.reduceAdd,Nat.reduceSub,Nat.reduceMul,Nat.reduceLeDiff,Nat.reduceLT,Nat.reduceEqDiff,Nat.reduceBEq,reduceIte,reduceCtorEq,Int.reduceBEq,Int.reduceEq,Int.reduceLT,Int.reduceLE,Int.reduceGT,Int.reduceGE,Int.reduceAdd,Int.reduceSub,Int.reduceNeg,Int.reduceBNe,ite_true,ite_false,if_true,if_false,implies_true,forall_const]
theorem rsize_spec (base:Nat) {v:PV} {l:List UInt8} (hv:Bv v l) (hl:l.length≤1000000):CallA T base 66 [v] h=some (.int .i64 ((7+l.length:Nat):Int),h):=by
 rw [S66];simp (disch:=omega) only [hv.len,wr_7a,trunc_self,↓evD,evU,evL,evM,Nat.reduceAdd,Nat.reduceSub,Nat.reduceMul,Nat.reduceLeDiff,Nat.reduceLT,Nat.reduceEqDiff,Nat.reduceBEq,reduceIte,reduceCtorEq,Int.reduceBEq,Int.reduceEq,Int.reduceLT,Int.reduceLE,Int.reduceGT,Int.reduceGE,Int.reduceAdd,Int.reduceSub,Int.reduceNeg,Int.reduceBNe,ite_true,ite_false,if_true,if_false,implies_true,forall_const]
def _root_.Go.Am.Fl.fill (F:Fl) (A:Nat) (a:Nat) (vs:Vs):List Nat→Nat × Nat × Fl
 | []=>(a,0,F)
 | k :: r=>if (F.lay (A+a) (bodyL (UInt8.ofNat k) (vB ((getV vs k).getD none)) false)).1=0 then
   (F.lay (A+a) (bodyL (UInt8.ofNat k) (vB ((getV vs k).getD none)) false)).2.fill A (a+(7+(vB ((getV vs k).getD none)).length)) vs r
   else (0,(F.lay (A+a) (bodyL (UInt8.ofNat k) (vB ((getV vs k).getD none)) false)))
def sumK (vs:Vs) (ks:List Nat):Nat:=(ks.map fun (k:Nat)=>7+(vB ((getV vs k).getD none)).length).sum
theorem fill_loop (hp:FOk h p) {q first count:Nat} (hq:PtOk h p q first count) {m:Nat} {vs:Vs} (hm:getMap h m=some (ents vs)) (nm:m≠p.f∧m≠p.bb∧m≠p.wb) {n0:Nat} {R:Fl→Hp} (hR:∀ F,trunc (putF h p F) n0=R F)
  (base:Nat) (ks:List Nat) (hk32:∀ k∈ks,k < 32) (hlen:ks.length≤1000):∀ (n i a:Nat) {F:Fl},FIn F→(first+count) * F.sector≤F.b.length→a+sumK vs (ks.drop i)≤count * F.sector→count * F.sector≤600000→i+n=ks.length →
  P52_0 base n0 (.int .i64 (i:Int)) (.mref m) (.int .i64 (a:Int)) (.ptr q 0) (.sl .no 1 (ks.map fun (k:Nat)=>.int .i64 (k:Int))) (.int .i64 (ks.length:Int)) (putF h p F) =
   some (.tup [.int .i64 ((F.fill (first * F.sector) a vs (ks.drop i)).1:Nat),.int .i64 ((F.fill (first * F.sector) a vs (ks.drop i)).2.1:Nat)],R (F.fill (first * F.sector) a vs (ks.drop i)).2.2)
 | 0,i,a,F,hF,hb,hsum,hcs,hi=>by
  have e0:¬ (i < ks.length):=by omega
  rw [P52_0_eq,List.drop_of_length_le (by omega)]
  simp only [dec_lt,e0,decide_false,Fl.fill,hR,↓evD,evU,evL,evM,Nat.reduceAdd,Nat.reduceSub,Nat.reduceMul,Nat.reduceLeDiff,Nat.reduceLT,Nat.reduceEqDiff,Nat.reduceBEq,reduceIte,reduceCtorEq,Int.reduceBEq,Int.reduceEq,Int.reduceLT,Int.reduceLE,Int.reduceGT,Int.reduceGE,Int.reduceAdd,Int.reduceSub,Int.reduceNeg,Int.reduceBNe,ite_true,ite_false,if_true,if_false,implies_true,forall_const] <;> rfl
 | n+1,i,a,F,hF,hb,hsum,hcs,hi=>by
  have e0:i < ks.length:=by omega
  have hd:ks.drop i=ks[i] :: ks.drop (i+1):=List.drop_eq_getElem_cons e0
  rw [hd] at hsum ⊢
  simp only [sumK,List.map_cons,List.sum_cons] at hsum
  have hk:=hk32 ks[i] (List.getElem_mem e0)
  have hl:=hF.len
  have hmul:=hb
  rw [Nat.add_mul] at hmul
  generalize hv:(getV vs ks[i]).getD none=v at hsum
  have hidx:idxAB (.sl .no 1 (ks.map fun (k:Nat)=>PV.int .i64 (k:Int))) (.int .i64 (i:Int)) 1=some (.ep [.int .i64 (ks[i] : Int)] 0):=by
   rw [idxAB_sl,if_pos rfl,ix_nat .i64 i _ (by simpa using e0),Option.bnd_some]
   simp [e0];rfl
  have hlk:=lookup_spec (h:=putF h p F) base (m:=m) (vs:=vs) (by rw [getMap_putF hp nm.1 nm.2.1 nm.2.2];exact hm) false (ks[i] : Int)
  have hlk2:lkR false (getV vs ks[i])=vV v:=by
   rw [←hv];cases getV vs ks[i] <;> rfl
  rw [hlk2] at hlk
  have hbd:=body_spec (h:=putF h p F) base ks[i] (vV_rd v) (by omega) false
  have hbl:(bodyL (UInt8.ofNat ks[i]) (vB v) false).length=(vB v).length+6:=bodyL_length _ _ _
  have hlay:=lay_spec hp hq base a (bodyL (UInt8.ofNat ks[i]) (vB v) false) (bv_sl (.inl rfl) _) hF (by rw [hbl];omega) hb
  obtain ⟨t1,t2,t3,t4⟩:=hF.lay (first * F.sector+a) (bodyL (UInt8.ofNat ks[i]) (vB v) false)
  have hlk3:=lookup_spec (h:=putF h p (F.lay (first * F.sector+a) (bodyL (UInt8.ofNat ks[i]) (vB v) false)).2) base (m:=m) (vs:=vs) (by rw [getMap_putF hp nm.1 nm.2.1 nm.2.2];exact hm) false (ks[i] : Int)
  rw [hlk2] at hlk3
  have hrs:=rsize_spec (h:=putF h p (F.lay (first * F.sector+a) (bodyL (UInt8.ofNat ks[i]) (vB v) false)).2) base (vV_bv v) (by omega)
  have ih:=fill_loop hp hq hm nm hR base ks hk32 hlen n (i+1) (a+(7+(vB v).length)) t1 (by rw [t4,t2];exact hb) (by rw [t4];simp only [sumK];omega) (by rw [t4];exact hcs) (by omega)
  rw [t4] at ih
  rw [P52_0_eq]
  simp only [Fl.fill,hv]
  by_cases hc:(F.lay (first * F.sector+a) (bodyL (UInt8.ofNat ks[i]) (vB v) false)).1=0
  ·rw [if_pos hc]
   have e1:(((F.lay (first * F.sector+a) (bodyL (UInt8.ofNat ks[i]) (vB v) false)).1:Int) != 0)=false:=by rw [hc];rfl
   simp (disch:=omega) only [dec_lt,e0,decide_true,hidx,hlk,hbd,hlay,e1,hlk3,hrs,wr_add,wr_a1,ih,↓evD,evU,evL,evM,Nat.reduceAdd,Nat.reduceSub,Nat.reduceMul,Nat.reduceLeDiff,Nat.reduceLT,Nat.reduceEqDiff,Nat.reduceBEq,reduceIte,reduceCtorEq,Int.reduceBEq,Int.reduceEq,Int.reduceLT,Int.reduceLE,Int.reduceGT,Int.reduceGE,Int.reduceAdd,Int.reduceSub,Int.reduceNeg,Int.reduceBNe,ite_true,ite_false,if_true,if_false,implies_true,forall_const]
  ·rw [if_neg hc]
   have e1:(((F.lay (first * F.sector+a) (bodyL (UInt8.ofNat ks[i]) (vB v) false)).1:Int) != 0)=true:=by simpa using hc
   simp (disch:=omega) only [dec_lt,e0,decide_true,hidx,hlk,hbd,hlay,e1,hR,↓evD,evU,evL,evM,Nat.reduceAdd,Nat.reduceSub,Nat.reduceMul,Nat.reduceLeDiff,Nat.reduceLT,Nat.reduceEqDiff,Nat.reduceBEq,reduceIte,reduceCtorEq,Int.reduceBEq,Int.reduceEq,Int.reduceLT,Int.reduceLE,Int.reduceGT,Int.reduceGE,Int.reduceAdd,Int.reduceSub,Int.reduceNeg,Int.reduceBNe,ite_true,ite_false,if_true,if_false,implies_true,forall_const] <;> rfl
end Go.Am.Ytlonabodghfjdaa
namespace Go.Am.Ytlonabodghfjdaa
set_option maxRecDepth 100000
set_option linter.unusedSimpArgs false
set_option linter.unusedVariables false
variable {h:Hp} {p:FP} {F:Fl}
def keysN (vs:Vs):List Nat:=(vs.map (·.1)).mergeSort fun x y=>decide (x≤y)
theorem keys_ents:∀ (vs:Vs),(∀ e∈vs,e.1 < 32)→intKeysOf (ents vs)=some (vs.map fun e=>(e.1:Int))
 | [],_=>rfl
 | e :: r,hk=>by
  have ih:=keys_ents r fun e he=>hk e (by simp [he])
  have:=hk e (by simp)
  unfold ents at ih ⊢
  simp only [List.map_cons,intKeysOf]
  rw [if_pos (by omega),ih];rfl
theorem sorted_ents (vs:Vs):sortedI (vs.map fun e=>(e.1:Int))=(keysN vs).map fun (k:Nat)=>(k:Int):=by
 unfold sortedI keysN
 rw [List.map_mergeSort (s:=fun (x y:Int)=>decide (x≤y)) (f:=fun (k:Nat)=>(k:Int)) (by intro a _ b _;simp)]
 rw [List.map_map]
 rfl
theorem mem_keysN (vs:Vs) (k:Nat):k∈keysN vs ↔ ∃ e∈vs,e.1=k:=by
 unfold keysN
 rw [(List.mergeSort_perm _ _).mem_iff,List.mem_map]
theorem len_keysN (vs:Vs):(keysN vs).length=vs.length:=by
 unfold keysN;rw [(List.mergeSort_perm _ _).length_eq,List.length_map]
def ksV (ks:List Nat):PV:=if ks=[] then .nils else .sl .no 1 (ks.map fun (k:Nat)=>.int .i64 (k:Int))
theorem psorted_spec {m x:Nat} {vs:Vs} (hx:getBox h x=some [.mref m]) (hm:getMap h m=some (ents vs)) (hs:Small vs):pSorted 62 [.fn 62 [.ptr x 0]] h=some (ksV (keysN vs),none):=by
 simp only [pSorted,if_true,hx,Option.bnd_some,hm]
 have:=hs.1
 rw [if_pos (by simp [ents];omega),keys_ents vs fun e he=>(hs.2 e he).1,Option.bnd_some,sorted_ents,intsV,ksV]
 simp only [List.map_eq_nil_iff,List.map_map]
 rfl
theorem sorted_spec (base:Nat) {m:Nat} {vs:Vs} (hm:getMap h m=some (ents vs)) (hs:Small vs) :
  CallA T base 43 [.fn 62 [.ptr (size h) 0]] (ext h [.cells [.mref m]])=some (ksV (keysN vs),ext h [.cells [.mref m]]):=by
 rw [CallA_prim T_43,psorted_spec (m:=m) (vs:=vs) (by rw [getBox_ext_0];rfl) (by rw [getMap,box_ext_lt (lt_of_box (box_of_map hm))];exact hm) hs]
 rfl
theorem nils_keys (base n0:Nat) (a:Int) (q m:Nat):P52_0 base n0 (.int .i64 0) (.mref m) (.int .i64 a) (.ptr q 0) .nils (.int .i64 0) h=some (.tup [.int .i64 a,.int .i64 0],trunc h n0):=by
 rw [P52_0_eq];simp only [↓evD,evU,evL,evM,Nat.reduceAdd,Nat.reduceSub,Nat.reduceMul,Nat.reduceLeDiff,Nat.reduceLT,Nat.reduceEqDiff,Nat.reduceBEq,reduceIte,reduceCtorEq,Int.reduceBEq,Int.reduceEq,Int.reduceLT,Int.reduceLE,Int.reduceGT,Int.reduceGE,Int.reduceAdd,Int.reduceSub,Int.reduceNeg,Int.reduceBNe,ite_true,ite_false,if_true,if_false,implies_true,forall_const]
theorem PtOk.ext {q first count:Nat} (hq:PtOk h p q first count) (l:Hp):PtOk (Go.Am.ext h l) p q first count:=⟨by
 have:=hq.get
 rw [getBox_ext_lt (lt_of_box (box_of_get this))];exact this,hq.n1,hq.n2,hq.n3⟩
theorem fill_spec (hp:FOk h p) {q first count:Nat} (hq:PtOk h p q first count) {m:Nat} {vs:Vs} (hm:getMap h m=some (ents vs)) (nm:m≠p.f∧m≠p.bb∧m≠p.wb) (hs:Small vs)
  (base:Nat) (hF:FIn F) (hb:(first+count) * F.sector≤F.b.length) (hsum:8+sumK vs (keysN vs)≤count * F.sector) (hcs:count * F.sector≤600000) :
  CallA T base 52 [.ptr q 0,.mref m] (putF h p F)=some (.tup [.int .i64 ((F.fill (first * F.sector) 8 vs (keysN vs)).1:Nat),.int .i64 ((F.fill (first * F.sector) 8 vs (keysN vs)).2.1:Nat)],putF h p (F.fill (first * F.sector) 8 vs (keysN vs)).2.2):=by
 have h4:∀ b,CallA T b 44 [.mref m] (putF h p F)=some (.fn 62 [.ptr (size (putF h p F)) 0],ext (putF h p F) [.cells [.mref m]]):=fun b=>by
  rw [S44];simp only [↓evD,evU,evL,evM,Nat.reduceAdd,Nat.reduceSub,Nat.reduceMul,Nat.reduceLeDiff,Nat.reduceLT,Nat.reduceEqDiff,Nat.reduceBEq,reduceIte,reduceCtorEq,Int.reduceBEq,Int.reduceEq,Int.reduceLT,Int.reduceLE,Int.reduceGT,Int.reduceGE,Int.reduceAdd,Int.reduceSub,Int.reduceNeg,Int.reduceBNe,ite_true,ite_false,if_true,if_false,implies_true,forall_const]
 have h5:=fun b=>sorted_spec (h:=putF h p F) b (m:=m) (vs:=vs) (by rw [getMap_putF hp nm.1 nm.2.1 nm.2.2];exact hm) hs
 rw [S52]
 simp only [size_putF] at h4 h5 ⊢
 rw [h4,bnd2_some,h5,bnd2_some]
 by_cases hk:keysN vs=[]
 ·rw [hk]
  simp only [ksV,if_true,Fl.fill,↓evD,evU,evL,evM,Nat.reduceAdd,Nat.reduceSub,Nat.reduceMul,Nat.reduceLeDiff,Nat.reduceLT,Nat.reduceEqDiff,Nat.reduceBEq,reduceIte,reduceCtorEq,Int.reduceBEq,Int.reduceEq,Int.reduceLT,Int.reduceLE,Int.reduceGT,Int.reduceGE,Int.reduceAdd,Int.reduceSub,Int.reduceNeg,Int.reduceBNe,ite_true,ite_false,if_true,if_false,implies_true,forall_const]
  rw [nils_keys]
  have:=trunc_ext (h:=putF h p F) (l:=[.cells [.mref m]])
  rw [size_putF] at this
  rw [this]
  rfl
 ·have hl:=fill_loop (h:=ext h [.cells [.mref m]]) (F:=F) (hp.ext _) (hq.ext _) (m:=m) (vs:=vs) (by rw [getMap,box_ext_lt (lt_of_box (box_of_map hm))];exact hm) nm (n0:=size h) (R:=fun F=>putF h p F)
   (fun F=>trunc_putF hp) (size h) (keysN vs) (fun k hk=>by obtain ⟨e,he,rfl⟩:=(mem_keysN vs k).1 hk;exact (hs.2 e he).1) (by rw [len_keysN];have:=hs.1;omega) (keysN vs).length 0 8 hF hb (by simpa using hsum) hcs (by omega)
  simp only [show ((0:Nat):Int)=0 from rfl,show ((8:Nat):Int)=8 from rfl,List.drop_zero] at hl
  have hlen:lenB false (ksV (keysN vs))=some (.int .i64 ((keysN vs).length:Int)):=by rw [ksV,if_neg hk,lenB_sl,List.length_map]
  rw [hlen,Option.bnd_some,ksV,if_neg hk,ext_putF hp,hl]
def Keyed (vs:Vs):Prop:=(vs.map (·.1)).Nodup
theorem getV_mem:∀ {vs:Vs},Keyed vs→∀ e∈vs,getV vs e.1=some e.2
 | [],_,e,he=>by simp at he
 | e0 :: r,hk,e,he=>by
  simp only [Keyed,List.map_cons,List.nodup_cons] at hk
  simp only [getV]
  rcases List.mem_cons.1 he with rfl | he
  ·rw [if_pos rfl]
  ·rw [if_neg,getV_mem hk.2 e he]
   intro hq
   have:e0.1=e.1:=by omega
   exact hk.1 (by rw [this];exact List.mem_map.2 ⟨e,he,rfl⟩)
theorem sum_keysN {vs:Vs} (hk:Keyed vs):8+sumK vs (keysN vs)=needV vs:=by
 unfold sumK needV keysN
 have hp:=(List.mergeSort_perm (vs.map (·.1)) fun x y=>decide (x≤y)).map fun (k:Nat)=>7+(vB ((getV vs k).getD none)).length
 rw [hp.sum_nat,List.map_map]
 congr 2
 apply List.map_congr_left
 intro e he
 simp only [Function.comp,getV_mem hk e he,Option.getD_some]
end Go.Am.Ytlonabodghfjdaa
namespace Go.Am.Ytlonabodghfjdaa
set_option maxRecDepth 100000
set_option linter.unusedSimpArgs false
set_option linter.unusedVariables false
set_option linter.unusedSectionVars false
variable {h:Hp} {p:FP} {F:Fl}
structure Jn where
 now:Nat
 fin:Nat
 epoch:BitVec 32
def jC (qa qb sz:Nat) (J:Jn) (m:Nat):List PV:=[.ptr qa 0,.ptr qb 0,.int .i64 (sz:Int),.int .i64 (J.now:Int),uV J.epoch,.int .i64 (J.fin:Int),.mref m]
structure JOk (h:Hp) (p:FP) (jb qa qb:Nat):Prop where
 fo:FOk h p
 pa:PtOk h p qa 0 2
 pb:PtOk h p qb 2 2
 lj:jb < size h
 j1:jb≠p.f
 j2:jb≠p.bb
 j3:jb≠p.wb
 ja:qa≠jb
 jq:qb≠jb
def putJ (h:Hp) (p:FP) (F:Fl) (jb:Nat) (cs:List PV):Hp:=putF (setBx h jb (.cells cs)) p F
section
variable {jb qa qb:Nat} (hj:JOk h p jb qa qb)
include hj
theorem JOk.fs (cs:List PV):FOk (setBx h jb (.cells cs)) p:=hj.fo.set _ _
theorem size_putJ (cs:List PV):size (putJ h p F jb cs)=size h:=by rw [putJ,size_putF,size_setBx]
theorem JOk.qa' (cs:List PV):PtOk (setBx h jb (.cells cs)) p qa 0 2:=⟨by rw [getBox,box_set_ne (Ne.symm hj.ja)];exact hj.pa.get,hj.pa.n1,hj.pa.n2,hj.pa.n3⟩
theorem JOk.qb' (cs:List PV):PtOk (setBx h jb (.cells cs)) p qb 2 2:=⟨by rw [getBox,box_set_ne (Ne.symm hj.jq)];exact hj.pb.get,hj.pb.n1,hj.pb.n2,hj.pb.n3⟩
theorem getJ (cs:List PV):getBox (putJ h p F jb cs) jb=some cs:=by
 rw [putJ,getBox_putF (hj.fs cs) hj.j1 hj.j2 hj.j3,getBox,box_set_eq hj.lj];rfl
theorem ldj (cs:List PV) (k:Nat):loadV 1 false (.ptr jb k) (putJ h p F jb cs)=cs[k]?:=by
 rw [loadV_ptr,getJ hj,Option.bnd_some,part,if_neg (by simp)]
theorem setJ (cs ds:List PV):setBox (putJ h p F jb cs) jb ds=putJ h p F jb ds:=by
 rw [putJ,setBox,set_putF (hj.fs cs) hj.j1 hj.j2 hj.j3]
 unfold putJ
 congr 1
 simp [setBx]
theorem stj {base:Nat} (hb:base≤jb) (cs:List PV) (k:Nat) (x:PV) (hx:scalar x=true) (hc:x.cells=[x]) (hk:k < cs.length):storeV base 1 (.ptr jb k) x (putJ h p F jb cs)=some (putJ h p F jb (cs.set k x)):=by
 rw [storeV_ptr,getJ hj,Option.bnd_some,hc,if_pos ⟨rfl,by omega,by simp [hx],fun q=>absurd q (by omega)⟩,if_neg (by omega),setJ hj]
 rfl
theorem truncJ (cs:List PV):trunc (putJ h p F jb cs) (size h)=putJ h p F jb cs:=by
 have:=trunc_putF0 (h:=setBx h jb (.cells cs)) (p:=p) (F:=F)
 rwa [size_setBx] at this
end
theorem putJ_self {jb:Nat} {cs:List PV} (hg:getBox h jb=some cs):putF h p F=putJ h p F jb cs:=by
 rw [putJ,setBx_self (box_of_get hg)]
structure Fq (F:Fl) (sz:Nat):Prop where
 fin:FIn F
 wear:F.wear.length=4
 len:F.b.length=4 * F.sector
 sz:sz=2 * F.sector
 small:F.sector≤4096
 pos:16≤F.sector
theorem Fq.of {F G:Fl} {sz:Nat} (hF:Fq F sz) (hg:FIn G) (h1:G.b.length=F.b.length) (h2:G.wear.length=F.wear.length) (h3:G.sector=F.sector):Fq G sz :=
 ⟨hg,by rw [h2];exact hF.wear,by rw [h1,h3];exact hF.len,by rw [h3];exact hF.sz,by rw [h3];exact hF.small,by rw [h3];exact hF.pos⟩
theorem FIn.clear:∀ (n:Nat) {F:Fl} (s:Nat),FIn F→s+n≤F.wear.length→FIn (F.clear s n).2∧(F.clear s n).2.b.length=F.b.length∧(F.clear s n).2.wear.length=F.wear.length∧(F.clear s n).2.sector=F.sector
 | 0,F,s,hF,hs=>⟨hF,rfl,rfl,rfl⟩
 | n+1,F,s,hF,hs=>by
  obtain ⟨h1,h2,h3,h4⟩:=hF.erase s (by omega)
  unfold Fl.clear
  split
  ·obtain ⟨g1,g2,g3,g4⟩:=FIn.clear n (s+1) h1 (by rw [h3];omega)
   exact ⟨g1,g2.trans h2,g3.trans h3,g4.trans h4⟩
  ·exact ⟨h1,h2,h3,h4⟩
theorem FIn.fill (A:Nat) (vs:Vs):∀ (ks:List Nat) {F:Fl} (a:Nat),FIn F→FIn (F.fill A a vs ks).2.2∧(F.fill A a vs ks).2.2.b.length=F.b.length∧(F.fill A a vs ks).2.2.wear=F.wear∧(F.fill A a vs ks).2.2.sector=F.sector
 | [],F,a,hF=>⟨hF,rfl,rfl,rfl⟩
 | k :: r,F,a,hF=>by
  obtain ⟨h1,h2,h3,h4⟩:=hF.lay (A+a) (bodyL (UInt8.ofNat k) (vB ((getV vs k).getD none)) false)
  unfold Fl.fill
  split
  ·obtain ⟨g1,g2,g3,g4⟩:=FIn.fill A vs r (a+(7+(vB ((getV vs k).getD none)).length)) h1
   exact ⟨g1,g2.trans h2,g3.trans h3,g4.trans h4⟩
  ·exact ⟨h1,h2,h3,h4⟩
theorem Fq.program {F:Fl} {sz:Nat} (hF:Fq F sz) (i:Nat) (l:List UInt8):Fq (F.program i l).2 sz∧(F.program i l).2.sector=F.sector:=by
 obtain ⟨h1,h2,h3,h4⟩:=hF.fin.program i l
 exact ⟨hF.of h1 h2 (by rw [h3]) h4,h4⟩
theorem Fq.lay {F:Fl} {sz:Nat} (hF:Fq F sz) (i:Nat) (l:List UInt8):Fq (F.lay i l).2 sz∧(F.lay i l).2.sector=F.sector:=by
 obtain ⟨h1,h2,h3,h4⟩:=hF.fin.lay i l
 exact ⟨hF.of h1 h2 (by rw [h3]) h4,h4⟩
theorem Fq.clear {F:Fl} {sz:Nat} (hF:Fq F sz) (s n:Nat) (hs:s+n≤4):Fq (F.clear s n).2 sz∧(F.clear s n).2.sector=F.sector:=by
 obtain ⟨h1,h2,h3,h4⟩:=hF.fin.clear n s (by rw [hF.wear];exact hs)
 exact ⟨hF.of h1 h2 h3 h4,h4⟩
theorem Fq.fill {F:Fl} {sz:Nat} (hF:Fq F sz) (A a:Nat) (vs:Vs) (ks:List Nat):Fq (F.fill A a vs ks).2.2 sz∧(F.fill A a vs ks).2.2.sector=F.sector:=by
 obtain ⟨h1,h2,h3,h4⟩:=hF.fin.fill A vs ks a
 exact ⟨hF.of h1 h2 (by rw [h3]) h4,h4⟩
def _root_.Go.Am.Fl.move (F:Fl) (sz:Nat) (J:Jn) (vs:Vs):Nat × Fl × Option Jn :=
 if sz < needV vs then (6,F,none) else if J.epoch=4294967295#32 then (3,F,none) else
 let A:=2 * (1 - J.now) * F.sector
 let c:=F.clear (2 * (1 - J.now)) 2
 if c.1≠0 then (c.1,c.2,none) else
 let f:=c.2.fill A 8 vs (keysN vs)
 if f.2.1≠0 then (f.2.1,f.2.2,none) else
 let w:=f.2.2.program (A+1) (bytes4 (J.epoch+1#32))
 if w.1≠0 then (w.1,w.2,none) else
 let x:=w.2.program (A+0) [0]
 if x.1≠0 then (x.1,x.2,none) else (0,x.2,some ⟨1 - J.now,f.1,J.epoch+1#32⟩)
section
variable {jb qa qb:Nat} (hj:JOk h p jb qa qb)
include hj
theorem move_fin {base:Nat} (hb:base≤jb) {m m' sz to f fst:Nat} {J:Jn} {v6:PV} (n0:Nat) (e:Int) (he:e≠0) :
  P34_0 base n0 (.ptr jb 0) (.mref m') (.int .i64 f) (.int .i64 to) v6 (.int .i64 e) (putJ h p F jb (jC qa qb sz J m))=some (.int .i64 e,putJ h p F jb (jC qa qb sz J m)):=by
 have e1:(e == 0)=false:=by simpa using he
 have e2:(e != 0)=true:=by simpa using he
 rw [P34_0_eq]
 simp only [e1,e2,↓evD,evU,evL,evM,Nat.reduceAdd,Nat.reduceSub,Nat.reduceMul,Nat.reduceLeDiff,Nat.reduceLT,Nat.reduceEqDiff,Nat.reduceBEq,reduceIte,reduceCtorEq,Int.reduceBEq,Int.reduceEq,Int.reduceLT,Int.reduceLE,Int.reduceGT,Int.reduceGE,Int.reduceAdd,Int.reduceSub,Int.reduceNeg,Int.reduceBNe,ite_true,ite_false,if_true,if_false,implies_true,forall_const]
theorem setJ' (cs ds:List PV):setBx (putJ h p F jb cs) jb (.cells ds)=putJ h p F jb ds:=setJ hj cs ds
omit hj in
theorem ad32 (a:BitVec 32):binOp .add (uV a) (.int .u32 1)=some (uV (a+1#32)):=by
 show some (PV.int .u32 (IntKind.u32.wrap ((a.toNat:Int)+1)))=some (PV.int .u32 _)
 congr 2
theorem move_end {base:Nat} (hb:base≤jb) {m m' sz to f q fst:Nat} {J:Jn} (hq:PtOk (setBx h jb (.cells (jC qa qb sz J m))) p q fst 2) (hF:Fq F sz) (hfst:fst≤2) (n0:Nat) :
  P34_0 base n0 (.ptr jb 0) (.mref m') (.int .i64 f) (.int .i64 to) (.ptr q 0) (.int .i64 0) (putJ h p F jb (jC qa qb sz J m)) =
   some (.int .i64 ((F.program (fst * F.sector+0) [0]).1:Nat),putJ h p (F.program (fst * F.sector+0) [0]).2 jb (if (F.program (fst * F.sector+0) [0]).1=0 then jC qa qb sz ⟨to,f,J.epoch+1#32⟩ m' else jC qa qb sz J m)):=by
 have hz:buildSlV 1 false [(.int .u8 0)] 1 [(0,strip (.int .u8 0))]=some (.sl .full 1 [.int .u8 0]):=rfl
 have hs2:=hF.small
 have hs3:=hF.pos
 have hlen:=hF.len
 have hw:CallA T base 53 [.ptr q 0,.int .i64 (0:Nat),.sl .full 1 [.int .u8 0]] (putJ h p F jb (jC qa qb sz J m))=some (.int .i64 ((F.program (fst * F.sector+0) [0]).1:Nat),putJ h p (F.program (fst * F.sector+0) [0]).2 jb (jC qa qb sz J m)) :=
  pwrite_spec (F:=F) (hj.fs _) hq base 0 [0] zero_bv hF.fin (by simp;omega) (by
   have:=Nat.mul_le_mul_right F.sector (show fst+2≤4 by omega)
   omega)
 simp only [show ((0:Nat):Int)=0 from rfl] at hw
 have hnb:(jb < base)=False:=by simp;omega
 have gj:=fun (F:Fl) (cs:List PV)=>getJ (F:=F) hj cs
 have sj:=fun (F:Fl) (cs ds:List PV)=>setJ' (F:=F) hj cs ds
 have uc:∀ a,(uV a).cells=[uV a]:=fun _=>rfl
 have us:∀ a,scalar (uV a)=true:=fun _=>rfl
 rw [P34_0_eq]
 simp only [hz,hw,↓evD,evU,evL,evM,Nat.reduceAdd,Nat.reduceSub,Nat.reduceMul,Nat.reduceLeDiff,Nat.reduceLT,Nat.reduceEqDiff,Nat.reduceBEq,reduceIte,reduceCtorEq,Int.reduceBEq,Int.reduceEq,Int.reduceLT,Int.reduceLE,Int.reduceGT,Int.reduceGE,Int.reduceAdd,Int.reduceSub,Int.reduceNeg,Int.reduceBNe,ite_true,ite_false,if_true,if_false,implies_true,forall_const]
 generalize F.program (fst * F.sector+0) [0]=c
 by_cases hc:c.1=0
 ·have e1:((c.1:Int) != 0)=false:=by rw [hc];rfl
  rw [if_pos hc]
  simp only [e1,jC,gj,sj,hnb,uc,us,ad32,↓evD,evU,evL,evM,Nat.reduceAdd,Nat.reduceSub,Nat.reduceMul,Nat.reduceLeDiff,Nat.reduceLT,Nat.reduceEqDiff,Nat.reduceBEq,reduceIte,reduceCtorEq,Int.reduceBEq,Int.reduceEq,Int.reduceLT,Int.reduceLE,Int.reduceGT,Int.reduceGE,Int.reduceAdd,Int.reduceSub,Int.reduceNeg,Int.reduceBNe,ite_true,ite_false,if_true,if_false,implies_true,forall_const]
  rw [hc]
  rfl
 ·have e1:((c.1:Int) != 0)=true:=by simpa using hc
  rw [if_neg hc]
  simp only [e1,↓evD,evU,evL,evM,Nat.reduceAdd,Nat.reduceSub,Nat.reduceMul,Nat.reduceLeDiff,Nat.reduceLT,Nat.reduceEqDiff,Nat.reduceBEq,reduceIte,reduceCtorEq,Int.reduceBEq,Int.reduceEq,Int.reduceLT,Int.reduceLE,Int.reduceGT,Int.reduceGE,Int.reduceAdd,Int.reduceSub,Int.reduceNeg,Int.reduceBNe,ite_true,ite_false,if_true,if_false,implies_true,forall_const]
omit hj in
theorem needQ (base:Nat) {m:Nat} {vs:Vs} {H:Hp} (hm:getMap H m=some (ents vs)) (hs:Small vs):orcQ (CallA T base) 50 [.mref m] H=some (.int .i64 (needV vs:Nat),H):=by
 rw [orcQ_eq,CallA_prim T_50,pneed_spec hm hs]
 exact forget_same _ _
theorem getMapJ {m:Nat} {vs:Vs} (cs:List PV) (hm:getMap h m=some (ents vs)) (nm:m≠p.f∧m≠p.bb∧m≠p.wb) (hmj:m≠jb):getMap (setBx h jb (.cells cs)) m=some (ents vs)∧getMap (putJ h p F jb cs) m=some (ents vs):=by
 have h1:getMap (setBx h jb (.cells cs)) m=some (ents vs):=by rw [getMap_set_ne (Ne.symm hmj)];exact hm
 exact ⟨h1,by rw [putJ,getMap_putF (hj.fs cs) nm.1 nm.2.1 nm.2.2];exact h1⟩
theorem move_gen {base:Nat} (hb:base≤jb) {m m' sz to q fst:Nat} {J:Jn} {vs:Vs} (hm:getMap h m'=some (ents vs)) (nm:m'≠p.f∧m'≠p.bb∧m'≠p.wb) (hmj:m'≠jb) (hs:Small vs) (hk:Keyed vs)
  (hq:PtOk (setBx h jb (.cells (jC qa qb sz J m))) p q fst 2) (hF:Fq F sz) (hto:to=1 - J.now) (hnow:J.now≤1) (hfst:fst=2 * to) (hld:(jC qa qb sz J m)[to]?=some (.ptr q 0)) :
  CallA T base 34 [.ptr jb 0,.mref m'] (putJ h p F jb (jC qa qb sz J m)) =
   some (.int .i64 ((F.move sz J vs).1:Nat),putJ h p (F.move sz J vs).2.1 jb (match (F.move sz J vs).2.2 with | none=>jC qa qb sz J m | some J'=>jC qa qb sz J' m')):=by
 have hs2:=hF.small
 have hs3:=hF.pos
 have hsz:=hF.sz
 have hlen:=hF.len
 have hnb:(jb < base)=False:=by simp;omega
 have gj:=fun (F:Fl) (cs:List PV)=>getJ (F:=F) hj cs
 have sj:=fun (F:Fl) (cs ds:List PV)=>setJ' (F:=F) hj cs ds
 have gm:=fun (F:Fl)=>(getMapJ (F:=F) hj (jC qa qb sz J m) hm nm hmj).2
 have hn:=fun (F:Fl)=>needQ base (gm F) hs
 have l2:(jC qa qb sz J m)[2]?=some (.int .i64 (sz:Int)):=rfl
 have l3:(jC qa qb sz J m)[3]?=some (.int .i64 (J.now:Int)):=rfl
 have l4:(jC qa qb sz J m)[4]?=some (uV J.epoch):=rfl
 have hmax:binOp .eql (uV J.epoch) (.int .u32 4294967295)=some (.bool (J.epoch == 4294967295#32)):=eql32 J.epoch 4294967295#32
 have hsub:IntKind.i64.wrap (1 - (J.now:Int))=(to:Int):=by rw [wrap_small (by omega) (by omega)];omega
 have hix:=ix_nat .i64 to 2 (by omega)
 have hcl:CallA T base 51 [.ptr q 0] (putJ h p F jb (jC qa qb sz J m))=some (.int .i64 ((F.clear fst 2).1:Nat),putJ h p (F.clear fst 2).2 jb (jC qa qb sz J m)) :=
  pclear_spec (hj.fs _) hq base hF.fin (by have:=Nat.mul_le_mul_right F.sector (show fst+2≤4 by omega);omega) (by rw [hF.wear];omega) (by rw [hF.wear];omega)
 unfold Fl.move
 rw [S34]
 rw [show 2 * (1 - J.now)=fst by omega]
 by_cases c1:sz < needV vs
 ·have d1:decide (needV vs > sz)=true:=by simpa using c1
  rw [if_pos c1]
  simp only [hn,gj,l2,dec_gt,d1,↓evD,evU,evL,evM,Nat.reduceAdd,Nat.reduceSub,Nat.reduceMul,Nat.reduceLeDiff,Nat.reduceLT,Nat.reduceEqDiff,Nat.reduceBEq,reduceIte,reduceCtorEq,Int.reduceBEq,Int.reduceEq,Int.reduceLT,Int.reduceLE,Int.reduceGT,Int.reduceGE,Int.reduceAdd,Int.reduceSub,Int.reduceNeg,Int.reduceBNe,ite_true,ite_false,if_true,if_false,implies_true,forall_const] <;> rfl
 rw [if_neg c1]
 have d1:decide (needV vs > sz)=false:=by simpa using c1
 by_cases c2:J.epoch=4294967295#32
 ·have d2:(J.epoch == 4294967295#32)=true:=by simpa using c2
  rw [if_pos c2]
  simp only [hn,gj,l2,l4,dec_gt,d1,hmax,d2,↓evD,evU,evL,evM,Nat.reduceAdd,Nat.reduceSub,Nat.reduceMul,Nat.reduceLeDiff,Nat.reduceLT,Nat.reduceEqDiff,Nat.reduceBEq,reduceIte,reduceCtorEq,Int.reduceBEq,Int.reduceEq,Int.reduceLT,Int.reduceLE,Int.reduceGT,Int.reduceGE,Int.reduceAdd,Int.reduceSub,Int.reduceNeg,Int.reduceBNe,ite_true,ite_false,if_true,if_false,implies_true,forall_const] <;> rfl
 rw [if_neg c2]
 have d2:(J.epoch == 4294967295#32)=false:=by simpa using c2
 simp only
 obtain ⟨fc,sc⟩:=hF.clear fst 2 (by omega)
 generalize hC:F.clear fst 2=C at *
 by_cases c3:C.1≠0
 ·have d3:((C.1:Int) != 0)=true:=by simpa using c3
  rw [if_pos c3]
  simp only [hn,gj,l2,l3,l4,dec_gt,d1,hmax,d2,hsub,hix,Nat.mul_one,hld,hcl,d3,↓evD,evU,evL,evM,Nat.reduceAdd,Nat.reduceSub,Nat.reduceMul,Nat.reduceLeDiff,Nat.reduceLT,Nat.reduceEqDiff,Nat.reduceBEq,reduceIte,reduceCtorEq,Int.reduceBEq,Int.reduceEq,Int.reduceLT,Int.reduceLE,Int.reduceGT,Int.reduceGE,Int.reduceAdd,Int.reduceSub,Int.reduceNeg,Int.reduceBNe,ite_true,ite_false,if_true,if_false,implies_true,forall_const]
 rw [if_neg c3]
 have d3:((C.1:Int) != 0)=false:=by simpa using c3
 have hfl:CallA T base 52 [.ptr q 0,.mref m'] (putJ h p C.2 jb (jC qa qb sz J m))=some (.tup [.int .i64 ((C.2.fill (fst * C.2.sector) 8 vs (keysN vs)).1:Nat),.int .i64 ((C.2.fill (fst * C.2.sector) 8 vs (keysN vs)).2.1:Nat)],putJ h p (C.2.fill (fst * C.2.sector) 8 vs (keysN vs)).2.2 jb (jC qa qb sz J m)) :=
  fill_spec (hj.fs _) hq (getMapJ (F:=F) hj _ hm nm hmj).1 nm hs base fc.fin (by have:=Nat.mul_le_mul_right C.2.sector (show fst+2≤4 by omega);have:=fc.len;omega) (by rw [sum_keysN hk,sc];omega) (by rw [sc];omega)
 obtain ⟨ff,sf⟩:=fc.fill (fst * C.2.sector) 8 vs (keysN vs)
 rw [sc] at hfl ff sf
 generalize hf:C.2.fill (fst * F.sector) 8 vs (keysN vs)=f at *
 by_cases c4:f.2.1≠0
 ·have d4:((f.2.1:Int) == 0)=false:=by rw [beq_eq_false_iff_ne];omega
  have hend:=fun n0=>move_fin (F:=f.2.2) hj hb (m:=m) (m':=m') (sz:=sz) (to:=to) (f:=f.1) (fst:=fst) (J:=J) (v6:=.ptr q 0) n0 (f.2.1:Int) (by omega)
  rw [if_pos c4]
  simp only [hn,gj,l2,l3,l4,dec_gt,d1,hmax,d2,hsub,hix,Nat.mul_one,hld,hcl,d3,hfl,d4,hend,↓evD,evU,evL,evM,Nat.reduceAdd,Nat.reduceSub,Nat.reduceMul,Nat.reduceLeDiff,Nat.reduceLT,Nat.reduceEqDiff,Nat.reduceBEq,reduceIte,reduceCtorEq,Int.reduceBEq,Int.reduceEq,Int.reduceLT,Int.reduceLE,Int.reduceGT,Int.reduceGE,Int.reduceAdd,Int.reduceSub,Int.reduceNeg,Int.reduceBNe,ite_true,ite_false,if_true,if_false,implies_true,forall_const]
 rw [if_neg c4]
 have d4:((f.2.1:Int) == 0)=true:=by rw [beq_iff_eq];omega
 have hpt:=put32_nil (h:=putJ h p f.2.2 jb (jC qa qb sz J m)) base (J.epoch+1#32)
 have hwr:CallA T base 53 [.ptr q 0,.int .i64 ((1:Nat):Int),.sl .no 1 (u8s (bytes4 (J.epoch+1#32)))] (putJ h p f.2.2 jb (jC qa qb sz J m))=some (.int .i64 ((f.2.2.program (fst * f.2.2.sector+1) (bytes4 (J.epoch+1#32))).1:Nat),putJ h p (f.2.2.program (fst * f.2.2.sector+1) (bytes4 (J.epoch+1#32))).2 jb (jC qa qb sz J m)) :=
  pwrite_spec (hj.fs _) hq base 1 (bytes4 (J.epoch+1#32)) (bv_sl (.inl rfl) _) ff.fin (by rw [sf];simp [bytes4];omega) (by rw [sf,ff.len,sf];have:=Nat.mul_le_mul_right F.sector (show fst+2≤4 by omega);omega)
 obtain ⟨fw,sw⟩:=ff.program (fst * F.sector+1) (bytes4 (J.epoch+1#32))
 rw [sf] at hwr sw
 simp only [show ((1:Nat):Int)=1 from rfl] at hwr
 generalize hw:f.2.2.program (fst * F.sector+1) (bytes4 (J.epoch+1#32))=W at *
 by_cases c5:W.1≠0
 ·have hend:=fun n0=>move_fin (F:=W.2) hj hb (m:=m) (m':=m') (sz:=sz) (to:=to) (f:=f.1) (fst:=fst) (J:=J) (v6:=.ptr q 0) n0 (W.1:Int) (by omega)
  rw [if_pos c5]
  simp only [hn,gj,l2,l3,l4,dec_gt,d1,hmax,d2,hsub,hix,Nat.mul_one,hld,hcl,d3,hfl,d4,hpt,ad32,hwr,hend,↓evD,evU,evL,evM,Nat.reduceAdd,Nat.reduceSub,Nat.reduceMul,Nat.reduceLeDiff,Nat.reduceLT,Nat.reduceEqDiff,Nat.reduceBEq,reduceIte,reduceCtorEq,Int.reduceBEq,Int.reduceEq,Int.reduceLT,Int.reduceLE,Int.reduceGT,Int.reduceGE,Int.reduceAdd,Int.reduceSub,Int.reduceNeg,Int.reduceBNe,ite_true,ite_false,if_true,if_false,implies_true,forall_const]
 rw [if_neg c5]
 have hend:=fun n0=>move_end (F:=W.2) hj hb (m:=m) (m':=m') (sz:=sz) (to:=to) (f:=f.1) (q:=q) (fst:=fst) (J:=J) hq fw (by omega) n0
 rw [sw] at hend
 have c5':(W.1:Int)=0:=by omega
 simp only [hn,gj,l2,l3,l4,dec_gt,d1,hmax,d2,hsub,hix,Nat.mul_one,hld,hcl,d3,hfl,d4,hpt,ad32,hwr,c5',hend,↓evD,evU,evL,evM,Nat.reduceAdd,Nat.reduceSub,Nat.reduceMul,Nat.reduceLeDiff,Nat.reduceLT,Nat.reduceEqDiff,Nat.reduceBEq,reduceIte,reduceCtorEq,Int.reduceBEq,Int.reduceEq,Int.reduceLT,Int.reduceLE,Int.reduceGT,Int.reduceGE,Int.reduceAdd,Int.reduceSub,Int.reduceNeg,Int.reduceBNe,ite_true,ite_false,if_true,if_false,implies_true,forall_const]
 generalize W.2.program (fst * F.sector+0) [0]=X
 by_cases c6:X.1≠0
 ·rw [if_neg c6,if_pos c6]
 ·rw [if_pos (by omega),if_neg c6,hto]
  have:X.1=0:=by omega
  rw [this]
end
end Go.Am.Ytlonabodghfjdaa
namespace Go.Am.Ytlonabodghfjdaa
set_option maxRecDepth 100000
set_option linter.unusedSimpArgs false
set_option linter.unusedVariables false
set_option linter.unusedSectionVars false
variable {h:Hp} {p:FP} {F:Fl} {jb qa qb:Nat} (hj:JOk h p jb qa qb)
include hj
theorem move_spec {base:Nat} (hb:base≤jb) {m m' sz:Nat} {J:Jn} {vs:Vs} (hm:getMap h m'=some (ents vs)) (nm:m'≠p.f∧m'≠p.bb∧m'≠p.wb) (hmj:m'≠jb) (hs:Small vs) (hk:Keyed vs)
  (hF:Fq F sz) (hnow:J.now≤1) :
  CallA T base 34 [.ptr jb 0,.mref m'] (putJ h p F jb (jC qa qb sz J m)) =
   some (.int .i64 ((F.move sz J vs).1:Nat),putJ h p (F.move sz J vs).2.1 jb (match (F.move sz J vs).2.2 with | none=>jC qa qb sz J m | some J'=>jC qa qb sz J' m')):=by
 rcases Nat.le_one_iff_eq_zero_or_eq_one.1 hnow with h0 | h0
 ·exact move_gen hj hb hm nm hmj hs hk (hj.qb' _) hF (by omega:1=1 - J.now) hnow rfl rfl
 ·exact move_gen hj hb hm nm hmj hs hk (hj.qa' _) hF (by omega:0=1 - J.now) hnow rfl rfl
theorem room_spec (base:Nat) {m sz:Nat} {J:Jn} (hf:J.fin≤sz) (hsz:sz≤1000000):CallA T base 11 [.ptr jb 0] (putJ h p F jb (jC qa qb sz J m))=some (.int .i64 ((sz - J.fin:Nat):Int),putJ h p F jb (jC qa qb sz J m)):=by
 have gj:=fun (F:Fl) (cs:List PV)=>getJ (F:=F) hj cs
 have l2:(jC qa qb sz J m)[2]?=some (.int .i64 (sz:Int)):=rfl
 have l5:(jC qa qb sz J m)[5]?=some (.int .i64 (J.fin:Int)):=rfl
 have tr:=fun (F:Fl) (cs:List PV)=>truncJ (F:=F) hj cs
 rw [S11]
 simp (disch:=omega) only [size_putJ hj,gj,l2,l5,wr_sub,tr,↓evD,evU,evL,evM,Nat.reduceAdd,Nat.reduceSub,Nat.reduceMul,Nat.reduceLeDiff,Nat.reduceLT,Nat.reduceEqDiff,Nat.reduceBEq,reduceIte,reduceCtorEq,Int.reduceBEq,Int.reduceEq,Int.reduceLT,Int.reduceLE,Int.reduceGT,Int.reduceGE,Int.reduceAdd,Int.reduceSub,Int.reduceNeg,Int.reduceBNe,ite_true,ite_false,if_true,if_false,implies_true,forall_const]
theorem epoch_spec (base:Nat) {m sz:Nat} {J:Jn}:CallA T base 12 [.ptr jb 0] (putJ h p F jb (jC qa qb sz J m))=some (uV J.epoch,putJ h p F jb (jC qa qb sz J m)):=by
 have gj:=fun (F:Fl) (cs:List PV)=>getJ (F:=F) hj cs
 have l4:(jC qa qb sz J m)[4]?=some (uV J.epoch):=rfl
 have tr:=fun (F:Fl) (cs:List PV)=>truncJ (F:=F) hj cs
 rw [S12]
 simp (disch:=omega) only [size_putJ hj,gj,l4,tr,↓evD,evU,evL,evM,Nat.reduceAdd,Nat.reduceSub,Nat.reduceMul,Nat.reduceLeDiff,Nat.reduceLT,Nat.reduceEqDiff,Nat.reduceBEq,reduceIte,reduceCtorEq,Int.reduceBEq,Int.reduceEq,Int.reduceLT,Int.reduceLE,Int.reduceGT,Int.reduceGE,Int.reduceAdd,Int.reduceSub,Int.reduceNeg,Int.reduceBNe,ite_true,ite_false,if_true,if_false,implies_true,forall_const] <;> rfl
def _root_.Go.Am.Fl.writeJ (F:Fl) (sz:Nat) (J:Jn) (b:List UInt8) (vs:Vs):Nat × Fl × Option Jn :=
 if sz < needV vs then (6,F,none) else if sz - J.fin < b.length+1 then F.move sz J vs else
 let c:=F.lay (2 * J.now * F.sector+J.fin) b
 if c.1≠0 then (c.1,c.2,none) else (0,c.2,some ⟨J.now,J.fin+(b.length+1),J.epoch⟩)
theorem write_gen {base:Nat} (hb:base≤jb) {m m' sz q fst:Nat} {J:Jn} {vs:Vs} (hm:getMap h m'=some (ents vs)) (nm:m'≠p.f∧m'≠p.bb∧m'≠p.wb) (hmj:m'≠jb) (hs:Small vs) (hk:Keyed vs)
  (hF:Fq F sz) (hnow:J.now≤1) (hfin:J.fin≤sz) {v:PV} {b:List UInt8} (hv:Bv v b) (hbl:b.length≤10000)
  (hq:PtOk (setBx h jb (.cells (jC qa qb sz J m))) p q fst 2) (hfst:fst=2 * J.now) (hld:(jC qa qb sz J m)[J.now]?=some (.ptr q 0)) :
  CallA T base 40 [.ptr jb 0,v,.mref m'] (putJ h p F jb (jC qa qb sz J m)) =
   some (.int .i64 ((F.writeJ sz J b vs).1:Nat),putJ h p (F.writeJ sz J b vs).2.1 jb (match (F.writeJ sz J b vs).2.2 with | none=>jC qa qb sz J m | some J'=>jC qa qb sz J' m')):=by
 have hs2:=hF.small
 have hs3:=hF.pos
 have hsz:=hF.sz
 have hlen:=hF.len
 have hnb:(jb < base)=False:=by simp;omega
 have gj:=fun (F:Fl) (cs:List PV)=>getJ (F:=F) hj cs
 have sj:=fun (F:Fl) (cs ds:List PV)=>setJ' (F:=F) hj cs ds
 have gm:=fun (F:Fl)=>(getMapJ (F:=F) hj (jC qa qb sz J m) hm nm hmj).2
 have hn:=fun (F:Fl)=>needQ base (gm F) hs
 have l2:(jC qa qb sz J m)[2]?=some (.int .i64 (sz:Int)):=rfl
 have l3:(jC qa qb sz J m)[3]?=some (.int .i64 (J.now:Int)):=rfl
 have l5:(jC qa qb sz J m)[5]?=some (.int .i64 (J.fin:Int)):=rfl
 have hix:=ix_nat .i64 J.now 2 (by omega)
 have hrm:=room_spec (F:=F) hj base (m:=m) (J:=J) hfin (by omega)
 have hmv:=move_spec (F:=F) hj hb (m:=m) hm nm hmj hs hk hF hnow
 unfold Fl.writeJ
 rw [S40]
 by_cases c1:sz < needV vs
 ·have d1:decide (needV vs > sz)=true:=by simpa using c1
  rw [if_pos c1]
  simp (disch:=omega) only [hv.len,wr_a1,hn,gj,l2,dec_gt,d1,↓evD,evU,evL,evM,Nat.reduceAdd,Nat.reduceSub,Nat.reduceMul,Nat.reduceLeDiff,Nat.reduceLT,Nat.reduceEqDiff,Nat.reduceBEq,reduceIte,reduceCtorEq,Int.reduceBEq,Int.reduceEq,Int.reduceLT,Int.reduceLE,Int.reduceGT,Int.reduceGE,Int.reduceAdd,Int.reduceSub,Int.reduceNeg,Int.reduceBNe,ite_true,ite_false,if_true,if_false,implies_true,forall_const] <;> rfl
 rw [if_neg c1]
 have d1:decide (needV vs > sz)=false:=by simpa using c1
 by_cases c2:sz - J.fin < b.length+1
 ·have d2:decide (b.length+1 > sz - J.fin)=true:=by simpa using c2
  rw [if_pos c2]
  simp (disch:=omega) only [hv.len,wr_a1,hn,gj,l2,dec_gt,d1,hrm,d2,hmv,↓evD,evU,evL,evM,Nat.reduceAdd,Nat.reduceSub,Nat.reduceMul,Nat.reduceLeDiff,Nat.reduceLT,Nat.reduceEqDiff,Nat.reduceBEq,reduceIte,reduceCtorEq,Int.reduceBEq,Int.reduceEq,Int.reduceLT,Int.reduceLE,Int.reduceGT,Int.reduceGE,Int.reduceAdd,Int.reduceSub,Int.reduceNeg,Int.reduceBNe,ite_true,ite_false,if_true,if_false,implies_true,forall_const]
 rw [if_neg c2]
 have d2:decide (b.length+1 > sz - J.fin)=false:=by simpa using c2
 have hly:CallA T base 58 [.ptr q 0,.int .i64 (J.fin:Int),v] (putJ h p F jb (jC qa qb sz J m))=some (.int .i64 ((F.lay (fst * F.sector+J.fin) b).1:Nat),putJ h p (F.lay (fst * F.sector+J.fin) b).2 jb (jC qa qb sz J m)) :=
  lay_spec (hj.fs _) hq base J.fin b hv hF.fin (by omega) (by have:=Nat.mul_le_mul_right F.sector (show fst+2≤4 by omega);omega)
 rw [show 2 * J.now=fst by omega]
 simp only
 generalize F.lay (fst * F.sector+J.fin) b=C at *
 by_cases c3:C.1≠0
 ·have d3:((C.1:Int) != 0)=true:=by simpa using c3
  rw [if_pos c3]
  simp (disch:=omega) only [hv.len,wr_a1,hn,gj,l2,l3,l5,dec_gt,d1,hrm,d2,hix,Nat.mul_one,hld,hly,d3,↓evD,evU,evL,evM,Nat.reduceAdd,Nat.reduceSub,Nat.reduceMul,Nat.reduceLeDiff,Nat.reduceLT,Nat.reduceEqDiff,Nat.reduceBEq,reduceIte,reduceCtorEq,Int.reduceBEq,Int.reduceEq,Int.reduceLT,Int.reduceLE,Int.reduceGT,Int.reduceGE,Int.reduceAdd,Int.reduceSub,Int.reduceNeg,Int.reduceBNe,ite_true,ite_false,if_true,if_false,implies_true,forall_const]
 rw [if_neg c3]
 have d3:((C.1:Int) != 0)=false:=by simpa using c3
 simp (disch:=omega) only [hv.len,wr_a1,hn,gj,l2,l3,l5,dec_gt,d1,hrm,d2,hix,Nat.mul_one,hld,hly,d3,wr_add,hnb,sj,↓evD,evU,evL,evM,Nat.reduceAdd,Nat.reduceSub,Nat.reduceMul,Nat.reduceLeDiff,Nat.reduceLT,Nat.reduceEqDiff,Nat.reduceBEq,reduceIte,reduceCtorEq,Int.reduceBEq,Int.reduceEq,Int.reduceLT,Int.reduceLE,Int.reduceGT,Int.reduceGE,Int.reduceAdd,Int.reduceSub,Int.reduceNeg,Int.reduceBNe,ite_true,ite_false,if_true,if_false,implies_true,forall_const] <;> rfl
theorem write_spec {base:Nat} (hb:base≤jb) {m m' sz:Nat} {J:Jn} {vs:Vs} (hm:getMap h m'=some (ents vs)) (nm:m'≠p.f∧m'≠p.bb∧m'≠p.wb) (hmj:m'≠jb) (hs:Small vs) (hk:Keyed vs)
  (hF:Fq F sz) (hnow:J.now≤1) (hfin:J.fin≤sz) {v:PV} {b:List UInt8} (hv:Bv v b) (hbl:b.length≤10000) :
  CallA T base 40 [.ptr jb 0,v,.mref m'] (putJ h p F jb (jC qa qb sz J m)) =
   some (.int .i64 ((F.writeJ sz J b vs).1:Nat),putJ h p (F.writeJ sz J b vs).2.1 jb (match (F.writeJ sz J b vs).2.2 with | none=>jC qa qb sz J m | some J'=>jC qa qb sz J' m')):=by
 rcases Nat.le_one_iff_eq_zero_or_eq_one.1 hnow with h0 | h0
 ·exact write_gen hj hb hm nm hmj hs hk hF hnow hfin hv hbl (hj.qa' _) (by omega:0=2 * J.now) (by rw [h0];rfl)
 ·exact write_gen hj hb hm nm hmj hs hk hF hnow hfin hv hbl (hj.qb' _) (by omega:2=2 * J.now) (by rw [h0];rfl)
end Go.Am.Ytlonabodghfjdaa
namespace Go.Am.Ytlonabodghfjdaa
set_option maxRecDepth 100000
set_option linter.unusedSimpArgs false
set_option linter.unusedVariables false
set_option linter.unusedSectionVars false
variable {h:Hp} {p:FP} {F:Fl} {jb qa qb:Nat} (hj:JOk h p jb qa qb)
include hj
def faultN (F:Fl) (key:Int) (n:Nat):Nat:=if F.down then 30 else if key < 0∨32≤key then 1 else if 250 < n then 2 else 0
theorem fault_spec (base:Nat) {m sz:Nat} {J:Jn} (key:Int) {v:PV} {l:List UInt8} (hv:lenB false v=some (.int .i64 (l.length:Int))) :
  CallA T base 37 [.ptr jb 0,.int .i64 key,v] (putJ h p F jb (jC qa qb sz J m))=some (.int .i64 (faultN F key l.length:Int),putJ h p F jb (jC qa qb sz J m)):=by
 have gj:=fun (F:Fl) (cs:List PV)=>getJ (F:=F) hj cs
 have tr:=fun (F:Fl) (cs:List PV)=>truncJ (F:=F) hj cs
 have l0:(jC qa qb sz J m)[0]?=some (.ptr qa 0):=rfl
 have l1:(jC qa qb sz J m)[1]?=some (.ptr qb 0):=rfl
 have fa:∀ b,CallA T b 31 [.ptr qa 0] (putJ h p F jb (jC qa qb sz J m))=some (.ptr p.f 0,putJ h p F jb (jC qa qb sz J m)):=fun b=>pflash_spec (hj.fs _) (hj.qa' _) b
 have fb:∀ b,CallA T b 31 [.ptr qb 0] (putJ h p F jb (jC qa qb sz J m))=some (.ptr p.f 0,putJ h p F jb (jC qa qb sz J m)):=fun b=>pflash_spec (hj.fs _) (hj.qb' _) b
 have fd:∀ b,CallA T b 32 [.ptr p.f 0] (putJ h p F jb (jC qa qb sz J m))=some (.bool F.down,putJ h p F jb (jC qa qb sz J m)):=fun b=>down_spec (hj.fs _) b
 have i0:ix (.int .i64 0) 2=some 0:=rfl
 have i1:ix (.int .i64 1) 2=some 1:=rfl
 unfold faultN
 rw [S37]
 cases hd:F.down with
 | true =>
  rw [hd] at fd
  simp only [size_putJ hj,gj,i0,i1,Nat.zero_mul,Nat.mul_one,l0,l1,fa,fb,fd,tr,↓evD,evU,evL,evM,Nat.reduceAdd,Nat.reduceSub,Nat.reduceMul,Nat.reduceLeDiff,Nat.reduceLT,Nat.reduceEqDiff,Nat.reduceBEq,reduceIte,reduceCtorEq,Int.reduceBEq,Int.reduceEq,Int.reduceLT,Int.reduceLE,Int.reduceGT,Int.reduceGE,Int.reduceAdd,Int.reduceSub,Int.reduceNeg,Int.reduceBNe,ite_true,ite_false,if_true,if_false,implies_true,forall_const] <;> rfl
 | false =>
  rw [hd] at fd
  simp only [Bool.false_eq_true,if_false]
  by_cases h1:key < 0
  ·have d1:decide (key < 0)=true:=by simpa using h1
   rw [if_pos (.inl h1)]
   simp only [size_putJ hj,gj,i0,i1,Nat.zero_mul,Nat.mul_one,l0,l1,fa,fb,fd,d1,tr,↓evD,evU,evL,evM,Nat.reduceAdd,Nat.reduceSub,Nat.reduceMul,Nat.reduceLeDiff,Nat.reduceLT,Nat.reduceEqDiff,Nat.reduceBEq,reduceIte,reduceCtorEq,Int.reduceBEq,Int.reduceEq,Int.reduceLT,Int.reduceLE,Int.reduceGT,Int.reduceGE,Int.reduceAdd,Int.reduceSub,Int.reduceNeg,Int.reduceBNe,ite_true,ite_false,if_true,if_false,implies_true,forall_const] <;> rfl
  have d1:decide (key < 0)=false:=by simpa using h1
  by_cases h2:32≤key
  ·have d2:decide (key ≥ 32)=true:=by simpa using h2
   rw [if_pos (.inr h2)]
   simp only [size_putJ hj,gj,i0,i1,Nat.zero_mul,Nat.mul_one,l0,l1,fa,fb,fd,d1,d2,tr,↓evD,evU,evL,evM,Nat.reduceAdd,Nat.reduceSub,Nat.reduceMul,Nat.reduceLeDiff,Nat.reduceLT,Nat.reduceEqDiff,Nat.reduceBEq,reduceIte,reduceCtorEq,Int.reduceBEq,Int.reduceEq,Int.reduceLT,Int.reduceLE,Int.reduceGT,Int.reduceGE,Int.reduceAdd,Int.reduceSub,Int.reduceNeg,Int.reduceBNe,ite_true,ite_false,if_true,if_false,implies_true,forall_const] <;> rfl
  have d2:decide (key ≥ 32)=false:=by simpa using h2
  rw [if_neg (by omega)]
  by_cases h3:250 < l.length
  ·have d3:decide ((l.length:Int) > 250)=true:=by simp;omega
   rw [if_pos h3]
   simp only [size_putJ hj,gj,i0,i1,Nat.zero_mul,Nat.mul_one,l0,l1,fa,fb,fd,d1,d2,hv,d3,tr,↓evD,evU,evL,evM,Nat.reduceAdd,Nat.reduceSub,Nat.reduceMul,Nat.reduceLeDiff,Nat.reduceLT,Nat.reduceEqDiff,Nat.reduceBEq,reduceIte,reduceCtorEq,Int.reduceBEq,Int.reduceEq,Int.reduceLT,Int.reduceLE,Int.reduceGT,Int.reduceGE,Int.reduceAdd,Int.reduceSub,Int.reduceNeg,Int.reduceBNe,ite_true,ite_false,if_true,if_false,implies_true,forall_const] <;> rfl
  ·have d3:decide ((l.length:Int) > 250)=false:=by simp;omega
   rw [if_neg h3]
   simp only [size_putJ hj,gj,i0,i1,Nat.zero_mul,Nat.mul_one,l0,l1,fa,fb,fd,d1,d2,hv,d3,tr,↓evD,evU,evL,evM,Nat.reduceAdd,Nat.reduceSub,Nat.reduceMul,Nat.reduceLeDiff,Nat.reduceLT,Nat.reduceEqDiff,Nat.reduceBEq,reduceIte,reduceCtorEq,Int.reduceBEq,Int.reduceEq,Int.reduceLT,Int.reduceLE,Int.reduceGT,Int.reduceGE,Int.reduceAdd,Int.reduceSub,Int.reduceNeg,Int.reduceBNe,ite_true,ite_false,if_true,if_false,implies_true,forall_const] <;> rfl
omit hj in
theorem bytesOf_u8s (l:List UInt8):bytesOf (u8s l)=some l:=by
 induction l with
 | nil=>rfl
 | cons c l ih=>simp only [u8s,List.map_cons] at ih ⊢;rw [bytesOf,ih];simp
omit hj in
theorem bstr_rd {v:PV} {l:List UInt8} (hv:Rd h v l) (hs:∀ s,v≠.str s):bytesStrB h v=some (.str l):=by
 have:bytesStrB h v=(elems h v).bnd fun es=>(bytesOf es).bnd fun s=>some (.str s):=by
  cases v <;> first | rfl | exact (hs _ rfl).elim
 rw [this,hv.el,Option.bnd_some,bytesOf_u8s]
 rfl
omit hj in
theorem rd_str {v:PV} {l:List UInt8} (hv:Rd h v l):∀ s,v≠.str s:=by
 rintro s rfl
 have:=hv.len
 cases this
omit hj in
theorem equal_spec (base:Nat) {v w:PV} {l l':List UInt8} (hv:Rd h v l) (hw:Rd h w l'):CallA T base 38 [v,w] h=some (.bool (l == l'),h):=by
 have h1:=bstr_rd hv (rd_str hv)
 have h2:=bstr_rd hw (rd_str hw)
 rw [S38]
 simp only [h1,h2,trunc_self,↓evD,evU,evL,evM,Nat.reduceAdd,Nat.reduceSub,Nat.reduceMul,Nat.reduceLeDiff,Nat.reduceLT,Nat.reduceEqDiff,Nat.reduceBEq,reduceIte,reduceCtorEq,Int.reduceBEq,Int.reduceEq,Int.reduceLT,Int.reduceLE,Int.reduceGT,Int.reduceGE,Int.reduceAdd,Int.reduceSub,Int.reduceNeg,Int.reduceBNe,ite_true,ite_false,if_true,if_false,implies_true,forall_const]
end Go.Am.Ytlonabodghfjdaa
namespace Go.Am.Ytlonabodghfjdaa
set_option maxRecDepth 100000
set_option linter.unusedSimpArgs false
set_option linter.unusedVariables false
set_option linter.unusedSectionVars false
variable {h:Hp} {p:FP} {F:Fl} {jb qa qb:Nat}
theorem mem_setV (k:Nat) (v:Option (List UInt8)):∀ (vs:Vs) (e:Nat × Option (List UInt8)),e∈setV vs k v→e=(k,v)∨e∈vs
 | [],e,he=>.inl (by simpa [setV] using he)
 | e0 :: r,e,he=>by
  simp only [setV] at he
  split at he
  ·rcases List.mem_cons.1 he with rfl | he
   ·exact .inl rfl
   ·exact .inr (by simp [he])
  ·rcases List.mem_cons.1 he with rfl | he
   ·exact .inr (by simp)
   ·rcases mem_setV k v r e he with h1 | h1
    ·exact .inl h1
    ·exact .inr (by simp [h1])
theorem keys_setV (k:Nat) (v:Option (List UInt8)):∀ (vs:Vs),(setV vs k v).map (·.1)=if k∈vs.map (·.1) then vs.map (·.1) else vs.map (·.1) ++ [k]
 | []=>by simp [setV]
 | e0 :: r=>by
  have ih:=keys_setV k v r
  simp only [setV]
  by_cases h0:e0.1=k
  ·rw [if_pos h0,if_pos (by simp [h0])]
   simp [h0]
  ·rw [if_neg h0,List.map_cons,ih]
   by_cases h1:k∈r.map (·.1)
   ·rw [if_pos h1,if_pos (by simp only [List.map_cons,List.mem_cons];exact .inr h1)];rfl
   ·have h2:¬ k∈(e0 :: r).map (·.1):=by
     simp only [List.map_cons,List.mem_cons]
     rintro (q | q)
     ·exact h0 q.symm
     ·exact h1 q
    rw [if_neg h1,if_neg h2];rfl
theorem Keyed.setV {vs:Vs} (hk:Keyed vs) (k:Nat) (v:Option (List UInt8)):Keyed (setV vs k v):=by
 unfold Keyed at *
 rw [keys_setV]
 split
 ·exact hk
 ·rename_i hn
  rw [List.nodup_append]
  exact ⟨hk,by simp,by rintro a ha b hb;simp only [List.mem_singleton] at hb;subst hb;rintro rfl;exact hn ha⟩
theorem nodup_len:∀ (n:Nat) (l:List Nat),l.Nodup→(∀ x∈l,x < n)→l.length≤n
 | 0,l,hn,hl=>by
  cases l with
  | nil=>simp
  | cons x r=>have:=hl x (by simp);omega
 | n+1,l,hn,hl=>by
  have h1:=nodup_len n (l.erase n) (hn.erase n) fun x hx=>by
   have:=(hn.mem_erase_iff).1 hx
   have:=hl x this.2
   omega
  rw [List.length_erase] at h1
  split at h1 <;> omega
theorem keyed_len {vs:Vs} (hk:Keyed vs) (hs:∀ e∈vs,e.1 < 32):vs.length≤32:=by
 have h1:=nodup_len 32 (vs.map Prod.fst) hk (by
  intro x hx
  obtain ⟨e,he,rfl⟩:=List.mem_map.1 hx
  exact hs e he)
 simpa using h1
theorem Small.setV {vs:Vs} (hs:Small vs) (hk:Keyed vs) {k:Nat} {v:Option (List UInt8)} (h1:k < 32) (h2:(vB v).length≤250):Small (setV vs k v):=by
 have hm:∀ e∈Go.Am.Ytlonabodghfjdaa.setV vs k v,e.1 < 32∧(vB e.2).length≤250:=by
  intro e he
  rcases mem_setV k v vs e he with rfl | he
  ·exact ⟨h1,h2⟩
  ·exact hs.2 e he
 exact ⟨keyed_len (hk.setV k v) fun e he=>(hm e he).1,hm⟩
theorem mem_delV (k:Int):∀ (vs:Vs) (e:Nat × Option (List UInt8)),e∈delV vs k→e∈vs
 | [],e,he=>by simp [delV] at he
 | e0 :: r,e,he=>by
  simp only [delV] at he
  split at he
  ·simp [he]
  ·rcases List.mem_cons.1 he with rfl | he
   ·simp
   ·simp [mem_delV k r e he]
theorem sub_delV (k:Int):∀ (vs:Vs),((delV vs k).map (·.1)).Sublist (vs.map (·.1))
 | []=>by simp [delV]
 | e0 :: r=>by
  simp only [delV]
  split
  ·simp
  ·simp only [List.map_cons];exact (sub_delV k r).cons_cons _
theorem Keyed.delV {vs:Vs} (hk:Keyed vs) (k:Int):Keyed (delV vs k):=List.Nodup.sublist (sub_delV k vs) hk
theorem Small.delV {vs:Vs} (hs:Small vs) (k:Int):Small (delV vs k) :=
 ⟨by have:=(sub_delV k vs).length_le;simp only [List.length_map] at this;have:=hs.1;omega,fun e he=>hs.2 e (mem_delV k vs e he)⟩
structure JS (h:Hp) (p:FP) (F:Fl) (jb qa qb sz m:Nat) (J:Jn) (vs:Vs):Prop where
 ok:JOk h p jb qa qb
 map:getMap h m=some (ents vs)
 nm:m≠p.f∧m≠p.bb∧m≠p.wb
 mj:m≠jb
 small:Small vs
 keyed:Keyed vs
 fl:Fq F sz
 now:J.now≤1
 fin:J.fin≤sz
theorem JOk.ext (hj:JOk h p jb qa qb) (l:Hp):JOk (Go.Am.ext h l) p jb qa qb :=
 ⟨hj.fo.ext l,hj.pa.ext l,hj.pb.ext l,by rw [size_ext];have:=hj.lj;omega,hj.j1,hj.j2,hj.j3,hj.ja,hj.jq⟩
theorem ext_putJ (hj:JOk h p jb qa qb) (cs:List PV) (l:Hp):ext (putJ h p F jb cs) l=putJ (ext h l) p F jb cs:=by
 unfold putJ
 rw [ext_putF (hj.fs cs),setBx_ext_lt hj.lj]
theorem JOk.new (hj:JOk h p jb qa qb):size h≠p.f∧size h≠p.bb∧size h≠p.wb∧size h≠jb :=
 ⟨by have:=hj.fo.lf;omega,by have:=hj.fo.lb;omega,by have:=hj.fo.lw;omega,by have:=hj.lj;omega⟩
theorem set_new (hj:JOk h p jb qa qb) (cs:List PV) (x y:Box):setBx (putJ (ext h [x]) p F jb cs) (size h) y=putJ (ext h [y]) p F jb cs:=by
 obtain ⟨n1,n2,n3,n4⟩:=hj.new
 unfold putJ
 rw [set_putF ((hj.ext _).fs cs) n1 n2 n3]
 congr 1
 refine hp_ext (by simp [size_setBx,size_ext]) fun n=>?_
 simp only [box_set,size_setBx,size_ext,List.length_singleton]
 by_cases h1:size h=n
 ·subst h1
  rw [if_pos rfl,if_pos (by omega),if_neg (Ne.symm n4),box_ext_at rfl]
 ·rw [if_neg h1]
  by_cases h2:jb=n
  ·rw [if_pos h2,if_pos h2]
  ·rw [if_neg h2,if_neg h2]
   by_cases h3:n < size h
   ·rw [box_ext_lt h3,box_ext_lt h3]
   ·simp only [box?,ext,size] at *
    rw [List.getElem?_eq_none (by simp;omega),List.getElem?_eq_none (by simp;omega)]
theorem map_new (hj:JOk h p jb qa qb) (cs:List PV) (es:List (PV × PV)):getMap (ext h [.map es]) (size h)=some es∧getMap (putJ (ext h [.map es]) p F jb cs) (size h)=some es:=by
 obtain ⟨n1,n2,n3,n4⟩:=hj.new
 have h1:getMap (ext h [.map es]) (size h)=some es:=by rw [getMap,box_ext_at rfl];rfl
 refine ⟨h1,?_⟩
 rw [putJ,getMap_putF ((hj.ext _).fs cs) n1 n2 n3,getMap_set_ne (Ne.symm n4),h1]
/-! ### 'Put' -/
def cl (v:PV) (l:List UInt8):Option (List UInt8):=if v=.nils then none else some l
theorem cl_B {v:PV} {l:List UInt8} (hv:Bv v l):vB (cl v l)=l:=by
 unfold cl
 split
 ·rename_i hq
  subst hq
  have:=hv.len
  simp only [lenB_nils,Option.some.injEq,PV.int.injEq,true_and] at this
  have:l.length=0:=by omega
  rw [List.eq_nil_of_length_eq_zero this];rfl
 ·rfl
theorem clQ {H:Hp} (base:Nat) {v:PV} {l:List UInt8} (hv:Bv v l) (hn:nilK 1 v=some false∨v=.nils) (hl:l.length≤1000000):orcQ (CallA T base) 36 [v] H=some (vV (cl v l),H):=by
 unfold cl
 split
 ·rename_i hq
  subst hq
  rw [orcQ_eq,clone_nils,Option.bnd_some,forget_same];rfl
 ·rename_i hq
  exact cloneQ_spec base (hn.resolve_right hq) (hv.el H) hl
theorem bodyQ {H:Hp} (base:Nat) (k:Nat) {v:PV} {l:List UInt8} (hv:Rd H v l) (hl:l.length≤700000) (dr:Bool) :
  orcQ (CallA T base) 41 [.int .i64 (k:Int),v,.bool dr] H=some (.sl .no 1 (u8s (bodyL (UInt8.ofNat k) l dr)),H):=by
 rw [orcQ_eq,body_spec base k hv hl dr,Option.bnd_some,forget_same]
section
variable {sz m:Nat} {J:Jn} {vs:Vs} (hs:JS h p F jb qa qb sz m J vs)
include hs
theorem JS.gm (cs:List PV):getMap (putJ h p F jb cs) m=some (ents vs):=(getMapJ (F:=F) hs.ok cs hs.map hs.nm hs.mj).2
theorem put_fault (base:Nat) (key:Int) {v:PV} {l:List UInt8} (hv:lenB false v=some (.int .i64 (l.length:Int))) (hf:faultN F key l.length≠0) :
  CallA T base 14 [.ptr jb 0,.int .i64 key,v] (putJ h p F jb (jC qa qb sz J m))=some (.int .i64 (faultN F key l.length:Int),putJ h p F jb (jC qa qb sz J m)):=by
 have h1:=fault_spec (F:=F) hs.ok base (m:=m) (sz:=sz) (J:=J) key hv
 have d1:((faultN F key l.length:Int) != 0)=true:=by simpa using hf
 rw [S14]
 simp only [h1,d1,↓evD,evU,evL,evM,Nat.reduceAdd,Nat.reduceSub,Nat.reduceMul,Nat.reduceLeDiff,Nat.reduceLT,Nat.reduceEqDiff,Nat.reduceBEq,reduceIte,reduceCtorEq,Int.reduceBEq,Int.reduceEq,Int.reduceLT,Int.reduceLE,Int.reduceGT,Int.reduceGE,Int.reduceAdd,Int.reduceSub,Int.reduceNeg,Int.reduceBNe,ite_true,ite_false,if_true,if_false,implies_true,forall_const]
theorem put_same (base:Nat) (key:Int) {v:PV} {l:List UInt8} (hv:Rd (putJ h p F jb (jC qa qb sz J m)) v l) (hf:faultN F key l.length=0) {u:Option (List UInt8)} (hg:getV vs key=some u) (hu:vB u=l) :
  CallA T base 14 [.ptr jb 0,.int .i64 key,v] (putJ h p F jb (jC qa qb sz J m))=some (.int .i64 0,putJ h p F jb (jC qa qb sz J m)):=by
 have h1:=fault_spec (F:=F) hs.ok base (m:=m) (sz:=sz) (J:=J) key hv.len
 have d1:((faultN F key l.length:Int) != 0)=false:=by simpa using hf
 have gj:=fun (F:Fl) (cs:List PV)=>getJ (F:=F) hs.ok cs
 have l6:(jC qa qb sz J m)[6]?=some (.mref m):=rfl
 have hlk:=lookup_spec (h:=putJ h p F jb (jC qa qb sz J m)) base (hs.gm _) true key
 have hlr:lkR true (getV vs key)=.tup [vV u,.bool true]:=by rw [hg];rfl
 rw [hlr] at hlk
 have heq:=equal_spec (h:=putJ h p F jb (jC qa qb sz J m)) base (vV_rd u) hv
 have hb:(vB u == l)=true:=by simpa using hu
 rw [hb] at heq
 rw [S14]
 simp only [h1,d1,gj,l6,hlk,heq,↓evD,evU,evL,evM,Nat.reduceAdd,Nat.reduceSub,Nat.reduceMul,Nat.reduceLeDiff,Nat.reduceLT,Nat.reduceEqDiff,Nat.reduceBEq,reduceIte,reduceCtorEq,Int.reduceBEq,Int.reduceEq,Int.reduceLT,Int.reduceLE,Int.reduceGT,Int.reduceGE,Int.reduceAdd,Int.reduceSub,Int.reduceNeg,Int.reduceBNe,ite_true,ite_false,if_true,if_false,implies_true,forall_const]
theorem put_new {base:Nat} (hb:base≤jb) {k:Nat} {v:PV} {l:List UInt8} (hv:Bv v l) (hn:nilK 1 v=some false∨v=.nils) (hf:faultN F k l.length=0) (hg:∀ u,getV vs k=some u→vB u≠l) :
  CallA T base 14 [.ptr jb 0,.int .i64 (k:Int),v] (putJ h p F jb (jC qa qb sz J m)) =
   some (.int .i64 ((F.writeJ sz J (bodyL (UInt8.ofNat k) l false) (setV vs k (cl v l))).1:Nat),putJ (ext h [.map (ents (setV vs k (cl v l)))]) p (F.writeJ sz J (bodyL (UInt8.ofNat k) l false) (setV vs k (cl v l))).2.1 jb
    (match (F.writeJ sz J (bodyL (UInt8.ofNat k) l false) (setV vs k (cl v l))).2.2 with | none=>jC qa qb sz J m | some J'=>jC qa qb sz J' (size h))):=by
 have h1:=fault_spec (F:=F) hs.ok base (m:=m) (sz:=sz) (J:=J) (k:Int) hv.len
 have d1:((faultN F k l.length:Int) != 0)=false:=by simpa using hf
 have hk32:k < 32∧l.length≤250:=by
  unfold faultN at hf
  split at hf
  ·omega
  ·split at hf
   ·omega
   ·split at hf <;> omega
 have gj:=fun (F:Fl) (cs:List PV)=>getJ (F:=F) hs.ok cs
 have l6:(jC qa qb sz J m)[6]?=some (.mref m):=rfl
 have hlk:=lookup_spec (h:=putJ h p F jb (jC qa qb sz J m)) base (hs.gm _) true (k:Int)
 have hcl:CallA T base 39 [.mref m] (putJ h p F jb (jC qa qb sz J m))=some (.mref (size h),putJ (ext h [.map (ents vs)]) p F jb (jC qa qb sz J m)):=by
  rw [CallA_primN T_39,pClone,hs.gm,Option.bnd_some,Option.bnd_some,size_putJ hs.ok,ext_putJ hs.ok]
 have hq:=clQ (H:=putJ (ext h [.map (ents vs)]) p F jb (jC qa qb sz J m)) base hv hn (by omega)
 have hup:=upd_spec (h:=putJ (ext h [.map (ents vs)]) p F jb (jC qa qb sz J m)) base (m:=size h) (vs:=vs) (map_new hs.ok _ _).2 k (cl v l)
 rw [set_new hs.ok] at hup
 have hbd:=bodyQ (H:=putJ (ext h [.map (ents (setV vs k (cl v l)))]) p F jb (jC qa qb sz J m)) base k (hv.rd hn) (by omega) false
 obtain ⟨n1,n2,n3,n4⟩:=hs.ok.new
 have hw:=write_spec (F:=F) (hs.ok.ext [.map (ents (setV vs k (cl v l)))]) hb (m:=m) (m':=size h) (J:=J) (map_new (F:=F) hs.ok (jC qa qb sz J m) _).1 ⟨n1,n2,n3⟩ n4
  (hs.small.setV hs.keyed hk32.1 (by rw [cl_B hv];exact hk32.2)) (hs.keyed.setV k _) hs.fl hs.now hs.fin (bv_sl (.inl rfl) (bodyL (UInt8.ofNat k) l false)) (by rw [bodyL_length];omega)
 rw [S14]
 cases hgv:getV vs k with
 | none =>
  have hlr:lkR true (getV vs k)=.tup [.nils,.bool false]:=by rw [hgv];rfl
  rw [hlr] at hlk
  simp only [h1,d1,gj,l6,hlk,hcl,hq,hup,hbd,hw,↓evD,evU,evL,evM,Nat.reduceAdd,Nat.reduceSub,Nat.reduceMul,Nat.reduceLeDiff,Nat.reduceLT,Nat.reduceEqDiff,Nat.reduceBEq,reduceIte,reduceCtorEq,Int.reduceBEq,Int.reduceEq,Int.reduceLT,Int.reduceLE,Int.reduceGT,Int.reduceGE,Int.reduceAdd,Int.reduceSub,Int.reduceNeg,Int.reduceBNe,ite_true,ite_false,if_true,if_false,implies_true,forall_const] <;> rfl
 | some u =>
  have hlr:lkR true (getV vs k)=.tup [vV u,.bool true]:=by rw [hgv];rfl
  rw [hlr] at hlk
  have heq:=equal_spec (h:=putJ h p F jb (jC qa qb sz J m)) base (vV_rd u) (hv.rd hn)
  have hbq:(vB u == l)=false:=by rw [beq_eq_false_iff_ne];exact hg u hgv
  rw [hbq] at heq
  simp only [h1,d1,gj,l6,hlk,heq,hcl,hq,hup,hbd,hw,↓evD,evU,evL,evM,Nat.reduceAdd,Nat.reduceSub,Nat.reduceMul,Nat.reduceLeDiff,Nat.reduceLT,Nat.reduceEqDiff,Nat.reduceBEq,reduceIte,reduceCtorEq,Int.reduceBEq,Int.reduceEq,Int.reduceLT,Int.reduceLE,Int.reduceGT,Int.reduceGE,Int.reduceAdd,Int.reduceSub,Int.reduceNeg,Int.reduceBNe,ite_true,ite_false,if_true,if_false,implies_true,forall_const] <;> rfl
end
end Go.Am.Ytlonabodghfjdaa
namespace Go.Am.Ytlonabodghfjdaa
set_option maxRecDepth 100000
set_option linter.unusedSimpArgs false
set_option linter.unusedVariables false
set_option linter.unusedSectionVars false
variable {h:Hp} {p:FP} {F:Fl} {jb qa qb:Nat}
def RS (h:Hp) (p:FP) (jb:Nat) (v:PV) (l:List UInt8):Prop :=
 (Bv v l∧(nilK 1 v=some false∨v=.nils))∨∃ b,v=.bsl false b 0 l.length 1∧getBox h b=some (u8s l)∧b≠p.f∧b≠p.bb∧b≠p.wb∧b≠jb
theorem RS.ext {v:PV} {l:List UInt8} (hr:RS h p jb v l) (g:Hp):RS (Go.Am.ext h g) p jb v l:=by
 rcases hr with hr | ⟨b,h1,h2,h3⟩
 ·exact .inl hr
 ·exact .inr ⟨b,h1,by rw [getBox_ext_lt (lt_of_box (box_of_get h2))];exact h2,h3⟩
theorem rd_bsl {H:Hp} {b:Nat} {l:List UInt8} (hb:getBox H b=some (u8s l)):Rd H (.bsl false b 0 l.length 1) l:=by
 refine ⟨rfl,fun k i c hc=>?_,?_,.inl rfl⟩
 ·have hi:=(List.getElem?_eq_some_iff.1 hc).1
  refine ⟨.ptr b (0+i * 1),?_,?_⟩
  ·rw [idxAB_bsl,if_pos rfl,ix_nat k i _ hi,Option.bnd_some]
  ·rw [loadV_ptr,hb,Option.bnd_some,part,if_neg (by simp),Nat.mul_one,Nat.zero_add,u8s_get,hc];rfl
 ·rw [elems_bsl,hb,Option.bnd_some,if_pos ⟨by rw [u8s_length];omega,by rw [u8s_cut];exact u8s_scalar _⟩,u8s_cut]
  simp
theorem RS.rd (hj:JOk h p jb qa qb) {v:PV} {l:List UInt8} (hr:RS h p jb v l) (cs:List PV):Rd (putJ h p F jb cs) v l:=by
 rcases hr with ⟨h1,h2⟩ | ⟨b,h1,h2,n1,n2,n3,n4⟩
 ·exact h1.rd h2
 ·subst h1
  apply rd_bsl
  rw [putJ,getBox_putF (hj.fs cs) n1 n2 n3,getBox_set_ne (Ne.symm n4)]
  exact h2
section
variable {sz m:Nat} {J:Jn} {vs:Vs} (hs:JS h p F jb qa qb sz m J vs)
include hs
theorem get_spec (base:Nat) (key:Int):∃ v g,CallA T base 13 [.ptr jb 0,.int .i64 key] (putJ h p F jb (jC qa qb sz J m))=some (.tup [v,.bool (getV vs key).isSome],putJ (ext h g) p F jb (jC qa qb sz J m)) ∧
  RS (ext h g) p jb v (vB ((getV vs key).getD none))∧(forget (putJ h p F jb (jC qa qb sz J m)) (.tup [v,.bool (getV vs key).isSome],putJ (ext h g) p F jb (jC qa qb sz J m))=some (.tup [vV ((getV vs key).getD none),.bool (getV vs key).isSome],putJ h p F jb (jC qa qb sz J m))) ∧
  ((vB ((getV vs key).getD none)=[]∧Bv v []∧(nilK 1 v=some false∨v=.nils)∧g=[])∨(v=.bsl false (size h) 0 (vB ((getV vs key).getD none)).length 1∧g=[.cells (u8s (vB ((getV vs key).getD none)))])):=by
 have gj:=fun (F:Fl) (cs:List PV)=>getJ (F:=F) hs.ok cs
 have l6:(jC qa qb sz J m)[6]?=some (.mref m):=rfl
 have hlk:=fun b=>lookup_spec (h:=putJ h p F jb (jC qa qb sz J m)) b (hs.gm _) true key
 have tr:=fun (F:Fl) (cs:List PV)=>truncJ (F:=F) hs.ok cs
 have hnil:∀ b,CallA T b 36 [.nils] (putJ h p F jb (jC qa qb sz J m))=some (.nils,putJ h p F jb (jC qa qb sz J m)):=fun b=>clone_nils b
 have e0:ext h []=h:=by simp [ext]
 cases hgv:getV vs key with
 | none =>
  have hlr:lkR true (getV vs key)=.tup [.nils,.bool false]:=by rw [hgv];rfl
  rw [hlr] at hlk
  refine ⟨.nils,[],?_,.inl ⟨bv_nils,.inr rfl⟩,by rw [e0,forget_same];rfl,.inl ⟨rfl,bv_nils,.inr rfl,rfl⟩⟩
  rw [S13,e0]
  simp only [size_putJ hs.ok,gj,l6,hlk,hnil,tr,↓evD,evU,evL,evM,Nat.reduceAdd,Nat.reduceSub,Nat.reduceMul,Nat.reduceLeDiff,Nat.reduceLT,Nat.reduceEqDiff,Nat.reduceBEq,reduceIte,reduceCtorEq,Int.reduceBEq,Int.reduceEq,Int.reduceLT,Int.reduceLE,Int.reduceGT,Int.reduceGE,Int.reduceAdd,Int.reduceSub,Int.reduceNeg,Int.reduceBNe,ite_true,ite_false,if_true,if_false,implies_true,forall_const] <;> rfl
 | some u =>
  have hlr:lkR true (getV vs key)=.tup [vV u,.bool true]:=by rw [hgv];rfl
  rw [hlr] at hlk
  cases u with
  | none =>
   refine ⟨.nils,[],?_,.inl ⟨bv_nils,.inr rfl⟩,by rw [e0,forget_same];rfl,.inl ⟨rfl,bv_nils,.inr rfl,rfl⟩⟩
   rw [S13,e0]
   have e1:vV none=.nils:=rfl
   rw [e1] at hlk
   simp only [size_putJ hs.ok,gj,l6,hlk,hnil,tr,↓evD,evU,evL,evM,Nat.reduceAdd,Nat.reduceSub,Nat.reduceMul,Nat.reduceLeDiff,Nat.reduceLT,Nat.reduceEqDiff,Nat.reduceBEq,reduceIte,reduceCtorEq,Int.reduceBEq,Int.reduceEq,Int.reduceLT,Int.reduceLE,Int.reduceGT,Int.reduceGE,Int.reduceAdd,Int.reduceSub,Int.reduceNeg,Int.reduceBNe,ite_true,ite_false,if_true,if_false,implies_true,forall_const] <;> rfl
  | some l =>
   have hcl:=fun b=>clone_spec (h:=putJ h p F jb (jC qa qb sz J m)) b (v:=vV (some l)) (clV_nil l) ((bv_clV l).el _) (by
    have:∀ e∈vs,(vB e.2).length≤250:=fun e he=>(hs.small.2 e he).2
    have hm:∃ e∈vs,e.2=some l:=by
     clear hlk hlr gj tr
     have:=hgv
     clear hgv
     generalize vs=ws at this
     induction ws with
     | nil=>simp [getV] at this
     | cons e r ih =>
      simp only [getV] at this
      split at this
      ·exact ⟨e,by simp,Option.some.inj this⟩
      ·obtain ⟨e',h1,h2⟩:=ih this
       exact ⟨e',by simp [h1],h2⟩
    obtain ⟨e,he,he2⟩:=hm
    have:=this e he
    rw [he2] at this
    simp only [vB] at this
    omega)
   by_cases h0:l=[]
   ·subst h0
    simp only [if_true] at hcl
    refine ⟨.sl .full 1 [],[],?_,.inl ⟨bv_clV [],.inl rfl⟩,by rw [e0,forget_same];rfl,.inl ⟨rfl,bv_clV [],.inl rfl,rfl⟩⟩
    rw [S13,e0]
    simp only [size_putJ hs.ok,gj,l6,hlk,hcl,tr,↓evD,evU,evL,evM,Nat.reduceAdd,Nat.reduceSub,Nat.reduceMul,Nat.reduceLeDiff,Nat.reduceLT,Nat.reduceEqDiff,Nat.reduceBEq,reduceIte,reduceCtorEq,Int.reduceBEq,Int.reduceEq,Int.reduceLT,Int.reduceLE,Int.reduceGT,Int.reduceGE,Int.reduceAdd,Int.reduceSub,Int.reduceNeg,Int.reduceBNe,ite_true,ite_false,if_true,if_false,implies_true,forall_const] <;> rfl
   ·simp only [if_neg h0,size_putJ hs.ok,ext_putJ hs.ok] at hcl
    obtain ⟨n1,n2,n3,n4⟩:=hs.ok.new
    have hgb:getBox (ext h [.cells (u8s l)]) (size h)=some (u8s l):=by rw [getBox_ext_0];rfl
    have hgb2:getBox (putJ (ext h [.cells (u8s l)]) p F jb (jC qa qb sz J m)) (size h)=some (u8s l):=by
     rw [putJ,getBox_putF ((hs.ok.ext _).fs _) n1 n2 n3,getBox_set_ne (Ne.symm n4)];exact hgb
    have htr:trunc (putJ (ext h [.cells (u8s l)]) p F jb (jC qa qb sz J m)) (size h)=putJ h p F jb (jC qa qb sz J m):=by
     rw [←ext_putJ hs.ok]
     have:=trunc_ext (h:=putJ h p F jb (jC qa qb sz J m)) (l:=[.cells (u8s l)])
     rwa [size_putJ hs.ok] at this
    refine ⟨.bsl false (size h) 0 l.length 1,[.cells (u8s l)],?_,.inr ⟨size h,rfl,hgb,n1,n2,n3,n4⟩,?_,.inr ⟨rfl,rfl⟩⟩
    ·rw [S13]
     have hlt:¬ (size h < size h):=by omega
     simp only [size_putJ hs.ok,gj,l6,hlk,hcl,hgb2,hlt,u8s_below,htr,ext_putJ hs.ok,Option.isSome_some,↓evD,evU,evL,evM,Nat.reduceAdd,Nat.reduceSub,Nat.reduceMul,Nat.reduceLeDiff,Nat.reduceLT,Nat.reduceEqDiff,Nat.reduceBEq,reduceIte,reduceCtorEq,Int.reduceBEq,Int.reduceEq,Int.reduceLT,Int.reduceLE,Int.reduceGT,Int.reduceGE,Int.reduceAdd,Int.reduceSub,Int.reduceNeg,Int.reduceBNe,ite_true,ite_false,if_true,if_false,implies_true,forall_const]
    ·unfold forget
     have hne:¬ (putJ (ext h [.cells (u8s l)]) p F jb (jC qa qb sz J m)=putJ h p F jb (jC qa qb sz J m)):=by
      intro hq
      have:=congrArg size hq
      rw [size_putJ (hs.ok.ext _),size_putJ hs.ok,size_ext] at this
      simp at this
     rw [if_neg hne]
     have hfz:=frz_box (h:=putJ h p F jb (jC qa qb sz J m)) (g:=putJ (ext h [.cells (u8s l)]) p F jb (jC qa qb sz J m)) (size h) l (by rw [size_putJ hs.ok];omega) hgb2
     simp only [frz_tup,frzs,hfz,frz_bool,Option.bnd_some]
     rw [if_pos ⟨by simp [below,belows,Own.below,u8s_below],by rw [size_putJ hs.ok,size_putJ (hs.ok.ext _),size_ext];omega,by rw [size_putJ hs.ok];exact htr⟩]
     simp only [Option.getD_some,vV,clV,if_neg h0,Option.isSome_some]
theorem getQ_spec (base:Nat) (key:Int):orcQ (CallA T base) 13 [.ptr jb 0,.int .i64 key] (putJ h p F jb (jC qa qb sz J m))=some (.tup [vV ((getV vs key).getD none),.bool (getV vs key).isSome],putJ h p F jb (jC qa qb sz J m)):=by
 obtain ⟨v,g,h1,h2,h3,_⟩:=get_spec (F:=F) hs base key
 rw [orcQ_eq,h1,Option.bnd_some,h3]
theorem keys_spec (base:Nat):CallA T base 20 [.ptr jb 0] (putJ h p F jb (jC qa qb sz J m))=some (ksV (keysN vs),putJ h p F jb (jC qa qb sz J m)):=by
 have gj:=fun (F:Fl) (cs:List PV)=>getJ (F:=F) hs.ok cs
 have l6:(jC qa qb sz J m)[6]?=some (.mref m):=rfl
 have h4:∀ b,CallA T b 44 [.mref m] (putJ h p F jb (jC qa qb sz J m))=some (.fn 62 [.ptr (size (putJ h p F jb (jC qa qb sz J m))) 0],ext (putJ h p F jb (jC qa qb sz J m)) [.cells [.mref m]]):=fun b=>by
  rw [S44];simp only [↓evD,evU,evL,evM,Nat.reduceAdd,Nat.reduceSub,Nat.reduceMul,Nat.reduceLeDiff,Nat.reduceLT,Nat.reduceEqDiff,Nat.reduceBEq,reduceIte,reduceCtorEq,Int.reduceBEq,Int.reduceEq,Int.reduceLT,Int.reduceLE,Int.reduceGT,Int.reduceGE,Int.reduceAdd,Int.reduceSub,Int.reduceNeg,Int.reduceBNe,ite_true,ite_false,if_true,if_false,implies_true,forall_const]
 have h5:=fun b=>sorted_spec (h:=putJ h p F jb (jC qa qb sz J m)) b (m:=m) (vs:=vs) (hs.gm _) hs.small
 have htr:trunc (ext (putJ h p F jb (jC qa qb sz J m)) [.cells [.mref m]]) (size h)=putJ h p F jb (jC qa qb sz J m):=by
  have:=trunc_ext (h:=putJ h p F jb (jC qa qb sz J m)) (l:=[.cells [.mref m]])
  rwa [size_putJ hs.ok] at this
 rw [size_putJ hs.ok] at h4 h5
 have hb:∀ n,below n (ksV (keysN vs))=true:=by
  intro n;unfold ksV;split
  ·rfl
  ·simp only [below,Own.below,Bool.true_and]
   generalize keysN vs=ks
   induction ks with
   | nil=>rfl
   | cons k r ih=>simp only [List.map_cons,belows,Bool.and_eq_true];exact ⟨rfl,ih⟩
 have hf:∀ n h,frz n h (ksV (keysN vs))=some (ksV (keysN vs)):=by
  intro n h;unfold ksV;split <;> rfl
 rw [S20]
 simp only [size_putJ hs.ok,gj,l6,h4,h5,hf,hb,htr,↓evD,evU,evL,evM,Nat.reduceAdd,Nat.reduceSub,Nat.reduceMul,Nat.reduceLeDiff,Nat.reduceLT,Nat.reduceEqDiff,Nat.reduceBEq,reduceIte,reduceCtorEq,Int.reduceBEq,Int.reduceEq,Int.reduceLT,Int.reduceLE,Int.reduceGT,Int.reduceGE,Int.reduceAdd,Int.reduceSub,Int.reduceNeg,Int.reduceBNe,ite_true,ite_false,if_true,if_false,implies_true,forall_const]
theorem drop_spec {base:Nat} (hb:base≤jb) (key:Int):CallA T base 23 [.ptr jb 0,.int .i64 key] (putJ h p F jb (jC qa qb sz J m)) =
  if faultN F key 0≠0 then some (.int .i64 (faultN F key 0:Int),putJ h p F jb (jC qa qb sz J m)) else
  if getV vs key=none then some (.int .i64 4,putJ h p F jb (jC qa qb sz J m)) else
   some (.int .i64 ((F.writeJ sz J (bodyL (UInt8.ofNat key.toNat) [] true) (delV vs key)).1:Nat),putJ (ext h [.map (ents (delV vs key))]) p (F.writeJ sz J (bodyL (UInt8.ofNat key.toNat) [] true) (delV vs key)).2.1 jb
    (match (F.writeJ sz J (bodyL (UInt8.ofNat key.toNat) [] true) (delV vs key)).2.2 with | none=>jC qa qb sz J m | some J'=>jC qa qb sz J' (size h))):=by
 have h1:=fault_spec (F:=F) hs.ok base (m:=m) (sz:=sz) (J:=J) key (v:=.nils) (l:=[]) rfl
 simp only [List.length_nil] at h1
 rw [S23]
 by_cases hf:faultN F key 0≠0
 ·rw [if_pos hf]
  have d1:((faultN F key 0:Int) != 0)=true:=by simpa using hf
  simp only [h1,d1,↓evD,evU,evL,evM,Nat.reduceAdd,Nat.reduceSub,Nat.reduceMul,Nat.reduceLeDiff,Nat.reduceLT,Nat.reduceEqDiff,Nat.reduceBEq,reduceIte,reduceCtorEq,Int.reduceBEq,Int.reduceEq,Int.reduceLT,Int.reduceLE,Int.reduceGT,Int.reduceGE,Int.reduceAdd,Int.reduceSub,Int.reduceNeg,Int.reduceBNe,ite_true,ite_false,if_true,if_false,implies_true,forall_const]
 rw [if_neg hf]
 have hf':faultN F key 0=0:=by omega
 have d1:((faultN F key 0:Int) != 0)=false:=by simpa using hf'
 have hk32:0≤key∧key < 32:=by
  unfold faultN at hf'
  split at hf'
  ·omega
  ·split at hf'
   ·omega
   ·omega
 obtain ⟨k,rfl⟩ : ∃ k:Nat,key=k:=⟨key.toNat,by omega⟩
 simp only [Int.toNat_natCast]
 have gj:=fun (F:Fl) (cs:List PV)=>getJ (F:=F) hs.ok cs
 have l6:(jC qa qb sz J m)[6]?=some (.mref m):=rfl
 have hlk:=lookup_spec (h:=putJ h p F jb (jC qa qb sz J m)) base (hs.gm _) true (k:Int)
 cases hgv:getV vs k with
 | none =>
  have hlr:lkR true (getV vs k)=.tup [.nils,.bool false]:=by rw [hgv];rfl
  rw [hlr] at hlk
  rw [if_pos rfl]
  simp only [h1,d1,gj,l6,hlk,↓evD,evU,evL,evM,Nat.reduceAdd,Nat.reduceSub,Nat.reduceMul,Nat.reduceLeDiff,Nat.reduceLT,Nat.reduceEqDiff,Nat.reduceBEq,reduceIte,reduceCtorEq,Int.reduceBEq,Int.reduceEq,Int.reduceLT,Int.reduceLE,Int.reduceGT,Int.reduceGE,Int.reduceAdd,Int.reduceSub,Int.reduceNeg,Int.reduceBNe,ite_true,ite_false,if_true,if_false,implies_true,forall_const]
 | some u =>
  have hlr:lkR true (getV vs k)=.tup [vV u,.bool true]:=by rw [hgv];rfl
  rw [hlr] at hlk
  rw [if_neg (by simp)]
  have hcl:CallA T base 39 [.mref m] (putJ h p F jb (jC qa qb sz J m))=some (.mref (size h),putJ (ext h [.map (ents vs)]) p F jb (jC qa qb sz J m)):=by
   rw [CallA_primN T_39,pClone,hs.gm,Option.bnd_some,Option.bnd_some,size_putJ hs.ok,ext_putJ hs.ok]
  have hup:=del_spec (h:=putJ (ext h [.map (ents vs)]) p F jb (jC qa qb sz J m)) base (m:=size h) (vs:=vs) (map_new hs.ok _ _).2 (k:Int)
  rw [set_new hs.ok] at hup
  have hbd:=body_spec (h:=putJ (ext h [.map (ents (delV vs k))]) p F jb (jC qa qb sz J m)) base k (v:=.nils) (l:=[]) (bv_nils.rd (.inr rfl)) (by simp) true
  obtain ⟨n1,n2,n3,n4⟩:=hs.ok.new
  have hw:=write_spec (F:=F) (hs.ok.ext [.map (ents (delV vs k))]) hb (m:=m) (m':=size h) (J:=J) (map_new (F:=F) hs.ok (jC qa qb sz J m) _).1 ⟨n1,n2,n3⟩ n4
   (hs.small.delV k) (hs.keyed.delV k) hs.fl hs.now hs.fin (bv_sl (.inl rfl) (bodyL (UInt8.ofNat k) [] true)) (by rw [bodyL_length];simp)
  simp only [h1,d1,gj,l6,hlk,hcl,hup,hbd,hw,↓evD,evU,evL,evM,Nat.reduceAdd,Nat.reduceSub,Nat.reduceMul,Nat.reduceLeDiff,Nat.reduceLT,Nat.reduceEqDiff,Nat.reduceBEq,reduceIte,reduceCtorEq,Int.reduceBEq,Int.reduceEq,Int.reduceLT,Int.reduceLE,Int.reduceGT,Int.reduceGE,Int.reduceAdd,Int.reduceSub,Int.reduceNeg,Int.reduceBNe,ite_true,ite_false,if_true,if_false,implies_true,forall_const] <;> rfl
end
end Go.Am.Ytlonabodghfjdaa
namespace Go.Am.Ytlonabodghfjdaa
set_option maxRecDepth 100000
set_option linter.unusedSimpArgs false
set_option linter.unusedVariables false
set_option linter.unusedSectionVars false
variable {h:Hp} {p:FP}
def fl0 (s:Nat):Fl:=⟨List.replicate (4 * s) 255,s,List.replicate 4 0,0,-1,false⟩
def fp0 (n:Nat):FP:=⟨n+2,n,n+1⟩
def boxes0 (s n:Nat):List Box:=[.cells (u8s (List.replicate (4 * s) 255)),.cells (natsV (List.replicate 4 0)),.cells (flC (fp0 n) (fl0 s)),.cells [.ptr (n+2) 0,.int .i64 0,.int .i64 2],.cells [.ptr (n+2) 0,.int .i64 2,.int .i64 2]]
theorem putF_self {p:FP} {F:Fl} {H:Hp} (hp:FOk H p) (h1:box? H p.f=some (.cells (flC p F))) (h2:box? H p.wb=some (.cells (natsV F.wear))) (h3:box? H p.bb=some (.cells (u8s F.b))):H=putF H p F:=by
 refine hp_ext size_putF.symm fun n=>?_
 rw [box_putF hp]
 split
 ·rename_i hq;rw [hq,h1]
 ·split
  ·rename_i hq;rw [hq,h2]
  ·split
   ·rename_i hq;rw [hq,h3]
   ·rfl
theorem FOk.new0 (h:Hp) (s:Nat) (l:List Box) (hl:3≤l.length):FOk (Go.Am.ext h l) (fp0 (size h)):=⟨by simp [fp0,size_ext];omega,by simp [fp0,size_ext];omega,by simp [fp0,size_ext];omega,by simp [fp0],by simp [fp0],by simp [fp0]⟩
theorem fresh_putF (h:Hp) (s:Nat) (l:List Box):ext h (.cells (u8s (List.replicate (4 * s) 255)) :: .cells (natsV (List.replicate 4 0)) :: .cells (flC (fp0 (size h)) (fl0 s)) :: l)=putF (ext h (.cells (u8s (List.replicate (4 * s) 255)) :: .cells (natsV (List.replicate 4 0)) :: .cells (flC (fp0 (size h)) (fl0 s)) :: l)) (fp0 (size h)) (fl0 s):=by
 refine putF_self (FOk.new0 h s _ (by simp)) ?_ ?_ ?_
 ·rw [show (fp0 (size h)).f=size h+2 from rfl,box_ext_n rfl];rfl
 ·rw [show (fp0 (size h)).wb=size h+1 from rfl,box_ext_n rfl];rfl
 ·rw [show (fp0 (size h)).bb=size h+0 from rfl,box_ext_n rfl];rfl
theorem pnew_spec (hp:FOk h p) (base:Nat) {F:Fl} (first:Nat) (hf:first+2≤4) (h4:F.b.length=4 * F.sector) (hs:16≤F.sector) (hs2:F.sector≤4096) :
  CallA T base 30 [.ptr p.f 0,.int .i64 (first:Int),.int .i64 2] (putF h p F)=some (.tup [.ptr (size h) 0,.int .i64 0],putF (ext h [.cells [.ptr p.f 0,.int .i64 (first:Int),.int .i64 2]]) p F):=by
 have h1:=fun b=>size_spec (h:=h) (F:=F) hp b
 have h2:=fun b=>sector_spec (h:=h) (F:=F) hp b
 have hq:(((F.b.length:Nat):Int)).tdiv (F.sector:Int)=4:=by
  rw [h4]
  rw [show ((4 * F.sector:Nat):Int)=4 * (F.sector:Int) by simp,Int.mul_tdiv_cancel _ (by omega)]
 have hq2:binOp .quo (.int .i64 (F.b.length:Int)) (.int .i64 (F.sector:Int))=some (.int .i64 4):=by
  show (if (F.sector:Int)=0 then none else some (PV.int .i64 (IntKind.i64.wrap ((((F.b.length:Nat):Int)).tdiv (F.sector:Int)))))=_
  rw [if_neg (by omega),hq];rfl
 have d1:decide ((first:Int) < 0)=false:=by simp
 have d2:decide ((first:Int) ≥ 4)=false:=by simp;omega
 have hw:IntKind.i64.wrap (4 - (first:Int))=((4 - first:Nat):Int):=by rw [wrap_small (by omega) (by omega)];omega
 have d3:decide ((2:Int) > ((4 - first:Nat):Int))=false:=by simp;omega
 rw [S30]
 simp only [h1,h2,bnd2_some,hq2,Option.bnd_some,hw,d1,d2,d3,↓evD,evU,evL,evM,Nat.reduceAdd,Nat.reduceSub,Nat.reduceMul,Nat.reduceLeDiff,Nat.reduceLT,Nat.reduceEqDiff,Nat.reduceBEq,reduceIte,reduceCtorEq,Int.reduceBEq,Int.reduceEq,Int.reduceLT,Int.reduceLE,Int.reduceGT,Int.reduceGE,Int.reduceAdd,Int.reduceSub,Int.reduceNeg,Int.reduceBNe,ite_true,ite_false,if_true,if_false,implies_true,forall_const]
 rw [size_putF,ext_putF hp]
def secN (z:Int):Nat:=(clampI 16 4096 z).toNat
theorem secN_in (z:Int):16≤secN z∧secN z≤4096:=by
 unfold secN clampI
 split
 ·split <;> omega
 ·split <;> omega
theorem pNew_spec (z:Int):pNew [.int .i64 4,.int .i64 z] h=some (.ptr (size h+2) 0,(boxes0 (secN z) (size h)).take 3):=by
 have hk:(clampI 1 64 4).toNat=4:=by decide
 simp only [pNew,hk]
 have e1:(List.replicate (4 * secN z) (PV.int .u8 255))=u8s (List.replicate (4 * secN z) 255):=by simp [u8s]
 have e2:(List.replicate 4 (PV.int .i64 0))=natsV (List.replicate 4 0):=by simp [natsV]
 have e3:flashC (size h+1) (size h) (4 * secN z) (secN z) 4=flC (fp0 (size h)) (fl0 (secN z)):=by simp [flashC,flC,fl0,fp0]
 show some (PV.ptr (size h+2) 0,[Box.cells (List.replicate (4 * secN z) (PV.int .u8 255)),Box.cells (List.replicate 4 (PV.int .i64 0)),Box.cells (flashC (size h+1) (size h) (4 * secN z) (secN z) 4)])=_
 rw [e1,e2,e3]
 rfl
theorem groups_spec (base:Nat) (z:Int):CallA T base 9 [.int .i64 z] h=some (.tup [.ptr (size h+2) 0,.ptr (size h+3) 0,.ptr (size h+4) 0],ext h (boxes0 (secN z) (size h))):=by
 obtain ⟨s1,s2⟩:=secN_in z
 have hn:CallA T base 29 [.int .i64 4,.int .i64 z] h=some (.ptr (size h+2) 0,ext h ((boxes0 (secN z) (size h)).take 3)):=by
  rw [CallA_primN T_29,pNew_spec];rfl
 have f3:=fresh_putF h (secN z) []
 have f4:=fresh_putF h (secN z) [.cells [.ptr (size h+2) 0,.int .i64 0,.int .i64 2]]
 have f5:=fresh_putF h (secN z) [.cells [.ptr (size h+2) 0,.int .i64 0,.int .i64 2],.cells [.ptr (size h+2) 0,.int .i64 2,.int .i64 2]]
 have g1:=pnew_spec (p:=fp0 (size h)) (F:=fl0 (secN z)) (FOk.new0 h (secN z) ((boxes0 (secN z) (size h)).take 3) (by simp [boxes0])) base 0 (by omega) (by simp [fl0]) s1 s2
 have g2:=pnew_spec (p:=fp0 (size h)) (F:=fl0 (secN z)) (FOk.new0 h (secN z) ((boxes0 (secN z) (size h)).take 4) (by simp [boxes0])) base 2 (by omega) (by simp [fl0]) s1 s2
 simp only [boxes0,List.take_succ_cons,List.take_zero] at hn g1 g2 ⊢
 rw [←f3] at g1
 have e1:∀ (a b c d:Box) , ext (ext h [a,b,c]) [d]=ext h [a,b,c,d]:=by intros;simp [ext]
 have e2:∀ (a b c d e:Box) , ext (ext h [a,b,c,d]) [e]=ext h [a,b,c,d,e]:=by intros;simp [ext]
 have z3:∀ (a b c:Box),size (ext h [a,b,c])=size h+3:=by intros;rw [size_ext];rfl
 have z4:∀ (a b c d:Box),size (ext h [a,b,c,d])=size h+4:=by intros;rw [size_ext];rfl
 rw [e1,z3] at g1
 rw [e2,z4] at g2
 simp only [show (fp0 (size h)).f=size h+2 from rfl,show ((0:Nat):Int)=0 from rfl,show ((2:Nat):Int)=2 from rfl] at g1 g2
 rw [←f4] at g1 g2
 rw [←f5] at g2
 rw [S9,hn,bnd2_some,g1,bnd2_some,g2]
 simp only [↓evD,evU,evL,evM,Nat.reduceAdd,Nat.reduceSub,Nat.reduceMul,Nat.reduceLeDiff,Nat.reduceLT,Nat.reduceEqDiff,Nat.reduceBEq,reduceIte,reduceCtorEq,Int.reduceBEq,Int.reduceEq,Int.reduceLT,Int.reduceLE,Int.reduceGT,Int.reduceGE,Int.reduceAdd,Int.reduceSub,Int.reduceNeg,Int.reduceBNe,ite_true,ite_false,if_true,if_false,implies_true,forall_const]
end Go.Am.Ytlonabodghfjdaa
