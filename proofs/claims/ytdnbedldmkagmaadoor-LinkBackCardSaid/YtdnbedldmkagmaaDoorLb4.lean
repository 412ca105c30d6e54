/- Evaluating equations of the plain functions. | The evaluating equations, bundled. Printed by a program of this work. By the session's AI agent. | Slices that grow on top of a heap; bytes. | Slices of values of one form, by value. | Digits: what is written is read. No program in sight. | Numbers as texts: path's number and the reference's, on the abstract machine. | 'Am': what an argument that is read as data is to the machine. | Arguments that are structs, or bytes. | Arguments of the seat: lists of numbers; for the walks. | A builder of texts: what its writes do, on the abstract machine. | Paths as texts, on the abstract machine. | A text parted at a sign. No program in sight. | Texts parted, and read as paths, on the abstract machine. | The document's examples: the machine runs them. | Paths read, and PathTexts, on the abstract machine. | A slice that grows, in a heap where boxes come between. | Signs, names, values: what may stand in a link's text. | Links as Lean values; few and right, on the abstract machine. | Right links, on the abstract machine. | Links as text, on the abstract machine. | Write and the reference's, on the abstract machine. | LinkWrites: the law on the abstract machine. | The reader of links, on the abstract machine. | The reader of links: paths and links, on the abstract machine. | The reader of links: a link, on the abstract machine. | Read, on the abstract machine. | Same, the reference's, on the abstract machine; LinkReads: the law. | LinkReads: th
   By the session's AI agent. -/
import Derived.Test.YtdnbedldmkagmaaDoorLb3
import Derived.Lib.ItoaLen
import Derived.Lib.AtoiAll
import GoSem.ClaimChange
import Derived.ChangeArms
import Derived.ChangeOld
import Derived.DataReads
import Derived.SizedLaws
import Derived.Lib.Bytealg
import Derived.KernelRfl
namespace Go.Am
set_option linter.unusedVariables false
set_option linter.unusedSimpArgs false
theorem loadV_ptr (n g b off h) : loadV n g (.ptr b off) h = (getBox h b).bnd fun cs => part cs off n g := (rfl)
theorem loadV_ep (n g cs off h) : loadV n g (.ep cs off) h = part cs off n g := (rfl)
theorem storeV_ptr (base n b off u h) : storeV base n (.ptr b off) u h = (getBox h b).bnd fun cs =>
      if u.cells.length = n ∧ off + n ≤ cs.length ∧ u.cells.all scalar = true ∧ (b < base → belows 0 (strips u.cells) = true)
      then some (setBox h b (setRange cs off (if b < base then strips u.cells else u.cells))) else none := (rfl)
theorem allocK_eq {α : Type} (z h) (K : PV → Hp → Option α) : allocK z h K = K (.ptr (size h) 0) (ext h [.cells z]) := (rfl)
theorem boxV_eq (n v h) : boxV n v h = if v.cells.length = n ∧ v.cells.all scalar = true then some (.ptr (size h) 0, ext h [.cells v.cells]) else none := (rfl)
theorem buildV_eq (z l) : buildV z l = (buildAgg l z).bnd fun cs => some (.agg cs) := (rfl)
theorem buildSlV_eq (sz g z len l) : buildSlV sz g z len l = (fillParts sz l (List.replicate len (if g then .agg z else z.headD .undef))).bnd fun es => some (.sl .full sz es) := (rfl)
theorem nilckV_eq (v) : nilckV v = (isNil v).bnd fun b => if b then none else some v := (rfl)
theorem isnilV_eq (kd neg v) : isnilV kd neg v = (nilK kd v).bnd fun b => some (.bool (if neg then !b else b)) := (rfl)
theorem makeV_eq (T z l c h) : makeV T z l c h = (makeN l c).bnd fun n => makeB T z n h := (rfl)
theorem copyV_bsl (base f b off len sz u h) : copyV base (.bsl f b off len sz) u h = (elems h u).bnd fun xs => (getBox h b).bnd fun cs =>
        if sz = 1 ∧ off + len ≤ cs.length ∧ xs.all scalar = true ∧ (b < base → belows 0 (xs.take len) = true)
        then some (.int .i64 (min xs.length len : Nat), setBox h b (setRange cs off (xs.take len))) else none := (rfl)
theorem copyV_nils (base u h) : copyV base .nils u h = (elems h u).bnd fun xs => some (.int .i64 0, h) := (rfl)
theorem bdW_none (n d) : bdW n d none = some d := (rfl)
theorem bdW_some (n d v) : bdW n d (some v) = bdV n v := (rfl)
theorem sliceV_str (lo hi s) : sliceV none lo hi none (.str s) = (bdW s.length s.length hi).bnd fun hh => (bdW hh 0 lo).bnd fun l => some (.str ((s.drop l).take (hh - l))) := (rfl)
theorem sliceV_nils (n lo hi mx) : sliceV (some n) lo hi mx .nils = (bdW 0 0 mx).bnd fun m => (bdW 0 0 hi).bnd fun hh => (bdW 0 0 lo).bnd fun l => some .nils := (rfl)
theorem sliceV_sl (n lo hi o es) : sliceV (some n) lo hi none (.sl o n es) = (bdW es.length es.length hi).bnd fun hh => (bdW hh 0 lo).bnd fun l =>
      some (.sl (if isFull o && hh == es.length then .full else .no) n ((es.drop l).take (hh - l))) := by
  simp [sliceV, bdW_none, Option.bnd_some]
theorem sliceV_bsl (n lo hi f b off len) : sliceV (some n) lo hi none (.bsl f b off len n) = (bdW len len hi).bnd fun hh => (bdW hh 0 lo).bnd fun l =>
      if hh - l = 0 then some (.sl .no n []) else some (.bsl (f && hh == len) b (off + l * n) (hh - l) n) := by
  simp [sliceV, bdW_none, Option.bnd_some]
theorem idxArrV_ptr (sz len b o i) : idxArrV sz len (.ptr b o) i = (ix i len).bnd fun i => some (.ptr b (o + i * sz)) := (rfl)
theorem idxArrV_ep (sz len b o i) : idxArrV sz len (.ep b o) i = (ix i len).bnd fun i => some (.ep b (o + i * sz)) := (rfl)
theorem idxAggV_agg (sz g len cs i) : idxAggV sz g len (.agg cs) i = (ix i len).bnd fun i => part cs (i * sz) sz g := (rfl)
theorem minmaxV_cons (m x r) : minmaxV m (x :: r) = minMax m x r := (rfl)
theorem appTV_eq (T sz v u h) : appTV T sz v u h = (elems h u).bnd fun xs => growT h T sz v xs := (rfl)
theorem loadNV_ptr (n g c o b off h) : loadNV n g (.ptr c o) (.ptr b off) h = if b = c then none else loadV n g (.ptr b off) h := (rfl)
theorem loadNV_ep (n g c o cs off h) : loadNV n g (.ptr c o) (.ep cs off) h = loadV n g (.ep cs off) h := (rfl)
theorem storeNV_ptr (base n c o b off u h) : storeNV base n (.ptr c o) (.ptr b off) u h = if b = c then storeV base n (.ptr b off) u h else none := (rfl)
theorem callvV_fn (orc f cap vs h) : callvV orc (.fn f cap) vs h = orc f (vs ++ cap) h := (rfl)
theorem forget_same (v : PV) (h : Hp) : forget h (v, h) = some (v, h) := by simp [forget]
theorem orcQ_eq (orc : Orc) (f vs h) : orcQ orc f vs h = (orc f vs h).bnd (forget h) := (rfl)
theorem chkK_eq {α : Type} (h) (y : Option α) : chkK h h y = y := by simp [chkK]
theorem finV_code (n0 vs h) : finV false false n0 vs h = (frzs n0 h vs).bnd fun vs => if belows n0 vs = true then some (result1 vs, trunc h n0) else none := (rfl)
theorem finV_keep (o n0 vs h) : finV true o n0 vs h = some (result1 vs, h) := (rfl)
theorem finV_own (n0 vs h) : finV false true n0 vs h = (ownEnd n0 h vs).bnd fun r => some (result1 r.1, r.2) := (rfl)
theorem appV_nils (sz u h) : appV sz .nils u h = (elems h u).bnd fun xs => if xs.all (fun x => x.cells.length == sz) then (if xs.length ≤ lim2 then some (if xs.isEmpty then .nils else .sl .no sz (strips xs)) else none) else none := (rfl)
theorem appV_full (sz es u h) : appV sz (.sl .full sz es) u h = (elems h u).bnd fun xs => if xs.all (fun x => x.cells.length == sz) then (if es.length + xs.length ≤ lim2 then some (if xs.isEmpty then .sl .full sz es else .sl .no sz (es ++ strips xs)) else none) else none := by
  unfold appV; simp
theorem bnd_some_id {α : Type} (x : Option α) : x.bnd some = x := by cases x <;> rfl
end Go.Am
namespace Go.Am
set_option maxRecDepth 100000
set_option linter.defProp false
def evD :=
  And.intro @bnd2_some <|
  And.intro @bnd2_none <|
  And.intro @bnd2_ite <|
  And.intro @Option.bnd_some <|
  And.intro @Option.bnd_none <|
  And.intro @Option.bnd_ite <|
  And.intro @condB_true <|
  And.intro @condB_false <|
  And.intro @condB_b <|
  And.intro @whenB_true <|
  And.intro @whenB_false <|
  @allocK_eq
def evU :=
  And.intro @Int.toNat_natCast <|
  And.intro @Nat.zero_add <|
  And.intro @Nat.add_zero <|
  And.intro @Nat.le_refl <|
  And.intro @Nat.succ_eq_add_one <|
  And.intro @Nat.add_eq_zero_iff <|
  And.intro @Nat.succ_ne_self <|
  And.intro @and_true <|
  And.intro @true_and <|
  And.intro @and_self <|
  And.intro @Bool.false_eq_true <|
  And.intro @Bool.true_and <|
  And.intro @Bool.and_true <|
  And.intro @Bool.and_self <|
  And.intro @Bool.not_true <|
  And.intro @Bool.not_false <|
  And.intro @Bool.not_not <|
  And.intro @Bool.true_beq <|
  And.intro @Bool.false_beq <|
  And.intro @beq_true <|
  And.intro @beq_false <|
  And.intro @imp_self <|
  And.intro @false_implies <|
  And.intro @decide_eq_true_eq <|
  And.intro @not_true_eq_false <|
  And.intro @not_false_eq_true <|
  And.intro @Bool.not_eq_true' <|
  And.intro @decide_true <|
  And.intro @decide_false <|
  And.intro @Bool.true_or <|
  And.intro @Bool.false_or <|
  And.intro @Bool.or_true <|
  And.intro @Bool.or_false <|
  And.intro @Bool.false_and <|
  And.intro @Bool.and_false <|
  And.intro @true_or <|
  And.intro @or_true <|
  And.intro @false_or <|
  And.intro @or_false <|
  And.intro @or_self <|
  And.intro @false_and <|
  And.intro @and_false <|
  And.intro @Nat.add_eq_left <|
  And.intro @Nat.left_eq_add <|
  And.intro @Nat.add_left_cancel_iff <|
  And.intro @size_ext <|
  And.intro @size_setBox <|
  And.intro @getBox_ext_0 <|
  And.intro @getBox_ext_n <|
  And.intro @ext_ext <|
  And.intro @trunc_ext <|
  And.intro @trunc_self <|
  And.intro @trunc_exts <|
  And.intro @trunc_set <|
  And.intro @not_lt_size <|
  And.intro @size_add_lt <|
  And.intro @strip_undef <|
  And.intro @strip_bool <|
  And.intro @strip_int <|
  And.intro @strip_str <|
  And.intro @strip_nilp <|
  And.intro @strip_bnil <|
  And.intro @strip_ptr <|
  And.intro @strip_ep <|
  And.intro @strip_nils <|
  And.intro @strip_bsl <|
  And.intro @strip_nilif <|
  And.intro @strip_iface <|
  And.intro @strip_nilf <|
  And.intro @strip_fn <|
  And.intro @strip_agg <|
  And.intro @strip_tup <|
  And.intro @cells_agg <|
  And.intro @cells_bool <|
  And.intro @cells_int <|
  And.intro @cells_str <|
  And.intro @cells_nilp <|
  And.intro @cells_bnil <|
  And.intro @cells_ptr <|
  And.intro @cells_nils <|
  And.intro @cells_sl <|
  And.intro @cells_bsl <|
  And.intro @cells_nilif <|
  And.intro @cells_iface <|
  And.intro @cells_nilf <|
  And.intro @cells_fn <|
  And.intro @isNil_nilp <|
  And.intro @isNil_bnil <|
  And.intro @isNil_nils <|
  And.intro @isNil_nilif <|
  And.intro @isNil_nilf <|
  And.intro @isNil_ptr <|
  And.intro @isNil_ep <|
  And.intro @isNil_sl <|
  And.intro @isNil_bsl <|
  And.intro @isNil_iface <|
  And.intro @isNil_fn <|
  And.intro @wantB_bool <|
  And.intro @wantB_undef <|
  And.intro @boolB_eq <|
  And.intro @boolB_ne <|
  And.intro @nilK_00 <|
  And.intro @nilK_0b <|
  And.intro @nilK_01 <|
  And.intro @nilK_10 <|
  And.intro @nilK_11 <|
  And.intro @nilK_12 <|
  And.intro @nilK_20 <|
  And.intro @nilK_21 <|
  And.intro @nilK_30 <|
  And.intro @nilK_31 <|
  And.intro @scalar_bool <|
  And.intro @scalar_int <|
  And.intro @scalar_str <|
  And.intro @scalar_nilp <|
  And.intro @scalar_bnil <|
  And.intro @scalar_ptr <|
  And.intro @scalar_nils <|
  And.intro @scalar_sl <|
  And.intro @scalar_bsl <|
  And.intro @scalar_nilif <|
  And.intro @scalar_iface <|
  And.intro @scalar_nilf <|
  And.intro @scalar_fn <|
  And.intro @bdV_int <|
  And.intro @isFull_no <|
  And.intro @isFull_full <|
  And.intro @isFull_tok <|
  And.intro @toIntB_int <|
  And.intro @extractB_tup <|
  And.intro @fieldAB_ptr <|
  And.intro @fieldAB_ep <|
  And.intro @fieldB_agg <|
  And.intro @lenB_str <|
  And.intro @lenB_nils <|
  And.intro @lenB_sl <|
  And.intro @lenB_bsl <|
  And.intro @idxAB_sl <|
  And.intro @idxAB_bsl <|
  And.intro @idxStrB_str <|
  And.intro @binOp_int <|
  And.intro @binOp_str <|
  And.intro @isShift_add <|
  And.intro @isShift_sub <|
  And.intro @isShift_mul <|
  And.intro @isShift_quo <|
  And.intro @isShift_rem <|
  And.intro @isShift_and <|
  And.intro @isShift_or <|
  And.intro @isShift_xor <|
  And.intro @isShift_andNot <|
  And.intro @isShift_eql <|
  And.intro @isShift_neq <|
  And.intro @isShift_lss <|
  And.intro @isShift_leq <|
  And.intro @isShift_gtr <|
  And.intro @isShift_geq <|
  And.intro @isShift_shl <|
  And.intro @isShift_shr <|
  And.intro @intOp_add <|
  And.intro @intOp_sub <|
  And.intro @intOp_mul <|
  And.intro @intOp_quo <|
  And.intro @intOp_rem <|
  And.intro @intOp_eql <|
  And.intro @intOp_neq <|
  And.intro @intOp_lss <|
  And.intro @intOp_leq <|
  And.intro @intOp_gtr <|
  And.intro @intOp_geq <|
  And.intro @strOp_eql <|
  And.intro @strOp_neq <|
  And.intro @strOp_add <|
  And.intro @unOp_not <|
  And.intro @unOp_neg <|
  And.intro @part_agg <|
  And.intro @part_one <|
  And.intro @minMax_nil <|
  And.intro @minMax_cons <|
  And.intro @minMax2_max <|
  And.intro @minMax2_min <|
  And.intro @belows_nil <|
  And.intro @belows_cons <|
  And.intro @below_undef <|
  And.intro @below_bool <|
  And.intro @below_int <|
  And.intro @below_str <|
  And.intro @below_nilp <|
  And.intro @below_bnil <|
  And.intro @below_nils <|
  And.intro @below_nilif <|
  And.intro @below_nilf <|
  And.intro @below_ptr <|
  And.intro @below_sl <|
  And.intro @below_iface <|
  And.intro @below_agg <|
  And.intro @below_tup <|
  And.intro @resB_ptr <|
  And.intro @result1_one <|
  And.intro @result1_nil <|
  And.intro @result1_two <|
  And.intro @setRange_nil <|
  And.intro @setRange_cons <|
  And.intro @fillParts_nil <|
  And.intro @fillParts_cons <|
  And.intro @buildAgg_nil <|
  And.intro @buildAgg_cons <|
  And.intro @elems_nils <|
  And.intro @elems_sl <|
  And.intro @elems_bsl <|
  And.intro @setBox_eq <|
  And.intro @size_setBx <|
  And.intro @cellsOf_cells <|
  And.intro @tokOf_tok <|
  And.intro @iterOf_iter <|
  And.intro @getBox_exts_0 <|
  And.intro @getBox_exts_n <|
  And.intro @setBx_ext_0 <|
  And.intro @setBx_ext_n <|
  And.intro @setBx_exts_0 <|
  And.intro @setBx_exts_n <|
  And.intro @setBx_setBx <|
  And.intro @getTok_ext_0 <|
  And.intro @getTok_ext_n <|
  And.intro @getTok_exts_0 <|
  And.intro @getTok_exts_n <|
  And.intro @getIter_ext_0 <|
  And.intro @getIter_ext_n <|
  And.intro @getIter_exts_0 <|
  And.intro @getIter_exts_n <|
  And.intro @strip_sl <|
  And.intro @ostrip_no <|
  And.intro @ostrip_full <|
  And.intro @ostrip_tok <|
  And.intro @obelow_no <|
  And.intro @obelow_full <|
  And.intro @obelow_tok <|
  And.intro @strips_nil <|
  And.intro @strips_cons <|
  And.intro @below_bsl <|
  And.intro @below_fn <|
  And.intro @below_ep <|
  And.intro @frzs_nil <|
  And.intro @frzs_cons <|
  And.intro @frz_sl <|
  And.intro @frz_bsl <|
  And.intro @frz_agg <|
  And.intro @frz_tup <|
  And.intro @frz_iface <|
  And.intro @frz_undef <|
  And.intro @frz_bool <|
  And.intro @frz_int <|
  And.intro @frz_str <|
  And.intro @frz_nilp <|
  And.intro @frz_bnil <|
  And.intro @frz_ptr <|
  And.intro @frz_ep <|
  And.intro @frz_nils <|
  And.intro @frz_nilif <|
  And.intro @frz_nilf <|
  And.intro @frz_fn <|
  And.intro @ownEnd_tok <|
  And.intro @ownEnd_bsl <|
  And.intro @ownEnd_nils <|
  And.intro @ownEnd_no <|
  And.intro @ownEnd_full <|
  And.intro @elemsOf_one <|
  And.intro @elems_str <|
  And.intro @fits_def <|
  And.intro @rangeB_str <|
  And.intro @nextB_it <|
  And.intro @tassertB_iface <|
  And.intro @tassertB_nil <|
  And.intro @eqvB_agg <|
  And.intro @eqCells_nil <|
  And.intro @eqCells_cons <|
  And.intro @eqCell_bool <|
  And.intro @eqCell_int <|
  And.intro @eqCell_str <|
  And.intro @makeB_eq <|
  And.intro @bytesStrB_sl <|
  And.intro @bytesStrB_nils <|
  And.intro @bytesStrB_bsl <|
  And.intro @bytesOf_bytes <|
  And.intro @loadV_ptr <|
  And.intro @loadV_ep <|
  And.intro @storeV_ptr <|
  And.intro @boxV_eq <|
  And.intro @buildV_eq <|
  And.intro @buildSlV_eq <|
  And.intro @nilckV_eq <|
  And.intro @isnilV_eq <|
  And.intro @makeV_eq <|
  And.intro @copyV_bsl <|
  And.intro @copyV_nils <|
  And.intro @bdW_none <|
  And.intro @bdW_some <|
  And.intro @sliceV_str <|
  And.intro @sliceV_nils <|
  And.intro @sliceV_sl <|
  And.intro @sliceV_bsl <|
  And.intro @idxArrV_ptr <|
  And.intro @idxArrV_ep <|
  And.intro @idxAggV_agg <|
  And.intro @minmaxV_cons <|
  And.intro @appTV_eq <|
  And.intro @loadNV_ptr <|
  And.intro @loadNV_ep <|
  And.intro @storeNV_ptr <|
  And.intro @callvV_fn <|
  And.intro @chkK_eq <|
  And.intro @forget_same <|
  And.intro @orcQ_eq <|
  And.intro @finV_code <|
  And.intro @finV_keep <|
  And.intro @finV_own <|
  And.intro @appV_nils <|
  And.intro @appV_full <|
  @bnd_some_id
/-- Lists and the like, of plain types. -/
def evL :=
  And.intro @List.all_cons.{0} <|
  And.intro @List.all_nil.{0} <|
  And.intro @List.getElem?_cons_zero.{0} <|
  And.intro @List.getElem?_cons_succ.{0} <|
  And.intro @List.getElem?_nil.{0} <|
  And.intro @List.length_cons.{0} <|
  And.intro @List.length_nil.{0} <|
  And.intro @List.set_cons_zero.{0} <|
  And.intro @List.set_cons_succ.{0} <|
  And.intro @List.drop_zero.{0} <|
  And.intro @List.drop_succ_cons.{0} <|
  And.intro @List.drop_nil.{0} <|
  And.intro @List.take_zero.{0} <|
  And.intro @List.take_succ_cons.{0} <|
  And.intro @List.take_nil.{0} <|
  And.intro @List.replicate_succ.{0} <|
  And.intro @List.replicate_zero.{0} <|
  And.intro @List.headD_cons.{0} <|
  And.intro @List.cons_append.{0} <|
  And.intro @List.nil_append.{0} <|
  And.intro @bne_self_eq_false.{0} <|
  And.intro @beq_self_eq_true.{0} <|
  And.intro @Option.map_some.{0, 0} <|
  And.intro @List.map_cons.{0, 0} <|
  @List.map_nil.{0, 0}
end Go.Am
namespace Go.Am
set_option linter.unusedVariables false
set_option linter.unusedSimpArgs false
theorem Bu.strips : ∀ l : List UInt8, strips (u8s l) = u8s l
  | [] => rfl
  | c :: l => by show strip _ :: Go.Am.strips (u8s l) = _; rw [Bu.strips l]; rfl
theorem Bu.len (l : List UInt8) : (u8s l).length = l.length := by simp [u8s]
theorem Bu.append (a b : List UInt8) : u8s a ++ u8s b = u8s (a ++ b) := by simp [u8s]
theorem Bu.bytesOf (l : List UInt8) : bytesOf (u8s l) = some l := bytesOf_bytes l
theorem Bu.ne {l : List UInt8} (h : l ≠ []) : u8s l ≠ [] := by cases l <;> simp_all [u8s]
theorem Bu.nil : u8s [] = [] := rfl
theorem Bu.cons (c : UInt8) (l : List UInt8) : u8s (c :: l) = .int .u8 c.toNat :: u8s l := rfl
theorem Bu.one (c : UInt8) : [PV.int .u8 (c.toNat : Int)] = u8s [c] := rfl
theorem Bu.eq_nil {l : List UInt8} : u8s l = [] ↔ l = [] := by cases l <;> simp [u8s]
theorem Bu.fits : ∀ l : List UInt8, (u8s l).all (fits 1) = true
  | [] => rfl
  | c :: l => by show (_ && List.all (u8s l) _) = true; rw [Bu.fits l]; rfl
theorem Bu.scalar : ∀ l : List UInt8, (u8s l).all scalar = true
  | [] => rfl
  | c :: l => by show (_ && List.all (u8s l) _) = true; rw [Bu.scalar l]; rfl
theorem Bu.below (n : Nat) : ∀ l : List UInt8, belows n (u8s l) = true
  | [] => rfl
  | c :: l => by show (_ && belows n (u8s l)) = true; rw [Bu.below n l]; rfl
theorem Bu.get {l : List UInt8} {i : Nat} {c : UInt8} (h : l[i]? = some c) : (u8s l)[i]? = some (.int .u8 c.toNat) := by simp [u8s, h]
theorem Bu.drop (l : List UInt8) (n : Nat) : (u8s l).drop n = u8s (l.drop n) := by simp [u8s]
theorem Bu.take (l : List UInt8) (n : Nat) : (u8s l).take n = u8s (l.take n) := by simp [u8s]
theorem Bu.ix {k : IntKind} {l : List UInt8} {i : Nat} (h : i < l.length) : ix (.int k i) (u8s l).length = some i := ix_nat k i _ (by rw [Bu.len]; exact h)

/-- A slice that grows: what it is (z: while there is nothing in it), and its token on top of the heap. -/
def gV (h : Hp) (z : PV) (sz : Nat) (es : List PV) : PV := if es.isEmpty then z else .sl (.tok (size h)) sz es
def gH (h : Hp) (T : Nat) (es : List PV) : Hp := if es.isEmpty then h else ext h [.tok es.length T]
/-- What may stand for nothing. -/
def gZ (sz : Nat) (z : PV) : Prop := z = .nils ∨ z = .sl .full sz []
theorem gZ_nils (sz : Nat) : gZ sz .nils := .inl rfl
theorem gZ_full (sz : Nat) : gZ sz (.sl .full sz []) := .inr rfl
theorem gV_nil (h z sz) : gV h z sz [] = z := rfl
theorem gH_nil (h T) : gH h T [] = h := rfl
theorem gGrow {h : Hp} {T sz : Nat} {z : PV} (hz : gZ sz z) (es xs : List PV) (hf : xs.all (fits sz) = true) (hs : strips xs = xs) (hl : es.length + xs.length ≤ lim2) :
    growT (gH h T es) T sz (gV h z sz es) xs = some (gV h z sz (es ++ xs), gH h T (es ++ xs)) := by
  unfold growT
  rw [if_pos hf]
  cases es with
  | nil =>
    simp only [gV_nil, gH_nil, List.nil_append]
    simp only [List.length_nil] at hl
    rcases hz with rfl | rfl
    · simp only
      rw [if_pos (by omega)]
      cases xs with
      | nil => rfl
      | cons x xs => simp only [List.isEmpty_cons, Bool.false_eq_true, if_false, gV, gH, hs]
    · simp only
      rw [if_pos (by simp; omega)]
      cases xs with
      | nil => rfl
      | cons x xs => simp only [List.isEmpty_cons, Bool.false_eq_true, if_false, gV, gH, hs, List.nil_append, List.length_nil, Nat.zero_add]
  | cons e es =>
    have e1 : gV h z sz (e :: es) = .sl (.tok (size h)) sz (e :: es) := rfl
    have e2 : gH h T (e :: es) = ext h [.tok (e :: es).length T] := rfl
    rw [e1, e2]
    simp only [getTok_ext_0, tokOf_tok, Option.bnd_some, hs]
    rw [if_pos ⟨trivial, trivial, hl⟩, setBx_ext_0]
    simp only [gV, gH, List.cons_append, List.isEmpty_cons, Bool.false_eq_true, if_false, List.length_cons, List.length_append, Nat.add_right_comm]
theorem gOne {h : Hp} {T : Nat} {z : PV} (hz : gZ 1 z) (out : List UInt8) (c : UInt8) (hl : out.length + 1 ≤ lim2) :
    growT (gH h T (u8s out)) T 1 (gV h z 1 (u8s out)) [.int .u8 c.toNat] = some (gV h z 1 (u8s (out ++ [c])), gH h T (u8s (out ++ [c]))) := by
  have := gGrow (h := h) (T := T) hz (u8s out) (u8s [c]) (Bu.fits [c]) (Bu.strips [c]) (by rw [Bu.len]; exact hl)
  rw [Bu.append] at this
  exact this
theorem gU8 {h : Hp} {T : Nat} {z : PV} (hz : gZ 1 z) (out l : List UInt8) (hl : out.length + l.length ≤ lim2) :
    growT (gH h T (u8s out)) T 1 (gV h z 1 (u8s out)) (u8s l) = some (gV h z 1 (u8s (out ++ l)), gH h T (u8s (out ++ l))) := by
  have := gGrow (h := h) (T := T) hz (u8s out) (u8s l) (Bu.fits l) (Bu.strips l) (by rw [Bu.len, Bu.len]; exact hl)
  rw [Bu.append] at this
  exact this
theorem size_gH (h T es) : size h ≤ size (gH h T es) := by
  unfold gH; split
  · exact Nat.le_refl _
  · rw [size_ext]; omega
theorem trunc_gH (h T es) : trunc (gH h T es) (size h) = h := by
  unfold gH; split
  · exact trunc_self
  · exact trunc_ext
/-- What has grown, behind its frame. -/
def gD (z : PV) (sz : Nat) (es : List PV) : PV := if es.isEmpty then z else .sl .no sz es
theorem frz_gV {sz : Nat} {z : PV} (hz : gZ sz z) (n : Nat) (h k : Hp) (es : List PV) : frz n k (gV h z sz es) = some (gD z sz es) := by
  unfold gV gD
  cases es with
  | nil => rcases hz with rfl | rfl <;> rfl
  | cons x xs => rfl
theorem below_gD {sz : Nat} {z : PV} (hz : gZ sz z) (n : Nat) (es : List PV) (hb : belows n es = true) : below n (gD z sz es) = true := by
  unfold gD
  cases es with
  | nil => rcases hz with rfl | rfl <;> rfl
  | cons x xs => simp only [List.isEmpty_cons, Bool.false_eq_true, if_false, below_sl, obelow_no, Bool.true_and, hb]
theorem elems_gV {sz : Nat} {z : PV} (hz : gZ sz z) (h k : Hp) (es : List PV) : elems k (gV h z sz es) = some es := by
  unfold gV
  cases es with
  | nil => rcases hz with rfl | rfl <;> rfl
  | cons x xs => rfl
theorem elems_gD {sz : Nat} {z : PV} (hz : gZ sz z) (k : Hp) (es : List PV) : elems k (gD z sz es) = some es := by
  unfold gD
  cases es with
  | nil => rcases hz with rfl | rfl <;> rfl
  | cons x xs => rfl
theorem len_gV {sz : Nat} {z : PV} (hz : gZ sz z) (h : Hp) (es : List PV) : lenB false (gV h z sz es) = some (.int .i64 es.length) := by
  unfold gV
  cases es with
  | nil => rcases hz with rfl | rfl <;> rfl
  | cons x xs => rfl
theorem len_gD {sz : Nat} {z : PV} (hz : gZ sz z) (es : List PV) : lenB false (gD z sz es) = some (.int .i64 es.length) := by
  unfold gD
  cases es with
  | nil => rcases hz with rfl | rfl <;> rfl
  | cons x xs => rfl
theorem bytes_gV {z : PV} (hz : gZ 1 z) (h k : Hp) (l : List UInt8) : bytesStrB k (gV h z 1 (u8s l)) = some (.str l) := by
  unfold gV
  cases l with
  | nil => rcases hz with rfl | rfl <;> rfl
  | cons x xs =>
    show (Go.Am.bytesOf (u8s (x :: xs))).bnd _ = _
    rw [Bu.bytesOf]; rfl
/-- Bytes as a value: nil, or a slice by value. -/
def Bv (b : PV) (l : List UInt8) : Prop := (b = .nils ∧ l = []) ∨ b = .sl .no 1 (u8s l) ∨ b = .sl .full 1 (u8s l)
theorem Bv.nils : Bv .nils [] := .inl ⟨rfl, rfl⟩
theorem Bv.no (l) : Bv (.sl .no 1 (u8s l)) l := .inr (.inl rfl)
theorem Bv.full (l) : Bv (.sl .full 1 (u8s l)) l := .inr (.inr rfl)
section
variable {b : PV} {l : List UInt8} (hb : Bv b l)
include hb
theorem Bv.len : lenB false b = some (.int .i64 l.length) := by
  rcases hb with ⟨rfl, rfl⟩ | rfl | rfl
  · rfl
  · rw [lenB_sl, Bu.len]
  · rw [lenB_sl, Bu.len]
theorem Bv.elems (h : Hp) : Go.Am.elems h b = some (u8s l) := by rcases hb with ⟨rfl, rfl⟩ | rfl | rfl <;> rfl
theorem Bv.idx {k : IntKind} {i : Nat} {c : UInt8} (hc : l[i]? = some c) : idxAB b (.int k i) 1 = some (.ep [.int .u8 c.toNat] 0) := by
  have hi := (List.getElem?_eq_some_iff.1 hc).1
  rcases hb with ⟨rfl, rfl⟩ | rfl | rfl
  · simp at hc
  · rw [idxAB_sl, if_pos rfl, Bu.ix hi, Option.bnd_some, Bu.get hc]; rfl
  · rw [idxAB_sl, if_pos rfl, Bu.ix hi, Option.bnd_some, Bu.get hc]; rfl
theorem Bv.scalar : Go.Am.scalar b = true := by rcases hb with ⟨rfl, rfl⟩ | rfl | rfl <;> rfl
theorem Bv.frz (n : Nat) (h : Hp) : Go.Am.frz n h b = some b := by rcases hb with ⟨rfl, rfl⟩ | rfl | rfl <;> rfl
theorem Bv.strip : Go.Am.strip b = b := by rcases hb with ⟨rfl, rfl⟩ | rfl | rfl <;> rfl
theorem Bv.below (n : Nat) : Go.Am.below n b = true := by
  rcases hb with ⟨rfl, rfl⟩ | rfl | rfl
  · rfl
  · rw [below_sl, Bu.below]; rfl
  · rw [below_sl, Bu.below]; rfl
theorem Bv.cells : b.cells = [b] := by rcases hb with ⟨rfl, rfl⟩ | rfl | rfl <;> rfl
end
theorem Bv.done {z : PV} (hz : gZ 1 z) (l : List UInt8) : Bv (gD z 1 (u8s l)) l := by
  unfold gD
  cases l with
  | nil => rcases hz with rfl | rfl
           · exact .inl ⟨rfl, rfl⟩
           · exact .inr (.inr rfl)
  | cons x xs => exact .inr (.inl rfl)
/-- Bytes that can be read. -/
structure Rd (b : PV) (l : List UInt8) : Prop where
  len : lenB false b = some (.int .i64 l.length)
  idx : ∀ {k : IntKind} {i : Nat} {c : UInt8}, l[i]? = some c → idxAB b (.int k i) 1 = some (.ep [.int .u8 c.toNat] 0)
  elems : ∀ h, Go.Am.elems h b = some (u8s l)
theorem Bv.rd {b : PV} {l : List UInt8} (hb : Bv b l) : Rd b l := ⟨hb.len, hb.idx, hb.elems⟩
theorem rd_sl (o : Own) (l : List UInt8) : Rd (.sl o 1 (u8s l)) l := by
  refine ⟨by rw [lenB_sl, Bu.len], fun {k i c} hc => ?_, fun h => rfl⟩
  have hi := (List.getElem?_eq_some_iff.1 hc).1
  rw [idxAB_sl, if_pos rfl, Bu.ix hi, Option.bnd_some, Bu.get hc]; rfl
theorem gV_rd {z : PV} (hz : gZ 1 z) (h : Hp) (l : List UInt8) : Rd (gV h z 1 (u8s l)) l := by
  cases l with
  | nil =>
    rcases hz with rfl | rfl
    · exact Bv.nils.rd
    · exact (Bv.full []).rd
  | cons x l => exact rd_sl _ (x :: l)
end Go.Am
namespace Go.Am
set_option linter.unusedVariables false
set_option linter.unusedSimpArgs false
/-- A form of elements: so many cells, no box. -/
structure El {α : Type} (e : α → PV) (sz : Nat) : Prop where
  len : ∀ a, (e a).cells.length = sz
  sc : ∀ a, (e a).cells.all scalar = true
  st : ∀ a, strip (e a) = e a
  be : ∀ n a, below n (e a) = true
def eI (n : Int) : PV := .int .i64 n
def eS (s : List UInt8) : PV := .str s
def eB (c : UInt8) : PV := .int .u8 c.toNat
theorem elI : El eI 1 := ⟨fun _ => rfl, fun _ => rfl, fun _ => rfl, fun _ _ => rfl⟩
theorem elS : El eS 1 := ⟨fun _ => rfl, fun _ => rfl, fun _ => rfl, fun _ _ => rfl⟩
theorem elB : El eB 1 := ⟨fun _ => rfl, fun _ => rfl, fun _ => rfl, fun _ _ => rfl⟩
section
variable {α : Type} {e : α → PV} {sz : Nat}
theorem El.fits (he : El e sz) (l : List α) : (l.map e).all (fits sz) = true := by
  induction l with
  | nil => rfl
  | cons a l ih =>
    simp only [List.map_cons, List.all_cons, ih, Bool.and_true, fits_def, he.len, he.sc, beq_self_eq_true]
theorem El.strips (he : El e sz) (l : List α) : strips (l.map e) = l.map e := by
  induction l with
  | nil => rfl
  | cons a l ih => simp only [List.map_cons, strips_cons, he.st, ih]
theorem El.belows (he : El e sz) (n : Nat) (l : List α) : belows n (l.map e) = true := by
  induction l with
  | nil => rfl
  | cons a l ih => simp only [List.map_cons, belows_cons, he.be, ih, Bool.and_self]
theorem El.scalars (he : El e 1) (hc : ∀ a, (e a).cells = [e a]) (l : List α) : (l.map e).all scalar = true := by
  induction l with
  | nil => rfl
  | cons a l ih =>
    have := he.sc a
    rw [hc a] at this
    simp only [List.all_cons, List.all_nil, Bool.and_true] at this
    simp only [List.map_cons, List.all_cons, ih, this, Bool.and_self]
/-- A list as a value: nil, or a slice by value. -/
def Lv (e : α → PV) (sz : Nat) (b : PV) (l : List α) : Prop := (b = .nils ∧ l = []) ∨ b = .sl .no sz (l.map e) ∨ b = .sl .full sz (l.map e)
theorem Lv.nils : Lv e sz .nils [] := .inl ⟨rfl, rfl⟩
theorem Lv.no (l : List α) : Lv e sz (.sl .no sz (l.map e)) l := .inr (.inl rfl)
theorem Lv.full (l : List α) : Lv e sz (.sl .full sz (l.map e)) l := .inr (.inr rfl)
/-- A list that can be read. -/
structure Rl (e : α → PV) (sz : Nat) (b : PV) (l : List α) : Prop where
  len : lenB false b = some (.int .i64 l.length)
  idx : ∀ {k : IntKind} {i : Nat} {a : α}, l[i]? = some a → idxAB b (.int k i) sz = some (.ep (e a).cells 0)
  elems : ∀ h, Go.Am.elems h b = some (l.map e)
theorem rl_sl (o : Own) (l : List α) : Rl e sz (.sl o sz (l.map e)) l := by
  refine ⟨by rw [lenB_sl, List.length_map], fun {k i a} hc => ?_, fun h => rfl⟩
  have hi := (List.getElem?_eq_some_iff.1 hc).1
  rw [idxAB_sl, if_pos rfl, ix_nat k i _ (by rw [List.length_map]; exact hi), Option.bnd_some, List.getElem?_map, hc]; rfl
theorem rl_nils : Rl e sz .nils [] := ⟨rfl, fun {k i a} hc => by simp at hc, fun h => rfl⟩
section
variable {b : PV} {l : List α} (hb : Lv e sz b l)
include hb
theorem Lv.rl : Rl e sz b l := by
  rcases hb with ⟨rfl, rfl⟩ | rfl | rfl
  · exact rl_nils
  · exact rl_sl _ _
  · exact rl_sl _ _
theorem Lv.len : lenB false b = some (.int .i64 l.length) := hb.rl.len
theorem Lv.idx {k : IntKind} {i : Nat} {a : α} (ha : l[i]? = some a) : idxAB b (.int k i) sz = some (.ep (e a).cells 0) := hb.rl.idx ha
theorem Lv.elems (h : Hp) : Go.Am.elems h b = some (l.map e) := hb.rl.elems h
theorem Lv.scalar : Go.Am.scalar b = true := by rcases hb with ⟨rfl, rfl⟩ | rfl | rfl <;> rfl
theorem Lv.frz (n : Nat) (h : Hp) : Go.Am.frz n h b = some b := by rcases hb with ⟨rfl, rfl⟩ | rfl | rfl <;> rfl
theorem Lv.strip : Go.Am.strip b = b := by rcases hb with ⟨rfl, rfl⟩ | rfl | rfl <;> rfl
theorem Lv.cells : b.cells = [b] := by rcases hb with ⟨rfl, rfl⟩ | rfl | rfl <;> rfl
theorem Lv.below (he : El e sz) (n : Nat) : Go.Am.below n b = true := by
  rcases hb with ⟨rfl, rfl⟩ | rfl | rfl
  · rfl
  · rw [below_sl, he.belows]; rfl
  · rw [below_sl, he.belows]; rfl
end
theorem gV_rl {z : PV} (hz : gZ sz z) (h : Hp) (l : List α) : Rl e sz (gV h z sz (l.map e)) l := by
  cases l with
  | nil =>
    rcases hz with rfl | rfl
    · exact rl_nils
    · exact rl_sl .full []
  | cons x l => exact rl_sl _ (x :: l)
theorem Lv.done {z : PV} (hz : gZ sz z) (l : List α) : Lv e sz (gD z sz (l.map e)) l := by
  unfold gD
  cases l with
  | nil =>
    rcases hz with rfl | rfl
    · exact .inl ⟨rfl, rfl⟩
    · exact .inr (.inr rfl)
  | cons x xs => exact .inr (.inl rfl)
theorem gOneL {h : Hp} {T : Nat} {z : PV} (he : El e sz) (hz : gZ sz z) (l : List α) (a : α) (hl : l.length + 1 ≤ lim2) :
    growT (gH h T (l.map e)) T sz (gV h z sz (l.map e)) [e a] = some (gV h z sz ((l ++ [a]).map e), gH h T ((l ++ [a]).map e)) := by
  have := gGrow (h := h) (T := T) hz (l.map e) ([a].map e) (he.fits [a]) (he.strips [a]) (by simpa using hl)
  rw [← List.map_append] at this
  exact this
theorem gAllL {h : Hp} {T : Nat} {z : PV} (he : El e sz) (hz : gZ sz z) (l m : List α) (hl : l.length + m.length ≤ lim2) :
    growT (gH h T (l.map e)) T sz (gV h z sz (l.map e)) (m.map e) = some (gV h z sz ((l ++ m).map e), gH h T ((l ++ m).map e)) := by
  have := gGrow (h := h) (T := T) hz (l.map e) (m.map e) (he.fits m) (he.strips m) (by simpa using hl)
  rw [← List.map_append] at this
  exact this
end
theorem beq_false' {a b : Int} (h : a ≠ b) : (a == b) = false := by simpa using h
theorem bne_true' {a b : Int} (h : a ≠ b) : (a != b) = true := by simpa using h
theorem u8_beq (x y : UInt8) : ((x.toNat : Int) == (y.toNat : Int)) = (x == y) := by
  by_cases h : x = y
  · subst h; simp
  · have h1 : (x == y) = false := by simpa using h
    rw [h1, beq_eq_false_iff_ne]
    intro q
    exact h (UInt8.toNat_inj.1 (by omega))
theorem u8_bne (x y : UInt8) : ((x.toNat : Int) != (y.toNat : Int)) = (x != y) := by
  show (!((x.toNat : Int) == (y.toNat : Int))) = _
  rw [u8_beq]; rfl
theorem tmodN (a b : Nat) : (a : Int).tmod (b : Int) = ((a % b : Nat) : Int) := (Int.ofNat_tmod a b).symm
theorem trunc_ext_ge {k : Hp} (l : List Box) {n : Nat} (hn : n ≤ size k) : trunc (ext k l) n = trunc k n := by
  simp only [trunc, ext, size] at *
  exact List.take_append_of_le_length hn
end Go.Am
namespace Go.Am
set_option linter.unusedSimpArgs false
set_option linter.unusedVariables false
set_option maxRecDepth 100000
open Go.Lib
theorem ofNat_toNatB (u : Nat) (h : u < 256) : (UInt8.ofNat u).toNat = u := by simp [Nat.mod_eq_of_lt h]
theorem digits_ne (u : Nat) : decDigits u ≠ [] := by
  intro h
  have := congrArg List.length h
  rw [decDigits_length] at this
  have := nDigits_pos u
  simp at *
  omega
theorem digits_mem (u : Nat) : ∀ c ∈ decDigits u, 48 ≤ c.toNat ∧ c.toNat ≤ 57 := by
  induction u using Nat.strongRecOn with
  | _ u ih =>
    intro c hc
    by_cases h : u < 10
    · rw [decDigits, dif_pos h] at hc
      rw [List.mem_singleton] at hc
      subst hc
      rw [ofNat_toNatB _ (by omega)]; omega
    · rw [decDigits, dif_neg h] at hc
      simp only [List.mem_append, List.mem_singleton] at hc
      rcases hc with hc | rfl
      · exact ih _ (by omega) c hc
      · rw [ofNat_toNatB _ (by omega)]; omega
theorem digits_head (u : Nat) : ∃ c r, decDigits u = c :: r ∧ (c.toNat = 48 ↔ u = 0) := by
  induction u using Nat.strongRecOn with
  | _ u ih =>
    by_cases h : u < 10
    · rw [decDigits, dif_pos h]
      exact ⟨_, _, rfl, by rw [ofNat_toNatB _ (by omega)]; omega⟩
    · obtain ⟨c, r, h1, h2⟩ := ih (u / 10) (by omega)
      rw [decDigits, dif_neg h, h1]
      exact ⟨c, _, rfl, by rw [h2]; omega⟩
def digs : List UInt8 → Nat → Option Nat
  | [], u => some u
  | c :: r, u => if c.toNat < 48 ∨ 57 < c.toNat then none else digs r (u * 10 + (c.toNat - 48))
theorem digs_app : ∀ (a b : List UInt8) (u : Nat), digs (a ++ b) u = match digs a u with | none => none | some w => digs b w
  | [], b, u => rfl
  | c :: a, b, u => by
    simp only [List.cons_append, digs]
    split
    · rfl
    · exact digs_app a b _
theorem digs_dec (u : Nat) : digs (decDigits u) 0 = some u := by
  induction u using Nat.strongRecOn with
  | _ u ih =>
    by_cases h : u < 10
    · rw [decDigits, dif_pos h]
      simp only [digs]
      rw [ofNat_toNatB _ (by omega), if_neg (by omega)]
      congr 1; omega
    · rw [decDigits, dif_neg h, digs_app, ih (u / 10) (by omega)]
      simp only [digs]
      rw [ofNat_toNatB _ (by omega), if_neg (by omega)]
      congr 1; omega
theorem dec_len (k : Nat) : ∀ u : Nat, 1 ≤ k → u < 10 ^ k → (decDigits u).length ≤ k := by
  induction k with
  | zero => intro u hk; omega
  | succ k ih =>
    intro u hk hu
    by_cases h : u < 10
    · rw [decDigits, dif_pos h]; simp
    · rw [decDigits, dif_neg h, List.length_append, List.length_singleton]
      have : 1 ≤ k := by
        cases k with
        | zero => simp at hu; omega
        | succ k => omega
      have := ih (u / 10) this (by rw [Nat.pow_succ] at hu; omega)
      omega
theorem canon : ∀ (n : Nat) (d : List UInt8) (u : Nat), d.length = n → digs d 0 = some u → d ≠ [] → (d.head? ≠ some 48 ∨ d.length = 1) → decDigits u = d := by
  intro n
  induction n with
  | zero => intro d u hn _ hd; exact (hd (List.length_eq_zero_iff.1 hn)).elim
  | succ n ih =>
    intro d u hn hu hd hh
    have hdc : d = d.dropLast ++ [d.getLast hd] := (List.dropLast_concat_getLast hd).symm
    generalize d.getLast hd = c at hdc
    generalize hd' : d.dropLast = d' at hdc
    have hl : d'.length = n := by rw [← hd', List.length_dropLast]; omega
    rw [hdc, digs_app] at hu
    by_cases he : d' = []
    · subst he
      simp only [digs] at hu
      split at hu
      · cases hu
      rename_i hc
      cases hu
      have hc2 := c.toNat_lt
      rw [decDigits, dif_pos (by omega), hdc, List.nil_append]
      congr 1
      apply UInt8.toNat_inj.1
      rw [ofNat_toNatB _ (by omega)]; omega
    · have hne : n ≠ 0 := by rintro rfl; exact he (List.length_eq_zero_iff.1 hl)
      have hh' : d'.head? ≠ some 48 := by
        have := hh.resolve_right (by omega)
        rw [hdc] at this
        cases d' with
        | nil => exact (he rfl).elim
        | cons x r => simpa using this
      cases hw : digs d' 0 with
      | none => rw [hw] at hu; cases hu
      | some w =>
        rw [hw] at hu
        simp only [digs] at hu
        split at hu
        · cases hu
        rename_i hc
        have hw' := ih d' w hl hw he (.inl hh')
        have hc2 := c.toNat_lt
        have hw0 : w ≠ 0 := by
          rintro rfl
          rw [decDigits, dif_pos (by omega)] at hw'
          rw [← hw'] at hh'
          exact hh' rfl
        cases hu
        rw [decDigits, dif_neg (by omega), hdc]
        have e1 : (w * 10 + (c.toNat - 48)) / 10 = w := by omega
        have e2 : (w * 10 + (c.toNat - 48)) % 10 = c.toNat - 48 := by omega
        rw [e1, e2, hw']
        congr 2
        apply UInt8.toNat_inj.1
        rw [ofNat_toNatB _ (by omega)]; omega
theorem itoa_nat (u : Nat) : itoa (u : Int) = decDigits u := by
  unfold itoa
  rw [if_neg (by omega)]
  congr 1
end Go.Am
namespace Go.Am.YtdnbedldmkagmaaDoor
set_option maxRecDepth 100000
set_option linter.unusedSimpArgs false
set_option linter.unusedVariables false
open Go.Lib (decDigits itoa)
abbrev i64 (n : Int) : PV := .int .i64 n
def in64 (n : Int) : Prop := -9223372036854775808 ≤ n ∧ n ≤ 9223372036854775807
theorem itoa_spec {base : Nat} {h : Hp} (n : Int) (hn : in64 n) : CallA T base 39 [i64 n] h = some (.str (itoa n), h) := by
  rw [CallA_prim T_39]
  unfold in64 at hn
  simp [pItoa, hn, primEnd, Option.bnd]
theorem puint (u : Nat) : ∀ (r : List UInt8), u < 18446744073709551616 → Lib.parseUint10 0 (decDigits u ++ r) = Lib.parseUint10 u r := by
  induction u using Nat.strongRecOn with
  | _ u ih =>
    intro r hu
    by_cases h : u < 10
    · rw [decDigits, dif_pos h, List.singleton_append, Lib.parseUint10, ofNat_toNatB _ (by omega)]
      rw [if_pos (by omega), if_neg (by omega), if_neg (by omega)]
      congr 1; omega
    · rw [decDigits, dif_neg h, List.append_assoc, ih (u / 10) (by omega) _ (by omega), List.singleton_append, Lib.parseUint10, ofNat_toNatB _ (by omega)]
      rw [if_pos (by omega), if_neg (by omega), if_neg (by omega)]
      congr 1; omega
theorem atoi_dec {u : Nat} (hu : u ≤ 9223372036854775807) : Lib.atoiAll (decDigits u) = .ok (u : Int) := by
  obtain ⟨c, r, h1, _⟩ := digits_head u
  have hm := digits_mem u c (by rw [h1]; simp)
  have hp := puint u [] (by omega)
  rw [List.append_nil] at hp
  have hmag : Lib.parseMag (decDigits u) = .ok u := by
    unfold Lib.parseMag
    rw [if_neg (digits_ne u), hp]; rfl
  rw [h1] at hmag ⊢
  unfold Lib.atoiAll
  simp only
  rw [if_neg (by omega), hmag]
  simp only
  rw [if_neg (by omega), if_neg (by omega), if_neg (by omega)]
theorem atoi_in {s : List UInt8} {v : Int} (h : Lib.atoiAll s = .ok v) : in64 v := by
  unfold Lib.atoiAll at h
  unfold in64
  split at h
  · cases h
  · simp only at h
    split at h
    · cases h
    · cases h
    · rename_i u hu
      have := Lib.parseMag_lt hu
      split at h
      · cases h
      · split at h
        · cases h
        · simp only [Go.Lib.NumEnd.ok.injEq] at h
          subst h
          split <;> omega
/-- The number of a text, up to a bound. -/
def numN (s : List UInt8) (most : Nat) : Option Nat := if s = [] ∨ 10 < s.length ∨ (1 < s.length ∧ s.head? = some 48) then none else match digs s 0 with
  | none => none
  | some u => if most < u then none else some u
theorem numN_iff {s : List UInt8} {most u : Nat} (hm : most < 10000000000) : numN s most = some u ↔ u ≤ most ∧ decDigits u = s := by
  unfold numN
  constructor
  · intro h
    split at h
    · cases h
    rename_i hc
    split at h
    · cases h
    rename_i w hw
    split at h
    · cases h
    rename_i hb
    cases h
    refine ⟨by omega, canon s.length s u rfl hw (fun q => hc (.inl q)) ?_⟩
    by_cases hq : s.head? = some 48
    · right
      have h1 : ¬ 1 < s.length := fun q => hc (.inr (.inr ⟨q, hq⟩))
      have h2 : 0 < s.length := List.length_pos_iff.2 (fun q => hc (.inl q))
      omega
    · exact .inl hq
  · rintro ⟨h1, rfl⟩
    rw [if_neg]
    · rw [digs_dec]
      simp only
      rw [if_neg (by omega)]
    · rintro (h | h | ⟨h2, h3⟩)
      · exact digits_ne u h
      · have := dec_len 10 u (by omega) (by omega)
        omega
      · obtain ⟨c, r, h4, h5⟩ := digits_head u
        rw [h4] at h3
        simp only [List.head?_cons, Option.some.injEq] at h3
        have := h5.1 (by rw [h3]; rfl)
        subst this
        rw [decDigits, dif_pos (by omega)] at h2
        simp at h2
def atoV (s : List UInt8) : Int := match Lib.atoiAll s with
  | .ok v => v
  | .range => Lib.atoiSat s
  | _ => 0
theorem number_spec {base : Nat} {h : Hp} {s : List UInt8} (hs : s.length ≤ 281474976710656) {most : Nat} (hm : most < 10000000000) :
    CallA T base 60 [.str s, i64 most] h = some (.tup [i64 (atoV s), .bool (numN s most).isSome], h) := by
  unfold atoV
  have hA : ∀ base h, CallA T base 66 [.str s] h = some ((match Lib.atoiAll s with | .ok v => PV.tup [.int .i64 v, .nilif] | .range => .tup [.int .i64 (Lib.atoiSat s), .iface 120 .undef] | _ => .tup [.int .i64 0, .iface 120 .undef]), h) := by
    intro base h
    rw [CallA_prim T_66]
    simp only [pAtoi, hs, if_true]
    cases Lib.atoiAll s <;> rfl
  have hnone : (∀ v, Lib.atoiAll s ≠ .ok v) → numN s most = none := by
    intro hq
    cases hn : numN s most with
    | none => rfl
    | some u =>
      obtain ⟨h1, rfl⟩ := (numN_iff hm).1 hn
      exact (hq _ (atoi_dec (by omega))).elim
  cases hq : Lib.atoiAll s with
  | ok v =>
    rw [hq] at hA
    have hv := atoi_in hq
    have hI : ∀ base h, _ := fun base h => itoa_spec (base := base) (h := h) v hv
    rw [S60]
    simp only at hA
    by_cases h1 : v ≥ 0
    · by_cases h2 : v ≤ (most : Int)
      · cases h3 : (itoa v == s)
        · have : numN s most = none := by
            cases hn : numN s most with
            | none => rfl
            | some u =>
              obtain ⟨k1, k2⟩ := (numN_iff hm).1 hn
              rw [← k2, atoi_dec (by omega)] at hq
              cases hq
              rw [itoa_nat, k2] at h3
              simp at h3
          simp only [hA, hI, h1, h2, h3, this, Option.isSome_none, ↓evD, evU, evL, Nat.reduceAdd, Nat.reduceSub, Nat.reduceMul, Nat.reduceLeDiff, Nat.reduceLT, Nat.reduceEqDiff, Nat.reduceBEq, reduceIte, reduceCtorEq, Int.reduceBEq, Int.reduceEq, Int.reduceLT, Int.reduceLE, Int.reduceGT, Int.reduceGE, Int.reduceAdd, Int.reduceSub, Int.reduceNeg, Int.reduceBNe, ite_true, ite_false, if_true, if_false, implies_true, forall_const]
        · have : numN s most = some v.toNat := (numN_iff hm).2 ⟨by omega, by
            have : itoa v = s := by simpa using h3
            rw [← this, ← itoa_nat]; congr 1; omega⟩
          simp only [hA, hI, h1, h2, h3, this, Option.isSome_some, ↓evD, evU, evL, Nat.reduceAdd, Nat.reduceSub, Nat.reduceMul, Nat.reduceLeDiff, Nat.reduceLT, Nat.reduceEqDiff, Nat.reduceBEq, reduceIte, reduceCtorEq, Int.reduceBEq, Int.reduceEq, Int.reduceLT, Int.reduceLE, Int.reduceGT, Int.reduceGE, Int.reduceAdd, Int.reduceSub, Int.reduceNeg, Int.reduceBNe, ite_true, ite_false, if_true, if_false, implies_true, forall_const]
      · have : numN s most = none := by
          cases hn : numN s most with
          | none => rfl
          | some u =>
            obtain ⟨k1, k2⟩ := (numN_iff hm).1 hn
            rw [← k2, atoi_dec (by omega)] at hq
            cases hq
            omega
        simp only [hA, hI, h1, h2, this, Option.isSome_none, ↓evD, evU, evL, Nat.reduceAdd, Nat.reduceSub, Nat.reduceMul, Nat.reduceLeDiff, Nat.reduceLT, Nat.reduceEqDiff, Nat.reduceBEq, reduceIte, reduceCtorEq, Int.reduceBEq, Int.reduceEq, Int.reduceLT, Int.reduceLE, Int.reduceGT, Int.reduceGE, Int.reduceAdd, Int.reduceSub, Int.reduceNeg, Int.reduceBNe, ite_true, ite_false, if_true, if_false, implies_true, forall_const]
    · have : numN s most = none := by
        cases hn : numN s most with
        | none => rfl
        | some u =>
          obtain ⟨k1, k2⟩ := (numN_iff hm).1 hn
          rw [← k2, atoi_dec (by omega)] at hq
          cases hq
          omega
      simp only [hA, hI, h1, this, Option.isSome_none, ↓evD, evU, evL, Nat.reduceAdd, Nat.reduceSub, Nat.reduceMul, Nat.reduceLeDiff, Nat.reduceLT, Nat.reduceEqDiff, Nat.reduceBEq, reduceIte, reduceCtorEq, Int.reduceBEq, Int.reduceEq, Int.reduceLT, Int.reduceLE, Int.reduceGT, Int.reduceGE, Int.reduceAdd, Int.reduceSub, Int.reduceNeg, Int.reduceBNe, ite_true, ite_false, if_true, if_false, implies_true, forall_const]
  | range =>
    rw [hq] at hA
    have hn := hnone (by intro v; rw [hq]; simp)
    rw [S60]
    simp only at hA
    simp only [hA, hn, Option.isSome_none, ↓evD, evU, evL, Nat.reduceAdd, Nat.reduceSub, Nat.reduceMul, Nat.reduceLeDiff, Nat.reduceLT, Nat.reduceEqDiff, Nat.reduceBEq, reduceIte, reduceCtorEq, Int.reduceBEq, Int.reduceEq, Int.reduceLT, Int.reduceLE, Int.reduceGT, Int.reduceGE, Int.reduceAdd, Int.reduceSub, Int.reduceNeg, Int.reduceBNe, ite_true, ite_false, if_true, if_false, implies_true, forall_const]
  | _ =>
    rw [hq] at hA
    have hn := hnone (by intro v; rw [hq]; simp)
    rw [S60]
    simp only at hA
    simp only [hA, hn, Option.isSome_none, ↓evD, evU, evL, Nat.reduceAdd, Nat.reduceSub, Nat.reduceMul, Nat.reduceLeDiff, Nat.reduceLT, Nat.reduceEqDiff, Nat.reduceBEq, reduceIte, reduceCtorEq, Int.reduceBEq, Int.reduceEq, Int.reduceLT, Int.reduceLE, Int.reduceGT, Int.reduceGE, Int.reduceAdd, Int.reduceSub, Int.reduceNeg, Int.reduceBNe, ite_true, ite_false, if_true, if_false, implies_true, forall_const]
theorem atoV_of {s : List UInt8} {most u : Nat} (hm : most < 10000000000) (h : numN s most = some u) : atoV s = u := by
  obtain ⟨k1, rfl⟩ := (numN_iff hm).1 h
  unfold atoV
  rw [atoi_dec (by omega)]
/-- The reference's. -/
def numE (most : Nat) : Option Nat → Int × Bool
  | none => (0, false)
  | some u => if most < u then (0, false) else ((u : Int), true)
theorem sub_u8 {x : Nat} (h1 : 48 ≤ x) (h2 : x < 256) : IntKind.u8.wrap ((x : Int) - 48) = ((x - 48 : Nat) : Int) := by
  have : IntKind.u8.wrap ((x : Int) - 48) = ((x : Int) - 48) % 256 := rfl
  rw [this]; omega
end Go.Am.YtdnbedldmkagmaaDoor
namespace Go.Am
set_option linter.unusedVariables false

def rowV (P : Program) (e : TypeId) (r : List PV) : PV :=
  match P.underlying e with
  | some (.struct _) => .agg r
  | _ => r.headD .undef

/-- The cells of a value of a type made of bools, whole numbers, texts, structs and slices of such. -/
inductive Sh (P : Program) : TypeId → List PV → Prop where
  | bool {t} (b : Bool) (ht : P.underlying t = some .bool) : Sh P t [.bool b]
  | int {t} (k : IntKind) (n : Int) (ht : P.underlying t = some (.int k)) (hn : (Lit.int k n).wf = true) : Sh P t [.int k n]
  | str {t} (l : List UInt8) (ht : P.underlying t = some .string) (hl : l.length ≤ reachBytes) : Sh P t [.str l]
  | nils {t e} (ht : P.underlying t = some (.slice e)) : Sh P t [.nils]
  | sl {t e} (rows : List (List PV)) (ht : P.underlying t = some (.slice e)) (hr : ∀ r ∈ rows, Sh P e r) (hl : ∀ r ∈ rows, r.length = P.cellsOf e) (hn : rows.length ≤ maxLen) (hb : rows.length * P.bytesOf e ≤ reachBytes) : Sh P t [.sl .no (P.cellsOf e) (rows.map (rowV P e))]
  | struct {t} (fs : Array Field) (cs : List PV) (ht : P.underlying t = some (.struct fs)) (hn : cs.length = P.cellsOf t)
      (hf : ∀ (i : Nat) (f : Field), fs[i]? = some f → Sh P f.type ((cs.drop f.offset).take (P.cellsOf f.type))) : Sh P t cs

theorem Sh.row {P : Program} {e : TypeId} {r : List PV} (h : Sh P e r) : (rowV P e r).cells = r := by
  cases h with
  | bool b ht => simp [rowV, ht, PV.cells]
  | int k n ht => simp [rowV, ht, PV.cells]
  | str l ht => simp [rowV, ht, PV.cells]
  | nils ht => simp [rowV, ht, PV.cells]
  | sl rows ht => simp [rowV, ht, PV.cells]
  | struct fs cs ht => simp [rowV, ht, PV.cells]

/-- Do a struct's fields lie one behind the other? -/
def tiles (P : Program) : Nat → List Field → Nat → Bool
  | off, [], tot => off == tot
  | off, f :: r, tot => f.offset == off && tiles P (off + P.cellsOf f.type) r tot
theorem tiles_le {P : Program} : ∀ (fl : List Field) (off tot : Nat), tiles P off fl tot = true → off ≤ tot
  | [], off, tot, h => by simp [tiles] at h; omega
  | f :: r, off, tot, h => by
    simp only [tiles, Bool.and_eq_true] at h
    have := tiles_le r _ _ h.2
    omega
/-- Is a type made of these alone? -/
def plainT (P : Program) : Nat → TypeId → Bool
  | 0, _ => false
  | n + 1, t => match P.underlying t with
    | some .bool | some (.int _) | some .string => true
    | some (.slice e) => decide (0 < P.cellsOf e) && plainT P n e
    | some (.struct fs) => tiles P 0 fs.toList (P.cellsOf t) && fs.toList.all fun f => plainT P n f.type
    | _ => false

theorem exists_rows {α : Type} (Q : Nat → α → Prop) : ∀ n, (∀ i, i < n → ∃ r, Q i r) → ∃ rows : List α, rows.length = n ∧ ∀ (i : Nat) r, rows[i]? = some r → Q i r
  | 0, _ => ⟨[], rfl, fun i r h => by simp at h⟩
  | n + 1, h => by
    obtain ⟨rows, h1, h2⟩ := exists_rows Q n (fun i hi => h i (by omega))
    obtain ⟨r, hr⟩ := h n (by omega)
    refine ⟨rows ++ [r], by simp [h1], fun i r' hi => ?_⟩
    by_cases hin : i < n
    · rw [List.getElem?_append_left (by omega)] at hi; exact h2 i r' hi
    · have hlt := (List.getElem?_eq_some_iff.1 hi).1
      simp at hlt
      have : i = n := by omega
      subst this
      rw [List.getElem?_append_right (by omega), h1] at hi
      simp at hi
      subst hi
      exact hr

theorem cell_spot {w : World} {b o : Nat} {sp : Option Nat} {u : Value} (h : w.cell? ⟨b, o, sp⟩ = some u) : sp = none := by
  unfold World.cell? at h
  split at h
  · rename_i c _ _ hq
    cases sp with
    | none => rfl
    | some s => simp at h
  · cases h

theorem weights_all {H : Type} {P : Program} {e : TypeId} : ∀ {l : List (DataW H)} {d : DataW H}, d ∈ l → ∀ n ∈ d.weights P e, n ∈ DataW.weightsAll P e l
  | d0 :: l, d, hd, n, hn => by
    simp only [DataW.weightsAll, List.mem_append]
    simp only [List.mem_cons] at hd
    rcases hd with rfl | hd
    · exact .inl hn
    · exact .inr (weights_all hd n hn)
theorem open_fields {P : Program} {cs : List Value} {R : PV → Value → Prop} : ∀ (fl : List Field) (off : Nat), tiles P off fl cs.length = true →
    (∀ f ∈ fl, ∃ v : List PV, v.length = ((cs.drop f.offset).take (P.cellsOf f.type)).length ∧ (∀ (j : Nat) x, v[j]? = some x → ∃ u, ((cs.drop f.offset).take (P.cellsOf f.type))[j]? = some u ∧ R x u) ∧ Sh P f.type v) →
    ∃ vs : List PV, off + vs.length = cs.length ∧ (∀ (j : Nat) x, vs[j]? = some x → ∃ u, cs[off + j]? = some u ∧ R x u) ∧ ∀ f ∈ fl, off ≤ f.offset ∧ Sh P f.type ((vs.drop (f.offset - off)).take (P.cellsOf f.type))
  | [], off, ht, h => by
    simp [tiles] at ht
    exact ⟨[], by simp [ht], fun j x hx => by simp at hx, fun f hf => by simp at hf⟩
  | f :: fl, off, ht, h => by
    simp only [tiles, Bool.and_eq_true, beq_iff_eq] at ht
    obtain ⟨rfl, ht⟩ := ht
    have hle := tiles_le _ _ _ ht
    obtain ⟨v, h1, h2, h3⟩ := h f (by simp)
    have hv : v.length = P.cellsOf f.type := by rw [h1]; simp; omega
    obtain ⟨vs, q1, q2, q3⟩ := open_fields fl _ ht (fun f' hf' => h f' (by simp [hf']))
    refine ⟨v ++ vs, by simp; omega, fun j x hx => ?_, fun f' hf' => ?_⟩
    · by_cases hj : j < v.length
      · rw [List.getElem?_append_left hj] at hx
        obtain ⟨u, hu, hr⟩ := h2 j x hx
        refine ⟨u, ?_, hr⟩
        rw [List.getElem?_take, if_pos (by omega), List.getElem?_drop] at hu
        exact hu
      · rw [List.getElem?_append_right (by omega)] at hx
        obtain ⟨u, hu, hr⟩ := q2 _ x hx
        refine ⟨u, ?_, hr⟩
        rw [← hu]; congr 1; omega
    · simp only [List.mem_cons] at hf'
      rcases hf' with rfl | hf'
      · refine ⟨Nat.le_refl _, ?_⟩
        rw [Nat.sub_self, List.drop_zero, List.take_append_of_le_length (by omega), ← hv, List.take_length]
        exact h3
      · obtain ⟨r1, r2⟩ := q3 f' hf'
        refine ⟨by omega, ?_⟩
        rw [List.drop_append, List.drop_eq_nil_of_le (by omega), List.nil_append, show f'.offset - f.offset - v.length = f'.offset - (f.offset + P.cellsOf f.type) by omega]
        exact r2

theorem open_cells {H : Type} {enc : TypeId × Value → H} {P : Program} {w : World} {spare : Nat → Bool} {held : Bool} {g : G} : ∀ (n m : Nat) (t : TypeId) (cs : List Value) (x : DataW H × List MemPlace),
    DataW.trod enc P w 0 spare held n t cs = some x → plainT P m t = true → (∀ k ∈ x.1.weights P t, k ≤ reachBytes) →
    ∃ vs : List PV, vs.length = cs.length ∧ (∀ (j : Nat) v, vs[j]? = some v → ∃ u, cs[j]? = some u ∧ RV w.heap.size g w v u) ∧ Sh P t vs
  | 0, m, t, cs, x, h, hp, hwt => by simp [DataW.trod] at h
  | n + 1, 0, t, cs, x, h, hp, hwt => by simp [plainT] at hp
  | n + 1, m + 1, t, cs, x, h, hp, hwt => by
    rw [plainT] at hp
    split at hp
    · rename_i ht
      obtain ⟨b, rfl, _⟩ := DataW.trod_bool ht h
      refine ⟨[.bool b], rfl, fun j v hv => ?_, .bool b ht⟩
      cases j with
      | zero => simp at hv; subst hv; exact ⟨_, rfl, .bool b⟩
      | succ j => simp at hv
    · rename_i k ht
      obtain ⟨z, rfl, _, hwf⟩ := DataW.trod_int ht h
      refine ⟨[.int k z], rfl, fun j v hv => ?_, .int k z ht hwf⟩
      cases j with
      | zero => simp at hv; subst hv; exact ⟨_, rfl, .int k z⟩
      | succ j => simp at hv
    · rename_i ht
      obtain ⟨s, rfl, rfl, hs⟩ := DataW.trod_string ht h
      refine ⟨[.str s.data.toList], rfl, fun j v hv => ?_, .str _ ht (hwt _ (by simp [DataW.weights]))⟩
      cases j with
      | zero => simp at hv; subst hv; exact ⟨_, rfl, .str _ s rfl⟩
      | succ j => simp at hv
    · rename_i e ht
      simp only [Bool.and_eq_true, decide_eq_true_eq] at hp
      rcases DataW.trod_slice ht h with ⟨rfl, _⟩ | ⟨a, len, cap, elems, rest, n', hn', rfl, rfl, _, hlc, hcm, hel, helems, _, _⟩
      · refine ⟨[.nils], rfl, fun j v hv => ?_, .nils ht⟩
        cases j with
        | zero => simp at hv; subst hv; exact ⟨_, rfl, .nils⟩
        | succ j => simp at hv
      · obtain rfl : n' = n := by omega
        have hq : ∀ i, i < len → ∃ r : List PV, r.length = P.cellsOf e ∧ Sh P e r ∧ ∀ (j : Nat) v, r[j]? = some v → ∃ u, w.cell? ((a.add (i * P.cellsOf e)).add j) = some u ∧ RV w.heap.size g w v u := by
          intro i hi
          have hlt : i < elems.length := by omega
          have hei := helems i hi
          rw [List.getElem?_eq_getElem hlt, Option.bind_eq_some_iff] at hei
          obtain ⟨ci, hci, hti⟩ := hei
          obtain ⟨_, hlen, hcell⟩ := World.cells?_some hci
          obtain ⟨r, h1, h2, h3⟩ := open_cells n' m e ci _ hti hp.2 (fun k hk => hwt k (by
            simp only [DataW.weights, ht, List.mem_cons, List.mem_append]
            exact .inr (.inl (weights_all (List.mem_map.2 ⟨_, List.getElem_mem hlt, rfl⟩) k hk))))
          refine ⟨r, by rw [h1, hlen], h3, fun j v hv => ?_⟩
          obtain ⟨u, hu, hr⟩ := h2 j v hv
          have hj : j < P.cellsOf e := by rw [← hlen, ← h1]; exact (List.getElem?_eq_some_iff.1 hv).1
          exact ⟨u, by rw [hcell j hj]; exact hu, hr⟩
        obtain ⟨rows, hrl, hrq⟩ := exists_rows _ len hq
        have hmem : ∀ r ∈ rows, ∃ i, rows[i]? = some r := fun r hr => List.mem_iff_getElem?.1 hr
        have hcl : ∀ (i j : Nat) (r : List PV) (v : PV), rows[i]? = some r → r[j]? = some v → ∃ u, w.cell? ⟨a.block, a.off + (i * P.cellsOf e + j), none⟩ = some u ∧ RV w.heap.size g w v u := by
          intro i j r v hi hj
          obtain ⟨u, hu, hr⟩ := (hrq i r hi).2.2 j v hj
          refine ⟨u, ?_, hr⟩
          have hsp : (a.add (i * P.cellsOf e)).add j = ⟨a.block, a.off + (i * P.cellsOf e + j), ((a.add (i * P.cellsOf e)).add j).spot⟩ := by
            unfold Addr.add
            split <;> split <;> simp_all <;> omega
          rw [hsp] at hu
          have := cell_spot hu
          rw [this] at hu
          exact hu
        have hspot : rows ≠ [] → a.spot = none := by
          intro hne
          obtain ⟨r, hr0⟩ : ∃ r, rows[0]? = some r := by
            cases rows with
            | nil => exact (hne rfl).elim
            | cons r _ => exact ⟨r, rfl⟩
          obtain ⟨q1, _, q3⟩ := hrq 0 r hr0
          obtain ⟨v, hv⟩ : ∃ v, r[0]? = some v := ⟨_, List.getElem?_eq_getElem (by omega)⟩
          obtain ⟨u, hu, _⟩ := q3 0 v hv
          simp only [Nat.zero_mul, Addr.add, if_true] at hu
          exact cell_spot (b := a.block) (o := a.off) hu
        refine ⟨[.sl .no (P.cellsOf e) (rows.map (rowV P e))], rfl, fun j v hv => ?_, .sl rows ht (fun r hr => ?_) (fun r hr => ?_) (by omega) ?_⟩
        · cases j with
          | succ j => simp at hv
          | zero =>
            simp at hv
            subst hv
            refine ⟨_, rfl, ?_⟩
            have hrow : ∀ (i : Nat) (z : PV), (rows.map (rowV P e))[i]? = some z → ∃ r, rows[i]? = some r ∧ z.cells = r := by
              intro i z hz
              rw [List.getElem?_map, Option.map_eq_some_iff] at hz
              obtain ⟨r, hr, rfl⟩ := hz
              exact ⟨r, hr, (hrq i r hr).2.1.row⟩
            have := RV.sl (N0 := w.heap.size) (g := g) (w := w) .no (P.cellsOf e) (rows.map (rowV P e)) a.block a.off cap (fun i j => (w.cell? ⟨a.block, a.off + (i * P.cellsOf e + j), none⟩).getD Go.undef)
              (by simp; omega) (by simp) ?_ ?_ ?_ ?_ a.spot (fun hne => hspot (by simpa using hne)) (by simp)
            · simpa [hrl] using this
            · intro i z hz
              obtain ⟨r, hr, hc⟩ := hrow i z hz
              rw [hc]; exact (hrq i r hr).1
            · intro i j hi hj
              simp at hi
              obtain ⟨r, hr⟩ : ∃ r, rows[i]? = some r := ⟨_, List.getElem?_eq_getElem hi⟩
              obtain ⟨v, hv⟩ : ∃ v, r[j]? = some v := ⟨_, List.getElem?_eq_getElem (by rw [(hrq i r hr).1]; exact hj)⟩
              obtain ⟨u, hu, _⟩ := hcl i j r v hr hv
              rw [hu]; rfl
            · intro i j z y hz hy
              obtain ⟨r, hr, hc⟩ := hrow i z hz
              rw [hc] at hy
              obtain ⟨u, hu, hru⟩ := hcl i j r y hr hy
              rw [hu]; exact hru
            · intro hne
              refine .inl ?_
              obtain ⟨r, hr0⟩ : ∃ r, rows[0]? = some r := by
                cases rows with
                | nil => exact (hne rfl).elim
                | cons r _ => exact ⟨r, rfl⟩
              obtain ⟨v, hv⟩ : ∃ v, r[0]? = some v := ⟨_, List.getElem?_eq_getElem (by rw [(hrq 0 r hr0).1]; exact hp.1)⟩
              obtain ⟨u, hu, _⟩ := hcl 0 0 r v hr0 hv
              exact World.block_lt_of_cell? w ⟨a.block, _, none⟩ hu
        · obtain ⟨i, hi⟩ := hmem r hr; exact (hrq i r hi).2.1
        · obtain ⟨i, hi⟩ := hmem r hr; exact (hrq i r hi).1
        · have := hwt _ (by simp only [DataW.weights, ht]; exact List.mem_cons_self)
          simp only [List.length_map] at this
          refine Nat.le_trans (Nat.mul_le_mul_right _ ?_) this
          omega
    · rename_i fs ht
      simp only [Bool.and_eq_true, List.all_eq_true] at hp
      obtain ⟨xs, n', hn', rfl, hlen, hxl, hx⟩ := DataW.trod_struct ht h
      obtain rfl : n' = n := by omega
      obtain ⟨vs, q1, q2, q3⟩ := open_fields (P := P) (cs := cs) (R := fun v u => RV w.heap.size g w v u) fs.toList 0 (by rw [hlen]; exact hp.1) (fun f hf => by
        obtain ⟨i, hi⟩ := List.mem_iff_getElem?.1 hf
        have hi' : fs[i]? = some f := by simpa using hi
        have hlt : i < xs.length := by rw [hxl]; exact (Array.getElem?_eq_some_iff.1 hi').1
        have := hx i f hi'
        rw [List.getElem?_eq_getElem hlt] at this
        exact open_cells n' m f.type _ _ this (hp.2 f hf) fun k hk => hwt k (by
          simp only [DataW.weights, ht]
          exact DataW.weights_mem_each (j := i) (t := f.type) (d := xs[i].1) (by rw [List.getElem?_map, hi]; rfl) (by rw [List.getElem?_map, List.getElem?_eq_getElem hlt]; rfl) k hk))
      refine ⟨vs, by omega, fun j v hv => by simpa using q2 j v hv, .struct fs vs ht (by omega) fun i f hf => ?_⟩
      have := (q3 f (List.mem_iff_getElem?.2 ⟨i, by simpa using hf⟩)).2
      simpa using this
    · cases hp

/-- An argument of one cell. -/
theorem open_arg {H : Type} {enc : TypeId × Value → H} {P : Program} {w : World} {spare : Nat → Bool} {held : Bool} {g : G} {t : TypeId} {v : Value} {d : DataW H} {ps : List MemPlace}
    (h : DataW.Trod enc P w 0 spare held t v d ps) (hv : v.cells.toList = [v]) (m : Nat) (hp : plainT P m t = true) (hwt : ∀ k ∈ d.weights P t, k ≤ reachBytes) : ∃ x, RV w.heap.size g w x v ∧ Sh P t [x] := by
  obtain ⟨fuel, h⟩ := h
  obtain ⟨vs, h1, h2, h3⟩ := open_cells (g := g) fuel m t _ _ h hp hwt
  rw [hv] at h1 h2
  cases vs with
  | nil => simp at h1
  | cons x r =>
    cases r with
    | cons y r => simp at h1
    | nil =>
      obtain ⟨u, hu, hr⟩ := h2 0 x rfl
      simp at hu
      subst hu
      exact ⟨x, hr, h3⟩

section
variable {P : Program} {t : TypeId} {cs : List PV}
theorem Sh.inv_bool (ht : P.underlying t = some .bool) (h : Sh P t cs) : ∃ b, cs = [.bool b] := by
  cases h with
  | bool b => exact ⟨b, rfl⟩
  | int k n h => rw [ht] at h; cases h
  | str l h => rw [ht] at h; cases h
  | nils h => rw [ht] at h; cases h
  | sl rows h => rw [ht] at h; cases h
  | struct fs cs h => rw [ht] at h; cases h
theorem Sh.inv_int {k : IntKind} (ht : P.underlying t = some (.int k)) (h : Sh P t cs) : ∃ n, cs = [.int k n] ∧ (Lit.int k n).wf = true := by
  cases h with
  | bool b h => rw [ht] at h; cases h
  | int k' n h hn => rw [ht] at h; cases h; exact ⟨n, rfl, hn⟩
  | str l h => rw [ht] at h; cases h
  | nils h => rw [ht] at h; cases h
  | sl rows h => rw [ht] at h; cases h
  | struct fs cs h => rw [ht] at h; cases h
theorem Sh.inv_str (ht : P.underlying t = some .string) (h : Sh P t cs) : ∃ l, cs = [.str l] ∧ l.length ≤ reachBytes := by
  cases h with
  | bool b h => rw [ht] at h; cases h
  | int k n h => rw [ht] at h; cases h
  | str l h hl => exact ⟨l, rfl, hl⟩
  | nils h => rw [ht] at h; cases h
  | sl rows h => rw [ht] at h; cases h
  | struct fs cs h => rw [ht] at h; cases h
theorem Sh.inv_slice {e : TypeId} (ht : P.underlying t = some (.slice e)) (h : Sh P t cs) :
    cs = [.nils] ∨ ∃ rows : List (List PV), cs = [.sl .no (P.cellsOf e) (rows.map (rowV P e))] ∧ (∀ r ∈ rows, Sh P e r ∧ r.length = P.cellsOf e) ∧ rows.length ≤ maxLen ∧ rows.length * P.bytesOf e ≤ reachBytes := by
  cases h with
  | bool b h => rw [ht] at h; cases h
  | int k n h => rw [ht] at h; cases h
  | str l h => rw [ht] at h; cases h
  | nils h => exact .inl rfl
  | sl rows h hr hl hn hb => rw [ht] at h; cases h; exact .inr ⟨rows, rfl, fun r hm => ⟨hr r hm, hl r hm⟩, hn, hb⟩
  | struct fs cs h => rw [ht] at h; cases h
theorem Sh.inv_struct {fs : Array Field} (ht : P.underlying t = some (.struct fs)) (h : Sh P t cs) :
    cs.length = P.cellsOf t ∧ ∀ (i : Nat) (f : Field), fs[i]? = some f → Sh P f.type ((cs.drop f.offset).take (P.cellsOf f.type)) := by
  cases h with
  | bool b h => rw [ht] at h; cases h
  | int k n h => rw [ht] at h; cases h
  | str l h => rw [ht] at h; cases h
  | nils h => rw [ht] at h; cases h
  | sl rows h => rw [ht] at h; cases h
  | struct fs' cs h hn hf => rw [ht] at h; cases h; exact ⟨hn, hf⟩
theorem rowV_struct {fs : Array Field} (ht : P.underlying t = some (.struct fs)) (r : List PV) : rowV P t r = .agg r := by simp [rowV, ht]
theorem rowV_str (ht : P.underlying t = some .string) (r : List PV) : rowV P t r = r.headD .undef := by simp [rowV, ht]
theorem rowV_int {k : IntKind} (ht : P.underlying t = some (.int k)) (r : List PV) : rowV P t r = r.headD .undef := by simp [rowV, ht]
/-- All of a list come of values: the values. -/
theorem exists_map {α β : Type} (f : α → β) (Q : α → Prop) : ∀ l : List β, (∀ x ∈ l, ∃ a, x = f a ∧ Q a) → ∃ qs : List α, l = qs.map f ∧ ∀ a ∈ qs, Q a
  | [], _ => ⟨[], rfl, fun a h => by simp at h⟩
  | x :: l, h => by
    obtain ⟨qs, rfl, h2⟩ := exists_map f Q l (fun y hy => h y (by simp [hy]))
    obtain ⟨a, rfl, ha⟩ := h x (by simp)
    exact ⟨a :: qs, rfl, fun b hb => by
      simp at hb
      rcases hb with rfl | hb
      · exact ha
      · exact h2 b hb⟩
end
end Go.Am
namespace Go.Am
set_option linter.unusedVariables false
theorem open_struct {H : Type} {enc : TypeId × Value → H} {P : Program} {w : World} {spare : Nat → Bool} {held : Bool} {g : G} {t : TypeId} {u : Array Value} {d : DataW H} {ps : List MemPlace}
    (h : DataW.Trod enc P w 0 spare held t (.agg u) d ps) (m : Nat) (hp : plainT P m t = true) (hwt : ∀ k ∈ d.weights P t, k ≤ reachBytes) : ∃ x, RV w.heap.size g w (.agg x) (.agg u) ∧ Sh P t x := by
  obtain ⟨fuel, h⟩ := h
  obtain ⟨vs, h1, h2, h3⟩ := open_cells (g := g) fuel m t _ _ h hp hwt
  have hu : (Value.agg u).cells.toList = u.toList := rfl
  rw [hu] at h1 h2
  refine ⟨vs, .agg vs u (by simpa using h1.symm) fun j x hx => ?_, h3⟩
  obtain ⟨y, hy, hr⟩ := h2 j x hx
  have : u.getD j Go.undef = y := by
    rw [Array.getElem?_toList] at hy
    simp [Array.getD_eq_getD_getElem?, hy]
  rw [this]; exact hr
/-- Bytes. -/
theorem Sh.bytes {P : Program} {t e : TypeId} {x : PV} (ht : P.underlying t = some (.slice e)) (he : P.underlying e = some (.int .u8)) (hc : P.cellsOf e = 1) (h : Sh P t [x]) : ∃ l, Bv x l ∧ l.length ≤ maxLen := by
  rcases h.inv_slice ht with hq | ⟨rows, hq, hr, hn, hb⟩
  · cases hq; exact ⟨[], .nils, by simp⟩
  · cases hq
    obtain ⟨l, hl⟩ : ∃ l : List UInt8, rows.map (rowV P e) = u8s l ∧ l.length = rows.length := by
      clear hn hb h
      induction rows with
      | nil => exact ⟨[], rfl, rfl⟩
      | cons r rows ih =>
        obtain ⟨l, hl, hl2⟩ := ih fun q hq => hr q (List.mem_cons_of_mem _ hq)
        obtain ⟨n, rfl, hw⟩ := (hr r (List.mem_cons_self ..)).1.inv_int he
        have hm : IntKind.u8.min = 0 := rfl
        have hM : IntKind.u8.max = 255 := rfl
        simp only [Lit.wf, hm, hM, Bool.and_eq_true, decide_eq_true_eq] at hw
        refine ⟨UInt8.ofNat n.toNat :: l, ?_, by simp [hl2]⟩
        rw [List.map_cons, hl, rowV_int he]
        show _ :: _ = PV.int .u8 ((UInt8.ofNat n.toNat).toNat : Int) :: u8s l
        have hv : ((UInt8.ofNat n.toNat).toNat : Int) = n := by rw [UInt8.toNat_ofNat']; omega
        rw [hv]; rfl
    rw [hc, hl.1]
    exact ⟨l, .no l, by rw [hl.2]; exact hn⟩
theorem len1_of {α : Type} : ∀ {l : List α}, l.length = 1 → ∃ a, l = [a]
  | [a], _ => ⟨a, rfl⟩
theorem len2_of {α : Type} : ∀ {l : List α}, l.length = 2 → ∃ a b, l = [a, b]
  | [a, b], _ => ⟨a, b, rfl⟩
theorem len3_of {α : Type} : ∀ {l : List α}, l.length = 3 → ∃ a b c, l = [a, b, c]
  | [a, b, c], _ => ⟨a, b, c, rfl⟩
theorem len4_of {α : Type} : ∀ {l : List α}, l.length = 4 → ∃ a b c d, l = [a, b, c, d]
  | [a, b, c, d], _ => ⟨a, b, c, d, rfl⟩
theorem len5_of {α : Type} : ∀ {l : List α}, l.length = 5 → ∃ a b c d e, l = [a, b, c, d, e]
  | [a, b, c, d, e], _ => ⟨a, b, c, d, e, rfl⟩
theorem len6_of {α : Type} : ∀ {l : List α}, l.length = 6 → ∃ a b c d e f, l = [a, b, c, d, e, f]
  | [a, b, c, d, e, f], _ => ⟨a, b, c, d, e, f, rfl⟩
end Go.Am
namespace Go.Am
theorem Sh.lst {α : Type} {P : Program} {t e : TypeId} {x : PV} {el : α → PV} {Q : α → Prop} (ht : P.underlying t = some (.slice e)) (hE : ∀ r, Sh P e r → ∃ a, rowV P e r = el a ∧ Q a) (h : Sh P t [x]) :
    ∃ l, Lv el (P.cellsOf e) x l ∧ l.length ≤ maxLen ∧ ∀ a ∈ l, Q a := by
  rcases h.inv_slice ht with hq | ⟨rows, hq, hr, hn, hb⟩
  · cases hq; exact ⟨[], .nils, by simp, by simp⟩
  · cases hq
    obtain ⟨l, hl, hl2, hl3⟩ : ∃ l : List α, rows.map (rowV P e) = l.map el ∧ l.length = rows.length ∧ ∀ a ∈ l, Q a := by
      clear hn hb h
      induction rows with
      | nil => exact ⟨[], rfl, rfl, by simp⟩
      | cons r rows ih =>
        obtain ⟨l, hl, hl2, hl3⟩ := ih fun q hq => hr q (List.mem_cons_of_mem _ hq)
        obtain ⟨a, ha, hQ⟩ := hE r (hr r (List.mem_cons_self ..)).1
        refine ⟨a :: l, ?_, by simp [hl2], ?_⟩
        · rw [List.map_cons, hl, ha]; rfl
        · intro b hb
          rcases List.mem_cons.1 hb with rfl | hb
          · exact hQ
          · exact hl3 b hb
    rw [hl]
    exact ⟨l, .no l, by rw [hl2]; exact hn, hl3⟩
end Go.Am
namespace Go.Am.YtdnbedldmkagmaaDoor
open Go.RowKit (Below)
set_option linter.unusedSimpArgs false
set_option linter.unusedVariables false
open Go.Proofs
theorem gl_ok (N0 : Nat) (w0 : World) : GlobOk gl N0 w0 := fun n cs h => by simp [gl, glob] at h
theorem in64_of {n : Int} (h : (Lit.int IntKind.i64 n).wf = true) : in64 n := by
  have h1 : IntKind.i64.min = -9223372036854775808 := rfl
  have h2 : IntKind.i64.max = 9223372036854775807 := rfl
  unfold in64
  simp [Lit.wf, h1, h2] at h
  omega
theorem ints_arg {x : PV} (h : Sh Tryd.prog 32 [x]) : ∃ l, Lv eI 1 x l ∧ l.length ≤ maxLen ∧ ∀ n ∈ l, in64 n := by
  have hc : Tryd.prog.cellsOf 3 = 1 := by kernel_rfl
  have := h.lst (el := eI) (Q := in64) Tryd.underlying32 (fun r hr => by
    obtain ⟨n, rfl, hw⟩ := hr.inv_int Tryd.underlying3
    exact ⟨n, rowV_int Tryd.underlying3 _, in64_of hw⟩)
  rw [hc] at this
  exact this
end Go.Am.YtdnbedldmkagmaaDoor
namespace Go.Am.YtdnbedldmkagmaaDoor
set_option maxRecDepth 100000
set_option linter.unusedSimpArgs false
set_option linter.unusedVariables false
/-- A heap with a builder on top that holds a text. -/
def bld (h : Hp) (out : List UInt8) : Hp := if out = [] then ext h [.cells [.bnil 58, .nils]] else ext h [.cells [.ptr (size h) 0, .sl (.tok (size h + 1)) 1 (u8s out)], .tok out.length 5]
theorem trunc_bld (h : Hp) (out : List UInt8) : trunc (bld h out) (size h) = h := by
  unfold bld
  split <;> exact trunc_ext
theorem growT_tok {h : Hp} {T' t : Nat} {l m : List UInt8} (ht : getTok h t = some (l.length, T')) (hl : l.length + m.length ≤ lim2) :
    growT h T' 1 (.sl (.tok t) 1 (u8s l)) (u8s m) = some (.sl (.tok t) 1 (u8s (l ++ m)), setBx h t (.tok (l.length + m.length) T')) := by
  unfold growT
  rw [if_pos (Bu.fits m)]
  simp only [ht, Option.bnd_some, Bu.len, Bu.strips, Bu.append]
  rw [if_pos ⟨trivial, trivial, hl⟩]
theorem growT_new {h : Hp} {T' : Nat} {m : List UInt8} (hm : m ≠ []) (hl : m.length ≤ lim2) :
    growT h T' 1 .nils (u8s m) = some (.sl (.tok (size h)) 1 (u8s m), ext h [.tok m.length T']) := by
  unfold growT
  rw [if_pos (Bu.fits m)]
  simp only [Bu.len, Bu.strips]
  rw [if_pos hl]
  have : (u8s m).isEmpty = false := by cases m <;> simp_all [u8s]
  rw [this]; rfl
theorem check_new {h : Hp} {base : Nat} (hb : base ≤ size h) : CallA T base 42 [.ptr (size h) 0] (ext h [.cells [.bnil 58, .nils]]) = some (.tup [], ext h [.cells [.ptr (size h) 0, .nils]]) := by
  have hlt : ¬ size h < base := by omega
  rw [CallA_prim T_42]
  simp only [pCopyCheck, primEnd, hlt, Option.isSome_some, ↓evD, evU, evL, Nat.reduceAdd, Nat.reduceSub, Nat.reduceMul, Nat.reduceLeDiff, Nat.reduceLT, Nat.reduceEqDiff, Nat.reduceBEq, reduceIte, reduceCtorEq, Int.reduceBEq, Int.reduceEq, Int.reduceLT, Int.reduceLE, Int.reduceGT, Int.reduceGE, Int.reduceAdd, Int.reduceSub, Int.reduceNeg, Int.reduceBNe, ite_true, ite_false, if_true, if_false, implies_true, forall_const]
theorem check_old {h : Hp} {base : Nat} (hb : base ≤ size h) (v : PV) (l : List Box) : CallA T base 42 [.ptr (size h) 0] (ext h (.cells [.ptr (size h) 0, v] :: l)) = some (.tup [], ext h (.cells [.ptr (size h) 0, v] :: l)) := by
  have hlt : ¬ size h < base := by omega
  rw [CallA_prim T_42]
  simp only [pCopyCheck, primEnd, hlt, Option.isSome_some, ↓evD, evU, evL, Nat.reduceAdd, Nat.reduceSub, Nat.reduceMul, Nat.reduceLeDiff, Nat.reduceLT, Nat.reduceEqDiff, Nat.reduceBEq, reduceIte, reduceCtorEq, Int.reduceBEq, Int.reduceEq, Int.reduceLT, Int.reduceLE, Int.reduceGT, Int.reduceGE, Int.reduceAdd, Int.reduceSub, Int.reduceNeg, Int.reduceBNe, ite_true, ite_false, if_true, if_false, implies_true, forall_const]
theorem string_of {h : Hp} {base : Nat} (out : List UInt8) (hl : out.length ≤ lim2) : CallA T base 29 [.ptr (size h) 0] (bld h out) = some (.str out, bld h out) := by
  unfold bld
  rw [CallA_prim T_29]
  by_cases ho : out = []
  · subst ho
    rw [if_pos rfl]
    simp only [pString, primEnd, ↓evD, evU, evL, Nat.reduceAdd, Nat.reduceSub, Nat.reduceMul, Nat.reduceLeDiff, Nat.reduceLT, Nat.reduceEqDiff, Nat.reduceBEq, reduceIte, reduceCtorEq, Int.reduceBEq, Int.reduceEq, Int.reduceLT, Int.reduceLE, Int.reduceGT, Int.reduceGE, Int.reduceAdd, Int.reduceSub, Int.reduceNeg, Int.reduceBNe, ite_true, ite_false, if_true, if_false, implies_true, forall_const]
  · rw [if_neg ho]
    have h1 := Bu.ne ho
    have h2 := Bu.bytesOf out
    simp only [pString, primEnd, Bu.len, h1, h2, hl, ne_eq, ↓evD, evU, evL, Nat.reduceAdd, Nat.reduceSub, Nat.reduceMul, Nat.reduceLeDiff, Nat.reduceLT, Nat.reduceEqDiff, Nat.reduceBEq, reduceIte, reduceCtorEq, Int.reduceBEq, Int.reduceEq, Int.reduceLT, Int.reduceLE, Int.reduceGT, Int.reduceGE, Int.reduceAdd, Int.reduceSub, Int.reduceNeg, Int.reduceBNe, ite_true, ite_false, if_true, if_false, implies_true, forall_const]
end Go.Am.YtdnbedldmkagmaaDoor
namespace Go.Am.YtdnbedldmkagmaaDoor
set_option maxRecDepth 100000
set_option linter.unusedSimpArgs false
set_option linter.unusedVariables false
open Go.Lib (decDigits itoa)
theorem write_byte {h : Hp} {base : Nat} (hb : base ≤ size h) (out : List UInt8) (c : UInt8) (hl : out.length + 1 ≤ lim2) :
    CallA T base 38 [.ptr (size h) 0, .int .u8 c.toNat] (bld h out) = some (.nilif, bld h (out ++ [c])) := by
  have hlt : (size h < base) = False := by simp; omega
  rw [S38]
  unfold bld
  rw [if_neg (by simp : out ++ [c] ≠ [])]
  by_cases ho : out = []
  · subst ho
    have hg := fun k => growT_new (h := k) (T' := 5) (m := [c]) (by simp) (by simp [lim2])
    rw [if_pos rfl]
    simp only [check_new hb, hlt, Bu.one, hg, ↓evD, evU, evL, Nat.reduceAdd, Nat.reduceSub, Nat.reduceMul, Nat.reduceLeDiff, Nat.reduceLT, Nat.reduceEqDiff, Nat.reduceBEq, reduceIte, reduceCtorEq, Int.reduceBEq, Int.reduceEq, Int.reduceLT, Int.reduceLE, Int.reduceGT, Int.reduceGE, Int.reduceAdd, Int.reduceSub, Int.reduceNeg, Int.reduceBNe, ite_true, ite_false, if_true, if_false, implies_true, forall_const]
    rfl
  · rw [if_neg ho]
    have hg := growT_tok (h := ext h [.cells [.ptr (size h) 0, .sl (.tok (size h + 1)) 1 (u8s out)], .tok out.length 5]) (T' := 5) (t := size h + 1) (l := out) (m := [c]) (by simp only [↓evD, evU, evL, Nat.reduceAdd, Nat.reduceSub, Nat.reduceMul, Nat.reduceLeDiff, Nat.reduceLT, Nat.reduceEqDiff, Nat.reduceBEq, reduceIte, reduceCtorEq, Int.reduceBEq, Int.reduceEq, Int.reduceLT, Int.reduceLE, Int.reduceGT, Int.reduceGE, Int.reduceAdd, Int.reduceSub, Int.reduceNeg, Int.reduceBNe, ite_true, ite_false, if_true, if_false, implies_true, forall_const]) (by simpa using hl)
    rw [← Bu.one] at hg
    simp only [check_old hb, hlt, hg, ↓evD, evU, evL, Nat.reduceAdd, Nat.reduceSub, Nat.reduceMul, Nat.reduceLeDiff, Nat.reduceLT, Nat.reduceEqDiff, Nat.reduceBEq, reduceIte, reduceCtorEq, Int.reduceBEq, Int.reduceEq, Int.reduceLT, Int.reduceLE, Int.reduceGT, Int.reduceGE, Int.reduceAdd, Int.reduceSub, Int.reduceNeg, Int.reduceBNe, ite_true, ite_false, if_true, if_false, implies_true, forall_const]
    simp
theorem write_str {h : Hp} {base : Nat} (hb : base ≤ size h) (out s : List UInt8) (hs : s ≠ []) (hl : out.length + s.length ≤ lim2) :
    CallA T base 28 [.ptr (size h) 0, .str s] (bld h out) = some (.tup [i64 s.length, .nilif], bld h (out ++ s)) := by
  have hlt : (size h < base) = False := by simp; omega
  have hel : (s.map fun c => PV.int .u8 (c.toNat : Int)) = u8s s := rfl
  rw [S28]
  unfold bld
  rw [if_neg (by simp [hs] : out ++ s ≠ [])]
  by_cases ho : out = []
  · subst ho
    have hg := fun k => growT_new (h := k) (T' := 5) (m := s) hs (by simpa using hl)
    rw [if_pos rfl]
    simp only [check_new hb, hlt, hel, hg, ↓evD, evU, evL, Nat.reduceAdd, Nat.reduceSub, Nat.reduceMul, Nat.reduceLeDiff, Nat.reduceLT, Nat.reduceEqDiff, Nat.reduceBEq, reduceIte, reduceCtorEq, Int.reduceBEq, Int.reduceEq, Int.reduceLT, Int.reduceLE, Int.reduceGT, Int.reduceGE, Int.reduceAdd, Int.reduceSub, Int.reduceNeg, Int.reduceBNe, ite_true, ite_false, if_true, if_false, implies_true, forall_const]
  · rw [if_neg ho]
    have hg := growT_tok (h := ext h [.cells [.ptr (size h) 0, .sl (.tok (size h + 1)) 1 (u8s out)], .tok out.length 5]) (T' := 5) (t := size h + 1) (l := out) (m := s) (by simp only [↓evD, evU, evL, Nat.reduceAdd, Nat.reduceSub, Nat.reduceMul, Nat.reduceLeDiff, Nat.reduceLT, Nat.reduceEqDiff, Nat.reduceBEq, reduceIte, reduceCtorEq, Int.reduceBEq, Int.reduceEq, Int.reduceLT, Int.reduceLE, Int.reduceGT, Int.reduceGE, Int.reduceAdd, Int.reduceSub, Int.reduceNeg, Int.reduceBNe, ite_true, ite_false, if_true, if_false, implies_true, forall_const]) hl
    simp only [check_old hb, hlt, hel, hg, List.length_append, ↓evD, evU, evL, Nat.reduceAdd, Nat.reduceSub, Nat.reduceMul, Nat.reduceLeDiff, Nat.reduceLT, Nat.reduceEqDiff, Nat.reduceBEq, reduceIte, reduceCtorEq, Int.reduceBEq, Int.reduceEq, Int.reduceLT, Int.reduceLE, Int.reduceGT, Int.reduceGE, Int.reduceAdd, Int.reduceSub, Int.reduceNeg, Int.reduceBNe, ite_true, ite_false, if_true, if_false, implies_true, forall_const]
def numOk (n : Int) : Bool := decide (0 ≤ n ∧ n ≤ 65535)
def rightB (p : List Int) : Bool := decide (p.length ≤ 3) && p.all numOk
theorem right_loop {h : Hp} {b : PV} {p : List Int} (hb : Rl eI 1 b p) (hl : p.length ≤ 1000000) : ∀ (r q : List Int), p = q ++ r →
    P37_0 (size h) (size h) (i64 q.length) b b (i64 p.length) h = some (.bool (decide (p.length ≤ 3) && r.all numOk), h)
  | [], q, hp => by
    rw [P37_0_eq]
    have e : q.length = p.length := by rw [hp]; simp
    have h1 : ((q.length : Int) < (p.length : Int)) = False := by simp; omega
    have h3 : decide ((p.length : Int) ≤ 3) = decide (p.length ≤ 3) := by
      by_cases hq : p.length ≤ 3
      · rw [decide_eq_true hq, decide_eq_true (by omega)]
      · rw [decide_eq_false hq, decide_eq_false (by omega)]
    simp only [h1, hb.len, h3, ↓evD, evU, evL, Nat.reduceAdd, Nat.reduceSub, Nat.reduceMul, Nat.reduceLeDiff, Nat.reduceLT, Nat.reduceEqDiff, Nat.reduceBEq, reduceIte, reduceCtorEq, Int.reduceBEq, Int.reduceEq, Int.reduceLT, Int.reduceLE, Int.reduceGT, Int.reduceGE, Int.reduceAdd, Int.reduceSub, Int.reduceNeg, Int.reduceBNe, ite_true, ite_false, if_true, if_false, implies_true, forall_const]
  | x :: r, q, hp => by
    rw [P37_0_eq]
    have el : p.length = q.length + (r.length + 1) := by rw [hp]; simp
    have h1 : ((q.length : Int) < (p.length : Int)) = True := by simp; omega
    have hx : p[q.length]? = some x := by rw [hp]; simp
    have hec : (eI x).cells = [i64 x] := rfl
    have w1 : IntKind.i64.wrap ((q.length : Int) + 1) = (((q ++ [x]).length : Nat) : Int) := by rw [show (q ++ [x]).length = q.length + 1 by simp, wrap_small] <;> omega
    have ih := right_loop (h := h) hb hl r (q ++ [x]) (by rw [hp]; simp)
    by_cases c1 : x < 0
    · have : numOk x = false := by simp [numOk]; omega
      simp only [h1, hb.idx hx, hec, c1, this, ↓evD, evU, evL, Nat.reduceAdd, Nat.reduceSub, Nat.reduceMul, Nat.reduceLeDiff, Nat.reduceLT, Nat.reduceEqDiff, Nat.reduceBEq, reduceIte, reduceCtorEq, Int.reduceBEq, Int.reduceEq, Int.reduceLT, Int.reduceLE, Int.reduceGT, Int.reduceGE, Int.reduceAdd, Int.reduceSub, Int.reduceNeg, Int.reduceBNe, ite_true, ite_false, if_true, if_false, implies_true, forall_const]
    by_cases c2 : x > 65535
    · have : numOk x = false := by simp [numOk]; omega
      simp only [h1, hb.idx hx, hec, c1, c2, this, ↓evD, evU, evL, Nat.reduceAdd, Nat.reduceSub, Nat.reduceMul, Nat.reduceLeDiff, Nat.reduceLT, Nat.reduceEqDiff, Nat.reduceBEq, reduceIte, reduceCtorEq, Int.reduceBEq, Int.reduceEq, Int.reduceLT, Int.reduceLE, Int.reduceGT, Int.reduceGE, Int.reduceAdd, Int.reduceSub, Int.reduceNeg, Int.reduceBNe, ite_true, ite_false, if_true, if_false, implies_true, forall_const]
    have : numOk x = true := by simp [numOk]; omega
    simp only [h1, hb.idx hx, hec, c1, c2, this, w1, ih, ↓evD, evU, evL, Nat.reduceAdd, Nat.reduceSub, Nat.reduceMul, Nat.reduceLeDiff, Nat.reduceLT, Nat.reduceEqDiff, Nat.reduceBEq, reduceIte, reduceCtorEq, Int.reduceBEq, Int.reduceEq, Int.reduceLT, Int.reduceLE, Int.reduceGT, Int.reduceGE, Int.reduceAdd, Int.reduceSub, Int.reduceNeg, Int.reduceBNe, ite_true, ite_false, if_true, if_false, implies_true, forall_const]
theorem right_spec {base : Nat} {h : Hp} {b : PV} {p : List Int} (hb : Rl eI 1 b p) (hl : p.length ≤ 1000000) : CallA T base 37 [b] h = some (.bool (rightB p), h) := by
  rw [S37]
  have := right_loop (h := h) hb hl p [] rfl
  simp only [hb.len, ↓evD, evU, evL, Nat.reduceAdd, Nat.reduceSub, Nat.reduceMul, Nat.reduceLeDiff, Nat.reduceLT, Nat.reduceEqDiff, Nat.reduceBEq, reduceIte, reduceCtorEq, Int.reduceBEq, Int.reduceEq, Int.reduceLT, Int.reduceLE, Int.reduceGT, Int.reduceGE, Int.reduceAdd, Int.reduceSub, Int.reduceNeg, Int.reduceBNe, ite_true, ite_false, if_true, if_false, implies_true, forall_const]
  exact this
theorem ints_loop {h : Hp} {a b : PV} {l m : List Int} (ha : Rl eI 1 a l) (hb : Rl eI 1 b m) (hlm : l.length = m.length) (hl : l.length ≤ 1000000) : ∀ (k i : Nat), i + k = l.length →
    P16_0 (size h) (size h) (.int .i64 i) b a h = some (.bool (l.drop i == m.drop i), h)
  | 0, i, hk => by
    rw [P16_0_eq]
    have h1 : ((i : Int) < (l.length : Int)) = False := by simp; omega
    have e1 : l.drop i = [] := List.drop_eq_nil_of_le (by omega)
    have e2 : m.drop i = [] := List.drop_eq_nil_of_le (by omega)
    simp only [ha.len, h1, e1, e2, ↓evD, evU, evL, Nat.reduceAdd, Nat.reduceSub, Nat.reduceMul, Nat.reduceLeDiff, Nat.reduceLT, Nat.reduceEqDiff, Nat.reduceBEq, reduceIte, reduceCtorEq, Int.reduceBEq, Int.reduceEq, Int.reduceLT, Int.reduceLE, Int.reduceGT, Int.reduceGE, Int.reduceAdd, Int.reduceSub, Int.reduceNeg, Int.reduceBNe, ite_true, ite_false, if_true, if_false, implies_true, forall_const]
  | k + 1, i, hk => by
    rw [P16_0_eq]
    have h1 : ((i : Int) < (l.length : Int)) = True := by simp; omega
    obtain ⟨x, hx⟩ : ∃ x, l[i]? = some x := ⟨_, List.getElem?_eq_getElem (by omega)⟩
    obtain ⟨y, hy⟩ : ∃ y, m[i]? = some y := ⟨_, List.getElem?_eq_getElem (by omega)⟩
    have e1 : l.drop i = x :: l.drop (i + 1) := by
      obtain ⟨hi, rfl⟩ := List.getElem?_eq_some_iff.1 hx
      exact List.drop_eq_getElem_cons hi
    have e2 : m.drop i = y :: m.drop (i + 1) := by
      obtain ⟨hi, rfl⟩ := List.getElem?_eq_some_iff.1 hy
      exact List.drop_eq_getElem_cons hi
    have hec : ∀ x, (eI x).cells = [i64 x] := fun _ => rfl
    have w1 : IntKind.i64.wrap ((i : Int) + 1) = ((i + 1 : Nat) : Int) := by rw [wrap_small] <;> omega
    have ih := ints_loop (h := h) ha hb hlm hl k (i + 1) (by omega)
    cases hq : (x == y)
    · have hq' : (x != y) = true := by simp [bne, hq]
      have e3 : (x :: l.drop (i + 1) == y :: m.drop (i + 1)) = false := by rw [List.cons_beq_cons, hq]; rfl
      simp only [ha.len, ha.idx hx, hb.idx hy, hec, h1, hq', e1, e2, e3, ↓evD, evU, evL, Nat.reduceAdd, Nat.reduceSub, Nat.reduceMul, Nat.reduceLeDiff, Nat.reduceLT, Nat.reduceEqDiff, Nat.reduceBEq, reduceIte, reduceCtorEq, Int.reduceBEq, Int.reduceEq, Int.reduceLT, Int.reduceLE, Int.reduceGT, Int.reduceGE, Int.reduceAdd, Int.reduceSub, Int.reduceNeg, Int.reduceBNe, ite_true, ite_false, if_true, if_false, implies_true, forall_const]
    · have hq' : (x != y) = false := by simp [bne, hq]
      have e3 : (x :: l.drop (i + 1) == y :: m.drop (i + 1)) = (l.drop (i + 1) == m.drop (i + 1)) := by rw [List.cons_beq_cons, hq]; rfl
      simp only [ha.len, ha.idx hx, hb.idx hy, hec, h1, hq', e1, e2, e3, w1, ih, ↓evD, evU, evL, Nat.reduceAdd, Nat.reduceSub, Nat.reduceMul, Nat.reduceLeDiff, Nat.reduceLT, Nat.reduceEqDiff, Nat.reduceBEq, reduceIte, reduceCtorEq, Int.reduceBEq, Int.reduceEq, Int.reduceLT, Int.reduceLE, Int.reduceGT, Int.reduceGE, Int.reduceAdd, Int.reduceSub, Int.reduceNeg, Int.reduceBNe, ite_true, ite_false, if_true, if_false, implies_true, forall_const]
theorem ints_spec {base : Nat} {h : Hp} {a b : PV} {l m : List Int} (ha : Rl eI 1 a l) (hb : Rl eI 1 b m) (hl : l.length ≤ 1000000) : CallA T base 16 [a, b] h = some (.bool (l == m), h) := by
  rw [S16]
  by_cases hlm : l.length = m.length
  · have e1 : ((l.length : Int) != (m.length : Int)) = false := by rw [hlm]; simp
    have := ints_loop (h := h) ha hb hlm hl l.length 0 (by omega)
    rw [List.drop_zero, List.drop_zero] at this
    simp only [ha.len, hb.len, e1, ↓evD, evU, evL, Nat.reduceAdd, Nat.reduceSub, Nat.reduceMul, Nat.reduceLeDiff, Nat.reduceLT, Nat.reduceEqDiff, Nat.reduceBEq, reduceIte, reduceCtorEq, Int.reduceBEq, Int.reduceEq, Int.reduceLT, Int.reduceLE, Int.reduceGT, Int.reduceGE, Int.reduceAdd, Int.reduceSub, Int.reduceNeg, Int.reduceBNe, ite_true, ite_false, if_true, if_false, implies_true, forall_const]
    exact this
  · have e1 : ((l.length : Int) != (m.length : Int)) = true := by rw [bne_iff_ne]; omega
    have e2 : (l == m) = false := by rw [beq_eq_false_iff_ne]; rintro rfl; exact hlm rfl
    simp only [ha.len, hb.len, e1, e2, ↓evD, evU, evL, Nat.reduceAdd, Nat.reduceSub, Nat.reduceMul, Nat.reduceLeDiff, Nat.reduceLT, Nat.reduceEqDiff, Nat.reduceBEq, reduceIte, reduceCtorEq, Int.reduceBEq, Int.reduceEq, Int.reduceLT, Int.reduceLE, Int.reduceGT, Int.reduceGE, Int.reduceAdd, Int.reduceSub, Int.reduceNeg, Int.reduceBNe, ite_true, ite_false, if_true, if_false, implies_true, forall_const]
/-- A path's text. -/
def segsS : List Int → List UInt8
  | [] => []
  | n :: p => 47 :: itoa n ++ segsS p
def textS (p : List Int) : List UInt8 := if rightB p = false then [] else if p = [] then [47] else segsS p
theorem itoa_ne (n : Int) : itoa n ≠ [] := by
  unfold itoa
  split
  · simp
  · exact digits_ne _
theorem in64_ok {n : Int} (h : numOk n = true) : in64 n := by
  simp [numOk] at h
  unfold in64; omega
theorem itoa_len {n : Int} (h : in64 n) : (itoa n).length ≤ 21 := Lib.itoa_length_le n h.1 h.2
theorem text_loop {h : Hp} {b : PV} {p : List Int} (hb : Rl eI 1 b p) (hl : p.length ≤ 3) (ho : p.all numOk = true) : ∀ (r q : List Int) (out : List UInt8), p = q ++ r → out.length ≤ 30 * q.length →
    P25_0 (size h) (size h) (i64 q.length) (.ptr (size h) 0) b (i64 p.length) (bld h out) = some (.str (out ++ segsS r), h)
  | [], q, out, hp, hout => by
    rw [P25_0_eq]
    have e : q.length = p.length := by rw [hp]; simp
    have h1 : ((q.length : Int) < (p.length : Int)) = False := by simp; omega
    have hs : ∀ base, _ := fun base => string_of (base := base) (h := h) out (by unfold lim2; omega)
    simp only [h1, hs, trunc_bld, segsS, List.append_nil, ↓evD, evU, evL, Nat.reduceAdd, Nat.reduceSub, Nat.reduceMul, Nat.reduceLeDiff, Nat.reduceLT, Nat.reduceEqDiff, Nat.reduceBEq, reduceIte, reduceCtorEq, Int.reduceBEq, Int.reduceEq, Int.reduceLT, Int.reduceLE, Int.reduceGT, Int.reduceGE, Int.reduceAdd, Int.reduceSub, Int.reduceNeg, Int.reduceBNe, ite_true, ite_false, if_true, if_false, implies_true, forall_const]
  | x :: r, q, out, hp, hout => by
    rw [P25_0_eq]
    have el : p.length = q.length + (r.length + 1) := by rw [hp]; simp
    have h1 : ((q.length : Int) < (p.length : Int)) = True := by simp; omega
    have hx : p[q.length]? = some x := by rw [hp]; simp
    have hox : numOk x = true := List.all_eq_true.1 ho x (by rw [hp]; simp)
    have hec : (eI x).cells = [i64 x] := rfl
    have w1 : IntKind.i64.wrap ((q.length : Int) + 1) = (((q ++ [x]).length : Nat) : Int) := by rw [show (q ++ [x]).length = q.length + 1 by simp, wrap_small] <;> omega
    have hin := in64_ok hox
    have hil := itoa_len hin
    have hI : ∀ base h, _ := fun base h => itoa_spec (base := base) (h := h) x hin
    have hw1 := write_byte (h := h) (Nat.le_refl (size h)) out 47 (by unfold lim2; omega)
    have hw2 := write_str (h := h) (Nat.le_refl (size h)) (out ++ [47]) (itoa x) (itoa_ne x) (by unfold lim2; simp; omega)
    have z47 : (((47 : UInt8).toNat : Nat) : Int) = 47 := rfl
    rw [z47] at hw1
    have ih := text_loop (h := h) hb hl ho r (q ++ [x]) (out ++ [47] ++ itoa x) (by rw [hp]; simp) (by simp; omega)
    simp only [h1, hb.idx hx, hec, hw1, hI, hw2, w1, ih, ↓evD, evU, evL, Nat.reduceAdd, Nat.reduceSub, Nat.reduceMul, Nat.reduceLeDiff, Nat.reduceLT, Nat.reduceEqDiff, Nat.reduceBEq, reduceIte, reduceCtorEq, Int.reduceBEq, Int.reduceEq, Int.reduceLT, Int.reduceLE, Int.reduceGT, Int.reduceGE, Int.reduceAdd, Int.reduceSub, Int.reduceNeg, Int.reduceBNe, ite_true, ite_false, if_true, if_false, implies_true, forall_const]
    simp [segsS]
theorem text_spec {base : Nat} {h : Hp} {b : PV} {p : List Int} (hb : Rl eI 1 b p) (hl : p.length ≤ 1000000) : CallA T base 25 [b] h = some (.str (textS p), h) := by
  rw [S25]
  have hR : ∀ base h, _ := fun base h => right_spec (base := base) (h := h) hb hl
  unfold textS
  cases hr : rightB p
  · rw [hr] at hR
    simp only [hR, ↓evD, evU, evL, Nat.reduceAdd, Nat.reduceSub, Nat.reduceMul, Nat.reduceLeDiff, Nat.reduceLT, Nat.reduceEqDiff, Nat.reduceBEq, reduceIte, reduceCtorEq, Int.reduceBEq, Int.reduceEq, Int.reduceLT, Int.reduceLE, Int.reduceGT, Int.reduceGE, Int.reduceAdd, Int.reduceSub, Int.reduceNeg, Int.reduceBNe, ite_true, ite_false, if_true, if_false, implies_true, forall_const]
  · rw [hr] at hR
    by_cases h0 : p = []
    · have e0 : ((p.length : Int) == 0) = true := by rw [h0]; rfl
      rw [if_pos h0]
      simp only [hR, hb.len, e0, ↓evD, evU, evL, Nat.reduceAdd, Nat.reduceSub, Nat.reduceMul, Nat.reduceLeDiff, Nat.reduceLT, Nat.reduceEqDiff, Nat.reduceBEq, reduceIte, reduceCtorEq, Int.reduceBEq, Int.reduceEq, Int.reduceLT, Int.reduceLE, Int.reduceGT, Int.reduceGE, Int.reduceAdd, Int.reduceSub, Int.reduceNeg, Int.reduceBNe, ite_true, ite_false, if_true, if_false, implies_true, forall_const]
    · have hp0 : 0 < p.length := List.length_pos_iff.2 h0
      have e0 : ((p.length : Int) == 0) = false := by rw [beq_eq_false_iff_ne]; omega
      unfold rightB at hr
      rw [Bool.and_eq_true, decide_eq_true_eq] at hr
      have hb0 : ext h [.cells [.bnil 58, .nils]] = bld h [] := rfl
      have := text_loop (h := h) hb hr.1 hr.2 p [] [] rfl (by simp)
      simp only [hR, hb.len, e0, h0, hb0, ↓evD, evU, evL, Nat.reduceAdd, Nat.reduceSub, Nat.reduceMul, Nat.reduceLeDiff, Nat.reduceLT, Nat.reduceEqDiff, Nat.reduceBEq, reduceIte, reduceCtorEq, Int.reduceBEq, Int.reduceEq, Int.reduceLT, Int.reduceLE, Int.reduceGT, Int.reduceGE, Int.reduceAdd, Int.reduceSub, Int.reduceNeg, Int.reduceBNe, ite_true, ite_false, if_true, if_false, implies_true, forall_const]
      exact this
end Go.Am.YtdnbedldmkagmaaDoor
namespace Go.Am
set_option linter.unusedSimpArgs false
set_option linter.unusedVariables false
def splitL (c : UInt8) : List UInt8 → List (List UInt8)
  | [] => [[]]
  | x :: r => if x = c then [] :: splitL c r else match splitL c r with
    | y :: ys => (x :: y) :: ys
    | [] => [[x]]
theorem splitL_ne (c : UInt8) : ∀ l, splitL c l ≠ []
  | [] => by simp [splitL]
  | x :: r => by
    rw [splitL]
    split
    · simp
    · split <;> simp
theorem splitL_none {c : UInt8} : ∀ {l : List UInt8}, c ∉ l → splitL c l = [l]
  | [], _ => rfl
  | x :: r, h => by
    have hx : ¬ x = c := fun q => h (by simp [q])
    have hr : c ∉ r := fun q => h (by simp [q])
    rw [splitL, if_neg hx, splitL_none hr]
theorem splitL_app {c : UInt8} : ∀ {a : List UInt8} (b : List UInt8), c ∉ a → splitL c (a ++ c :: b) = a :: splitL c b
  | [], b, _ => by rw [List.nil_append, splitL, if_pos rfl]
  | x :: a, b, h => by
    have hx : ¬ x = c := fun q => h (by simp [q])
    have ha : c ∉ a := fun q => h (by simp [q])
    rw [List.cons_append, splitL, if_neg hx, splitL_app b ha]
theorem splitL_len (c : UInt8) : ∀ l : List UInt8, (splitL c l).length = l.count c + 1
  | [] => rfl
  | x :: r => by
    have ih := splitL_len c r
    rw [splitL]
    by_cases hx : x = c
    · subst hx
      rw [if_pos rfl, List.length_cons, ih, List.count_cons_self]
    · rw [if_neg hx, List.count_cons_of_ne (by simpa using hx)]
      cases hq : splitL c r with
      | nil => exact (splitL_ne c r hq).elim
      | cons y ys => rw [hq] at ih; simpa using ih
/-- Where a sign is first. -/
theorem index_split (c : UInt8) : ∀ l : List UInt8, (c ∉ l ∧ Lib.indexByte l c = -1) ∨ ∃ a b, l = a ++ c :: b ∧ c ∉ a ∧ Lib.indexByte l c = a.length
  | [] => .inl ⟨by simp, rfl⟩
  | x :: r => by
    by_cases hx : x = c
    · exact .inr ⟨[], r, by simp [hx], by simp, by simp [Lib.indexByte, hx]⟩
    · have hxc : (x == c) = false := by simpa using hx
      rcases index_split c r with ⟨h1, h2⟩ | ⟨a, b, rfl, h2, h3⟩
      · refine .inl ⟨?_, ?_⟩
        · simp only [List.mem_cons, not_or]
          exact ⟨fun q => hx q.symm, h1⟩
        · rw [Lib.indexByte, hxc, h2]; rfl
      · refine .inr ⟨x :: a, b, rfl, ?_, ?_⟩
        · simp only [List.mem_cons, not_or]
          exact ⟨fun q => hx q.symm, h2⟩
        · rw [Lib.indexByte, hxc, h3]
          have : ((a.length : Int) == -1) = false := by rw [beq_eq_false_iff_ne]; omega
          rw [this]
          simp
theorem flat_one {α : Type} (x : α) : ∀ n, List.flatten (List.replicate n [x]) = List.replicate n x
  | 0 => rfl
  | n + 1 => by rw [List.replicate_succ, List.flatten_cons, flat_one x n]; rfl
end Go.Am
namespace Go.Am.YtdnbedldmkagmaaDoor
set_option maxRecDepth 100000
set_option linter.unusedSimpArgs false
set_option linter.unusedVariables false
open Go.Lib (decDigits itoa)
theorem hasPrefix_spec {base : Nat} {h : Hp} (s p : List UInt8) (hs : s.length ≤ 1000000) (hp : p.length ≤ 1000000) : CallA T base 58 [.str s, .str p] h = some (.bool (s.take p.length == p), h) := by
  rw [S58]
  by_cases h1 : p.length ≤ s.length
  · have c1 : ((s.length : Int) ≥ (p.length : Int)) = True := by simp; omega
    have hb := bdV_nat s.length .i64 p.length h1
    simp only [c1, hb, List.drop_zero, Nat.sub_zero, ↓evD, evU, evL, Nat.reduceAdd, Nat.reduceSub, Nat.reduceMul, Nat.reduceLeDiff, Nat.reduceLT, Nat.reduceEqDiff, Nat.reduceBEq, reduceIte, reduceCtorEq, Int.reduceBEq, Int.reduceEq, Int.reduceLT, Int.reduceLE, Int.reduceGT, Int.reduceGE, Int.reduceAdd, Int.reduceSub, Int.reduceNeg, Int.reduceBNe, ite_true, ite_false, if_true, if_false, implies_true, forall_const]
  · have c1 : ((s.length : Int) ≥ (p.length : Int)) = False := by simp; omega
    have e : (s.take p.length == p) = false := by
      rw [beq_eq_false_iff_ne]
      intro q
      have := congrArg List.length q
      simp at this
      omega
    simp only [c1, e, ↓evD, evU, evL, Nat.reduceAdd, Nat.reduceSub, Nat.reduceMul, Nat.reduceLeDiff, Nat.reduceLT, Nat.reduceEqDiff, Nat.reduceBEq, reduceIte, reduceCtorEq, Int.reduceBEq, Int.reduceEq, Int.reduceLT, Int.reduceLE, Int.reduceGT, Int.reduceGE, Int.reduceAdd, Int.reduceSub, Int.reduceNeg, Int.reduceBNe, ite_true, ite_false, if_true, if_false, implies_true, forall_const]
theorem cutPrefix_spec {base : Nat} {h : Hp} (s p : List UInt8) (hs : s.length ≤ 1000000) (hp : p.length ≤ 1000000) :
    CallA T base 32 [.str s, .str p] h = some (.tup [.str (if s.take p.length == p then s.drop p.length else s), .bool (s.take p.length == p)], h) := by
  have hH : ∀ base h, _ := fun base h => hasPrefix_spec (base := base) (h := h) s p hs hp
  have h43 : ∀ base h, CallA T base 50 [.str s, .str p] h = some (.tup [.str (if s.take p.length == p then s.drop p.length else s), .bool (s.take p.length == p)], h) := by
    intro base h
    rw [S50]
    cases hq : (s.take p.length == p)
    · simp only [hH, hq, ↓evD, evU, evL, Nat.reduceAdd, Nat.reduceSub, Nat.reduceMul, Nat.reduceLeDiff, Nat.reduceLT, Nat.reduceEqDiff, Nat.reduceBEq, reduceIte, reduceCtorEq, Int.reduceBEq, Int.reduceEq, Int.reduceLT, Int.reduceLE, Int.reduceGT, Int.reduceGE, Int.reduceAdd, Int.reduceSub, Int.reduceNeg, Int.reduceBNe, ite_true, ite_false, if_true, if_false, implies_true, forall_const]
    · have hl : p.length ≤ s.length := by
        have := congrArg List.length (beq_iff_eq.1 hq)
        simp at this
        omega
      have hb := bdV_nat s.length .i64 p.length hl
      have ht : (s.drop p.length).take (s.length - p.length) = s.drop p.length := List.take_of_length_le (by simp)
      simp only [hH, hq, hb, ht, ↓evD, evU, evL, Nat.reduceAdd, Nat.reduceSub, Nat.reduceMul, Nat.reduceLeDiff, Nat.reduceLT, Nat.reduceEqDiff, Nat.reduceBEq, reduceIte, reduceCtorEq, Int.reduceBEq, Int.reduceEq, Int.reduceLT, Int.reduceLE, Int.reduceGT, Int.reduceGE, Int.reduceAdd, Int.reduceSub, Int.reduceNeg, Int.reduceBNe, ite_true, ite_false, if_true, if_false, implies_true, forall_const]
  rw [S32]
  simp only [h43, ↓evD, evU, evL, Nat.reduceAdd, Nat.reduceSub, Nat.reduceMul, Nat.reduceLeDiff, Nat.reduceLT, Nat.reduceEqDiff, Nat.reduceBEq, reduceIte, reduceCtorEq, Int.reduceBEq, Int.reduceEq, Int.reduceLT, Int.reduceLE, Int.reduceGT, Int.reduceGE, Int.reduceAdd, Int.reduceSub, Int.reduceNeg, Int.reduceBNe, ite_true, ite_false, if_true, if_false, implies_true, forall_const]
theorem index_spec {base : Nat} {h : Hp} (s : List UInt8) (c : UInt8) : CallA T base 69 [.str s, .str [c]] h = some (i64 (Lib.indexByte s c), h) := by
  rw [CallA_prim T_69]; rfl
theorem count_spec {base : Nat} {h : Hp} (s : List UInt8) (c : UInt8) : CallA T base 68 [.str s, .str [c]] h = some (i64 (s.count c), h) := by
  rw [CallA_prim T_68]; rfl
theorem eS_scalars (l : List (List UInt8)) : (l.map eS).all scalar = true := elS.scalars (fun _ => rfl) l
theorem set_at (p : List (List UInt8)) (k : Nat) (s : List UInt8) : (p.map eS ++ List.replicate (k + 1) (PV.str [])).set p.length (.str s) = (p ++ [s]).map eS ++ List.replicate k (PV.str []) := by
  rw [List.replicate_succ]
  have : (p.map eS).length = p.length := by simp
  rw [← this, List.set_append]
  simp [eS]
theorem split_loop {h : Hp} (c : UInt8) (n : Nat) (hn : n ≤ 1000001) : ∀ (k : Nat) (p : List (List UInt8)) (t : List UInt8), p.length + (k + 1) = n → t.count c = k → t.length ≤ 1000000 →
    P61_1 (size h) (size h) (i64 p.length) (.bsl true (size h) 0 n 1) (.str t) (.str [c]) (i64 0) (i64 ((n - 1 : Nat) : Int)) (ext h [.cells (p.map eS ++ List.replicate (k + 1) (PV.str []))]) = some (.sl .full 1 ((p ++ splitL c t).map eS), h)
  | 0, p, t, hp, hc, ht => by
    rw [P61_1_eq]
    have h1 : ((p.length : Int) < ((n - 1 : Nat) : Int)) = False := by simp; omega
    have hix := ix_nat .i64 p.length n (by omega)
    have hlt : (size h < size h) = False := by simp
    have hle : (p.length + 1 ≤ (p.map eS ++ List.replicate 1 (PV.str [])).length) = True := by simp
    have w1 : IntKind.i64.wrap ((p.length : Int) + 1) = (n : Int) := by rw [wrap_small] <;> omega
    have hset := set_at p 0 t
    have hsp : splitL c t = [t] := splitL_none (by rw [← List.count_eq_zero]; exact hc)
    have hbn := bdV_nat n .i64 n (Nat.le_refl _)
    have hz : (n = 0) = False := by simp; omega
    have hbe : (n == n) = true := by simp
    have hln : ((p ++ [t]).map eS).length = n := by simp; omega
    have htk : ((p ++ [t]).map eS).take n = (p ++ [t]).map eS := List.take_of_length_le (by rw [hln]; exact Nat.le_refl _)
    have hle2 : (n ≤ ((p ++ [t]).map eS).length) = True := by rw [hln]; simp
    have hsc := eS_scalars (p ++ [t])
    have hst := elS.strips (p ++ [t])
    have hbl := elS.belows (size h) (p ++ [t])
    have e0 : (p ++ [t]).map eS ++ List.replicate 0 (PV.str []) = (p ++ [t]).map eS := by simp
    rw [e0] at hset
    rw [hsp]
    generalize (p ++ [t]).map eS = Y at *
    have z1 : (0 + 1 : Nat) = 1 := rfl
    rw [z1] at *
    generalize hX : p.map eS ++ List.replicate 1 (PV.str []) = X at *
    simp only [h1, hix, hlt, hle, hset, w1, hbn, hz, hbe, htk, hle2, hsc, hst, hbl, Nat.mul_one, Nat.zero_add, Nat.sub_zero, Nat.zero_mul, ↓evD, evU, evL, Nat.reduceAdd, Nat.reduceSub, Nat.reduceMul, Nat.reduceLeDiff, Nat.reduceLT, Nat.reduceEqDiff, Nat.reduceBEq, reduceIte, reduceCtorEq, Int.reduceBEq, Int.reduceEq, Int.reduceLT, Int.reduceLE, Int.reduceGT, Int.reduceGE, Int.reduceAdd, Int.reduceSub, Int.reduceNeg, Int.reduceBNe, ite_true, ite_false, if_true, if_false, implies_true, forall_const]
  | k + 1, p, t, hp, hc, ht => by
    rw [P61_1_eq]
    have h1 : ((p.length : Int) < ((n - 1 : Nat) : Int)) = True := by simp; omega
    rcases index_split c t with ⟨q1, _⟩ | ⟨a, b, rfl, q2, q3⟩
    · rw [List.count_eq_zero.2 q1] at hc; omega
    · have hI : ∀ base h, _ := fun base h => index_spec (base := base) (h := h) (a ++ c :: b) c
      rw [q3] at hI
      have hlab : (a ++ c :: b).length = a.length + (b.length + 1) := by simp
      have h2 : ((a.length : Int) < 0) = False := by simp
      have w0 : IntKind.i64.wrap ((a.length : Int) + 0) = (a.length : Int) := by rw [wrap_small] <;> omega
      have hb1 := bdV_nat (a ++ c :: b).length .i64 a.length (by simp)
      have ht1 : (a ++ c :: b).take a.length = a := by simp
      have w2 : IntKind.i64.wrap ((a.length : Int) + 1) = ((a.length + 1 : Nat) : Int) := by rw [wrap_small] <;> omega
      have w2' : IntKind.i64.wrap ((a.length : Int) + ((1 : Nat) : Int)) = ((a.length + 1 : Nat) : Int) := by rw [wrap_small] <;> omega
      have hb2 := bdV_nat (a ++ c :: b).length .i64 (a.length + 1) (by simp)
      have ht2 : ((a ++ c :: b).drop (a.length + 1)).take ((a ++ c :: b).length - (a.length + 1)) = b := by
        rw [List.take_of_length_le (by rw [List.length_drop]; exact Nat.le_refl _), ← List.drop_drop, List.drop_left]; rfl
      have hix := ix_nat .i64 p.length n (by omega)
      have hlt : (size h < size h) = False := by simp
      have hle : (p.length + 1 ≤ (p.map eS ++ List.replicate (k + 1 + 1) (PV.str [])).length) = True := by simp
      have w1 : IntKind.i64.wrap ((p.length : Int) + 1) = (((p ++ [a]).length : Nat) : Int) := by rw [show (p ++ [a]).length = p.length + 1 by simp, wrap_small] <;> omega
      have hset := set_at p (k + 1) a
      have ih := split_loop (h := h) c n hn k (p ++ [a]) b (by simp; omega) (by
        rw [List.count_append, List.count_eq_zero.2 q2, List.count_cons_self] at hc; omega) (by simp at ht; omega)
      have e3 : p ++ splitL c (a ++ c :: b) = p ++ [a] ++ splitL c b := by rw [splitL_app b q2]; simp
      rw [e3]
      generalize hX : p.map eS ++ List.replicate (k + 1 + 1) (PV.str []) = X at *
      generalize hY : (p ++ [a]).map eS ++ List.replicate (k + 1) (PV.str []) = Y at *
      generalize hL : a ++ c :: b = L at *
      simp only [h1, hI, h2, w0, hb1, ht1, w2, w2', hb2, ht2, hix, hlt, hle, hset, w1, ih, List.drop_zero, Nat.sub_zero, Nat.mul_one, Nat.zero_add, ↓evD, evU, evL, Nat.reduceAdd, Nat.reduceSub, Nat.reduceMul, Nat.reduceLeDiff, Nat.reduceLT, Nat.reduceEqDiff, Nat.reduceBEq, reduceIte, reduceCtorEq, Int.reduceBEq, Int.reduceEq, Int.reduceLT, Int.reduceLE, Int.reduceGT, Int.reduceGE, Int.reduceAdd, Int.reduceSub, Int.reduceNeg, Int.reduceBNe, ite_true, ite_false, if_true, if_false, implies_true, forall_const]
theorem split_spec {base : Nat} {h : Hp} (s : List UInt8) (c : UInt8) (hs : s.length ≤ 1000000) : CallA T base 57 [.str s, .str [c]] h = some (.sl .full 1 ((splitL c s).map eS), h) := by
  have hc := List.count_le_length (a := c) (l := s)
  have h45 : ∀ base h, CallA T base 61 [.str s, .str [c], i64 0, i64 (-1)] h = some (.sl .full 1 ((splitL c s).map eS), h) := by
    intro base h
    rw [S61]
    have e1 : (([c] : List UInt8) == []) = false := rfl
    have hC : ∀ base h, _ := fun base h => count_spec (base := base) (h := h) s c
    have w1 : IntKind.i64.wrap (((s.count c : Nat) : Int) + 1) = ((s.count c + 1 : Nat) : Int) := by rw [wrap_small] <;> omega
    have w2 : IntKind.i64.wrap ((s.length : Int) + 1) = ((s.length + 1 : Nat) : Int) := by rw [wrap_small] <;> omega
    have hm : (if ((s.length + 1 : Nat) : Int) < ((s.count c + 1 : Nat) : Int) then ((s.length + 1 : Nat) : Int) else ((s.count c + 1 : Nat) : Int)) = ((s.count c + 1 : Nat) : Int) := if_neg (by omega)
    have hN := makeN_nat .i64 .i64 (s.count c + 1) (by unfold lim2; omega)
    have w3 : IntKind.i64.wrap (((s.count c + 1 : Nat) : Int) - 1) = ((s.count c + 1 - 1 : Nat) : Int) := by rw [wrap_small] <;> omega
    have hB := fun h => makeB_eq 9 [PV.str []] (s.count c + 1) h
    have hL := split_loop (h := h) c (s.count c + 1) (by omega) (s.count c) [] s (by simp) rfl hs
    generalize s.count c + 1 = n at *
    simp only [e1, hC, w1, P61_0_eq, w2, hm, makeV_eq, hN, hB, flat_one, w3, ↓evD, evU, evL, Nat.reduceAdd, Nat.reduceSub, Nat.reduceMul, Nat.reduceLeDiff, Nat.reduceLT, Nat.reduceEqDiff, Nat.reduceBEq, reduceIte, reduceCtorEq, Int.reduceBEq, Int.reduceEq, Int.reduceLT, Int.reduceLE, Int.reduceGT, Int.reduceGE, Int.reduceAdd, Int.reduceSub, Int.reduceNeg, Int.reduceBNe, ite_true, ite_false, if_true, if_false, implies_true, forall_const]
    exact hL
  rw [S57]
  simp only [h45, elS.belows, ↓evD, evU, evL, Nat.reduceAdd, Nat.reduceSub, Nat.reduceMul, Nat.reduceLeDiff, Nat.reduceLT, Nat.reduceEqDiff, Nat.reduceBEq, reduceIte, reduceCtorEq, Int.reduceBEq, Int.reduceEq, Int.reduceLT, Int.reduceLE, Int.reduceGT, Int.reduceGE, Int.reduceAdd, Int.reduceSub, Int.reduceNeg, Int.reduceBNe, ite_true, ite_false, if_true, if_false, implies_true, forall_const]
/-- Texts as numbers. -/
def numsO : List (List UInt8) → Option (List Int)
  | [] => some []
  | s :: l => match numN s 65535 with
    | none => none
    | some u => (numsO l).map ((u : Int) :: ·)
def numsV (z : PV) (l : List (List UInt8)) : PV := if 3 < l.length then .tup [.nils, i64 3] else match numsO l with
  | none => .tup [.nils, i64 20]
  | some p => .tup [gD z 1 (p.map eI), i64 0]
theorem numsO_len : ∀ {l : List (List UInt8)} {p : List Int}, numsO l = some p → p.length = l.length
  | [], p, h => by cases h; rfl
  | s :: l, p, h => by
    simp only [numsO] at h
    split at h
    · cases h
    · rw [Option.map_eq_some_iff] at h
      obtain ⟨q, hq, rfl⟩ := h
      simp [numsO_len hq]
theorem nums_loop {h : Hp} {b : PV} {l : List (List UInt8)} (hb : Rl eS 1 b l) (hl : l.length ≤ 3) (hs : ∀ s ∈ l, s.length ≤ 1000000) : ∀ (r q : List (List UInt8)) (out : List Int), l = q ++ r → out.length ≤ q.length →
    P56_0 (size h) (size h) (i64 q.length) (gV h .nils 1 (out.map eI)) b (i64 l.length) (gH h 3 (out.map eI)) =
      some (match numsO r with | none => .tup [.nils, i64 20] | some p => .tup [gD .nils 1 ((out ++ p).map eI), i64 0], h)
  | [], q, out, hp, hout => by
    rw [P56_0_eq]
    have e : q.length = l.length := by rw [hp]; simp
    have h1 : ((q.length : Int) < (l.length : Int)) = False := by simp; omega
    have gz := gZ_nils 1
    simp only [h1, numsO, frz_gV gz, below_gD gz _ _ (elI.belows _ _), trunc_gH, List.append_nil, ↓evD, evU, evL, Nat.reduceAdd, Nat.reduceSub, Nat.reduceMul, Nat.reduceLeDiff, Nat.reduceLT, Nat.reduceEqDiff, Nat.reduceBEq, reduceIte, reduceCtorEq, Int.reduceBEq, Int.reduceEq, Int.reduceLT, Int.reduceLE, Int.reduceGT, Int.reduceGE, Int.reduceAdd, Int.reduceSub, Int.reduceNeg, Int.reduceBNe, ite_true, ite_false, if_true, if_false, implies_true, forall_const]
  | s :: r, q, out, hp, hout => by
    rw [P56_0_eq]
    have el : l.length = q.length + (r.length + 1) := by rw [hp]; simp
    have h1 : ((q.length : Int) < (l.length : Int)) = True := by simp; omega
    have hx : l[q.length]? = some s := by rw [hp]; simp
    have hec : (eS s).cells = [.str s] := rfl
    have hsl := hs s (by rw [hp]; simp)
    have w1 : IntKind.i64.wrap ((q.length : Int) + 1) = (((q ++ [s]).length : Nat) : Int) := by rw [show (q ++ [s]).length = q.length + 1 by simp, wrap_small] <;> omega
    have hv : ∀ base h, _ := fun base h => number_spec (base := base) (h := h) (s := s) (by omega) (most := 65535) (by omega)
    have z5 : (((65535 : Nat)) : Int) = 65535 := rfl
    rw [z5] at hv
    cases hn : numN s 65535 with
    | none =>
      have hN := hv
      rw [hn] at hN
      simp only [h1, hb.idx hx, hec, hN, numsO, hn, trunc_gH, Option.isSome_none, ↓evD, evU, evL, Nat.reduceAdd, Nat.reduceSub, Nat.reduceMul, Nat.reduceLeDiff, Nat.reduceLT, Nat.reduceEqDiff, Nat.reduceBEq, reduceIte, reduceCtorEq, Int.reduceBEq, Int.reduceEq, Int.reduceLT, Int.reduceLE, Int.reduceGT, Int.reduceGE, Int.reduceAdd, Int.reduceSub, Int.reduceNeg, Int.reduceBNe, ite_true, ite_false, if_true, if_false, implies_true, forall_const]
    | some u =>
      have hN := hv
      rw [hn, atoV_of (by omega) hn] at hN
      have gz := gZ_nils 1
      have gg := gOneL (h := h) (T := 3) elI gz out (u : Int) (by unfold lim2; omega)
      have e1 : (eI (u : Int)) = i64 u := rfl
      rw [e1] at gg
      have ih := nums_loop (h := h) hb hl hs r (q ++ [s]) (out ++ [(u : Int)]) (by rw [hp]; simp) (by simp; omega)
      simp only [h1, hb.idx hx, hec, hN, numsO, hn, gg, w1, ih, Option.isSome_some, ↓evD, evU, evL, Nat.reduceAdd, Nat.reduceSub, Nat.reduceMul, Nat.reduceLeDiff, Nat.reduceLT, Nat.reduceEqDiff, Nat.reduceBEq, reduceIte, reduceCtorEq, Int.reduceBEq, Int.reduceEq, Int.reduceLT, Int.reduceLE, Int.reduceGT, Int.reduceGE, Int.reduceAdd, Int.reduceSub, Int.reduceNeg, Int.reduceBNe, ite_true, ite_false, if_true, if_false, implies_true, forall_const]
      cases numsO r with
      | none => rfl
      | some p => simp
end Go.Am.YtdnbedldmkagmaaDoor
namespace Go.Am.YtdnbedldmkagmaaDoor
set_option maxRecDepth 100000
theorem alive_run : call T 400 0 5 [] [] = some (.bool true, []) := by kernel_rfl
theorem alive_spec : CallA T (size []) 5 [] [] = some (.bool true, []) := CallA_iff.2 ⟨400, alive_run⟩
end Go.Am.YtdnbedldmkagmaaDoor
namespace Go.Am.YtdnbedldmkagmaaDoor
set_option maxRecDepth 100000
set_option linter.unusedSimpArgs false
set_option linter.unusedVariables false
theorem nums_spec {base : Nat} {h : Hp} {b : PV} {l : List (List UInt8)} (hb : Rl eS 1 b l) (hs : ∀ s ∈ l, s.length ≤ 1000000) : CallA T base 56 [b] h = some (numsV .nils l, h) := by
  rw [S56]
  unfold numsV
  by_cases h3 : 3 < l.length
  · have h1 : ((l.length : Int) > 3) = True := by simp; omega
    simp only [hb.len, h1, h3, ↓evD, evU, evL, Nat.reduceAdd, Nat.reduceSub, Nat.reduceMul, Nat.reduceLeDiff, Nat.reduceLT, Nat.reduceEqDiff, Nat.reduceBEq, reduceIte, reduceCtorEq, Int.reduceBEq, Int.reduceEq, Int.reduceLT, Int.reduceLE, Int.reduceGT, Int.reduceGE, Int.reduceAdd, Int.reduceSub, Int.reduceNeg, Int.reduceBNe, ite_true, ite_false, if_true, if_false, implies_true, forall_const]
  · have h1 : ((l.length : Int) > 3) = False := by simp; omega
    have := nums_loop (h := h) hb (by omega) hs l [] [] rfl (by simp)
    rw [List.map_nil, gV_nil, gH_nil] at this
    simp only [hb.len, h1, h3, ↓evD, evU, evL, Nat.reduceAdd, Nat.reduceSub, Nat.reduceMul, Nat.reduceLeDiff, Nat.reduceLT, Nat.reduceEqDiff, Nat.reduceBEq, reduceIte, reduceCtorEq, Int.reduceBEq, Int.reduceEq, Int.reduceLT, Int.reduceLE, Int.reduceGT, Int.reduceGE, Int.reduceAdd, Int.reduceSub, Int.reduceNeg, Int.reduceBNe, ite_true, ite_false, if_true, if_false, implies_true, forall_const]
    refine Eq.trans this ?_
    cases numsO l <;> rfl
abbrev zF : PV := .sl .full 1 []
def outV (z : PV) : Option (List Int) → PV
  | none => .tup [.nils, i64 20]
  | some p => .tup [gD z 1 (p.map eI), i64 0]
def few (l : List (List UInt8)) : Option (List Int) := if 3 < l.length then none else numsO l
def readO (s : List UInt8) : Option (List Int) := if s.take 1 ≠ [47] then none else if s.drop 1 = [] then some [] else few (splitL 47 (s.drop 1))
theorem split_small {c : UInt8} {n : Nat} : ∀ (s : List UInt8), s.length ≤ n → ∀ x ∈ splitL c s, x.length ≤ n
  | [], _, x, hx => by simp [splitL] at hx; subst hx; simp
  | y :: r, hs, x, hx => by
    simp at hs
    have ih := split_small (c := c) (n := n) r (by omega)
    rw [splitL] at hx
    split at hx
    · rcases List.mem_cons.1 hx with rfl | hx
      · simp
      · exact ih x hx
    · have hlen : ∀ z ∈ splitL c r, z.length ≤ r.length := fun z hz => split_small (n := r.length) r (Nat.le_refl _) z hz
      split at hx
      · rename_i z zs hq
        rw [hq] at hlen ih
        rcases List.mem_cons.1 hx with rfl | hx
        · have := hlen z (by simp)
          simp; omega
        · exact ih x (by simp [hx])
      · simp at hx; subst hx; simp; omega
theorem read_spec {base : Nat} {h : Hp} (s : List UInt8) (hs : s.length ≤ 100000) : CallA T base 46 [.str s] h = some (outV .nils (readO s), h) := by
  rw [S46]
  have hC : ∀ base h, _ := fun base h => cutPrefix_spec (base := base) (h := h) s [47] (by omega) (by simp)
  have e1 : ([47] : List UInt8).length = 1 := rfl
  rw [e1] at hC
  unfold readO
  cases hq : (s.take 1 == [47])
  · rw [hq] at hC
    have hne : s.take 1 ≠ [47] := by simpa using hq
    rw [if_pos hne]
    simp only [hC, outV, ↓evD, evU, evL, Nat.reduceAdd, Nat.reduceSub, Nat.reduceMul, Nat.reduceLeDiff, Nat.reduceLT, Nat.reduceEqDiff, Nat.reduceBEq, reduceIte, reduceCtorEq, Int.reduceBEq, Int.reduceEq, Int.reduceLT, Int.reduceLE, Int.reduceGT, Int.reduceGE, Int.reduceAdd, Int.reduceSub, Int.reduceNeg, Int.reduceBNe, ite_true, ite_false, if_true, if_false, implies_true, forall_const]
  · rw [hq] at hC
    have he : s.take 1 = [47] := by simpa using hq
    have hne : ¬ (s.take 1 ≠ [47]) := fun h => h he
    rw [if_neg hne]
    have hdl : (s.drop 1).length ≤ s.length := by simp
    generalize s.drop 1 = d at *
    by_cases hd : d = []
    · have hd' : (d == []) = true := by simp [hd]
      rw [if_pos hd]
      simp only [hC, hd', outV, ↓evD, evU, evL, Nat.reduceAdd, Nat.reduceSub, Nat.reduceMul, Nat.reduceLeDiff, Nat.reduceLT, Nat.reduceEqDiff, Nat.reduceBEq, reduceIte, reduceCtorEq, Int.reduceBEq, Int.reduceEq, Int.reduceLT, Int.reduceLE, Int.reduceGT, Int.reduceGE, Int.reduceAdd, Int.reduceSub, Int.reduceNeg, Int.reduceBNe, ite_true, ite_false, if_true, if_false, implies_true, forall_const]
      rfl
    · have hd' : (d == []) = false := by simp [hd]
      rw [if_neg hd]
      have hS : ∀ base h, _ := fun base h => split_spec (base := base) (h := h) d 47 (by omega)
      have hN : ∀ base h, _ := fun base h => nums_spec (base := base) (h := h) (rl_sl (e := eS) (sz := 1) .full (splitL 47 d)) (split_small (n := 1000000) d (by omega))
      unfold numsV at hN
      unfold few
      generalize splitL 47 d = X at *
      by_cases h3 : 3 < X.length
      · simp only [h3, if_true] at hN
        simp only [hC, hd', hS, hN, h3, outV, ↓evD, evU, evL, Nat.reduceAdd, Nat.reduceSub, Nat.reduceMul, Nat.reduceLeDiff, Nat.reduceLT, Nat.reduceEqDiff, Nat.reduceBEq, reduceIte, reduceCtorEq, Int.reduceBEq, Int.reduceEq, Int.reduceLT, Int.reduceLE, Int.reduceGT, Int.reduceGE, Int.reduceAdd, Int.reduceSub, Int.reduceNeg, Int.reduceBNe, ite_true, ite_false, if_true, if_false, implies_true, forall_const]
      · simp only [h3, if_false] at hN
        cases hO : numsO X with
        | none =>
          rw [hO] at hN
          simp only at hN
          simp only [hC, hd', hS, hN, h3, hO, outV, ↓evD, evU, evL, Nat.reduceAdd, Nat.reduceSub, Nat.reduceMul, Nat.reduceLeDiff, Nat.reduceLT, Nat.reduceEqDiff, Nat.reduceBEq, reduceIte, reduceCtorEq, Int.reduceBEq, Int.reduceEq, Int.reduceLT, Int.reduceLE, Int.reduceGT, Int.reduceGE, Int.reduceAdd, Int.reduceSub, Int.reduceNeg, Int.reduceBNe, ite_true, ite_false, if_true, if_false, implies_true, forall_const]
        | some p =>
          rw [hO] at hN
          simp only at hN
          have gz := gZ_nils 1
          have hL := Lv.done (e := eI) gz p
          simp only [hC, hd', hS, hN, h3, hO, outV, hL.frz, hL.below elI, ↓evD, evU, evL, Nat.reduceAdd, Nat.reduceSub, Nat.reduceMul, Nat.reduceLeDiff, Nat.reduceLT, Nat.reduceEqDiff, Nat.reduceBEq, reduceIte, reduceCtorEq, Int.reduceBEq, Int.reduceEq, Int.reduceLT, Int.reduceLE, Int.reduceGT, Int.reduceGE, Int.reduceAdd, Int.reduceSub, Int.reduceNeg, Int.reduceBNe, ite_true, ite_false, if_true, if_false, implies_true, forall_const]
theorem beqs (n : Int) : (n == n) = true := by simp
theorem beqS (s : List UInt8) : (s == s) = true := by simp
theorem beqB (b : Bool) : (b == b) = true := by simp
end Go.Am.YtdnbedldmkagmaaDoor
namespace Go.Am
set_option linter.unusedVariables false
set_option linter.unusedSimpArgs false
structure GS (h : Hp) (T sz : Nat) (z v : PV) (es : List PV) (H : Hp) : Prop where
  tr : trunc H (size h) = h
  le : size h ≤ size H
  va : (es = [] ∧ v = z) ∨ (es ≠ [] ∧ ∃ t, v = .sl (.tok t) sz es ∧ size h ≤ t ∧ t < size H ∧ getTok H t = some (es.length, T))
section
variable {h H : Hp} {T sz : Nat} {z v : PV} {es : List PV}
theorem GS.zero (h : Hp) (T sz : Nat) (z : PV) : GS h T sz z z [] h := ⟨by simp [trunc, size], Nat.le_refl _, .inl ⟨rfl, rfl⟩⟩
theorem box_ext (H l : Hp) {t : Nat} (ht : t < size H) : box? (ext H l) t = box? H t := by
  simp only [box?, ext, size] at *
  rw [List.getElem?_append_left ht]
theorem GS.ext (g : GS h T sz z v es H) (l : List Box) : GS h T sz z v es (ext H l) := by
  refine ⟨by rw [trunc_ext_ge l g.le]; exact g.tr, by have := g.le; simp only [size, Go.Am.ext, List.length_append] at *; omega, ?_⟩
  rcases g.va with a | ⟨a, t, b, c, d, e⟩
  · exact .inl a
  · refine .inr ⟨a, t, b, c, by simp only [size, Go.Am.ext, List.length_append] at *; omega, ?_⟩
    unfold getTok at *
    rw [box_ext H l d]; exact e
theorem GS.set (g : GS h T sz z v es H) {b : Nat} {cs cs' : List PV} (hb : getBox H b = some cs) (hn : size h ≤ b) : GS h T sz z v es (setBox H b cs') := by
  refine ⟨by have := g.tr; simp only [trunc, setBox, setBx] at *; rw [List.take_set_of_le hn]; exact this, by have := g.le; simp only [size, setBox, setBx, List.length_set] at *; exact this, ?_⟩
  rcases g.va with a | ⟨a, t, q, c, d, e⟩
  · exact .inl a
  · refine .inr ⟨a, t, q, c, by simpa only [size, setBox, setBx, List.length_set] using d, ?_⟩
    have hne : b ≠ t := by
      rintro rfl
      unfold getTok at e
      unfold getBox at hb
      cases hq : box? H b with
      | none => rw [hq] at hb; cases hb
      | some x =>
        rw [hq] at hb e
        cases x <;> simp [Option.bnd, cellsOf, tokOf] at hb e
    unfold getTok at *
    simp only [box?, setBox, setBx] at *
    rw [List.getElem?_set_ne hne]; exact e
theorem GS.grow (g : GS h T sz z v es H) (hz : gZ sz z) {x : PV} (hf : fits sz x = true) (hs : strip x = x) (hl : es.length + 1 ≤ lim2) :
    ∃ v' H', growT H T sz v [x] = some (v', H') ∧ GS h T sz z v' (es ++ [x]) H' := by
  have hff : [x].all (fits sz) = true := by simp [hf]
  have hss : strips [x] = [x] := by rw [strips, hs]; rfl
  rcases g.va with ⟨rfl, rfl⟩ | ⟨hne, t, rfl, c, d, e⟩
  · refine ⟨.sl (.tok (size H)) sz [x], Go.Am.ext H [.tok 1 T], ?_, ?_⟩
    · unfold growT
      rw [if_pos hff]
      simp only [List.length_nil] at hl
      rcases hz with rfl | rfl
      · simp only
        rw [if_pos (by simpa using hl), hss]; rfl
      · simp only
        rw [if_pos (by simpa using hl), hss]; rfl
    · refine ⟨by rw [trunc_ext_ge _ g.le]; exact g.tr, by have := g.le; simp only [size, Go.Am.ext, List.length_append] at *; omega, .inr ⟨by simp, size H, rfl, g.le, by simp [size, Go.Am.ext], ?_⟩⟩
      simp [getTok, box?, size, Go.Am.ext, Option.bnd, tokOf]
  · refine ⟨.sl (.tok t) sz (es ++ [x]), setBx H t (.tok (es.length + 1) T), ?_, ?_⟩
    · unfold growT
      rw [if_pos hff]
      simp only [e, Option.bnd]
      rw [if_pos (by simpa using hl), hss]; rfl
    · refine ⟨by have := g.tr; simp only [trunc, setBx] at *; rw [List.take_set_of_le c]; exact this, by have := g.le; simp only [size, setBx, List.length_set] at *; exact this, .inr ⟨by simp, t, rfl, c, by simpa only [size, setBx, List.length_set] using d, ?_⟩⟩
      have hd : t < H.length := d
      simp [getTok, box?, setBx, List.getElem?_set_self hd, Option.bnd, tokOf]
theorem GS.frz (g : GS h T sz z v es H) (hz : gZ sz z) (n : Nat) (k : Hp) : frz n k v = some (gD z sz es) := by
  rcases g.va with ⟨rfl, rfl⟩ | ⟨hne, t, rfl, _⟩
  · rcases hz with rfl | rfl <;> rfl
  · cases es with
    | nil => exact (hne rfl).elim
    | cons x xs => rfl
end
theorem GS.rl {α : Type} {e : α → PV} {h H : Hp} {T sz : Nat} {z v : PV} {l : List α} (g : GS h T sz z v (l.map e) H) (hz : gZ sz z) : Rl e sz v l := by
  rcases g.va with ⟨a, rfl⟩ | ⟨hne, t, rfl, _⟩
  · have : l = [] := by simpa using a
    subst this
    rcases hz with rfl | rfl
    · exact rl_nils
    · exact rl_sl .full []
  · exact rl_sl _ _
end Go.Am
namespace Go.Am.YtdnbedldmkagmaaDoor
set_option maxRecDepth 100000
set_option linter.unusedSimpArgs false
set_option linter.unusedVariables false
abbrev u8i (c : UInt8) : PV := .int .u8 c.toNat
def lowB (c : UInt8) : Bool := (decide ((c.toNat : Int) ≥ 97) && decide ((c.toNat : Int) ≤ 122)) || (decide ((c.toNat : Int) ≥ 48) && decide ((c.toNat : Int) ≤ 57))
def simB (c : UInt8) : Bool := lowB c || ((c.toNat : Int) == 46) || ((c.toNat : Int) == 45)
def priB (c : UInt8) : Bool := decide ((c.toNat : Int) ≥ 32) && decide ((c.toNat : Int) ≤ 126) && !((c.toNat : Int) == 34) && !((c.toNat : Int) == 92)
def ngtB (c : UInt8) : Bool := !((c.toNat : Int) == 62)
theorem low_spec (base : Nat) (h : Hp) (c : UInt8) : CallA T base 47 [u8i c] h = some (.bool (lowB c), h) := by
  rw [S47]; unfold lowB
  by_cases c1 : (c.toNat : Int) ≥ 97 <;> by_cases c2 : (c.toNat : Int) ≤ 122 <;> by_cases c3 : (c.toNat : Int) ≥ 48 <;> by_cases c4 : (c.toNat : Int) ≤ 57 <;>
    simp only [c1, c2, c3, c4, Bool.and_true, Bool.and_false, Bool.or_true, Bool.or_false, ↓evD, evU, evL, Nat.reduceAdd, Nat.reduceSub, Nat.reduceMul, Nat.reduceLeDiff, Nat.reduceLT, Nat.reduceEqDiff, Nat.reduceBEq, reduceIte, reduceCtorEq, Int.reduceBEq, Int.reduceEq, Int.reduceLT, Int.reduceLE, Int.reduceGT, Int.reduceGE, Int.reduceAdd, Int.reduceSub, Int.reduceNeg, Int.reduceBNe, ite_true, ite_false, if_true, if_false, implies_true, forall_const]
theorem sim_spec (base : Nat) (h : Hp) (c : UInt8) : CallA T base 41 [u8i c] h = some (.bool (simB c), h) := by
  rw [S41]; unfold simB
  have hl := fun b k => low_spec b k c
  cases e1 : lowB c <;> rw [e1] at hl <;> cases e2 : ((c.toNat : Int) == 46) <;> cases e3 : ((c.toNat : Int) == 45) <;> simp only [hl, e2, e3, ↓evD, evU, evL, Nat.reduceAdd, Nat.reduceSub, Nat.reduceMul, Nat.reduceLeDiff, Nat.reduceLT, Nat.reduceEqDiff, Nat.reduceBEq, reduceIte, reduceCtorEq, Int.reduceBEq, Int.reduceEq, Int.reduceLT, Int.reduceLE, Int.reduceGT, Int.reduceGE, Int.reduceAdd, Int.reduceSub, Int.reduceNeg, Int.reduceBNe, ite_true, ite_false, if_true, if_false, implies_true, forall_const]
theorem pri_spec (base : Nat) (h : Hp) (c : UInt8) : CallA T base 52 [u8i c] h = some (.bool (priB c), h) := by
  rw [S52]; unfold priB
  by_cases c1 : (c.toNat : Int) ≥ 32 <;> by_cases c2 : (c.toNat : Int) ≤ 126 <;> cases e2 : ((c.toNat : Int) == 34) <;> cases e3 : ((c.toNat : Int) == 92) <;> simp only [c1, c2, e2, e3, bne, ↓evD, evU, evL, Nat.reduceAdd, Nat.reduceSub, Nat.reduceMul, Nat.reduceLeDiff, Nat.reduceLT, Nat.reduceEqDiff, Nat.reduceBEq, reduceIte, reduceCtorEq, Int.reduceBEq, Int.reduceEq, Int.reduceLT, Int.reduceLE, Int.reduceGT, Int.reduceGE, Int.reduceAdd, Int.reduceSub, Int.reduceNeg, Int.reduceBNe, ite_true, ite_false, if_true, if_false, implies_true, forall_const]
theorem ngt_spec (base : Nat) (h : Hp) (c : UInt8) : CallA T base 45 [u8i c] h = some (.bool (ngtB c), h) := by
  rw [S45]; unfold ngtB
  simp only [bne, ↓evD, evU, evL, Nat.reduceAdd, Nat.reduceSub, Nat.reduceMul, Nat.reduceLeDiff, Nat.reduceLT, Nat.reduceEqDiff, Nat.reduceBEq, reduceIte, reduceCtorEq, Int.reduceBEq, Int.reduceEq, Int.reduceLT, Int.reduceLE, Int.reduceGT, Int.reduceGE, Int.reduceAdd, Int.reduceSub, Int.reduceNeg, Int.reduceBNe, ite_true, ite_false, if_true, if_false, implies_true, forall_const]
/-- How many of the first signs are such. -/
theorem run_loop {h : Hp} {f : Nat} {q : UInt8 → Bool} (hf : ∀ base h c, CallA T base f [u8i c] h = some (.bool (q c), h)) (s : List UInt8) (hs : s.length ≤ 1000000) : ∀ (r p : List UInt8), s = p ++ r →
    P40_0 (size h) (size h) (i64 p.length) (.str s) (.fn f []) (i64 s.length) h = some (i64 ((p.length + (r.takeWhile q).length : Nat) : Int), h)
  | [], p, hp => by
    rw [P40_0_eq]
    have e : p.length = s.length := by rw [hp]; simp
    have h1 : ((p.length : Int) < (s.length : Int)) = False := by simp; omega
    simp only [h1, List.takeWhile_nil, List.length_nil, Nat.add_zero, ↓evD, evU, evL, Nat.reduceAdd, Nat.reduceSub, Nat.reduceMul, Nat.reduceLeDiff, Nat.reduceLT, Nat.reduceEqDiff, Nat.reduceBEq, reduceIte, reduceCtorEq, Int.reduceBEq, Int.reduceEq, Int.reduceLT, Int.reduceLE, Int.reduceGT, Int.reduceGE, Int.reduceAdd, Int.reduceSub, Int.reduceNeg, Int.reduceBNe, ite_true, ite_false, if_true, if_false, implies_true, forall_const]
    rw [e]
  | x :: r, p, hp => by
    rw [P40_0_eq]
    have el : s.length = p.length + (r.length + 1) := by rw [hp]; simp
    have h1 : ((p.length : Int) < (s.length : Int)) = True := by simp; omega
    have hx : s[p.length]? = some x := by rw [hp]; simp
    have hix := ix_nat .i64 p.length s.length (by omega)
    have hq := fun b k => hf b k x
    cases e : q x <;> rw [e] at hq
    · simp only [h1, hix, hx, hq, List.append_nil, List.takeWhile_cons, e, List.length_nil, Nat.add_zero, ↓evD, evU, evL, Nat.reduceAdd, Nat.reduceSub, Nat.reduceMul, Nat.reduceLeDiff, Nat.reduceLT, Nat.reduceEqDiff, Nat.reduceBEq, reduceIte, reduceCtorEq, Int.reduceBEq, Int.reduceEq, Int.reduceLT, Int.reduceLE, Int.reduceGT, Int.reduceGE, Int.reduceAdd, Int.reduceSub, Int.reduceNeg, Int.reduceBNe, ite_true, ite_false, if_true, if_false, implies_true, forall_const]
    · have w1 : IntKind.i64.wrap ((p.length : Int) + 1) = (((p ++ [x]).length : Nat) : Int) := by rw [show (p ++ [x]).length = p.length + 1 by simp, wrap_small] <;> omega
      have ih := run_loop (h := h) hf s hs r (p ++ [x]) (by rw [hp]; simp)
      simp only [h1, hix, hx, hq, w1, ih, List.append_nil, List.takeWhile_cons, e, ↓evD, evU, evL, Nat.reduceAdd, Nat.reduceSub, Nat.reduceMul, Nat.reduceLeDiff, Nat.reduceLT, Nat.reduceEqDiff, Nat.reduceBEq, reduceIte, reduceCtorEq, Int.reduceBEq, Int.reduceEq, Int.reduceLT, Int.reduceLE, Int.reduceGT, Int.reduceGE, Int.reduceAdd, Int.reduceSub, Int.reduceNeg, Int.reduceBNe, ite_true, ite_false, if_true, if_false, implies_true, forall_const]
      simp only [List.length_append, List.length_cons, List.length_nil]
      congr 4
      omega
theorem run_spec {base : Nat} {h : Hp} {f : Nat} {q : UInt8 → Bool} (hf : ∀ base h c, CallA T base f [u8i c] h = some (.bool (q c), h)) (s : List UInt8) (hs : s.length ≤ 1000000) :
    CallA T base 40 [.str s, .fn f []] h = some (i64 (s.takeWhile q).length, h) := by
  rw [S40]
  have := run_loop (h := h) hf s hs s [] rfl
  rw [List.length_nil, Nat.zero_add] at this
  simp only [↓evD, evU, evL, Nat.reduceAdd, Nat.reduceSub, Nat.reduceMul, Nat.reduceLeDiff, Nat.reduceLT, Nat.reduceEqDiff, Nat.reduceBEq, reduceIte, reduceCtorEq, Int.reduceBEq, Int.reduceEq, Int.reduceLT, Int.reduceLE, Int.reduceGT, Int.reduceGE, Int.reduceAdd, Int.reduceSub, Int.reduceNeg, Int.reduceBNe, ite_true, ite_false, if_true, if_false, implies_true, forall_const]
  exact this
theorem tw_all {q : UInt8 → Bool} : ∀ s : List UInt8, (((s.takeWhile q).length : Int) == (s.length : Int)) = s.all q
  | [] => rfl
  | x :: s => by
    have ih := tw_all (q := q) s
    rw [List.takeWhile_cons, List.all_cons]
    cases e : q x
    · simp only [List.length_nil, List.length_cons, Bool.false_and, Bool.false_eq_true, if_false]
      rw [beq_eq_false_iff_ne]; simp; omega
    · simp only [List.length_cons, Bool.true_and, if_true]
      rw [← ih, Bool.eq_iff_iff, beq_iff_eq, beq_iff_eq]; omega
def nmB (s : List UInt8) : Bool := !(s == []) && decide ((s.length : Int) ≤ 16) && s.all lowB
def vlB (s : List UInt8) : Bool := s.all priB && decide ((s.length : Int) ≤ 60)
def plB (s : List UInt8) : Bool := !(s == []) && s.all simB
theorem name_spec {base : Nat} {h : Hp} (s : List UInt8) (hs : s.length ≤ 1000000) : CallA T base 48 [.str s] h = some (.bool (nmB s), h) := by
  rw [S48]; unfold nmB
  have hr := fun b k => run_spec (base := b) (h := k) low_spec s hs
  have ha := tw_all (q := lowB) s
  cases e1 : (s == [])
  · by_cases c1 : (s.length : Int) ≤ 16
    · simp only [e1, c1, hr, ha, bne, ↓evD, evU, evL, Nat.reduceAdd, Nat.reduceSub, Nat.reduceMul, Nat.reduceLeDiff, Nat.reduceLT, Nat.reduceEqDiff, Nat.reduceBEq, reduceIte, reduceCtorEq, Int.reduceBEq, Int.reduceEq, Int.reduceLT, Int.reduceLE, Int.reduceGT, Int.reduceGE, Int.reduceAdd, Int.reduceSub, Int.reduceNeg, Int.reduceBNe, ite_true, ite_false, if_true, if_false, implies_true, forall_const]
    · simp only [e1, c1, hr, ha, bne, ↓evD, evU, evL, Nat.reduceAdd, Nat.reduceSub, Nat.reduceMul, Nat.reduceLeDiff, Nat.reduceLT, Nat.reduceEqDiff, Nat.reduceBEq, reduceIte, reduceCtorEq, Int.reduceBEq, Int.reduceEq, Int.reduceLT, Int.reduceLE, Int.reduceGT, Int.reduceGE, Int.reduceAdd, Int.reduceSub, Int.reduceNeg, Int.reduceBNe, ite_true, ite_false, if_true, if_false, implies_true, forall_const]
  · simp only [e1, bne, ↓evD, evU, evL, Nat.reduceAdd, Nat.reduceSub, Nat.reduceMul, Nat.reduceLeDiff, Nat.reduceLT, Nat.reduceEqDiff, Nat.reduceBEq, reduceIte, reduceCtorEq, Int.reduceBEq, Int.reduceEq, Int.reduceLT, Int.reduceLE, Int.reduceGT, Int.reduceGE, Int.reduceAdd, Int.reduceSub, Int.reduceNeg, Int.reduceBNe, ite_true, ite_false, if_true, if_false, implies_true, forall_const]
end Go.Am.YtdnbedldmkagmaaDoor
namespace Go.Am.YtdnbedldmkagmaaDoor
set_option maxRecDepth 100000
set_option linter.unusedSimpArgs false
set_option linter.unusedVariables false
abbrev Pr := List UInt8 × List UInt8 × Bool
def eP (p : Pr) : PV := .agg [.str p.1, .str p.2.1, .bool p.2.2]
theorem elP : El eP 3 := ⟨fun _ => rfl, fun _ => rfl, fun _ => rfl, fun _ _ => rfl⟩
abbrev Px := {p : PV // ∃ l, Lv eI 1 p l}
abbrev Ax := {p : PV // ∃ l, Lv eP 3 p l}
abbrev Lk := Px × Ax
noncomputable def pL (k : Lk) : List Int := k.1.2.choose
noncomputable def aL (k : Lk) : List Pr := k.2.2.choose
theorem pV (k : Lk) : Lv eI 1 k.1.1 (pL k) := k.1.2.choose_spec
theorem aV (k : Lk) : Lv eP 3 k.2.1 (aL k) := k.2.2.choose_spec
def eL (k : Lk) : PV := .agg [k.1.1, k.2.1]
theorem elL : El eL 2 := by
  refine ⟨fun a => rfl, fun a => ?_, fun a => ?_, fun n a => ?_⟩
  · show List.all [a.1.1, a.2.1] scalar = true
    simp only [List.all_cons, (pV a).scalar, (aV a).scalar]; rfl
  · show PV.agg [strip a.1.1, strip a.2.1] = _
    rw [(pV a).strip, (aV a).strip]; rfl
  · show (below n a.1.1 && (below n a.2.1 && true)) = true
    rw [(pV a).below elI, (aV a).below elP]; rfl
theorem ecL (k : Lk) : (eL k).cells = [k.1.1, k.2.1] := rfl
theorem ecP (p : Pr) : (eP p).cells = [.str p.1, .str p.2.1, .bool p.2.2] := rfl
/-- A heap that has grown in a frame. -/
structure Hg (h H : Hp) : Prop where
  tr : trunc H (size h) = h
  le : size h ≤ size H
theorem Hg.refl (h : Hp) : Hg h h := ⟨by simp [trunc, size], Nat.le_refl _⟩
theorem Hg.ext {h H : Hp} (g : Hg h H) (l : List Box) : Hg h (ext H l) :=
  ⟨by rw [trunc_ext_ge _ g.le]; exact g.tr, by have := g.le; simp only [size, Go.Am.ext, List.length_append] at *; omega⟩
theorem Hg.lt {h H : Hp} (g : Hg h H) : (size H < size h) = False := by have := g.le; simp; omega
/-- Few signs. -/
def fewP (p : Pr) : Bool := decide (p.1.length ≤ 100) && decide (p.2.1.length ≤ 200)
noncomputable def fewK (k : Lk) : Bool := decide ((aL k).length ≤ 20) && decide ((pL k).length ≤ 100) && (aL k).all fewP
noncomputable def fewL (l : List Lk) : Bool := decide (l.length ≤ 80) && l.all fewK
theorem few_in {h : Hp} {b : PV} {l : List Lk} (hb : Rl eL 2 b l) (hl : l.length ≤ 80) {i : Nat} {k : Lk} (hk : l[i]? = some k) (hn : (aL k).length ≤ 20) :
    ∀ (r q : List Pr), aL k = q ++ r → P6_1 (size h) (size h) (i64 q.length) (i64 i) b h = if r.all fewP then P6_0 (size h) (size h) (i64 ((i + 1 : Nat) : Int)) b h else some (.bool false, h)
  | [], q, hp => by
    rw [P6_1_eq]
    have hi : i < l.length := by
      rcases Nat.lt_or_ge i l.length with h | h
      · exact h
      · rw [List.getElem?_eq_none h] at hk; cases hk
    have e : q.length = (aL k).length := by rw [hp]; simp
    have h1 : ((q.length : Int) < ((aL k).length : Int)) = False := by simp; omega
    have w1 : IntKind.i64.wrap ((i : Int) + 1) = ((i + 1 : Nat) : Int) := by rw [wrap_small] <;> omega
    simp only [hb.idx hk, ecL, (aV k).len, h1, w1, List.all_nil, ↓evD, evU, evL, Nat.reduceAdd, Nat.reduceSub, Nat.reduceMul, Nat.reduceLeDiff, Nat.reduceLT, Nat.reduceEqDiff, Nat.reduceBEq, reduceIte, reduceCtorEq, Int.reduceBEq, Int.reduceEq, Int.reduceLT, Int.reduceLE, Int.reduceGT, Int.reduceGE, Int.reduceAdd, Int.reduceSub, Int.reduceNeg, Int.reduceBNe, ite_true, ite_false, if_true, if_false, implies_true, forall_const]
  | x :: r, q, hp => by
    rw [P6_1_eq]
    have el : (aL k).length = q.length + (r.length + 1) := by rw [hp]; simp
    have h1 : ((q.length : Int) < ((aL k).length : Int)) = True := by simp; omega
    have hx : (aL k)[q.length]? = some x := by rw [hp]; simp
    have w1 : IntKind.i64.wrap ((q.length : Int) + 1) = (((q ++ [x]).length : Nat) : Int) := by rw [show (q ++ [x]).length = q.length + 1 by simp, wrap_small] <;> omega
    have ih := few_in (h := h) hb hl hk hn r (q ++ [x]) (by rw [hp]; simp)
    by_cases c1 : (x.1.length : Int) > 100
    · have : fewP x = false := by simp [fewP]; omega
      simp only [hb.idx hk, ecL, (aV k).len, h1, (aV k).idx hx, ecP, c1, List.all_cons, this, ↓evD, evU, evL, Nat.reduceAdd, Nat.reduceSub, Nat.reduceMul, Nat.reduceLeDiff, Nat.reduceLT, Nat.reduceEqDiff, Nat.reduceBEq, reduceIte, reduceCtorEq, Int.reduceBEq, Int.reduceEq, Int.reduceLT, Int.reduceLE, Int.reduceGT, Int.reduceGE, Int.reduceAdd, Int.reduceSub, Int.reduceNeg, Int.reduceBNe, ite_true, ite_false, if_true, if_false, implies_true, forall_const]
    by_cases c2 : (x.2.1.length : Int) > 200
    · have : fewP x = false := by simp [fewP]; omega
      simp only [hb.idx hk, ecL, (aV k).len, h1, (aV k).idx hx, ecP, c1, c2, List.all_cons, this, ↓evD, evU, evL, Nat.reduceAdd, Nat.reduceSub, Nat.reduceMul, Nat.reduceLeDiff, Nat.reduceLT, Nat.reduceEqDiff, Nat.reduceBEq, reduceIte, reduceCtorEq, Int.reduceBEq, Int.reduceEq, Int.reduceLT, Int.reduceLE, Int.reduceGT, Int.reduceGE, Int.reduceAdd, Int.reduceSub, Int.reduceNeg, Int.reduceBNe, ite_true, ite_false, if_true, if_false, implies_true, forall_const]
    have : fewP x = true := by simp [fewP]; omega
    simp only [hb.idx hk, ecL, (aV k).len, h1, (aV k).idx hx, ecP, c1, c2, w1, ih, List.all_cons, this, ↓evD, evU, evL, Nat.reduceAdd, Nat.reduceSub, Nat.reduceMul, Nat.reduceLeDiff, Nat.reduceLT, Nat.reduceEqDiff, Nat.reduceBEq, reduceIte, reduceCtorEq, Int.reduceBEq, Int.reduceEq, Int.reduceLT, Int.reduceLE, Int.reduceGT, Int.reduceGE, Int.reduceAdd, Int.reduceSub, Int.reduceNeg, Int.reduceBNe, ite_true, ite_false, if_true, if_false, implies_true, forall_const]
theorem few_loop {h : Hp} {b : PV} {l : List Lk} (hb : Rl eL 2 b l) (hl : l.length ≤ 80) : ∀ (r q : List Lk), l = q ++ r →
    P6_0 (size h) (size h) (i64 q.length) b h = some (.bool (r.all fewK), h)
  | [], q, hp => by
    rw [P6_0_eq]
    have e : q.length = l.length := by rw [hp]; simp
    have h1 : ((q.length : Int) < (l.length : Int)) = False := by simp; omega
    simp only [h1, hb.len, List.all_nil, ↓evD, evU, evL, Nat.reduceAdd, Nat.reduceSub, Nat.reduceMul, Nat.reduceLeDiff, Nat.reduceLT, Nat.reduceEqDiff, Nat.reduceBEq, reduceIte, reduceCtorEq, Int.reduceBEq, Int.reduceEq, Int.reduceLT, Int.reduceLE, Int.reduceGT, Int.reduceGE, Int.reduceAdd, Int.reduceSub, Int.reduceNeg, Int.reduceBNe, ite_true, ite_false, if_true, if_false, implies_true, forall_const]
  | x :: r, q, hp => by
    rw [P6_0_eq]
    have el : l.length = q.length + (r.length + 1) := by rw [hp]; simp
    have h1 : ((q.length : Int) < (l.length : Int)) = True := by simp; omega
    have hx : l[q.length]? = some x := by rw [hp]; simp
    by_cases c1 : ((aL x).length : Int) > 20
    · have : fewK x = false := by simp [fewK]; omega
      simp only [h1, hb.len, hb.idx hx, ecL, (aV x).len, c1, List.all_cons, this, ↓evD, evU, evL, Nat.reduceAdd, Nat.reduceSub, Nat.reduceMul, Nat.reduceLeDiff, Nat.reduceLT, Nat.reduceEqDiff, Nat.reduceBEq, reduceIte, reduceCtorEq, Int.reduceBEq, Int.reduceEq, Int.reduceLT, Int.reduceLE, Int.reduceGT, Int.reduceGE, Int.reduceAdd, Int.reduceSub, Int.reduceNeg, Int.reduceBNe, ite_true, ite_false, if_true, if_false, implies_true, forall_const]
    by_cases c2 : ((pL x).length : Int) > 100
    · have : fewK x = false := by simp [fewK]; omega
      simp only [h1, hb.len, hb.idx hx, ecL, (aV x).len, (pV x).len, c1, c2, List.all_cons, this, ↓evD, evU, evL, Nat.reduceAdd, Nat.reduceSub, Nat.reduceMul, Nat.reduceLeDiff, Nat.reduceLT, Nat.reduceEqDiff, Nat.reduceBEq, reduceIte, reduceCtorEq, Int.reduceBEq, Int.reduceEq, Int.reduceLT, Int.reduceLE, Int.reduceGT, Int.reduceGE, Int.reduceAdd, Int.reduceSub, Int.reduceNeg, Int.reduceBNe, ite_true, ite_false, if_true, if_false, implies_true, forall_const]
    have hin := few_in (h := h) hb hl hx (by omega) (aL x) [] rfl
    have ih := few_loop (h := h) hb hl r (q ++ [x]) (by rw [hp]; simp)
    rw [show (q ++ [x]).length = q.length + 1 by simp] at ih
    rw [ih] at hin
    have e3 : fewK x = (aL x).all fewP := by
      unfold fewK
      rw [decide_eq_true (by omega : (aL x).length ≤ 20), decide_eq_true (by omega : (pL x).length ≤ 100)]; rfl
    simp only [h1, hb.len, hb.idx hx, ecL, (aV x).len, (pV x).len, c1, c2, List.all_cons, e3, ↓evD, evU, evL, Nat.reduceAdd, Nat.reduceSub, Nat.reduceMul, Nat.reduceLeDiff, Nat.reduceLT, Nat.reduceEqDiff, Nat.reduceBEq, reduceIte, reduceCtorEq, Int.reduceBEq, Int.reduceEq, Int.reduceLT, Int.reduceLE, Int.reduceGT, Int.reduceGE, Int.reduceAdd, Int.reduceSub, Int.reduceNeg, Int.reduceBNe, ite_true, ite_false, if_true, if_false, implies_true, forall_const]
    refine hin.trans ?_
    cases (aL x).all fewP <;> rfl
theorem few_spec {base : Nat} {h : Hp} {b : PV} {l : List Lk} (hb : Rl eL 2 b l) : CallA T base 6 [b] h = some (.bool (fewL l), h) := by
  rw [S6]
  unfold fewL
  by_cases h3 : l.length ≤ 80
  · have h1 : ((l.length : Int) > 80) = False := by simp; omega
    have := few_loop (h := h) hb h3 l [] rfl
    rw [decide_eq_true h3]
    simp only [hb.len, h1, ↓evD, evU, evL, Nat.reduceAdd, Nat.reduceSub, Nat.reduceMul, Nat.reduceLeDiff, Nat.reduceLT, Nat.reduceEqDiff, Nat.reduceBEq, reduceIte, reduceCtorEq, Int.reduceBEq, Int.reduceEq, Int.reduceLT, Int.reduceLE, Int.reduceGT, Int.reduceGE, Int.reduceAdd, Int.reduceSub, Int.reduceNeg, Int.reduceBNe, ite_true, ite_false, if_true, if_false, implies_true, forall_const]
    exact this
  · have h1 : ((l.length : Int) > 80) = True := by simp; omega
    rw [decide_eq_false h3]
    simp only [hb.len, h1, ↓evD, evU, evL, Nat.reduceAdd, Nat.reduceSub, Nat.reduceMul, Nat.reduceLeDiff, Nat.reduceLT, Nat.reduceEqDiff, Nat.reduceBEq, reduceIte, reduceCtorEq, Int.reduceBEq, Int.reduceEq, Int.reduceLT, Int.reduceLE, Int.reduceGT, Int.reduceGE, Int.reduceAdd, Int.reduceSub, Int.reduceNeg, Int.reduceBNe, ite_true, ite_false, if_true, if_false, implies_true, forall_const]
/-- Small. -/
def SmP (p : Pr) : Prop := p.1.length ≤ 10000 ∧ p.2.1.length ≤ 10000
structure SmK (k : Lk) : Prop where
  p : (pL k).length ≤ 10000
  a : (aL k).length ≤ 10000
  s : ∀ p ∈ aL k, SmP p
theorem sm_few {l : List Lk} (h : fewL l = true) : l.length ≤ 80 ∧ ∀ k ∈ l, SmK k := by
  unfold fewL at h
  rw [Bool.and_eq_true, decide_eq_true_eq, List.all_eq_true] at h
  refine ⟨h.1, fun k hk => ?_⟩
  have := h.2 k hk
  unfold fewK at this
  rw [Bool.and_eq_true, Bool.and_eq_true, decide_eq_true_eq, decide_eq_true_eq, List.all_eq_true] at this
  refine ⟨by omega, by omega, fun p hp => ?_⟩
  have h2 := this.2 p hp
  unfold fewP at h2
  rw [Bool.and_eq_true, decide_eq_true_eq, decide_eq_true_eq] at h2
  exact ⟨by omega, by omega⟩
def prB (p : Pr) : Bool := nmB p.1 && (if p.2.2 then p.2.1 == [] else vlB p.2.1)
noncomputable def lkB (k : Lk) : Bool := rightB (pL k) && decide ((aL k).length ≤ 8) && (aL k).all prB
noncomputable def rgB (l : List Lk) : Bool := decide (l.length ≤ 64) && l.all lkB
theorem pair_spec (base : Nat) (h : Hp) {p : Pr} (hs : SmP p) : CallA T base 36 [eP p] h = some (.bool (prB p), h) := by
  have s1 : p.1.length ≤ 1000000 := by have := hs.1; omega
  have s2 : p.2.1.length ≤ 1000000 := by have := hs.2; omega
  have hn := fun b k => name_spec (base := b) (h := k) p.1 s1
  have hr := fun b k => run_spec (base := b) (h := k) pri_spec p.2.1 s2
  have ha := tw_all (q := priB) p.2.1
  have hep : eP p = .agg [.str p.1, .str p.2.1, .bool p.2.2] := rfl
  rw [S36, hep]
  unfold prB vlB
  cases hb : p.2.2 <;> cases e1 : nmB p.1 <;> rw [e1] at hn
  · simp only [hn, ↓evD, evU, evL, Nat.reduceAdd, Nat.reduceSub, Nat.reduceMul, Nat.reduceLeDiff, Nat.reduceLT, Nat.reduceEqDiff, Nat.reduceBEq, reduceIte, reduceCtorEq, Int.reduceBEq, Int.reduceEq, Int.reduceLT, Int.reduceLE, Int.reduceGT, Int.reduceGE, Int.reduceAdd, Int.reduceSub, Int.reduceNeg, Int.reduceBNe, ite_true, ite_false, if_true, if_false, implies_true, forall_const]
  · by_cases c1 : (p.2.1.length : Int) ≤ 60 <;> cases e2 : p.2.1.all priB <;> rw [e2] at ha <;> simp only [hn, hr, ha, c1, ↓evD, evU, evL, Nat.reduceAdd, Nat.reduceSub, Nat.reduceMul, Nat.reduceLeDiff, Nat.reduceLT, Nat.reduceEqDiff, Nat.reduceBEq, reduceIte, reduceCtorEq, Int.reduceBEq, Int.reduceEq, Int.reduceLT, Int.reduceLE, Int.reduceGT, Int.reduceGE, Int.reduceAdd, Int.reduceSub, Int.reduceNeg, Int.reduceBNe, ite_true, ite_false, if_true, if_false, implies_true, forall_const]
  · simp only [hn, ↓evD, evU, evL, Nat.reduceAdd, Nat.reduceSub, Nat.reduceMul, Nat.reduceLeDiff, Nat.reduceLT, Nat.reduceEqDiff, Nat.reduceBEq, reduceIte, reduceCtorEq, Int.reduceBEq, Int.reduceEq, Int.reduceLT, Int.reduceLE, Int.reduceGT, Int.reduceGE, Int.reduceAdd, Int.reduceSub, Int.reduceNeg, Int.reduceBNe, ite_true, ite_false, if_true, if_false, implies_true, forall_const]
  · cases e2 : (p.2.1 == []) <;> simp only [hn, e2, ↓evD, evU, evL, Nat.reduceAdd, Nat.reduceSub, Nat.reduceMul, Nat.reduceLeDiff, Nat.reduceLT, Nat.reduceEqDiff, Nat.reduceBEq, reduceIte, reduceCtorEq, Int.reduceBEq, Int.reduceEq, Int.reduceLT, Int.reduceLE, Int.reduceGT, Int.reduceGE, Int.reduceAdd, Int.reduceSub, Int.reduceNeg, Int.reduceBNe, ite_true, ite_false, if_true, if_false, implies_true, forall_const]
theorem npair_spec (base : Nat) (h : Hp) {p : Pr} (hs : SmP p) : CallA T base 35 [eP p] h = some (.bool (!prB p), h) := by
  have hep : eP p = .agg [.str p.1, .str p.2.1, .bool p.2.2] := rfl
  have hn := fun b k => pair_spec b k hs
  rw [hep] at hn
  rw [S35, hep]
  cases e : prB p <;> rw [e] at hn <;> simp only [hn, ↓evD, evU, evL, Nat.reduceAdd, Nat.reduceSub, Nat.reduceMul, Nat.reduceLeDiff, Nat.reduceLT, Nat.reduceEqDiff, Nat.reduceBEq, reduceIte, reduceCtorEq, Int.reduceBEq, Int.reduceEq, Int.reduceLT, Int.reduceLE, Int.reduceGT, Int.reduceGE, Int.reduceAdd, Int.reduceSub, Int.reduceNeg, Int.reduceBNe, ite_true, ite_false, if_true, if_false, implies_true, forall_const]
end Go.Am.YtdnbedldmkagmaaDoor
namespace Go.Am.YtdnbedldmkagmaaDoor
set_option maxRecDepth 100000
set_option linter.unusedSimpArgs false
set_option linter.unusedVariables false
theorem idxP_loop {h : Hp} {b : PV} {l : List Pr} (hb : Rl eP 3 b l) (hl : l.length ≤ 10000) (hs : ∀ p ∈ l, SmP p) : ∀ (r q : List Pr), l = q ++ r →
    ∃ n : Int, P51_0 (size h) (size h) (i64 q.length) b (.fn 35 []) (i64 l.length) h = some (i64 n, h) ∧ decide (n ≥ 0) = !(r.all prB)
  | [], q, hp => by
    have e : q.length = l.length := by rw [hp]; simp
    have h1 : ((q.length : Int) < (l.length : Int)) = False := by simp; omega
    refine ⟨-1, ?_, rfl⟩
    rw [P51_0_eq]
    simp only [h1, ↓evD, evU, evL, Nat.reduceAdd, Nat.reduceSub, Nat.reduceMul, Nat.reduceLeDiff, Nat.reduceLT, Nat.reduceEqDiff, Nat.reduceBEq, reduceIte, reduceCtorEq, Int.reduceBEq, Int.reduceEq, Int.reduceLT, Int.reduceLE, Int.reduceGT, Int.reduceGE, Int.reduceAdd, Int.reduceSub, Int.reduceNeg, Int.reduceBNe, ite_true, ite_false, if_true, if_false, implies_true, forall_const]
  | x :: r, q, hp => by
    have el : l.length = q.length + (r.length + 1) := by rw [hp]; simp
    have h1 : ((q.length : Int) < (l.length : Int)) = True := by simp; omega
    have hx : l[q.length]? = some x := by rw [hp]; simp
    have w1 : IntKind.i64.wrap ((q.length : Int) + 1) = (((q ++ [x]).length : Nat) : Int) := by rw [show (q ++ [x]).length = q.length + 1 by simp, wrap_small] <;> omega
    obtain ⟨n, i1, i2⟩ := idxP_loop (h := h) hb hl hs r (q ++ [x]) (by rw [hp]; simp)
    have hq := fun b k => npair_spec b k (hs x (by rw [hp]; simp))
    have hep : eP x = .agg [.str x.1, .str x.2.1, .bool x.2.2] := rfl
    rw [hep] at hq
    cases e : prB x <;> rw [e] at hq
    · refine ⟨q.length, ?_, ?_⟩
      · rw [P51_0_eq]
        simp only [h1, hb.idx hx, ecP, hq, List.append_nil, ↓evD, evU, evL, Nat.reduceAdd, Nat.reduceSub, Nat.reduceMul, Nat.reduceLeDiff, Nat.reduceLT, Nat.reduceEqDiff, Nat.reduceBEq, reduceIte, reduceCtorEq, Int.reduceBEq, Int.reduceEq, Int.reduceLT, Int.reduceLE, Int.reduceGT, Int.reduceGE, Int.reduceAdd, Int.reduceSub, Int.reduceNeg, Int.reduceBNe, ite_true, ite_false, if_true, if_false, implies_true, forall_const]
      · rw [List.all_cons, e]; simp
    · refine ⟨n, ?_, ?_⟩
      · rw [P51_0_eq]
        simp only [h1, hb.idx hx, ecP, hq, w1, i1, List.append_nil, ↓evD, evU, evL, Nat.reduceAdd, Nat.reduceSub, Nat.reduceMul, Nat.reduceLeDiff, Nat.reduceLT, Nat.reduceEqDiff, Nat.reduceBEq, reduceIte, reduceCtorEq, Int.reduceBEq, Int.reduceEq, Int.reduceLT, Int.reduceLE, Int.reduceGT, Int.reduceGE, Int.reduceAdd, Int.reduceSub, Int.reduceNeg, Int.reduceBNe, ite_true, ite_false, if_true, if_false, implies_true, forall_const]
      · rw [List.all_cons, e, Bool.true_and]; exact i2
theorem anyP_spec {h : Hp} {base : Nat} {b : PV} {l : List Pr} (hb : Rl eP 3 b l) (hl : l.length ≤ 10000) (hs : ∀ p ∈ l, SmP p) : CallA T base 34 [b, .fn 35 []] h = some (.bool (!(l.all prB)), h) := by
  have h60 : ∀ base h, ∃ n : Int, CallA T base 51 [b, .fn 35 []] h = some (i64 n, h) ∧ decide (n ≥ 0) = !(l.all prB) := by
    intro base h
    obtain ⟨n, h1, h2⟩ := idxP_loop (h := h) hb hl hs l [] rfl
    refine ⟨n, ?_, h2⟩
    rw [S51]
    simp only [hb.len, ↓evD, evU, evL, Nat.reduceAdd, Nat.reduceSub, Nat.reduceMul, Nat.reduceLeDiff, Nat.reduceLT, Nat.reduceEqDiff, Nat.reduceBEq, reduceIte, reduceCtorEq, Int.reduceBEq, Int.reduceEq, Int.reduceLT, Int.reduceLE, Int.reduceGT, Int.reduceGE, Int.reduceAdd, Int.reduceSub, Int.reduceNeg, Int.reduceBNe, ite_true, ite_false, if_true, if_false, implies_true, forall_const]
    exact h1
  rw [S34]
  obtain ⟨n, h1, h2⟩ := h60 (size h) h
  simp only [h1, h2, ↓evD, evU, evL, Nat.reduceAdd, Nat.reduceSub, Nat.reduceMul, Nat.reduceLeDiff, Nat.reduceLT, Nat.reduceEqDiff, Nat.reduceBEq, reduceIte, reduceCtorEq, Int.reduceBEq, Int.reduceEq, Int.reduceLT, Int.reduceLE, Int.reduceGT, Int.reduceGE, Int.reduceAdd, Int.reduceSub, Int.reduceNeg, Int.reduceBNe, ite_true, ite_false, if_true, if_false, implies_true, forall_const]
theorem link_spec (base : Nat) (h : Hp) {k : Lk} (hs : SmK k) : CallA T base 24 [eL k] h = some (.bool (lkB k), h) := by
  have hel : eL k = .agg [k.1.1, k.2.1] := rfl
  have h1 := fun b m => anyP_spec (base := b) (h := m) (aV k).rl hs.a hs.s
  have h2 := fun b m => right_spec (base := b) (h := m) (pV k).rl (by have := hs.p; omega)
  have c3 : decide (((aL k).length : Int) ≤ 8) = decide ((aL k).length ≤ 8) := by
    by_cases hq : (aL k).length ≤ 8
    · rw [decide_eq_true hq, decide_eq_true (by omega)]
    · rw [decide_eq_false hq, decide_eq_false (by omega)]
  rw [S24, hel]
  unfold lkB
  cases e1 : (aL k).all prB <;> rw [e1] at h1 <;> cases e2 : rightB (pL k) <;> rw [e2] at h2 <;> cases e3 : decide ((aL k).length ≤ 8) <;> rw [e3] at c3 <;>
    simp only [(pV k).scalar, (aV k).scalar, (aV k).len, h1, h2, c3, ↓evD, evU, evL, Nat.reduceAdd, Nat.reduceSub, Nat.reduceMul, Nat.reduceLeDiff, Nat.reduceLT, Nat.reduceEqDiff, Nat.reduceBEq, reduceIte, reduceCtorEq, Int.reduceBEq, Int.reduceEq, Int.reduceLT, Int.reduceLE, Int.reduceGT, Int.reduceGE, Int.reduceAdd, Int.reduceSub, Int.reduceNeg, Int.reduceBNe, ite_true, ite_false, if_true, if_false, implies_true, forall_const]
theorem nlink_spec (base : Nat) (h : Hp) {k : Lk} (hs : SmK k) : CallA T base 23 [eL k] h = some (.bool (!lkB k), h) := by
  have hel : eL k = .agg [k.1.1, k.2.1] := rfl
  have hn := fun b m => link_spec b m hs
  rw [hel] at hn
  rw [S23, hel]
  cases e : lkB k <;> rw [e] at hn <;> simp only [(pV k).scalar, (aV k).scalar, hn, ↓evD, evU, evL, Nat.reduceAdd, Nat.reduceSub, Nat.reduceMul, Nat.reduceLeDiff, Nat.reduceLT, Nat.reduceEqDiff, Nat.reduceBEq, reduceIte, reduceCtorEq, Int.reduceBEq, Int.reduceEq, Int.reduceLT, Int.reduceLE, Int.reduceGT, Int.reduceGE, Int.reduceAdd, Int.reduceSub, Int.reduceNeg, Int.reduceBNe, ite_true, ite_false, if_true, if_false, implies_true, forall_const]
theorem idxL_loop {h : Hp} {b : PV} {l : List Lk} (hb : Rl eL 2 b l) (hl : l.length ≤ 10000) (hs : ∀ p ∈ l, SmK p) : ∀ (r q : List Lk), l = q ++ r →
    ∃ n : Int, P33_0 (size h) (size h) (i64 q.length) b (.fn 23 []) (i64 l.length) h = some (i64 n, h) ∧ decide (n ≥ 0) = !(r.all lkB)
  | [], q, hp => by
    have e : q.length = l.length := by rw [hp]; simp
    have h1 : ((q.length : Int) < (l.length : Int)) = False := by simp; omega
    refine ⟨-1, ?_, rfl⟩
    rw [P33_0_eq]
    simp only [h1, ↓evD, evU, evL, Nat.reduceAdd, Nat.reduceSub, Nat.reduceMul, Nat.reduceLeDiff, Nat.reduceLT, Nat.reduceEqDiff, Nat.reduceBEq, reduceIte, reduceCtorEq, Int.reduceBEq, Int.reduceEq, Int.reduceLT, Int.reduceLE, Int.reduceGT, Int.reduceGE, Int.reduceAdd, Int.reduceSub, Int.reduceNeg, Int.reduceBNe, ite_true, ite_false, if_true, if_false, implies_true, forall_const]
  | x :: r, q, hp => by
    have el : l.length = q.length + (r.length + 1) := by rw [hp]; simp
    have h1 : ((q.length : Int) < (l.length : Int)) = True := by simp; omega
    have hx : l[q.length]? = some x := by rw [hp]; simp
    have w1 : IntKind.i64.wrap ((q.length : Int) + 1) = (((q ++ [x]).length : Nat) : Int) := by rw [show (q ++ [x]).length = q.length + 1 by simp, wrap_small] <;> omega
    obtain ⟨n, i1, i2⟩ := idxL_loop (h := h) hb hl hs r (q ++ [x]) (by rw [hp]; simp)
    have hq := fun b k => nlink_spec b k (hs x (by rw [hp]; simp))
    have hep : eL x = .agg [x.1.1, x.2.1] := rfl
    rw [hep] at hq
    cases e : lkB x <;> rw [e] at hq
    · refine ⟨q.length, ?_, ?_⟩
      · rw [P33_0_eq]
        simp only [h1, hb.idx hx, ecL, hq, List.append_nil, ↓evD, evU, evL, Nat.reduceAdd, Nat.reduceSub, Nat.reduceMul, Nat.reduceLeDiff, Nat.reduceLT, Nat.reduceEqDiff, Nat.reduceBEq, reduceIte, reduceCtorEq, Int.reduceBEq, Int.reduceEq, Int.reduceLT, Int.reduceLE, Int.reduceGT, Int.reduceGE, Int.reduceAdd, Int.reduceSub, Int.reduceNeg, Int.reduceBNe, ite_true, ite_false, if_true, if_false, implies_true, forall_const]
      · rw [List.all_cons, e]; simp
    · refine ⟨n, ?_, ?_⟩
      · rw [P33_0_eq]
        simp only [h1, hb.idx hx, ecL, hq, w1, i1, List.append_nil, ↓evD, evU, evL, Nat.reduceAdd, Nat.reduceSub, Nat.reduceMul, Nat.reduceLeDiff, Nat.reduceLT, Nat.reduceEqDiff, Nat.reduceBEq, reduceIte, reduceCtorEq, Int.reduceBEq, Int.reduceEq, Int.reduceLT, Int.reduceLE, Int.reduceGT, Int.reduceGE, Int.reduceAdd, Int.reduceSub, Int.reduceNeg, Int.reduceBNe, ite_true, ite_false, if_true, if_false, implies_true, forall_const]
      · rw [List.all_cons, e, Bool.true_and]; exact i2
theorem anyL_spec {h : Hp} {base : Nat} {b : PV} {l : List Lk} (hb : Rl eL 2 b l) (hl : l.length ≤ 10000) (hs : ∀ p ∈ l, SmK p) : CallA T base 22 [b, .fn 23 []] h = some (.bool (!(l.all lkB)), h) := by
  have h60 : ∀ base h, ∃ n : Int, CallA T base 33 [b, .fn 23 []] h = some (i64 n, h) ∧ decide (n ≥ 0) = !(l.all lkB) := by
    intro base h
    obtain ⟨n, h1, h2⟩ := idxL_loop (h := h) hb hl hs l [] rfl
    refine ⟨n, ?_, h2⟩
    rw [S33]
    simp only [hb.len, ↓evD, evU, evL, Nat.reduceAdd, Nat.reduceSub, Nat.reduceMul, Nat.reduceLeDiff, Nat.reduceLT, Nat.reduceEqDiff, Nat.reduceBEq, reduceIte, reduceCtorEq, Int.reduceBEq, Int.reduceEq, Int.reduceLT, Int.reduceLE, Int.reduceGT, Int.reduceGE, Int.reduceAdd, Int.reduceSub, Int.reduceNeg, Int.reduceBNe, ite_true, ite_false, if_true, if_false, implies_true, forall_const]
    exact h1
  rw [S22]
  obtain ⟨n, h1, h2⟩ := h60 (size h) h
  simp only [h1, h2, ↓evD, evU, evL, Nat.reduceAdd, Nat.reduceSub, Nat.reduceMul, Nat.reduceLeDiff, Nat.reduceLT, Nat.reduceEqDiff, Nat.reduceBEq, reduceIte, reduceCtorEq, Int.reduceBEq, Int.reduceEq, Int.reduceLT, Int.reduceLE, Int.reduceGT, Int.reduceGE, Int.reduceAdd, Int.reduceSub, Int.reduceNeg, Int.reduceBNe, ite_true, ite_false, if_true, if_false, implies_true, forall_const]
theorem rightL_spec (base : Nat) (h : Hp) {b : PV} {l : List Lk} (hb : Rl eL 2 b l) (hl : l.length ≤ 10000) (hs : ∀ p ∈ l, SmK p) : CallA T base 11 [b] h = some (.bool (rgB l), h) := by
  have h1 := fun c m => anyL_spec (base := c) (h := m) hb hl hs
  have c3 : decide ((l.length : Int) ≤ 64) = decide (l.length ≤ 64) := by
    by_cases hq : l.length ≤ 64
    · rw [decide_eq_true hq, decide_eq_true (by omega)]
    · rw [decide_eq_false hq, decide_eq_false (by omega)]
  rw [S11]
  unfold rgB
  cases e1 : l.all lkB <;> rw [e1] at h1 <;> cases e3 : decide (l.length ≤ 64) <;> rw [e3] at c3 <;> simp only [hb.len, h1, c3, ↓evD, evU, evL, Nat.reduceAdd, Nat.reduceSub, Nat.reduceMul, Nat.reduceLeDiff, Nat.reduceLT, Nat.reduceEqDiff, Nat.reduceBEq, reduceIte, reduceCtorEq, Int.reduceBEq, Int.reduceEq, Int.reduceLT, Int.reduceLE, Int.reduceGT, Int.reduceGE, Int.reduceAdd, Int.reduceSub, Int.reduceNeg, Int.reduceBNe, ite_true, ite_false, if_true, if_false, implies_true, forall_const]
end Go.Am.YtdnbedldmkagmaaDoor
namespace Go.Am.YtdnbedldmkagmaaDoor
set_option maxRecDepth 100000
set_option linter.unusedSimpArgs false
set_option linter.unusedVariables false
open Go.Lib (itoa)
def valS (s : List UInt8) : List UInt8 := if plB s then s else 34 :: (s ++ [34])
def pairT (p : Pr) : List UInt8 := 59 :: p.1 ++ (if p.2.2 then [] else 61 :: valS p.2.1)
def pairsT (l : List Pr) : List UInt8 := l.flatMap pairT
noncomputable def linkT (k : Lk) : List UInt8 := 60 :: (textS (pL k) ++ 62 :: pairsT (aL k))
noncomputable def restT (l : List Lk) : List UInt8 := l.flatMap fun k => 44 :: linkT k
noncomputable def linksT : List Lk → List UInt8
  | [] => []
  | k :: l => linkT k ++ restT l
theorem pairsT_cons (p : Pr) (l : List Pr) : pairsT (p :: l) = pairT p ++ pairsT l := rfl
theorem value_spec (base : Nat) (h : Hp) (s : List UInt8) (hs : s.length ≤ 1000000) : CallA T base 26 [.str s] h = some (.str (valS s), h) := by
  rw [S26]; unfold valS plB
  have hr := fun b k => run_spec (base := b) (h := k) sim_spec s hs
  have ha := tw_all (q := simB) s
  have l1 : 1 + s.length ≤ limS := by unfold limS; omega
  have l2 : s.length + 1 + 1 ≤ limS := by unfold limS; omega
  cases e1 : (s == [])
  · cases e2 : s.all simB <;> rw [e2] at ha <;> simp only [e1, hr, ha, l1, l2, bne, ↓evD, evU, evL, Nat.reduceAdd, Nat.reduceSub, Nat.reduceMul, Nat.reduceLeDiff, Nat.reduceLT, Nat.reduceEqDiff, Nat.reduceBEq, reduceIte, reduceCtorEq, Int.reduceBEq, Int.reduceEq, Int.reduceLT, Int.reduceLE, Int.reduceGT, Int.reduceGE, Int.reduceAdd, Int.reduceSub, Int.reduceNeg, Int.reduceBNe, ite_true, ite_false, if_true, if_false, implies_true, forall_const]
  · simp only [e1, l1, l2, bne, ↓evD, evU, evL, Nat.reduceAdd, Nat.reduceSub, Nat.reduceMul, Nat.reduceLeDiff, Nat.reduceLT, Nat.reduceEqDiff, Nat.reduceBEq, reduceIte, reduceCtorEq, Int.reduceBEq, Int.reduceEq, Int.reduceLT, Int.reduceLE, Int.reduceGT, Int.reduceGE, Int.reduceAdd, Int.reduceSub, Int.reduceNeg, Int.reduceBNe, ite_true, ite_false, if_true, if_false, implies_true, forall_const]
theorem pairs_loop {h : Hp} {b : PV} {l : List Pr} (hb : Rl eP 3 b l) (hl : l.length ≤ 10000) (hs : ∀ p ∈ l, SmP p) : ∀ (r q : List Pr) (out : List UInt8) (H : Hp), Hg h H → l = q ++ r → out.length + (pairsT r).length ≤ 1000000 →
    P18_0 (size h) (size h) (i64 q.length) (.str out) b (i64 l.length) H = some (.str (out ++ pairsT r), h)
  | [], q, out, H, g, hp, ho => by
    rw [P18_0_eq]
    have e : q.length = l.length := by rw [hp]; simp
    have h1 : ((q.length : Int) < (l.length : Int)) = False := by simp; omega
    simp only [h1, g.tr, pairsT, List.flatMap_nil, List.append_nil, ↓evD, evU, evL, Nat.reduceAdd, Nat.reduceSub, Nat.reduceMul, Nat.reduceLeDiff, Nat.reduceLT, Nat.reduceEqDiff, Nat.reduceBEq, reduceIte, reduceCtorEq, Int.reduceBEq, Int.reduceEq, Int.reduceLT, Int.reduceLE, Int.reduceGT, Int.reduceGE, Int.reduceAdd, Int.reduceSub, Int.reduceNeg, Int.reduceBNe, ite_true, ite_false, if_true, if_false, implies_true, forall_const]
  | x :: r, q, out, H, g, hp, ho => by
    rw [P18_0_eq]
    have el : l.length = q.length + (r.length + 1) := by rw [hp]; simp
    have h1 : ((q.length : Int) < (l.length : Int)) = True := by simp; omega
    have hx : l[q.length]? = some x := by rw [hp]; simp
    have w1 : IntKind.i64.wrap ((q.length : Int) + 1) = (((q ++ [x]).length : Nat) : Int) := by rw [show (q ++ [x]).length = q.length + 1 by simp, wrap_small] <;> omega
    have g1 := g.ext [.cells [.str x.1, .str x.2.1, .bool x.2.2]]
    rw [pairsT_cons, List.length_append] at ho
    have sx := hs x (by rw [hp]; simp)
    have hv := fun b m => value_spec b m x.2.1 (by have := sx.2; omega)
    have l0 : 1 + x.1.length ≤ limS := by unfold limS; have := sx.1; omega
    obtain ⟨O1, hO1, lO1⟩ : ∃ O1, out ++ 59 :: x.1 = O1 ∧ O1.length = out.length + (x.1.length + 1) := ⟨_, rfl, by simp⟩
    cases e1 : x.2.2
    · have e2 : pairT x = 59 :: x.1 ++ 61 :: valS x.2.1 := by unfold pairT; rw [e1]; rfl
      rw [e2] at ho
      simp only [List.length_append, List.length_cons] at ho
      rw [e1] at g1
      have l1 : out.length + (x.1.length + 1) ≤ limS := by unfold limS; omega
      have l2 : 1 + (valS x.2.1).length ≤ limS := by unfold limS; omega
      have l3 : O1.length + ((valS x.2.1).length + 1) ≤ limS := by unfold limS; omega
      have ih := pairs_loop hb hl hs r (q ++ [x]) (O1 ++ 61 :: valS x.2.1) _ g1 (by rw [hp]; simp) (by simp only [List.length_append, List.length_cons]; omega)
      simp only [h1, hb.idx hx, ecP, g.lt, e1, hv, l0, l1, hO1, l2, l3, w1, ih, ↓evD, evU, evL, Nat.reduceAdd, Nat.reduceSub, Nat.reduceMul, Nat.reduceLeDiff, Nat.reduceLT, Nat.reduceEqDiff, Nat.reduceBEq, reduceIte, reduceCtorEq, Int.reduceBEq, Int.reduceEq, Int.reduceLT, Int.reduceLE, Int.reduceGT, Int.reduceGE, Int.reduceAdd, Int.reduceSub, Int.reduceNeg, Int.reduceBNe, ite_true, ite_false, if_true, if_false, implies_true, forall_const]
      rw [pairsT_cons, e2, ← hO1]
      simp
    · have e2 : pairT x = 59 :: x.1 := by unfold pairT; rw [e1]; simp
      rw [e2] at ho
      simp only [List.length_cons] at ho
      rw [e1] at g1
      have l1 : out.length + (x.1.length + 1) ≤ limS := by unfold limS; omega
      have ih := pairs_loop hb hl hs r (q ++ [x]) O1 _ g1 (by rw [hp]; simp) (by omega)
      simp only [h1, hb.idx hx, ecP, g.lt, e1, l0, l1, hO1, w1, ih, ↓evD, evU, evL, Nat.reduceAdd, Nat.reduceSub, Nat.reduceMul, Nat.reduceLeDiff, Nat.reduceLT, Nat.reduceEqDiff, Nat.reduceBEq, reduceIte, reduceCtorEq, Int.reduceBEq, Int.reduceEq, Int.reduceLT, Int.reduceLE, Int.reduceGT, Int.reduceGE, Int.reduceAdd, Int.reduceSub, Int.reduceNeg, Int.reduceBNe, ite_true, ite_false, if_true, if_false, implies_true, forall_const]
      rw [pairsT_cons, e2, ← hO1]
      simp
theorem linkT_len (k : Lk) : (linkT k).length = (textS (pL k)).length + (pairsT (aL k)).length + 2 := by
  unfold linkT; simp; omega
theorem text1_spec (base : Nat) (h : Hp) {k : Lk} (hs : SmK k) (ho : (linkT k).length ≤ 1000000) : CallA T base 18 [eL k] h = some (.str (linkT k), h) := by
  have hel : eL k = .agg [k.1.1, k.2.1] := rfl
  rw [linkT_len] at ho
  have ht := fun b m => text_spec (base := b) (h := m) (pV k).rl (by have := hs.p; omega)
  have l1 : 1 + (textS (pL k)).length ≤ limS := by unfold limS; omega
  have l2 : (textS (pL k)).length + 1 + 1 ≤ limS := by unfold limS; omega
  have g := (Hg.refl h).ext [.cells [k.1.1, k.2.1]]
  have hp := pairs_loop (aV k).rl hs.a hs.s (aL k) [] (60 :: (textS (pL k) ++ [62])) _ g rfl (by simp only [List.length_append, List.length_cons, List.length_nil]; omega)
  rw [S18, hel]
  simp only [(pV k).scalar, (aV k).scalar, (aV k).len, ht, l1, l2, ↓evD, evU, evL, Nat.reduceAdd, Nat.reduceSub, Nat.reduceMul, Nat.reduceLeDiff, Nat.reduceLT, Nat.reduceEqDiff, Nat.reduceBEq, reduceIte, reduceCtorEq, Int.reduceBEq, Int.reduceEq, Int.reduceLT, Int.reduceLE, Int.reduceGT, Int.reduceGE, Int.reduceAdd, Int.reduceSub, Int.reduceNeg, Int.reduceBNe, ite_true, ite_false, if_true, if_false, implies_true, forall_const]
  refine hp.trans ?_
  unfold linkT
  simp
/-- strings.Join. -/
theorem join_text : ∀ (l : List Lk), Lib.join (l.map linkT) [44] = linksT l
  | [] => rfl
  | [k] => by simp [Lib.join, linksT, restT, List.intercalate]
  | k :: m :: l => by
    have ih := join_text (m :: l)
    simp only [Lib.join, linksT, restT, List.intercalate, List.map_cons, List.intersperse_cons_cons, List.flatten_cons, List.flatMap_cons] at *
    rw [ih]
    simp
theorem eS_strs : ∀ l : List (List UInt8), strsOf (l.map eS) = some l
  | [] => rfl
  | x :: l => by
    show (match strsOf (l.map eS) with | some l => some (x :: l) | none => none) = _
    rw [eS_strs l]
theorem join_spec (base : Nat) (k : Hp) {v : PV} {l : List (List UInt8)} (hv : (l.map eS = [] ∧ v = .nils) ∨ ∃ t, v = .sl (.tok t) 1 (l.map eS)) (hl : l.length ≤ 10000) (hn : (Lib.join l [44]).length ≤ 140737488355328) :
    CallA T base 19 [v, .str [44]] k = some (.str (Lib.join l [44]), k) := by
  rw [CallA_prim T_19]
  rcases hv with ⟨h1, rfl⟩ | ⟨t, rfl⟩
  · cases l with
    | nil => rfl
    | cons x l => cases h1
  · have main : pJoin [.sl (.tok t) 1 (l.map eS), .str [44]] = some (.str (Lib.join l [44])) := by
      simp only [pJoin, eS_strs]
      rw [if_pos ⟨by unfold lim2; omega, hn⟩]
    rw [main]; rfl
end Go.Am.YtdnbedldmkagmaaDoor
namespace Go.Am.YtdnbedldmkagmaaDoor
set_option maxRecDepth 100000
set_option linter.unusedSimpArgs false
set_option linter.unusedVariables false
open Go.Lib (itoa)
theorem write_loop {h : Hp} {b : PV} {l : List Lk} (hb : Rl eL 2 b l) (hl : l.length ≤ 64) (hs : ∀ p ∈ l, SmK p) (hn : (linksT l).length ≤ 1000000) (hk : ∀ k ∈ l, (linkT k).length ≤ 1000000) :
    ∀ (r q : List Lk) (v : PV) (H : Hp), l = q ++ r → GS h 9 1 .nils v ((q.map linkT).map eS) H →
    P9_0 (size h) (size h) (i64 q.length) v b (i64 l.length) H = some (.tup [.str (linksT l), i64 0], h)
  | [], q, v, H, hp, g => by
    rw [P9_0_eq]
    have e : q.length = l.length := by rw [hp]; simp
    have h1 : ((q.length : Int) < (l.length : Int)) = False := by simp; omega
    have hq : q = l := by rw [hp]; simp
    subst hq
    have hj := fun c => join_spec c H (v := v) (l := q.map linkT) (by
      rcases g.va with ⟨a1, a2⟩ | ⟨_, t, a2, _⟩
      · exact .inl ⟨a1, a2⟩
      · exact .inr ⟨t, a2⟩) (by rw [List.length_map]; omega) (by rw [join_text]; omega)
    rw [join_text] at hj
    simp only [h1, hj, g.tr, ↓evD, evU, evL, Nat.reduceAdd, Nat.reduceSub, Nat.reduceMul, Nat.reduceLeDiff, Nat.reduceLT, Nat.reduceEqDiff, Nat.reduceBEq, reduceIte, reduceCtorEq, Int.reduceBEq, Int.reduceEq, Int.reduceLT, Int.reduceLE, Int.reduceGT, Int.reduceGE, Int.reduceAdd, Int.reduceSub, Int.reduceNeg, Int.reduceBNe, ite_true, ite_false, if_true, if_false, implies_true, forall_const]
  | x :: r, q, v, H, hp, g => by
    rw [P9_0_eq]
    have el : l.length = q.length + (r.length + 1) := by rw [hp]; simp
    have h1 : ((q.length : Int) < (l.length : Int)) = True := by simp; omega
    have hx : l[q.length]? = some x := by rw [hp]; simp
    have w1 : IntKind.i64.wrap ((q.length : Int) + 1) = (((q ++ [x]).length : Nat) : Int) := by rw [show (q ++ [x]).length = q.length + 1 by simp, wrap_small] <;> omega
    have n1 : (size H < size h) = False := by have := g.le; simp; omega
    have g1 := g.ext [.cells [x.1.1, x.2.1]]
    obtain ⟨v', H', e1, g2⟩ := g1.grow (gZ_nils 1) (x := eS (linkT x)) (by simpa using elS.fits [linkT x]) (elS.st _) (by unfold lim2; simp; omega)
    have g3 : GS h 9 1 .nils v' (((q ++ [x]).map linkT).map eS) H' := by rw [List.map_append, List.map_append]; exact g2
    have ih := write_loop hb hl hs hn hk r (q ++ [x]) v' H' (by rw [hp]; simp) g3
    have ht := fun c m => text1_spec c m (hs x (by rw [hp]; simp)) (hk x (by rw [hp]; simp))
    have hel : eL x = .agg [x.1.1, x.2.1] := rfl
    rw [hel] at ht
    have e4 : eS (linkT x) = .str (linkT x) := rfl
    rw [e4] at e1
    simp only [h1, hb.idx hx, ecL, n1, (pV x).scalar, (aV x).scalar, (pV x).strip, (aV x).strip, ht, e1, w1, ih, ↓evD, evU, evL, Nat.reduceAdd, Nat.reduceSub, Nat.reduceMul, Nat.reduceLeDiff, Nat.reduceLT, Nat.reduceEqDiff, Nat.reduceBEq, reduceIte, reduceCtorEq, Int.reduceBEq, Int.reduceEq, Int.reduceLT, Int.reduceLE, Int.reduceGT, Int.reduceGE, Int.reduceAdd, Int.reduceSub, Int.reduceNeg, Int.reduceBNe, ite_true, ite_false, if_true, if_false, implies_true, forall_const]
theorem write_spec (base : Nat) (h : Hp) {b : PV} {l : List Lk} (hb : Rl eL 2 b l) (hl : l.length ≤ 10000) (hs : ∀ p ∈ l, SmK p) (hn : rgB l = true → (linksT l).length ≤ 1000000) (hk : rgB l = true → ∀ k ∈ l, (linkT k).length ≤ 1000000) :
    CallA T base 9 [b] h = some (.tup [.str (if rgB l then linksT l else []), i64 (if rgB l then 0 else 1)], h) := by
  have hr := fun c m => rightL_spec c m hb hl hs
  rw [S9]
  cases e : rgB l <;> rw [e] at hr
  · simp only [hr, ↓evD, evU, evL, Nat.reduceAdd, Nat.reduceSub, Nat.reduceMul, Nat.reduceLeDiff, Nat.reduceLT, Nat.reduceEqDiff, Nat.reduceBEq, reduceIte, reduceCtorEq, Int.reduceBEq, Int.reduceEq, Int.reduceLT, Int.reduceLE, Int.reduceGT, Int.reduceGE, Int.reduceAdd, Int.reduceSub, Int.reduceNeg, Int.reduceBNe, ite_true, ite_false, if_true, if_false, implies_true, forall_const]
  · have h64 : l.length ≤ 64 := by
      unfold rgB at e
      rw [Bool.and_eq_true, decide_eq_true_eq] at e
      exact e.1
    have := write_loop (h := h) hb h64 hs (hn e) (hk e) l [] .nils h rfl (GS.zero h 9 1 .nils)
    simp only [hr, hb.len, ↓evD, evU, evL, Nat.reduceAdd, Nat.reduceSub, Nat.reduceMul, Nat.reduceLeDiff, Nat.reduceLT, Nat.reduceEqDiff, Nat.reduceBEq, reduceIte, reduceCtorEq, Int.reduceBEq, Int.reduceEq, Int.reduceLT, Int.reduceLE, Int.reduceGT, Int.reduceGE, Int.reduceAdd, Int.reduceSub, Int.reduceNeg, Int.reduceBNe, ite_true, ite_false, if_true, if_false, implies_true, forall_const]
    exact this
end Go.Am.YtdnbedldmkagmaaDoor
namespace Go.Am.YtdnbedldmkagmaaDoor
set_option maxRecDepth 100000
set_option linter.unusedSimpArgs false
set_option linter.unusedVariables false
open Go.Lib (itoa)
theorem segs_len : ∀ {p : List Int}, p.all numOk = true → (segsS p).length ≤ 22 * p.length
  | [], _ => by simp [segsS]
  | n :: p, h => by
    rw [List.all_cons, Bool.and_eq_true] at h
    have h1 := itoa_len (in64_ok h.1)
    have h2 := segs_len h.2
    simp only [segsS, List.cons_append, List.length_cons, List.length_append]
    omega
theorem textS_len (p : List Int) : (textS p).length ≤ 66 := by
  unfold textS
  split
  · simp
  · rename_i h
    split
    · simp
    · have : rightB p = true := by simpa using h
      unfold rightB at this
      rw [Bool.and_eq_true, decide_eq_true_eq] at this
      have := segs_len this.2
      omega
theorem pairT_len (p : Pr) : (pairT p).length ≤ p.1.length + p.2.1.length + 4 := by
  unfold pairT valS
  cases p.2.2
  · cases plB p.2.1 <;> simp <;> omega
  · simp; omega
theorem pairsT_len {n : Nat} : ∀ {l : List Pr}, (∀ p ∈ l, (pairT p).length ≤ n) → (pairsT l).length ≤ n * l.length
  | [], _ => by simp [pairsT]
  | p :: l, h => by
    have h1 := h p (by simp)
    have h2 := pairsT_len (n := n) (l := l) fun q hq => h q (by simp [hq])
    rw [pairsT_cons, List.length_append, List.length_cons, Nat.mul_succ]; omega
theorem restT_len {n : Nat} : ∀ {l : List Lk}, (∀ k ∈ l, (linkT k).length ≤ n) → (restT l).length ≤ (n + 1) * l.length
  | [], _ => by simp [restT]
  | k :: l, h => by
    have h1 := h k (by simp)
    have h2 := restT_len (n := n) (l := l) fun q hq => h q (by simp [hq])
    have : restT (k :: l) = 44 :: linkT k ++ restT l := by simp [restT]
    rw [this, List.length_append, List.length_cons, List.length_cons, Nat.mul_succ]; omega
theorem linksT_len (l : List Lk) : (linksT l).length ≤ (restT l).length := by
  cases l with
  | nil => simp [linksT]
  | cons k l => simp [linksT, restT]
theorem few_link {l : List Lk} (h : fewL l = true) : (∀ k ∈ l, (linkT k).length ≤ 6200) ∧ (linksT l).length ≤ 1000000 := by
  unfold fewL at h
  rw [Bool.and_eq_true, decide_eq_true_eq, List.all_eq_true] at h
  have hk : ∀ k ∈ l, (linkT k).length ≤ 6200 := by
    intro k hk
    have := h.2 k hk
    unfold fewK at this
    rw [Bool.and_eq_true, Bool.and_eq_true, decide_eq_true_eq, decide_eq_true_eq, List.all_eq_true] at this
    have h3 := pairsT_len (n := 304) (l := aL k) fun p hp => by
      have h2 := this.2 p hp
      unfold fewP at h2
      rw [Bool.and_eq_true, decide_eq_true_eq, decide_eq_true_eq] at h2
      have := pairT_len p
      omega
    rw [linkT_len]
    have := textS_len (pL k)
    omega
  refine ⟨hk, ?_⟩
  have h1 := restT_len hk
  have h2 := linksT_len l
  omega
end Go.Am.YtdnbedldmkagmaaDoor
namespace Go.Am.YtdnbedldmkagmaaDoor
set_option maxRecDepth 100000
set_option linter.unusedSimpArgs false
set_option linter.unusedVariables false
/-- The reader's box k in heap H: what is left of the text. -/
abbrev rb (H : Hp) (k : Nat) (t : List UInt8) : Hp := setBx H k (.cells [.str t])
theorem rb_ext {H : Hp} {k : Nat} (hk : k < size H) (t : List UInt8) (l : List Box) : rb (ext H l) k t = ext (rb H k t) l := setBx_ext_lt hk
theorem rb_get {H : Hp} {k : Nat} (hk : k < size H) (t : List UInt8) : getBox (rb H k t) k = some [.str t] := getBox_set_same hk
theorem rb_gete {H : Hp} {k : Nat} (hk : k < size H) (t : List UInt8) (l : List Box) : getBox (ext (rb H k t) l) k = some [.str t] := by
  rw [getBox_ext_lt (by rw [size_setBx]; exact hk)]; exact rb_get hk t
theorem rb_rb (H : Hp) (k : Nat) (t u : List UInt8) : setBx (rb H k t) k (.cells [.str u]) = rb H k u := by
  unfold rb setBx
  exact List.set_set ..
theorem rb_trunc (H : Hp) (k : Nat) (t : List UInt8) : trunc (rb H k t) (size H) = rb H k t := by
  unfold rb setBx trunc size
  rw [List.take_of_length_le (by simp)]
theorem rb_trunce (H : Hp) (k : Nat) (t : List UInt8) (l : List Box) : trunc (ext (rb H k t) l) (size H) = rb H k t := by
  have : size H = size (rb H k t) := size_setBx.symm
  rw [this]; exact trunc_ext
def tk (c : UInt8) (t : List UInt8) : List UInt8 := if t.take 1 == [c] then t.drop 1 else t
theorem tk_len (c : UInt8) (t : List UInt8) : (tk c t).length ≤ t.length := by
  unfold tk; split
  · simp
  · exact Nat.le_refl _
theorem take_spec {H : Hp} {k : Nat} (hk : k < size H) (base : Nat) (c : UInt8) (t : List UInt8) (ht : t.length ≤ 100000) :
    CallA T base 21 [.ptr k 0, .str [c]] (rb H k t) = some (.bool (t.take 1 == [c]), rb H k (tk c t)) := by
  rw [S21]
  have hc := fun b m => cutPrefix_spec (base := b) (h := m) t [c] (by omega) (by simp)
  have n1 : (k < size H) = True := by simp [hk]
  have hz : size (rb H k t) = size H := size_setBx
  have e1 : ([c] : List UInt8).length = 1 := rfl
  rw [e1] at hc
  unfold tk
  cases e : (t.take 1 == [c]) <;> rw [e] at hc
  · simp only [hz, rb_get hk, hc, rb_trunc, Bool.false_eq_true, ↓evD, evU, evL, Nat.reduceAdd, Nat.reduceSub, Nat.reduceMul, Nat.reduceLeDiff, Nat.reduceLT, Nat.reduceEqDiff, Nat.reduceBEq, reduceIte, reduceCtorEq, Int.reduceBEq, Int.reduceEq, Int.reduceLT, Int.reduceLE, Int.reduceGT, Int.reduceGE, Int.reduceAdd, Int.reduceSub, Int.reduceNeg, Int.reduceBNe, ite_true, ite_false, if_true, if_false, implies_true, forall_const]
  · simp only [hz, rb_get hk, hc, n1, rb_rb, rb_trunc, ↓evD, evU, evL, Nat.reduceAdd, Nat.reduceSub, Nat.reduceMul, Nat.reduceLeDiff, Nat.reduceLT, Nat.reduceEqDiff, Nat.reduceBEq, reduceIte, reduceCtorEq, Int.reduceBEq, Int.reduceEq, Int.reduceLT, Int.reduceLE, Int.reduceGT, Int.reduceGE, Int.reduceAdd, Int.reduceSub, Int.reduceNeg, Int.reduceBNe, ite_true, ite_false, if_true, if_false, implies_true, forall_const]
theorem take_ext {H : Hp} {k : Nat} (hk : k < size H) (base : Nat) (c : UInt8) (t : List UInt8) (ht : t.length ≤ 100000) (l : List Box) :
    CallA T base 21 [.ptr k 0, .str [c]] (ext (rb H k t) l) = some (.bool (t.take 1 == [c]), ext (rb H k (tk c t)) l) := by
  rw [← rb_ext hk, ← rb_ext hk]
  exact take_spec (by rw [size_ext]; omega) base c t ht
theorem tw_take {q : UInt8 → Bool} : ∀ t : List UInt8, t.take (t.takeWhile q).length = t.takeWhile q ∧ t.drop (t.takeWhile q).length = t.dropWhile q
  | [] => ⟨rfl, rfl⟩
  | x :: t => by
    obtain ⟨h1, h2⟩ := tw_take (q := q) t
    rw [List.takeWhile_cons, List.dropWhile_cons]
    cases q x
    · exact ⟨rfl, rfl⟩
    · exact ⟨by simp [h1], by simp [h2]⟩
theorem tw_len {q : UInt8 → Bool} (t : List UInt8) : (t.takeWhile q).length + (t.dropWhile q).length = t.length := by
  rw [← List.length_append, List.takeWhile_append_dropWhile]
theorem while_spec {H : Hp} {k : Nat} (hk : k < size H) {f : Nat} {q : UInt8 → Bool} (hf : ∀ base h c, CallA T base f [u8i c] h = some (.bool (q c), h)) (base : Nat) (t : List UInt8) (ht : t.length ≤ 100000) :
    CallA T base 44 [.ptr k 0, .fn f []] (rb H k t) = some (.str (t.takeWhile q), rb H k (t.dropWhile q)) := by
  rw [S44]
  have hr := fun b m => run_spec (base := b) (h := m) hf t (by omega)
  have n1 : (k < size H) = True := by simp [hk]
  have hz : size (rb H k t) = size H := size_setBx
  obtain ⟨h1, h2⟩ := tw_take (q := q) t
  have hl := tw_len (q := q) t
  generalize t.takeWhile q = a at *
  generalize t.dropWhile q = d at *
  have hb := bdV_nat t.length .i64 a.length (by omega)
  have h3 : (t.drop a.length).take (t.length - a.length) = d := by rw [h2]; exact List.take_of_length_le (by omega)
  simp only [hz, rb_get hk, hr, hb, n1, List.drop_zero, Nat.sub_zero, h1, h3, rb_rb, rb_trunc, ↓evD, evU, evL, Nat.reduceAdd, Nat.reduceSub, Nat.reduceMul, Nat.reduceLeDiff, Nat.reduceLT, Nat.reduceEqDiff, Nat.reduceBEq, reduceIte, reduceCtorEq, Int.reduceBEq, Int.reduceEq, Int.reduceLT, Int.reduceLE, Int.reduceGT, Int.reduceGE, Int.reduceAdd, Int.reduceSub, Int.reduceNeg, Int.reduceBNe, ite_true, ite_false, if_true, if_false, implies_true, forall_const]
theorem while_ext {H : Hp} {k : Nat} (hk : k < size H) {f : Nat} {q : UInt8 → Bool} (hf : ∀ base h c, CallA T base f [u8i c] h = some (.bool (q c), h)) (base : Nat) (t : List UInt8) (ht : t.length ≤ 100000) (l : List Box) :
    CallA T base 44 [.ptr k 0, .fn f []] (ext (rb H k t) l) = some (.str (t.takeWhile q), ext (rb H k (t.dropWhile q)) l) := by
  rw [← rb_ext hk, ← rb_ext hk]
  exact while_spec (by rw [size_ext]; omega) hf base t ht
/-- A value. -/
def valF (t : List UInt8) : List UInt8 × Bool × List UInt8 :=
  if t.take 1 == [34] then
    ((t.drop 1).takeWhile priB, decide ((((t.drop 1).takeWhile priB).length : Int) ≤ 60) && (((t.drop 1).dropWhile priB).take 1 == [34]),
      if decide ((((t.drop 1).takeWhile priB).length : Int) ≤ 60) then tk 34 ((t.drop 1).dropWhile priB) else (t.drop 1).dropWhile priB)
  else (t.takeWhile simB, !(t.takeWhile simB == []) && decide (((t.takeWhile simB).length : Int) ≤ 60), t.dropWhile simB)
theorem val_spec {H : Hp} {k : Nat} (hk : k < size H) (base : Nat) (t : List UInt8) (ht : t.length ≤ 100000) :
    CallA T base 49 [.ptr k 0] (rb H k t) = some (.tup [.str (valF t).1, .bool (valF t).2.1], rb H k (valF t).2.2) := by
  rw [S49]
  have hz : size (rb H k t) = size H := size_setBx
  have h1 := fun b => take_spec hk b 34 t ht
  unfold valF
  unfold tk at h1
  cases e : (t.take 1 == [34]) <;> rw [e] at h1
  · have h2 := fun b => while_spec hk sim_spec b t ht
    generalize t.takeWhile simB = a at *
    generalize t.dropWhile simB = d at *
    simp only [Bool.false_eq_true, if_false] at h1 h2 ⊢
    cases e1 : (a == [])
    · by_cases c1 : ((a.length : Int) ≤ 60) <;> simp only [hz, h1, h2, e1, c1, bne, rb_trunc, ↓evD, evU, evL, Nat.reduceAdd, Nat.reduceSub, Nat.reduceMul, Nat.reduceLeDiff, Nat.reduceLT, Nat.reduceEqDiff, Nat.reduceBEq, reduceIte, reduceCtorEq, Int.reduceBEq, Int.reduceEq, Int.reduceLT, Int.reduceLE, Int.reduceGT, Int.reduceGE, Int.reduceAdd, Int.reduceSub, Int.reduceNeg, Int.reduceBNe, ite_true, ite_false, if_true, if_false, implies_true, forall_const]
    · simp only [hz, h1, h2, e1, bne, rb_trunc, ↓evD, evU, evL, Nat.reduceAdd, Nat.reduceSub, Nat.reduceMul, Nat.reduceLeDiff, Nat.reduceLT, Nat.reduceEqDiff, Nat.reduceBEq, reduceIte, reduceCtorEq, Int.reduceBEq, Int.reduceEq, Int.reduceLT, Int.reduceLE, Int.reduceGT, Int.reduceGE, Int.reduceAdd, Int.reduceSub, Int.reduceNeg, Int.reduceBNe, ite_true, ite_false, if_true, if_false, implies_true, forall_const]
  · have hd : (t.drop 1).length ≤ 100000 := by rw [List.length_drop]; omega
    simp only [if_true] at h1 ⊢
    generalize t.drop 1 = s at *
    have h2 := fun b => while_spec hk pri_spec b s hd
    have hl := tw_len (q := priB) s
    generalize s.takeWhile priB = a at *
    generalize s.dropWhile priB = d at *
    have h3 := fun b => take_spec hk b 34 d (by omega)
    by_cases c1 : ((a.length : Int) ≤ 60)
    · simp only [hz, h1, h2, h3, c1, rb_trunc, ↓evD, evU, evL, Nat.reduceAdd, Nat.reduceSub, Nat.reduceMul, Nat.reduceLeDiff, Nat.reduceLT, Nat.reduceEqDiff, Nat.reduceBEq, reduceIte, reduceCtorEq, Int.reduceBEq, Int.reduceEq, Int.reduceLT, Int.reduceLE, Int.reduceGT, Int.reduceGE, Int.reduceAdd, Int.reduceSub, Int.reduceNeg, Int.reduceBNe, ite_true, ite_false, if_true, if_false, implies_true, forall_const]
    · simp only [hz, h1, h2, c1, rb_trunc, ↓evD, evU, evL, Nat.reduceAdd, Nat.reduceSub, Nat.reduceMul, Nat.reduceLeDiff, Nat.reduceLT, Nat.reduceEqDiff, Nat.reduceBEq, reduceIte, reduceCtorEq, Int.reduceBEq, Int.reduceEq, Int.reduceLT, Int.reduceLE, Int.reduceGT, Int.reduceGE, Int.reduceAdd, Int.reduceSub, Int.reduceNeg, Int.reduceBNe, ite_true, ite_false, if_true, if_false, implies_true, forall_const]
theorem val_ext {H : Hp} {k : Nat} (hk : k < size H) (base : Nat) (t : List UInt8) (ht : t.length ≤ 100000) (l : List Box) :
    CallA T base 49 [.ptr k 0] (ext (rb H k t) l) = some (.tup [.str (valF t).1, .bool (valF t).2.1], ext (rb H k (valF t).2.2) l) := by
  rw [← rb_ext hk, ← rb_ext hk]
  exact val_spec (by rw [size_ext]; omega) base t ht
/-- An attribute. -/
def attrF (t : List UInt8) : Pr × Bool × List UInt8 :=
  if nmB (t.takeWhile lowB) then
    if (t.dropWhile lowB).take 1 == [61] then ((t.takeWhile lowB, (valF ((t.dropWhile lowB).drop 1)).1, false), (valF ((t.dropWhile lowB).drop 1)).2.1, (valF ((t.dropWhile lowB).drop 1)).2.2)
    else ((t.takeWhile lowB, [], true), true, t.dropWhile lowB)
  else ((t.takeWhile lowB, [], false), false, t.dropWhile lowB)
theorem attr_spec {H : Hp} {k : Nat} (hk : k < size H) (base : Nat) (t : List UInt8) (ht : t.length ≤ 100000) :
    CallA T base 31 [.ptr k 0] (rb H k t) = some (.tup [eP (attrF t).1, .bool (attrF t).2.1], rb H k (attrF t).2.2) := by
  rw [S31]
  have hz : size (rb H k t) = size H := size_setBx
  have h1 := fun b l => while_ext hk low_spec b t ht l
  have hl := tw_len (q := lowB) t
  unfold attrF
  generalize t.takeWhile lowB = a at *
  generalize t.dropWhile lowB = d at *
  have h2 := fun b m => name_spec (base := b) (h := m) a (by omega)
  have h3 := fun b l => take_ext hk b 61 d (by omega) l
  unfold tk at h3
  have hep : ∀ a b c, eP (a, b, c) = .agg [.str a, .str b, .bool c] := fun _ _ _ => rfl
  cases e1 : nmB a <;> rw [e1] at h2
  · simp only [hz, h1, h2, hep, rb_trunce, Bool.false_eq_true, ↓evD, evU, evL, Nat.reduceAdd, Nat.reduceSub, Nat.reduceMul, Nat.reduceLeDiff, Nat.reduceLT, Nat.reduceEqDiff, Nat.reduceBEq, reduceIte, reduceCtorEq, Int.reduceBEq, Int.reduceEq, Int.reduceLT, Int.reduceLE, Int.reduceGT, Int.reduceGE, Int.reduceAdd, Int.reduceSub, Int.reduceNeg, Int.reduceBNe, ite_true, ite_false, if_true, if_false, implies_true, forall_const]
  cases e2 : (d.take 1 == [61]) <;> rw [e2] at h3
  · simp only [Bool.false_eq_true, if_false] at h3
    simp only [hz, h1, h2, h3, hep, rb_trunce, Bool.false_eq_true, ↓evD, evU, evL, Nat.reduceAdd, Nat.reduceSub, Nat.reduceMul, Nat.reduceLeDiff, Nat.reduceLT, Nat.reduceEqDiff, Nat.reduceBEq, reduceIte, reduceCtorEq, Int.reduceBEq, Int.reduceEq, Int.reduceLT, Int.reduceLE, Int.reduceGT, Int.reduceGE, Int.reduceAdd, Int.reduceSub, Int.reduceNeg, Int.reduceBNe, ite_true, ite_false, if_true, if_false, implies_true, forall_const]
  · simp only [if_true] at h3 ⊢
    have hd : (d.drop 1).length ≤ 100000 := by rw [List.length_drop]; omega
    generalize d.drop 1 = s at *
    have h4 := fun b l => val_ext hk b s hd l
    generalize valF s = v at *
    obtain ⟨v1, v2, v3⟩ := v
    simp only [hz, h1, h2, h3, h4, hep, rb_trunce, ↓evD, evU, evL, Nat.reduceAdd, Nat.reduceSub, Nat.reduceMul, Nat.reduceLeDiff, Nat.reduceLT, Nat.reduceEqDiff, Nat.reduceBEq, reduceIte, reduceCtorEq, Int.reduceBEq, Int.reduceEq, Int.reduceLT, Int.reduceLE, Int.reduceGT, Int.reduceGE, Int.reduceAdd, Int.reduceSub, Int.reduceNeg, Int.reduceBNe, ite_true, ite_false, if_true, if_false, implies_true, forall_const]
end Go.Am.YtdnbedldmkagmaaDoor
namespace Go.Am.YtdnbedldmkagmaaDoor
set_option maxRecDepth 100000
set_option linter.unusedSimpArgs false
set_option linter.unusedVariables false
theorem GS_low {h X : Hp} {T sz : Nat} {z v : PV} {es : List PV} (g : GS h T sz z v es X) {k : Nat} (hk : k < size h) (x : Box) : GS (setBx h k x) T sz z v es (setBx X k x) := by
  refine ⟨?_, by rw [size_setBx, size_setBx]; exact g.le, ?_⟩
  · rw [size_setBx]
    have := g.tr
    simp only [trunc, setBx, size] at *
    rw [List.take_set, this]
  · rcases g.va with a | ⟨a, t, q, c, d, e⟩
    · exact .inl a
    · refine .inr ⟨a, t, q, by rw [size_setBx]; exact c, by rw [size_setBx]; exact d, ?_⟩
      have hne : k ≠ t := by omega
      unfold getTok at *
      rw [box_set_ne hne]; exact e
theorem grow_box {H H' : Hp} {T sz : Nat} {v v' : PV} {xs : List PV} (e : growT H T sz v xs = some (v', H')) :
    size H ≤ size H' ∧ ∀ b cs, getBox H b = some cs → getBox H' b = some cs := by
  have hx : ∀ l : List Box, size H ≤ size (ext H l) ∧ ∀ b cs, getBox H b = some cs → getBox (ext H l) b = some cs := fun l =>
    ⟨by rw [size_ext]; omega, fun b cs hb => by rw [getBox_ext_lt (lt_of_box (box_of_get hb))]; exact hb⟩
  unfold growT at e
  split at e
  · split at e
    · split at e
      · split at e <;> cases e
        · exact ⟨Nat.le_refl _, fun _ _ h => h⟩
        · exact hx _
      · cases e
    · split at e
      · split at e <;> cases e
        · exact ⟨Nat.le_refl _, fun _ _ h => h⟩
        · exact hx _
      · cases e
    · rename_i t sz' es
      cases ht : getTok H t with
      | none => rw [ht] at e; cases e
      | some n =>
        rw [ht, Option.bnd_some] at e
        split at e
        · cases e
          refine ⟨by rw [size_setBx]; exact Nat.le_refl _, fun b cs hb => ?_⟩
          rw [getBox_set_ne]
          · exact hb
          · rintro rfl
            have h1 := box_of_get hb
            have h2 := box_of_tok ht
            rw [h1] at h2; cases h2
        · cases e
    · cases e
  · cases e
/-- A path. -/
def pathF (t : List UInt8) : Option (List Int × List UInt8) :=
  if t.take 1 == [60] then match readO ((t.drop 1).takeWhile ngtB) with
    | none => none
    | some p => if ((t.drop 1).dropWhile ngtB).take 1 == [62] then some (p, ((t.drop 1).dropWhile ngtB).drop 1) else none
  else none
theorem path_spec {H : Hp} {k : Nat} (hk : k < size H) (t : List UInt8) (ht : t.length ≤ 100000) :
    match pathF t with
    | some (p, r) => ∀ base l, CallA T base 30 [.ptr k 0] (ext (rb H k t) l) = some (.tup [gD .nils 1 (p.map eI), .bool true], ext (rb H k r) l)
    | none => ∃ V r, (V = .nils ∨ ∃ p : List Int, V = gD .nils 1 (p.map eI)) ∧ r.length ≤ t.length ∧ ∀ base l, CallA T base 30 [.ptr k 0] (ext (rb H k t) l) = some (.tup [V, .bool false], ext (rb H k r) l) := by
  have up : ∀ {R : PV} {r : List UInt8}, (∀ (H : Hp), k < size H → ∀ base, CallA T base 30 [.ptr k 0] (rb H k t) = some (R, rb H k r)) → ∀ base l, CallA T base 30 [.ptr k 0] (ext (rb H k t) l) = some (R, ext (rb H k r) l) := by
    intro R r h base l
    rw [← rb_ext hk, ← rb_ext hk]
    exact h _ (by rw [size_ext]; omega) base
  have hz : ∀ (H : Hp) t, size (rb H k t) = size H := fun _ _ => size_setBx
  unfold pathF
  cases e1 : (t.take 1 == [60])
  · simp only [Bool.false_eq_true, if_false]
    refine ⟨.nils, t, .inl rfl, Nat.le_refl _, up fun H hk base => ?_⟩
    have h1 := fun b => take_spec hk b 60 t ht
    unfold tk at h1
    rw [e1] at h1
    rw [S30]
    simp only [Bool.false_eq_true, if_false] at h1
    simp only [hz, h1, rb_trunc, ↓evD, evU, evL, Nat.reduceAdd, Nat.reduceSub, Nat.reduceMul, Nat.reduceLeDiff, Nat.reduceLT, Nat.reduceEqDiff, Nat.reduceBEq, reduceIte, reduceCtorEq, Int.reduceBEq, Int.reduceEq, Int.reduceLT, Int.reduceLE, Int.reduceGT, Int.reduceGE, Int.reduceAdd, Int.reduceSub, Int.reduceNeg, Int.reduceBNe, ite_true, ite_false, if_true, if_false, implies_true, forall_const]
  · simp only [if_true]
    have hd : (t.drop 1).length ≤ t.length := by rw [List.length_drop]; omega
    have e0 : tk 60 t = t.drop 1 := by unfold tk; rw [e1]; rfl
    generalize t.drop 1 = s at *
    have hl := tw_len (q := ngtB) s
    generalize ha : s.takeWhile ngtB = a at *
    generalize hb : s.dropWhile ngtB = d at *
    cases e2 : readO a with
    | none =>
      refine ⟨.nils, d, .inl rfl, by omega, up fun H hk base => ?_⟩
      have h1 := fun b => take_spec hk b 60 t ht
      rw [e0, e1] at h1
      have h2 := fun b => while_spec hk ngt_spec b s (by omega)
      have h3 := fun b m => read_spec (base := b) (h := m) a (by omega)
      rw [ha, hb] at h2
      rw [e2] at h3
      have eo : outV .nils none = .tup [.nils, i64 20] := rfl
      rw [eo] at h3
      rw [S30]
      simp only [hz, h1, h2, h3, rb_trunc, ↓evD, evU, evL, Nat.reduceAdd, Nat.reduceSub, Nat.reduceMul, Nat.reduceLeDiff, Nat.reduceLT, Nat.reduceEqDiff, Nat.reduceBEq, reduceIte, reduceCtorEq, Int.reduceBEq, Int.reduceEq, Int.reduceLT, Int.reduceLE, Int.reduceGT, Int.reduceGE, Int.reduceAdd, Int.reduceSub, Int.reduceNeg, Int.reduceBNe, ite_true, ite_false, if_true, if_false, implies_true, forall_const]
    | some p =>
      have key : ∀ (b : Bool) (H : Hp), (d.take 1 == [62]) = b → k < size H → ∀ base, CallA T base 30 [.ptr k 0] (rb H k t) = some (.tup [gD .nils 1 (p.map eI), .bool b], rb H k (tk 62 d)) := by
        intro b H e3 hk base
        have h1 := fun b => take_spec hk b 60 t ht
        rw [e0, e1] at h1
        have h2 := fun b => while_spec hk ngt_spec b s (by omega)
        have h3 := fun b m => read_spec (base := b) (h := m) a (by omega)
        have h4 := fun b => take_spec hk b 62 d (by omega)
        rw [ha, hb] at h2
        rw [e2] at h3
        rw [e3] at h4
        have eo : outV .nils (some p) = .tup [gD .nils 1 (p.map eI), i64 0] := rfl
        rw [eo] at h3
        have lv := Lv.done (e := eI) (gZ_nils 1) p
        have f1 := fun n k => lv.frz n k
        have f2 := fun n => lv.below elI n
        generalize gD .nils 1 (p.map eI) = V at *
        rw [S30]
        simp only [hz, h1, h2, h3, h4, f1, f2, rb_trunc, ↓evD, evU, evL, Nat.reduceAdd, Nat.reduceSub, Nat.reduceMul, Nat.reduceLeDiff, Nat.reduceLT, Nat.reduceEqDiff, Nat.reduceBEq, reduceIte, reduceCtorEq, Int.reduceBEq, Int.reduceEq, Int.reduceLT, Int.reduceLE, Int.reduceGT, Int.reduceGE, Int.reduceAdd, Int.reduceSub, Int.reduceNeg, Int.reduceBNe, ite_true, ite_false, if_true, if_false, implies_true, forall_const]
      simp only
      cases e3 : (d.take 1 == [62])
      · simp only [Bool.false_eq_true, if_false]
        exact ⟨_, tk 62 d, .inr ⟨p, rfl⟩, by have := tk_len 62 d; omega, up (fun H hk base => key false H e3 hk base)⟩
      · simp only [if_true]
        have : tk 62 d = d.drop 1 := by unfold tk; rw [e3]; rfl
        rw [← this]
        exact up (fun H hk base => key true H e3 hk base)
theorem val_len (t : List UInt8) : (valF t).2.2.length ≤ t.length := by
  have h1 := tw_len (q := simB) t
  have h2 := tw_len (q := priB) (t.drop 1)
  have h3 := tk_len 34 ((t.drop 1).dropWhile priB)
  have h4 : (t.drop 1).length ≤ t.length := by rw [List.length_drop]; omega
  unfold valF
  split
  · simp only; split <;> omega
  · simp only; omega
theorem attr_len (t : List UInt8) : (attrF t).2.2.length ≤ t.length := by
  have h1 := tw_len (q := lowB) t
  have h2 := val_len ((t.dropWhile lowB).drop 1)
  have h4 : ((t.dropWhile lowB).drop 1).length ≤ (t.dropWhile lowB).length := by rw [List.length_drop]; omega
  unfold attrF
  split
  · split <;> simp only <;> omega
  · simp only; omega
theorem attr_ext {H : Hp} {k : Nat} (hk : k < size H) (base : Nat) (t : List UInt8) (ht : t.length ≤ 100000) (l : List Box) :
    CallA T base 31 [.ptr k 0] (ext (rb H k t) l) = some (.tup [eP (attrF t).1, .bool (attrF t).2.1], ext (rb H k (attrF t).2.2) l) := by
  rw [← rb_ext hk, ← rb_ext hk]
  exact attr_spec (by rw [size_ext]; omega) base t ht
/-- The attributes; n: how many more there may be. -/
def attrsO : Nat → List UInt8 → Option (List Pr × List UInt8)
  | 0, t => if t.take 1 == [59] then none else some ([], t)
  | n + 1, t => if t.take 1 == [59] then
      if (attrF (t.drop 1)).2.1 then match attrsO n (attrF (t.drop 1)).2.2 with
        | some x => some ((attrF (t.drop 1)).1 :: x.1, x.2)
        | none => none
      else none
    else some ([], t)
structure PvOk (p : PV) : Prop where
  sc : scalar p = true
  fr : ∀ n k, frz n k p = some p
  be : ∀ n, below n p = true
theorem Lv.ok {α : Type} {e : α → PV} {sz : Nat} {b : PV} {l : List α} (he : El e sz) (h : Lv e sz b l) : PvOk b := ⟨h.scalar, fun n k => h.frz n k, fun n => h.below he n⟩
structure LS (H : Hp) (k : Nat) (t : List UInt8) (p : PV) (aa : List Pr) (v : PV) (X : Hp) : Prop where
  g : GS (rb H k t) 34 3 .nils v (aa.map eP) X
  kb : getBox X k = some [.str t]
  b0 : getBox X (size H) = some [.nils, .nils]
  b1 : getBox X (size H + 1) = some [p, v]
  le : size H + 1 < size X
section
variable {H X : Hp} {k : Nat} {t : List UInt8} {p v : PV} {aa : List Pr}
theorem LS.low (s : LS H k t p aa v X) (hk : k < size H) (u : List UInt8) : LS H k u p aa v (rb X k u) := by
  have g := GS_low s.g (k := k) (by rw [size_setBx]; exact hk) (.cells [.str u])
  rw [rb_rb] at g
  have := s.le
  exact ⟨g, rb_get (by omega) u, by rw [getBox_set_ne (by omega)]; exact s.b0, by rw [getBox_set_ne (by omega)]; exact s.b1, by rw [size_setBx]; exact s.le⟩
theorem LS.ext (s : LS H k t p aa v X) (hk : k < size H) (l : List Box) : LS H k t p aa v (Go.Am.ext X l) := by
  have := s.le
  exact ⟨s.g.ext l, by rw [getBox_ext_lt (by omega)]; exact s.kb, by rw [getBox_ext_lt (by omega)]; exact s.b0, by rw [getBox_ext_lt (by omega)]; exact s.b1, by rw [size_ext]; omega⟩
theorem rb_self (h : getBox X k = some [.str t]) : X = rb X k t := by
  have := setBox_self h
  rw [setBox_eq] at this
  exact this.symm
theorem LS.end (s : LS H k t p aa v X) (hk : k < size H) (hp : PvOk p) (b : Bool) (hb : b = true → (t.take 1 == [59]) = false) (ht : t.length ≤ 100000) :
    P20_0 (size H) (size H) (.ptr (size H) 0) (.ptr (size H + 1) 0) (.ptr k 0) (.bool b) X = some (.tup [.agg [p, gD .nils 3 (aa.map eP)], .bool b], rb H k t) := by
  have hle := s.le
  have hX := rb_self s.kb
  have h27 := fun base => take_spec (H := X) (by omega : k < size X) base 59 t ht
  rw [← hX] at h27
  have n3 : (size H < size H) = False := by simp
  have hs : ∀ cs, getBox (setBx X (size H) (.cells cs)) (size H) = some cs := fun cs => getBox_set_same (by omega)
  have f1 := fun n m => s.g.frz (gZ_nils 3) n m
  have f2 := fun n => below_gD (gZ_nils 3) n _ (elP.belows n aa)
  have f3 := hp.fr
  have f4 := hp.be
  have f5 := hp.sc
  have f6 : scalar v = true := by
    rcases s.g.va with ⟨_, rfl⟩ | ⟨_, _, rfl, _⟩ <;> rfl
  have tr : ∀ x, trunc (setBx X (size H) x) (size H) = rb H k t := by
    intro x
    have h1 := s.g.tr
    rw [size_setBx] at h1
    rw [← h1]
    simp only [trunc, setBx, size]
    rw [List.take_set_of_le (Nat.le_refl _)]
  rw [P20_0_eq]
  cases b
  · simp only [s.b0, s.b1, n3, hs, f1, f2, f3, f4, f5, f6, tr, ↓evD, evU, evL, Nat.reduceAdd, Nat.reduceSub, Nat.reduceMul, Nat.reduceLeDiff, Nat.reduceLT, Nat.reduceEqDiff, Nat.reduceBEq, reduceIte, reduceCtorEq, Int.reduceBEq, Int.reduceEq, Int.reduceLT, Int.reduceLE, Int.reduceGT, Int.reduceGE, Int.reduceAdd, Int.reduceSub, Int.reduceNeg, Int.reduceBNe, ite_true, ite_false, if_true, if_false, implies_true, forall_const]
  · have e0 := hb rfl
    have e1 : tk 59 t = t := by unfold tk; rw [e0]; rfl
    rw [e0, e1, ← hX] at h27
    simp only [h27, s.b0, s.b1, n3, hs, f1, f2, f3, f4, f5, f6, tr, ↓evD, evU, evL, Nat.reduceAdd, Nat.reduceSub, Nat.reduceMul, Nat.reduceLeDiff, Nat.reduceLT, Nat.reduceEqDiff, Nat.reduceBEq, reduceIte, reduceCtorEq, Int.reduceBEq, Int.reduceEq, Int.reduceLT, Int.reduceLE, Int.reduceGT, Int.reduceGE, Int.reduceAdd, Int.reduceSub, Int.reduceNeg, Int.reduceBNe, ite_true, ite_false, if_true, if_false, implies_true, forall_const]
end
end Go.Am.YtdnbedldmkagmaaDoor
namespace Go.Am.YtdnbedldmkagmaaDoor
set_option maxRecDepth 100000
set_option linter.unusedSimpArgs false
set_option linter.unusedVariables false
section
variable {H X : Hp} {k : Nat} {t : List UInt8} {p v : PV} {aa : List Pr}
/-- One attribute more. -/
theorem LS.grow (s : LS H k t p aa v X) (a : Pr) (ha : aa.length ≤ 8) :
    ∃ v' Z, growT X 34 3 v [.agg [.str a.1, .str a.2.1, .bool a.2.2]] = some (v', Z) ∧ getBox Z (size H + 1) = some [p, v] ∧ LS H k t p (aa ++ [a]) v' (setBx Z (size H + 1) (.cells [p, v'])) := by
  obtain ⟨v', Z, e1, g2⟩ := s.g.grow (gZ_nils 3) (x := eP a) (by simpa using elP.fits [a]) (elP.st _) (by unfold lim2; simp; omega)
  obtain ⟨z1, z2⟩ := grow_box e1
  have hle := s.le
  have hb1 := z2 _ _ s.b1
  have g3 := g2.set hb1 (cs' := [p, v']) (by rw [size_setBx]; omega)
  rw [setBox_eq] at g3
  refine ⟨v', Z, e1, hb1, ?_, ?_, ?_, ?_, ?_⟩
  · rw [List.map_append]; exact g3
  · rw [getBox_set_ne]
    · exact z2 _ _ s.kb
    · rintro rfl
      have h1 := s.kb
      rw [s.b1] at h1
      cases h1
  · rw [getBox_set_ne (by omega)]; exact z2 _ _ s.b0
  · exact getBox_set_same (by omega)
  · rw [size_setBx]; omega
/-- What is read of the attributes. -/
def AttrR (H : Hp) (k : Nat) (p : PV) (aa : List Pr) (n0 : Nat) (R : Option (PV × Hp)) : Option (List Pr × List UInt8) → Prop
  | some (bs, r) => R = some (.tup [.agg [p, gD .nils 3 ((aa ++ bs).map eP)], .bool true], rb H k r) ∧ r.length ≤ n0
  | none => ∃ (bs : List Pr) (r : List UInt8), r.length ≤ n0 ∧ R = some (.tup [.agg [p, gD .nils 3 (bs.map eP)], .bool false], rb H k r)
theorem LS.len (s : LS H k t p aa v X) : lenB false v = some (i64 aa.length) := (s.g.rl (gZ_nils 3)).len
theorem attrs_stop (s : LS H k t p aa v X) (hk : k < size H) (hp : PvOk p) (ht : t.length ≤ 100000) (e : (t.take 1 == [59]) = false) (n : Nat) :
    AttrR H k p aa t.length (P20_0 (size H) (size H) (.ptr (size H) 0) (.ptr (size H + 1) 0) (.ptr k 0) (.bool true) X) (attrsO n t) := by
  have h0 : attrsO n t = some ([], t) := by cases n <;> simp only [attrsO, e, Bool.false_eq_true, if_false]
  rw [h0]
  refine ⟨?_, Nat.le_refl _⟩
  rw [List.append_nil]
  exact s.end hk hp true (fun _ => e) ht
theorem attrs_loop (hk : k < size H) (hp : PvOk p) : ∀ (n : Nat) (t : List UInt8) (aa : List Pr) (v : PV) (X : Hp), LS H k t p aa v X → aa.length + n = 8 → t.length ≤ 100000 →
    AttrR H k p aa t.length (P20_0 (size H) (size H) (.ptr (size H) 0) (.ptr (size H + 1) 0) (.ptr k 0) (.bool true) X) (attrsO n t)
  | 0, t, aa, v, X, s, hn, ht => by
    cases e : (t.take 1 == [59])
    · exact attrs_stop s hk hp ht e 0
    · have hle := s.le
      have hX := rb_self s.kb
      have h27 := fun base => take_spec (H := X) (by omega : k < size X) base 59 t ht
      rw [← hX] at h27
      have e1 : tk 59 t = t.drop 1 := by unfold tk; rw [e]; rfl
      rw [e, e1] at h27
      have s1 := s.low hk (t.drop 1)
      generalize hX1 : rb X k (t.drop 1) = X1 at *
      have hd : (t.drop 1).length ≤ t.length := by rw [List.length_drop]; omega
      have h0 : attrsO 0 t = none := by simp only [attrsO, e, if_true]
      rw [h0]
      refine ⟨aa, t.drop 1, hd, ?_⟩
      have e8 : ((aa.length : Int) == 8) = true := by rw [beq_iff_eq]; omega
      have hle1 := s1.le
      have n3 : (size H < size H) = False := by simp
      have hs : ∀ cs, getBox (setBx X1 (size H) (.cells cs)) (size H) = some cs := fun cs => getBox_set_same (by omega)
      have f1 := fun n m => s1.g.frz (gZ_nils 3) n m
      have f2 := fun n => below_gD (gZ_nils 3) n _ (elP.belows n aa)
      have f3 := hp.fr
      have f4 := hp.be
      have f5 := hp.sc
      have f6 : scalar v = true := by rcases s.g.va with ⟨_, rfl⟩ | ⟨_, _, rfl, _⟩ <;> rfl
      have tr : ∀ x, trunc (setBx X1 (size H) x) (size H) = rb H k (t.drop 1) := by
        intro x
        have h1 := s1.g.tr
        rw [size_setBx] at h1
        rw [← h1]
        simp only [trunc, setBx, size]
        rw [List.take_set_of_le (Nat.le_refl _)]
      rw [P20_0_eq]
      simp only [h27, s1.b0, s1.b1, s.len, e8, n3, hs, f1, f2, f3, f4, f5, f6, tr, ↓evD, evU, evL, Nat.reduceAdd, Nat.reduceSub, Nat.reduceMul, Nat.reduceLeDiff, Nat.reduceLT, Nat.reduceEqDiff, Nat.reduceBEq, reduceIte, reduceCtorEq, Int.reduceBEq, Int.reduceEq, Int.reduceLT, Int.reduceLE, Int.reduceGT, Int.reduceGE, Int.reduceAdd, Int.reduceSub, Int.reduceNeg, Int.reduceBNe, ite_true, ite_false, if_true, if_false, implies_true, forall_const]
  | n + 1, t, aa, v, X, s, hn, ht => by
    cases e : (t.take 1 == [59])
    · exact attrs_stop s hk hp ht e (n + 1)
    · have hle := s.le
      have hX := rb_self s.kb
      have hkX : k < size X := by omega
      have h27 := fun base => take_spec (H := X) hkX base 59 t ht
      rw [← hX] at h27
      have e1 : tk 59 t = t.drop 1 := by unfold tk; rw [e]; rfl
      rw [e, e1] at h27
      have hd : (t.drop 1).length ≤ t.length := by rw [List.length_drop]; omega
      have hO : attrsO (n + 1) t = if (attrF (t.drop 1)).2.1 then match attrsO n (attrF (t.drop 1)).2.2 with
        | some x => some ((attrF (t.drop 1)).1 :: x.1, x.2)
        | none => none
        else none := by simp only [attrsO, e, if_true] <;> rfl
      rw [hO]
      generalize t.drop 1 = u at *
      have hl := attr_len u
      have ha := fun b l => attr_ext hkX b u (by omega) l
      generalize attrF u = w at *
      obtain ⟨a, b, r⟩ := w
      simp only at hl ha ⊢
      have e8 : ((aa.length : Int) == 8) = false := by rw [beq_eq_false_iff_ne]; omega
      have s0 := s.low hk u
      have s1 := (s.low hk r).ext hk [.cells [.str a.1, .str a.2.1, .bool a.2.2]]
      obtain ⟨v', Z, g1, g2, s2⟩ := s1.grow a (by omega)
      have n1 : (size X < size H) = False := by simp; omega
      have n2 : (size H + 1 < size H) = False := by simp
      have hep : eP a = .agg [.str a.1, .str a.2.1, .bool a.2.2] := rfl
      rw [hep] at ha
      have b1 : ∀ cs, getBox (ext (rb X k r) [.cells cs]) (size H + 1) = some [p, v] := fun cs => ((s.low hk r).ext hk [.cells cs]).b1
      have key : P20_0 (size H) (size H) (.ptr (size H) 0) (.ptr (size H + 1) 0) (.ptr k 0) (.bool true) X = P20_0 (size H) (size H) (.ptr (size H) 0) (.ptr (size H + 1) 0) (.ptr k 0) (.bool b) (setBx Z (size H + 1) (.cells [p, v'])) := by
        refine (P20_0_eq ..).trans ?_
        have i1 := s0.b1
        have c1 : v'.cells = [v'] := by rcases s2.g.va with ⟨_, rfl⟩ | ⟨_, _, rfl, _⟩ <;> rfl
        have c2 : scalar v' = true := by rcases s2.g.va with ⟨_, rfl⟩ | ⟨_, _, rfl, _⟩ <;> rfl
        simp only [h27, i1, c1, c2, s.len, e8, n1, n2, ha, b1, g1, g2, ↓evD, evU, evL, Nat.reduceAdd, Nat.reduceSub, Nat.reduceMul, Nat.reduceLeDiff, Nat.reduceLT, Nat.reduceEqDiff, Nat.reduceBEq, reduceIte, reduceCtorEq, Int.reduceBEq, Int.reduceEq, Int.reduceLT, Int.reduceLE, Int.reduceGT, Int.reduceGE, Int.reduceAdd, Int.reduceSub, Int.reduceNeg, Int.reduceBNe, ite_true, ite_false, if_true, if_false, implies_true, forall_const]
      rw [key]
      cases b
      · simp only [Bool.false_eq_true, if_false]
        exact ⟨aa ++ [a], r, by omega, s2.end hk hp false (fun h => by cases h) (by omega)⟩
      · simp only [if_true]
        have ih := attrs_loop hk hp n r (aa ++ [a]) v' _ s2 (by simp; omega) (by omega)
        cases h : attrsO n r with
        | none =>
          rw [h] at ih
          obtain ⟨bs, r', h1, h2⟩ := ih
          exact ⟨bs, r', by omega, h2⟩
        | some x =>
          rw [h] at ih
          obtain ⟨h1, h2⟩ := ih
          refine ⟨?_, by omega⟩
          rw [h1, List.append_assoc]; rfl
end
/-- A link. -/
def linkO (t : List UInt8) : Option ((List Int × List Pr) × List UInt8) := match pathF t with
  | none => none
  | some (p, r) => match attrsO 8 r with
    | none => none
    | some (as', r') => some ((p, as'), r')
def vP (p : List Int) : PV := gD .nils 1 (p.map eI)
def vA (a : List Pr) : PV := gD .nils 3 (a.map eP)
theorem vP_lv (p : List Int) : Lv eI 1 (vP p) p := Lv.done (gZ_nils 1) p
theorem vA_lv (a : List Pr) : Lv eP 3 (vA a) a := Lv.done (gZ_nils 3) a
theorem path_len {t r : List UInt8} {p : List Int} (h : pathF t = some (p, r)) : r.length ≤ t.length := by
  have h1 := tw_len (q := ngtB) (t.drop 1)
  have h4 : (t.drop 1).length ≤ t.length := by rw [List.length_drop]; omega
  unfold pathF at h
  split at h
  · split at h
    · cases h
    · split at h
      · cases h
        rw [List.length_drop]; omega
      · cases h
  · cases h
theorem link1_spec {H : Hp} {k : Nat} (hk : k < size H) (t : List UInt8) (ht : t.length ≤ 100000) (base : Nat) :
    match linkO t with
    | some ((p, a), r) => CallA T base 20 [.ptr k 0] (rb H k t) = some (.tup [.agg [vP p, vA a], .bool true], rb H k r) ∧ r.length ≤ t.length
    | none => ∃ p a r, CallA T base 20 [.ptr k 0] (rb H k t) = some (.tup [.agg [vP p, vA a], .bool false], rb H k r) ∧ r.length ≤ t.length := by
  have hp := path_spec hk t ht
  have hz : ∀ t, size (rb H k t) = size H := fun _ => size_setBx
  have start : ∀ (p : List Int) (r : List UInt8) (b : Bool), (∀ base l, CallA T base 30 [.ptr k 0] (ext (rb H k t) l) = some (.tup [vP p, .bool b], ext (rb H k r) l)) →
      ∃ X, LS H k r (vP p) [] .nils X ∧ CallA T base 20 [.ptr k 0] (rb H k t) = P20_0 (size H) (size H) (.ptr (size H) 0) (.ptr (size H + 1) 0) (.ptr k 0) (.bool b) X := by
    intro p r b h
    have ok := Lv.ok elI (vP_lv p)
    have f1 := ok.sc
    have f0 := (vP_lv p).cells
    refine ⟨ext (rb H k r) [.cells [.nils, .nils], .cells [vP p, .nils]], ⟨?_, rb_gete hk r _, ?_, ?_, ?_⟩, ?_⟩
    · exact (GS.zero (rb H k r) 34 3 .nils).ext _
    · have : size H = size (rb H k r) := size_setBx.symm
      rw [this]; exact getBox_ext_0
    · have : size H = size (rb H k r) := size_setBx.symm
      rw [this]; exact getBox_ext_n
    · rw [size_ext, hz]; simp
    · rw [S20]
      have n1 : (size H + 1 < size H) = False := by simp
      generalize vP p = V at *
      simp only [hz, h, f0, f1, n1, ↓evD, evU, evL, Nat.reduceAdd, Nat.reduceSub, Nat.reduceMul, Nat.reduceLeDiff, Nat.reduceLT, Nat.reduceEqDiff, Nat.reduceBEq, reduceIte, reduceCtorEq, Int.reduceBEq, Int.reduceEq, Int.reduceLT, Int.reduceLE, Int.reduceGT, Int.reduceGE, Int.reduceAdd, Int.reduceSub, Int.reduceNeg, Int.reduceBNe, ite_true, ite_false, if_true, if_false, implies_true, forall_const]
  unfold linkO
  cases e : pathF t with
  | none =>
    rw [e] at hp
    obtain ⟨V, r, hV, hl, h⟩ := hp
    obtain ⟨p, rfl⟩ : ∃ p : List Int, V = vP p := by
      rcases hV with rfl | ⟨p, rfl⟩
      · exact ⟨[], rfl⟩
      · exact ⟨p, rfl⟩
    obtain ⟨X, s, hX⟩ := start p r false h
    refine ⟨p, [], r, ?_, hl⟩
    rw [hX]
    exact s.end hk (Lv.ok elI (vP_lv p)) false (fun h => by cases h) (by omega)
  | some x =>
    obtain ⟨p, r⟩ := x
    rw [e] at hp
    have hl := path_len e
    obtain ⟨X, s, hX⟩ := start p r true hp
    have := attrs_loop hk (Lv.ok elI (vP_lv p)) 8 r [] .nils X s rfl (by omega)
    rw [← hX] at this
    simp only
    cases e2 : attrsO 8 r with
    | none =>
      rw [e2] at this
      obtain ⟨bs, r', h1, h2⟩ := this
      exact ⟨p, bs, r', h2, by omega⟩
    | some y =>
      rw [e2] at this
      obtain ⟨h1, h2⟩ := this
      exact ⟨h1, by omega⟩
end Go.Am.YtdnbedldmkagmaaDoor
namespace Go.Am.YtdnbedldmkagmaaDoor
set_option maxRecDepth 100000
set_option linter.unusedSimpArgs false
set_option linter.unusedVariables false
abbrev Ln := List Int × List Pr
def mkL (x : Ln) : Lk := (⟨vP x.1, x.1, vP_lv x.1⟩, ⟨vA x.2, x.2, vA_lv x.2⟩)
def mkE (x : Ln) : PV := eL (mkL x)
theorem mkE_eq (x : Ln) : mkE x = .agg [vP x.1, vA x.2] := rfl
theorem elE : El mkE 2 := ⟨fun a => elL.len _, fun a => elL.sc _, fun a => elL.st _, fun n a => elL.be n _⟩
inductive Rs where
  | ok (l : List Ln)
  | many
  | form
def linksO : Nat → List UInt8 → Rs
  | 0, _ => .many
  | n + 1, t => match linkO t with
    | none => .form
    | some (x, r) => if r == [] then .ok [x] else if r.take 1 == [44] then (match linksO n (r.drop 1) with
      | .ok l => .ok (x :: l)
      | e => e) else .form
def readS (t : List UInt8) : Rs := if t == [] then .ok [] else linksO 64 t
def rsV (z : PV) (ks : List Ln) : Rs → PV
  | .ok l => .tup [gD z 2 ((ks ++ l).map mkE), i64 0]
  | .many => .tup [.nils, i64 3]
  | .form => .tup [.nils, i64 20]
theorem gs_sc {h H : Hp} {T sz : Nat} {v : PV} {es : List PV} (g : GS h T sz .nils v es H) : v.cells = [v] ∧ scalar v = true := by
  rcases g.va with ⟨_, rfl⟩ | ⟨_, _, rfl, _⟩ <;> exact ⟨rfl, rfl⟩
theorem read_loop {h : Hp} : ∀ (n : Nat) (t : List UInt8) (ks : List Ln) (v : PV) (X : Hp), GS h 37 2 .nils v (ks.map mkE) X → getBox X (size h) = some [.str t] → ks.length + n = 64 → t.length ≤ 100000 →
    P10_0 (size h) (size h) (.ptr (size h) 0) v X = some (rsV .nils ks (linksO n t), h)
  | 0, t, ks, v, X, g, hb, hn, ht => by
    have e8 : ((ks.length : Int) == 64) = true := by rw [beq_iff_eq]; omega
    rw [P10_0_eq]
    simp only [(g.rl (gZ_nils 2)).len, e8, g.tr, linksO, rsV, ↓evD, evU, evL, Nat.reduceAdd, Nat.reduceSub, Nat.reduceMul, Nat.reduceLeDiff, Nat.reduceLT, Nat.reduceEqDiff, Nat.reduceBEq, reduceIte, reduceCtorEq, Int.reduceBEq, Int.reduceEq, Int.reduceLT, Int.reduceLE, Int.reduceGT, Int.reduceGE, Int.reduceAdd, Int.reduceSub, Int.reduceNeg, Int.reduceBNe, ite_true, ite_false, if_true, if_false, implies_true, forall_const]
  | n + 1, t, ks, v, X, g, hb, hn, ht => by
    have e8 : ((ks.length : Int) == 64) = false := by rw [beq_eq_false_iff_ne]; omega
    have hk : size h < size X := lt_of_box (box_of_get hb)
    have hX := rb_self hb
    have hl := link1_spec hk t ht (size h)
    rw [← hX] at hl
    have n1 : (size X < size h) = False := by simp; omega
    have glow : ∀ r, GS h 37 2 .nils v (ks.map mkE) (rb X (size h) r) := by
      intro r
      have := g.set hb (cs' := [.str r]) (Nat.le_refl _)
      rw [setBox_eq] at this
      exact this
    cases e : linkO t with
    | none =>
      rw [e] at hl
      obtain ⟨p, a, r, h1, h2⟩ := hl
      have c1 := (vP_lv p).cells
      have c2 := (vA_lv a).cells
      have c3 := (vP_lv p).scalar
      have c4 := (vA_lv a).scalar
      have tr : ∀ l, trunc (ext (rb X (size h) r) l) (size h) = h := fun l => ((glow r).ext l).tr
      rw [P10_0_eq]
      simp only [(g.rl (gZ_nils 2)).len, e8, h1, n1, c1, c2, c3, c4, tr, linksO, e, rsV, ↓evD, evU, evL, Nat.reduceAdd, Nat.reduceSub, Nat.reduceMul, Nat.reduceLeDiff, Nat.reduceLT, Nat.reduceEqDiff, Nat.reduceBEq, reduceIte, reduceCtorEq, Int.reduceBEq, Int.reduceEq, Int.reduceLT, Int.reduceLE, Int.reduceGT, Int.reduceGE, Int.reduceAdd, Int.reduceSub, Int.reduceNeg, Int.reduceBNe, ite_true, ite_false, if_true, if_false, implies_true, forall_const]
    | some y =>
      obtain ⟨⟨p, a⟩, r⟩ := y
      rw [e] at hl
      obtain ⟨h1, h2⟩ := hl
      have c1 := (vP_lv p).cells
      have c2 := (vA_lv a).cells
      have c3 := (vP_lv p).scalar
      have c4 := (vA_lv a).scalar
      have c5 := (vP_lv p).strip
      have c6 := (vA_lv a).strip
      have g1 := (glow r).ext [.cells [vP p, vA a]]
      obtain ⟨v', Z, e1, g2⟩ := g1.grow (gZ_nils 2) (x := mkE (p, a)) (by simpa using elE.fits [(p, a)]) (elE.st _) (by unfold lim2; simp; omega)
      obtain ⟨z1, z2⟩ := grow_box e1
      have hbZ := z2 _ _ (rb_gete hk r _)
      have hkZ := lt_of_box (box_of_get hbZ)
      have hZ := rb_self hbZ
      have g3 : GS h 37 2 .nils v' ((ks ++ [(p, a)]).map mkE) Z := by rw [List.map_append]; exact g2
      rw [mkE_eq] at e1
      have f1 := fun n m => g3.frz (gZ_nils 2) n m
      have f2 := fun n => below_gD (gZ_nils 2) n _ (elE.belows n (ks ++ [(p, a)]))
      have f3 := g3.tr
      have hz : size (rb X (size h) r) = size X := size_setBx
      cases e2 : (r == [])
      · have h3 := fun b => take_spec hkZ b 44 r (by omega)
        rw [← hZ] at h3
        have gz : ∀ u, GS h 37 2 .nils v' ((ks ++ [(p, a)]).map mkE) (rb Z (size h) u) := by
          intro u
          have := g3.set hbZ (cs' := [.str u]) (Nat.le_refl _)
          rw [setBox_eq] at this
          exact this
        cases e3 : (r.take 1 == [44])
        · have tr2 := (gz (tk 44 r)).tr
          rw [e3] at h3
          rw [P10_0_eq]
          simp only [(g.rl (gZ_nils 2)).len, e8, h1, n1, c1, c2, c3, c4, c5, c6, e1, hbZ, e2, h3, tr2, linksO, e, e3, rsV, hz, Bool.false_eq_true, ↓evD, evU, evL, Nat.reduceAdd, Nat.reduceSub, Nat.reduceMul, Nat.reduceLeDiff, Nat.reduceLT, Nat.reduceEqDiff, Nat.reduceBEq, reduceIte, reduceCtorEq, Int.reduceBEq, Int.reduceEq, Int.reduceLT, Int.reduceLE, Int.reduceGT, Int.reduceGE, Int.reduceAdd, Int.reduceSub, Int.reduceNeg, Int.reduceBNe, ite_true, ite_false, if_true, if_false, implies_true, forall_const]
        · have hd : (r.drop 1).length ≤ r.length := by rw [List.length_drop]; omega
          have e4 : tk 44 r = r.drop 1 := by unfold tk; rw [e3]; rfl
          rw [e3, e4] at h3
          have ih := read_loop n (r.drop 1) (ks ++ [(p, a)]) v' (rb Z (size h) (r.drop 1)) (gz _) (rb_get hkZ _) (by simp; omega) (by omega)
          have e5 : rsV .nils ks (linksO (n + 1) t) = rsV .nils (ks ++ [(p, a)]) (linksO n (r.drop 1)) := by
            simp only [linksO, e, e2, e3, Bool.false_eq_true, if_false, if_true]
            cases linksO n (r.drop 1) <;> simp [rsV]
          rw [e5, ← ih]
          refine (P10_0_eq ..).trans ?_
          simp only [(g.rl (gZ_nils 2)).len, e8, h1, n1, c1, c2, c3, c4, c5, c6, e1, hbZ, e2, h3, hz, ↓evD, evU, evL, Nat.reduceAdd, Nat.reduceSub, Nat.reduceMul, Nat.reduceLeDiff, Nat.reduceLT, Nat.reduceEqDiff, Nat.reduceBEq, reduceIte, reduceCtorEq, Int.reduceBEq, Int.reduceEq, Int.reduceLT, Int.reduceLE, Int.reduceGT, Int.reduceGE, Int.reduceAdd, Int.reduceSub, Int.reduceNeg, Int.reduceBNe, ite_true, ite_false, if_true, if_false, implies_true, forall_const]
      · rw [P10_0_eq]
        simp only [(g.rl (gZ_nils 2)).len, e8, h1, n1, c1, c2, c3, c4, c5, c6, e1, hbZ, e2, f1, f2, f3, linksO, e, rsV, hz, ↓evD, evU, evL, Nat.reduceAdd, Nat.reduceSub, Nat.reduceMul, Nat.reduceLeDiff, Nat.reduceLT, Nat.reduceEqDiff, Nat.reduceBEq, reduceIte, reduceCtorEq, Int.reduceBEq, Int.reduceEq, Int.reduceLT, Int.reduceLE, Int.reduceGT, Int.reduceGE, Int.reduceAdd, Int.reduceSub, Int.reduceNeg, Int.reduceBNe, ite_true, ite_false, if_true, if_false, implies_true, forall_const]
theorem readL_spec (base : Nat) (h : Hp) (t : List UInt8) (ht : t.length ≤ 100000) : CallA T base 10 [.str t] h = some (rsV .nils [] (readS t), h) := by
  rw [S10]
  unfold readS
  cases e : (t == [])
  · have := read_loop (h := h) 64 t [] .nils (ext h [.cells [.str t]]) ((GS.zero h 37 2 .nils).ext _) getBox_ext_0 rfl ht
    simp only [e, Bool.false_eq_true, if_false, ↓evD, evU, evL, Nat.reduceAdd, Nat.reduceSub, Nat.reduceMul, Nat.reduceLeDiff, Nat.reduceLT, Nat.reduceEqDiff, Nat.reduceBEq, reduceIte, reduceCtorEq, Int.reduceBEq, Int.reduceEq, Int.reduceLT, Int.reduceLE, Int.reduceGT, Int.reduceGE, Int.reduceAdd, Int.reduceSub, Int.reduceNeg, Int.reduceBNe, ite_true, ite_false, if_true, if_false, implies_true, forall_const]
    exact this
  · simp only [e, if_true, rsV, List.append_nil, List.map_nil, ↓evD, evU, evL, Nat.reduceAdd, Nat.reduceSub, Nat.reduceMul, Nat.reduceLeDiff, Nat.reduceLT, Nat.reduceEqDiff, Nat.reduceBEq, reduceIte, reduceCtorEq, Int.reduceBEq, Int.reduceEq, Int.reduceLT, Int.reduceLE, Int.reduceGT, Int.reduceGE, Int.reduceAdd, Int.reduceSub, Int.reduceNeg, Int.reduceBNe, ite_true, ite_false, if_true, if_false, implies_true, forall_const]
    rfl
end Go.Am.YtdnbedldmkagmaaDoor
namespace Go.Am.YtdnbedldmkagmaaDoor
set_option maxRecDepth 100000
set_option linter.unusedSimpArgs false
set_option linter.unusedVariables false
theorem sameI_loop {h : Hp} {a b : PV} {l m : List Int} (ha : Rl eI 1 a l) (hb : Rl eI 1 b m) (hl : l.length ≤ 1000000) : ∀ (r s q q' : List Int), l = q ++ r → m = q' ++ s → q.length = q'.length → r.length = s.length →
    P16_0 (size h) (size h) (i64 q.length) b a h = some (.bool (r == s), h)
  | [], [], q, q', h1, h2, h3, h4 => by
    rw [P16_0_eq]
    have e : q.length = l.length := by rw [h1]; simp
    have c1 : ((q.length : Int) < (l.length : Int)) = False := by simp; omega
    have e2 : (([] : List Int) == []) = true := rfl
    simp only [c1, ha.len, e2, ↓evD, evU, evL, Nat.reduceAdd, Nat.reduceSub, Nat.reduceMul, Nat.reduceLeDiff, Nat.reduceLT, Nat.reduceEqDiff, Nat.reduceBEq, reduceIte, reduceCtorEq, Int.reduceBEq, Int.reduceEq, Int.reduceLT, Int.reduceLE, Int.reduceGT, Int.reduceGE, Int.reduceAdd, Int.reduceSub, Int.reduceNeg, Int.reduceBNe, ite_true, ite_false, if_true, if_false, implies_true, forall_const]
  | [], _ :: _, q, q', h1, h2, h3, h4 => by cases h4
  | _ :: _, [], q, q', h1, h2, h3, h4 => by cases h4
  | x :: r, y :: s, q, q', h1, h2, h3, h4 => by
    rw [P16_0_eq]
    have el : l.length = q.length + (r.length + 1) := by rw [h1]; simp
    have c1 : ((q.length : Int) < (l.length : Int)) = True := by simp; omega
    have hx : l[q.length]? = some x := by rw [h1]; simp
    have hy : m[q.length]? = some y := by rw [h2, h3]; simp
    have hec : ∀ x, (eI x).cells = [i64 x] := fun _ => rfl
    have w1 : IntKind.i64.wrap ((q.length : Int) + 1) = (((q ++ [x]).length : Nat) : Int) := by rw [show (q ++ [x]).length = q.length + 1 by simp, wrap_small] <;> omega
    have ih := sameI_loop (h := h) ha hb hl r s (q ++ [x]) (q' ++ [y]) (by rw [h1]; simp) (by rw [h2]; simp) (by simp; omega) (by simpa using h4)
    have e2 : (x :: r == y :: s) = (x == y && r == s) := rfl
    rw [e2]
    cases e : (x == y) <;> simp only [c1, ha.len, ha.idx hx, hb.idx hy, hec, bne, e, w1, ih, Bool.false_and, Bool.true_and, ↓evD, evU, evL, Nat.reduceAdd, Nat.reduceSub, Nat.reduceMul, Nat.reduceLeDiff, Nat.reduceLT, Nat.reduceEqDiff, Nat.reduceBEq, reduceIte, reduceCtorEq, Int.reduceBEq, Int.reduceEq, Int.reduceLT, Int.reduceLE, Int.reduceGT, Int.reduceGE, Int.reduceAdd, Int.reduceSub, Int.reduceNeg, Int.reduceBNe, ite_true, ite_false, if_true, if_false, implies_true, forall_const]
theorem sameI_spec (base : Nat) (h : Hp) {a b : PV} {l m : List Int} (ha : Rl eI 1 a l) (hb : Rl eI 1 b m) (hl : l.length ≤ 1000000) : CallA T base 16 [a, b] h = some (.bool (l == m), h) := by
  rw [S16]
  by_cases e : l.length = m.length
  · have h1 : ((l.length : Int) == (m.length : Int)) = true := by rw [beq_iff_eq]; omega
    have := sameI_loop (h := h) ha hb hl l m [] [] rfl rfl rfl e
    simp only [ha.len, hb.len, bne, h1, ↓evD, evU, evL, Nat.reduceAdd, Nat.reduceSub, Nat.reduceMul, Nat.reduceLeDiff, Nat.reduceLT, Nat.reduceEqDiff, Nat.reduceBEq, reduceIte, reduceCtorEq, Int.reduceBEq, Int.reduceEq, Int.reduceLT, Int.reduceLE, Int.reduceGT, Int.reduceGE, Int.reduceAdd, Int.reduceSub, Int.reduceNeg, Int.reduceBNe, ite_true, ite_false, if_true, if_false, implies_true, forall_const]
    exact this
  · have h1 : ((l.length : Int) == (m.length : Int)) = false := by rw [beq_eq_false_iff_ne]; omega
    have e2 : (l == m) = false := by rw [beq_eq_false_iff_ne]; rintro rfl; exact e rfl
    simp only [ha.len, hb.len, bne, h1, e2, ↓evD, evU, evL, Nat.reduceAdd, Nat.reduceSub, Nat.reduceMul, Nat.reduceLeDiff, Nat.reduceLT, Nat.reduceEqDiff, Nat.reduceBEq, reduceIte, reduceCtorEq, Int.reduceBEq, Int.reduceEq, Int.reduceLT, Int.reduceLE, Int.reduceGT, Int.reduceGE, Int.reduceAdd, Int.reduceSub, Int.reduceNeg, Int.reduceBNe, ite_true, ite_false, if_true, if_false, implies_true, forall_const]
theorem sameP_loop {h : Hp} {a b : PV} {l m : List Pr} (ha : Rl eP 3 a l) (hb : Rl eP 3 b m) (hl : l.length ≤ 1000000) : ∀ (r s q q' : List Pr), l = q ++ r → m = q' ++ s → q.length = q'.length → r.length = s.length →
    P17_0 (size h) (size h) (i64 q.length) b a h = some (.bool (r == s), h)
  | [], [], q, q', h1, h2, h3, h4 => by
    rw [P17_0_eq]
    have e : q.length = l.length := by rw [h1]; simp
    have c1 : ((q.length : Int) < (l.length : Int)) = False := by simp; omega
    have e2 : (([] : List Pr) == []) = true := rfl
    simp only [c1, ha.len, e2, ↓evD, evU, evL, Nat.reduceAdd, Nat.reduceSub, Nat.reduceMul, Nat.reduceLeDiff, Nat.reduceLT, Nat.reduceEqDiff, Nat.reduceBEq, reduceIte, reduceCtorEq, Int.reduceBEq, Int.reduceEq, Int.reduceLT, Int.reduceLE, Int.reduceGT, Int.reduceGE, Int.reduceAdd, Int.reduceSub, Int.reduceNeg, Int.reduceBNe, ite_true, ite_false, if_true, if_false, implies_true, forall_const]
  | [], _ :: _, q, q', h1, h2, h3, h4 => by cases h4
  | _ :: _, [], q, q', h1, h2, h3, h4 => by cases h4
  | x :: r, y :: s, q, q', h1, h2, h3, h4 => by
    rw [P17_0_eq]
    have el : l.length = q.length + (r.length + 1) := by rw [h1]; simp
    have c1 : ((q.length : Int) < (l.length : Int)) = True := by simp; omega
    have hx : l[q.length]? = some x := by rw [h1]; simp
    have hy : m[q.length]? = some y := by rw [h2, h3]; simp
    have w1 : IntKind.i64.wrap ((q.length : Int) + 1) = (((q ++ [x]).length : Nat) : Int) := by rw [show (q ++ [x]).length = q.length + 1 by simp, wrap_small] <;> omega
    have ih := sameP_loop (h := h) ha hb hl r s (q ++ [x]) (q' ++ [y]) (by rw [h1]; simp) (by rw [h2]; simp) (by simp; omega) (by simpa using h4)
    have e2 : (x :: r == y :: s) = ((x.1 == y.1 && (x.2.1 == y.2.1 && x.2.2 == y.2.2)) && r == s) := rfl
    rw [e2]
    obtain ⟨x1, x2, x3⟩ := x
    obtain ⟨y1, y2, y3⟩ := y
    have t1 : (true == true) = true := rfl
    have t2 : (true == false) = false := rfl
    have t3 : (false == true) = false := rfl
    have t4 : (false == false) = true := rfl
    cases e3 : (x1 == y1) <;> cases e4 : (x2 == y2) <;> cases x3 <;> cases y3 <;>
      simp only [c1, ha.len, ha.idx hx, hb.idx hy, ecP, bne, e3, e4, w1, ih, Bool.false_and, Bool.true_and, Bool.and_true, Bool.and_false, t1, t2, t3, t4, ↓evD, evU, evL, Nat.reduceAdd, Nat.reduceSub, Nat.reduceMul, Nat.reduceLeDiff, Nat.reduceLT, Nat.reduceEqDiff, Nat.reduceBEq, reduceIte, reduceCtorEq, Int.reduceBEq, Int.reduceEq, Int.reduceLT, Int.reduceLE, Int.reduceGT, Int.reduceGE, Int.reduceAdd, Int.reduceSub, Int.reduceNeg, Int.reduceBNe, ite_true, ite_false, if_true, if_false, implies_true, forall_const]
theorem sameP_spec (base : Nat) (h : Hp) {a b : PV} {l m : List Pr} (ha : Rl eP 3 a l) (hb : Rl eP 3 b m) (hl : l.length ≤ 1000000) : CallA T base 17 [a, b] h = some (.bool (l == m), h) := by
  rw [S17]
  by_cases e : l.length = m.length
  · have h1 : ((l.length : Int) == (m.length : Int)) = true := by rw [beq_iff_eq]; omega
    have := sameP_loop (h := h) ha hb hl l m [] [] rfl rfl rfl e
    simp only [ha.len, hb.len, bne, h1, ↓evD, evU, evL, Nat.reduceAdd, Nat.reduceSub, Nat.reduceMul, Nat.reduceLeDiff, Nat.reduceLT, Nat.reduceEqDiff, Nat.reduceBEq, reduceIte, reduceCtorEq, Int.reduceBEq, Int.reduceEq, Int.reduceLT, Int.reduceLE, Int.reduceGT, Int.reduceGE, Int.reduceAdd, Int.reduceSub, Int.reduceNeg, Int.reduceBNe, ite_true, ite_false, if_true, if_false, implies_true, forall_const]
    exact this
  · have h1 : ((l.length : Int) == (m.length : Int)) = false := by rw [beq_eq_false_iff_ne]; omega
    have e2 : (l == m) = false := by rw [beq_eq_false_iff_ne]; rintro rfl; exact e rfl
    simp only [ha.len, hb.len, bne, h1, e2, ↓evD, evU, evL, Nat.reduceAdd, Nat.reduceSub, Nat.reduceMul, Nat.reduceLeDiff, Nat.reduceLT, Nat.reduceEqDiff, Nat.reduceBEq, reduceIte, reduceCtorEq, Int.reduceBEq, Int.reduceEq, Int.reduceLT, Int.reduceLE, Int.reduceGT, Int.reduceGE, Int.reduceAdd, Int.reduceSub, Int.reduceNeg, Int.reduceBNe, ite_true, ite_false, if_true, if_false, implies_true, forall_const]
/-- A link's content. -/
noncomputable def cL (k : Lk) : Ln := (pL k, aL k)
theorem sameL_loop {h : Hp} {a b : PV} {l m : List Lk} (ha : Rl eL 2 a l) (hb : Rl eL 2 b m) (hl : l.length ≤ 1000000) (hs : ∀ k ∈ l, (pL k).length ≤ 10000 ∧ (aL k).length ≤ 10000) : ∀ (r s q q' : List Lk), l = q ++ r → m = q' ++ s → q.length = q'.length → r.length = s.length →
    P8_0 (size h) (size h) (i64 q.length) b a h = some (.bool (r.map cL == s.map cL), h)
  | [], [], q, q', h1, h2, h3, h4 => by
    rw [P8_0_eq]
    have e : q.length = l.length := by rw [h1]; simp
    have c1 : ((q.length : Int) < (l.length : Int)) = False := by simp; omega
    have e2 : ((([] : List Lk).map cL) == (([] : List Lk).map cL)) = true := rfl
    rw [e2]
    simp only [c1, ha.len, ↓evD, evU, evL, Nat.reduceAdd, Nat.reduceSub, Nat.reduceMul, Nat.reduceLeDiff, Nat.reduceLT, Nat.reduceEqDiff, Nat.reduceBEq, reduceIte, reduceCtorEq, Int.reduceBEq, Int.reduceEq, Int.reduceLT, Int.reduceLE, Int.reduceGT, Int.reduceGE, Int.reduceAdd, Int.reduceSub, Int.reduceNeg, Int.reduceBNe, ite_true, ite_false, if_true, if_false, implies_true, forall_const]
  | [], _ :: _, q, q', h1, h2, h3, h4 => by cases h4
  | _ :: _, [], q, q', h1, h2, h3, h4 => by cases h4
  | x :: r, y :: s, q, q', h1, h2, h3, h4 => by
    rw [P8_0_eq]
    have el : l.length = q.length + (r.length + 1) := by rw [h1]; simp
    have c1 : ((q.length : Int) < (l.length : Int)) = True := by simp; omega
    have hx : l[q.length]? = some x := by rw [h1]; simp
    have hy : m[q.length]? = some y := by rw [h2, h3]; simp
    have w1 : IntKind.i64.wrap ((q.length : Int) + 1) = (((q ++ [x]).length : Nat) : Int) := by rw [show (q ++ [x]).length = q.length + 1 by simp, wrap_small] <;> omega
    have ih := sameL_loop (h := h) ha hb hl hs r s (q ++ [x]) (q' ++ [y]) (by rw [h1]; simp) (by rw [h2]; simp) (by simp; omega) (by simpa using h4)
    have sx := hs x (by rw [h1]; simp)
    have i1 := fun b m => sameI_spec b m (pV x).rl (pV y).rl (by have := sx.1; omega)
    have i2 := fun b m => sameP_spec b m (aV x).rl (aV y).rl (by have := sx.2; omega)
    have e2 : ((x :: r).map cL == (y :: s).map cL) = ((pL x == pL y && aL x == aL y) && r.map cL == s.map cL) := rfl
    rw [e2]
    cases e3 : (pL x == pL y) <;> rw [e3] at i1 <;> cases e4 : (aL x == aL y) <;> rw [e4] at i2 <;>
      simp only [c1, ha.len, ha.idx hx, hb.idx hy, ecL, i1, i2, w1, ih, Bool.false_and, Bool.true_and, Bool.and_true, Bool.and_false, ↓evD, evU, evL, Nat.reduceAdd, Nat.reduceSub, Nat.reduceMul, Nat.reduceLeDiff, Nat.reduceLT, Nat.reduceEqDiff, Nat.reduceBEq, reduceIte, reduceCtorEq, Int.reduceBEq, Int.reduceEq, Int.reduceLT, Int.reduceLE, Int.reduceGT, Int.reduceGE, Int.reduceAdd, Int.reduceSub, Int.reduceNeg, Int.reduceBNe, ite_true, ite_false, if_true, if_false, implies_true, forall_const]
theorem sameL_spec (base : Nat) (h : Hp) {a b : PV} {l m : List Lk} (ha : Rl eL 2 a l) (hb : Rl eL 2 b m) (hl : l.length ≤ 1000000) (hs : ∀ k ∈ l, (pL k).length ≤ 10000 ∧ (aL k).length ≤ 10000) : CallA T base 8 [a, b] h = some (.bool (l.map cL == m.map cL), h) := by
  rw [S8]
  by_cases e : l.length = m.length
  · have h1 : ((l.length : Int) == (m.length : Int)) = true := by rw [beq_iff_eq]; omega
    have := sameL_loop (h := h) ha hb hl hs l m [] [] rfl rfl rfl e
    simp only [ha.len, hb.len, bne, h1, ↓evD, evU, evL, Nat.reduceAdd, Nat.reduceSub, Nat.reduceMul, Nat.reduceLeDiff, Nat.reduceLT, Nat.reduceEqDiff, Nat.reduceBEq, reduceIte, reduceCtorEq, Int.reduceBEq, Int.reduceEq, Int.reduceLT, Int.reduceLE, Int.reduceGT, Int.reduceGE, Int.reduceAdd, Int.reduceSub, Int.reduceNeg, Int.reduceBNe, ite_true, ite_false, if_true, if_false, implies_true, forall_const]
    exact this
  · have h1 : ((l.length : Int) == (m.length : Int)) = false := by rw [beq_eq_false_iff_ne]; omega
    have e2 : (l.map cL == m.map cL) = false := by
      rw [beq_eq_false_iff_ne]; intro q
      have := congrArg List.length q
      rw [List.length_map, List.length_map] at this
      exact e this
    simp only [ha.len, hb.len, bne, h1, e2, ↓evD, evU, evL, Nat.reduceAdd, Nat.reduceSub, Nat.reduceMul, Nat.reduceLeDiff, Nat.reduceLT, Nat.reduceEqDiff, Nat.reduceBEq, reduceIte, reduceCtorEq, Int.reduceBEq, Int.reduceEq, Int.reduceLT, Int.reduceLE, Int.reduceGT, Int.reduceGE, Int.reduceAdd, Int.reduceSub, Int.reduceNeg, Int.reduceBNe, ite_true, ite_false, if_true, if_false, implies_true, forall_const]
end Go.Am.YtdnbedldmkagmaaDoor
namespace Go.Am.YtdnbedldmkagmaaDoor
set_option maxRecDepth 100000
set_option linter.unusedSimpArgs false
set_option linter.unusedVariables false
theorem lvI_inj {b : PV} {l m : List Int} (h1 : Lv eI 1 b l) (h2 : Lv eI 1 b m) : l = m := by
  have e := h1.elems []
  rw [h2.elems []] at e
  exact ((List.map_inj_right fun x y h => by cases h; rfl).1 (Option.some.inj e)).symm
theorem lvP_inj {b : PV} {l m : List Pr} (h1 : Lv eP 3 b l) (h2 : Lv eP 3 b m) : l = m := by
  have e := h1.elems []
  rw [h2.elems []] at e
  exact ((List.map_inj_right fun x y h => by
    obtain ⟨x1, x2, x3⟩ := x
    obtain ⟨y1, y2, y3⟩ := y
    cases h; rfl).1 (Option.some.inj e)).symm
theorem cL_mkL (x : Ln) : cL (mkL x) = x := Prod.ext (lvI_inj (pV (mkL x)) (vP_lv x.1)) (lvP_inj (aV (mkL x)) (vA_lv x.2))
theorem map_cL (l : List Ln) : (l.map mkL).map cL = l := by
  rw [List.map_map]; exact (List.map_congr_left fun x _ => cL_mkL x).trans (List.map_id _)
theorem read_rl (l : List Ln) : Lv eL 2 (gD .nils 2 (l.map mkE)) (l.map mkL) := by
  have : l.map mkE = (l.map mkL).map eL := by rw [List.map_map]; rfl
  rw [this]; exact Lv.done (gZ_nils 2) _
theorem readO_len {s : List UInt8} {p : List Int} (h : readO s = some p) : p.length ≤ 3 := by
  unfold readO at h
  split at h
  · cases h
  · split at h
    · cases h; simp
    · unfold few at h
      split at h
      · cases h
      · have := numsO_len h
        omega
theorem attrsO_len : ∀ {n : Nat} {t : List UInt8} {x : List Pr × List UInt8}, attrsO n t = some x → x.1.length ≤ n
  | 0, t, x, h => by
    unfold attrsO at h
    split at h
    · cases h
    · cases h; simp
  | n + 1, t, x, h => by
    unfold attrsO at h
    split at h
    · split at h
      · split at h
        · rename_i y hy
          cases h
          have := attrsO_len hy
          simp only [List.length_cons]; omega
        · cases h
      · cases h
    · cases h; simp
theorem linkO_len {t : List UInt8} {x : Ln} {r : List UInt8} (h : linkO t = some (x, r)) : x.1.length ≤ 3 ∧ x.2.length ≤ 8 := by
  unfold linkO at h
  split at h
  · cases h
  · rename_i p r1 hp
    split at h
    · cases h
    · rename_i bs r2 ha
      cases h
      refine ⟨?_, attrsO_len ha⟩
      unfold pathF at hp
      split at hp
      · split at hp
        · cases hp
        · rename_i q hq
          split at hp
          · cases hp; exact readO_len hq
          · cases hp
      · cases hp
theorem linksO_len : ∀ {n : Nat} {t : List UInt8} {l : List Ln}, linksO n t = .ok l → l.length ≤ n ∧ ∀ x ∈ l, x.1.length ≤ 3 ∧ x.2.length ≤ 8
  | 0, t, l, h => by cases h
  | n + 1, t, l, h => by
    unfold linksO at h
    split at h
    · cases h
    · rename_i x r hx
      have h1 := linkO_len hx
      split at h
      · cases h
        exact ⟨by simp, fun y hy => by simp at hy; subst hy; exact h1⟩
      · split at h
        · split at h
          · rename_i m hm
            cases h
            obtain ⟨h2, h3⟩ := linksO_len hm
            refine ⟨by simp only [List.length_cons]; omega, fun y hy => ?_⟩
            rcases List.mem_cons.1 hy with rfl | hy
            · exact h1
            · exact h3 y hy
          · rename_i e hne
            exact (hne _ h).elim
        · cases h
theorem readS_len {t : List UInt8} {l : List Ln} (h : readS t = .ok l) : l.length ≤ 64 ∧ ∀ x ∈ l, x.1.length ≤ 3 ∧ x.2.length ≤ 8 := by
  unfold readS at h
  split at h
  · cases h; exact ⟨by simp, by simp⟩
  · exact linksO_len h
theorem read_sm {l : List Ln} (h : ∀ x ∈ l, x.1.length ≤ 3 ∧ x.2.length ≤ 8) : ∀ k ∈ l.map mkL, (pL k).length ≤ 10000 ∧ (aL k).length ≤ 10000 := by
  intro k hk
  obtain ⟨x, hx, rfl⟩ := List.mem_map.1 hk
  have h1 : pL (mkL x) = x.1 := congrArg Prod.fst (cL_mkL x)
  have h2 : aL (mkL x) = x.2 := congrArg Prod.snd (cL_mkL x)
  have := h x hx
  rw [h1, h2]; omega
end Go.Am.YtdnbedldmkagmaaDoor
namespace Go.Am.YtdnbedldmkagmaaDoor
set_option maxRecDepth 100000
set_option linter.unusedSimpArgs false
set_option linter.unusedVariables false
open Go.Lib (decDigits itoa)
theorem itoa_no47 {n : Int} (hn : numOk n = true) : 47 ∉ itoa n ∧ numN (itoa n) 65535 = some n.toNat ∧ (n.toNat : Int) = n := by
  simp [numOk] at hn
  obtain ⟨u, rfl⟩ : ∃ u : Nat, n = u := ⟨n.toNat, by omega⟩
  rw [itoa_nat]
  refine ⟨fun hm => ?_, ?_, by simp⟩
  · have := digits_mem u 47 hm
    have z : (47 : UInt8).toNat = 47 := rfl
    omega
  · rw [Int.toNat_natCast]
    exact (numN_iff (by omega)).2 ⟨by omega, rfl⟩
theorem split_segs : ∀ {p : List Int} {n : Int}, (n :: p).all numOk = true → splitL 47 (itoa n ++ segsS p) = (n :: p).map itoa
  | [], n, h => by
    simp at h
    rw [segsS, List.append_nil, splitL_none (itoa_no47 h).1]; rfl
  | m :: p, n, h => by
    rw [List.all_cons, Bool.and_eq_true] at h
    rw [segsS, List.cons_append, splitL_app _ (itoa_no47 h.1).1, split_segs h.2]; rfl
theorem nums_itoa : ∀ {p : List Int}, p.all numOk = true → numsO (p.map itoa) = some p
  | [], _ => rfl
  | n :: p, h => by
    rw [List.all_cons, Bool.and_eq_true] at h
    obtain ⟨_, h2, h3⟩ := itoa_no47 h.1
    rw [List.map_cons, numsO, h2, nums_itoa h.2]
    show some ((n.toNat : Int) :: p) = _
    rw [h3]
theorem read_text {p : List Int} (h : rightB p = true) : readO (textS p) = some p := by
  unfold textS
  rw [if_neg (by rw [h]; simp)]
  unfold rightB at h
  rw [Bool.and_eq_true, decide_eq_true_eq] at h
  cases p with
  | nil => rfl
  | cons n p =>
    rw [if_neg (by simp)]
    have e : segsS (n :: p) = 47 :: (itoa n ++ segsS p) := rfl
    rw [e]
    unfold readO few
    have hne : itoa n ++ segsS p ≠ [] := by
      intro q
      exact itoa_ne n (List.append_eq_nil_iff.1 q).1
    have ht : (47 :: (itoa n ++ segsS p)).take 1 = [47] := rfl
    have hd : (47 :: (itoa n ++ segsS p)).drop 1 = itoa n ++ segsS p := rfl
    rw [ht, hd, if_neg (fun q => q rfl), if_neg hne, split_segs h.2, nums_itoa h.2]
    have := h.1
    rw [if_neg (by simp at this ⊢; omega)]
theorem tw_app {q : UInt8 → Bool} : ∀ {a d : List UInt8}, a.all q = true → (∀ c r, d = c :: r → q c = false) → (a ++ d).takeWhile q = a ∧ (a ++ d).dropWhile q = d
  | [], d, _, h => by
    cases d with
    | nil => exact ⟨rfl, rfl⟩
    | cons c r => rw [List.nil_append, List.takeWhile_cons, List.dropWhile_cons, h c r rfl]; exact ⟨rfl, rfl⟩
  | x :: a, d, h1, h => by
    rw [List.all_cons, Bool.and_eq_true] at h1
    obtain ⟨h2, h3⟩ := tw_app h1.2 h
    rw [List.cons_append, List.takeWhile_cons, List.dropWhile_cons, h1.1]
    exact ⟨by simp [h2], by simp [h3]⟩
/-- What may stand behind an attribute. -/
def Sep (r : List UInt8) : Prop := ∀ c s, r = c :: s → c = 44 ∨ c = 59
theorem val_text {v r : List UInt8} (hv : vlB v = true) (hr : Sep r) : valF (valS v ++ r) = (v, true, r) := by
  unfold vlB at hv
  rw [Bool.and_eq_true, decide_eq_true_eq] at hv
  unfold valS
  cases hp : plB v
  · have e1 : (34 :: (v ++ [34])) ++ r = 34 :: (v ++ 34 :: r) := by simp
    simp only [Bool.false_eq_true, if_false]
    rw [e1]
    unfold valF
    have t1 : ((34 :: (v ++ 34 :: r)).take 1 == [34]) = true := by simp
    have t2 : (34 :: (v ++ 34 :: r)).drop 1 = v ++ 34 :: r := rfl
    rw [if_pos t1, t2]
    obtain ⟨h1, h2⟩ := tw_app (q := priB) (a := v) (d := 34 :: r) hv.1 (fun c s h => by cases h; rfl)
    rw [h1, h2, decide_eq_true hv.2]
    have t3 : ((34 :: r).take 1 == [34]) = true := by simp
    rw [t3]
    simp only [if_true, Bool.and_true]
    unfold tk
    rw [t3]; rfl
  · simp only [if_true]
    unfold plB at hp
    rw [Bool.and_eq_true] at hp
    unfold valF
    have t1 : ((v ++ r).take 1 == [34]) = false := by
      cases v with
      | nil => exact absurd hp.1 (by decide)
      | cons c v =>
        rw [beq_eq_false_iff_ne]
        intro h
        have : c = 34 := by simpa using h
        subst this
        have := hp.2
        rw [List.all_cons] at this
        exact absurd this (by rw [show simB 34 = false from rfl]; simp)
    rw [if_neg (by rw [t1]; simp)]
    obtain ⟨h1, h2⟩ := tw_app (q := simB) (a := v) (d := r) hp.2 (fun c s h => by
      rcases hr c s h with rfl | rfl <;> rfl)
    rw [h1, h2, hp.1, decide_eq_true hv.2]; rfl
theorem attr_text {p : Pr} {r : List UInt8} (hp : prB p = true) (hr : Sep r) : attrF ((pairT p).drop 1 ++ r) = (p, true, r) := by
  obtain ⟨nm, v, b⟩ := p
  unfold prB at hp
  rw [Bool.and_eq_true] at hp
  obtain ⟨hn, hv⟩ := hp
  have hall : nm.all lowB = true := by
    simp only [nmB, Bool.and_eq_true] at hn
    exact hn.2
  unfold pairT
  simp only at hn hv hall ⊢
  cases b
  · simp only [Bool.false_eq_true, if_false] at hv ⊢
    have e1 : (59 :: nm ++ 61 :: valS v).drop 1 ++ r = nm ++ 61 :: (valS v ++ r) := by simp
    rw [e1]
    obtain ⟨h1, h2⟩ := tw_app (q := lowB) (a := nm) (d := 61 :: (valS v ++ r)) hall (fun c s h => by cases h; rfl)
    unfold attrF
    rw [h1, h2, if_pos hn, if_pos (by simp), List.drop_succ_cons, List.drop_zero, val_text hv hr]
  · simp only [if_true] at hv ⊢
    have hve : v = [] := by simpa using hv
    subst hve
    have e1 : (59 :: nm ++ []).drop 1 ++ r = nm ++ r := by simp
    rw [e1]
    obtain ⟨h1, h2⟩ := tw_app (q := lowB) (a := nm) (d := r) hall (fun c s h => by rcases hr c s h with rfl | rfl <;> rfl)
    unfold attrF
    rw [h1, h2, if_pos hn, if_neg]
    intro h
    cases r with
    | nil => cases h
    | cons c s =>
      have : c = 61 := by simpa using h
      rcases hr c s rfl with rfl | rfl <;> cases this
theorem attrs_text : ∀ {n : Nat} {l : List Pr} {r : List UInt8}, l.length ≤ n → l.all prB = true → (∀ c s, r = c :: s → c = 44) → attrsO n (pairsT l ++ r) = some (l, r)
  | n, [], r, hn, hp, hr => by
    have h : (r.take 1 == [59]) = false := by
      cases r with
      | nil => rfl
      | cons c s => rw [hr c s rfl]; rfl
    have e : pairsT [] ++ r = r := rfl
    rw [e]
    cases n <;> simp only [attrsO, h, Bool.false_eq_true, if_false]
  | 0, p :: l, r, hn, hp, hr => by simp at hn
  | n + 1, p :: l, r, hn, hp, hr => by
    rw [List.all_cons, Bool.and_eq_true] at hp
    have ih := attrs_text (n := n) (l := l) (r := r) (by simpa using hn) hp.2 hr
    have hs : Sep (pairsT l ++ r) := by
      intro c s h
      cases l with
      | nil => exact .inl (hr c s h)
      | cons q l =>
        have : pairsT (q :: l) ++ r = 59 :: ((pairT q).drop 1 ++ pairsT l ++ r) := by rw [pairsT_cons]; unfold pairT; simp
        rw [this] at h
        cases h; exact .inr rfl
    have e1 : pairsT (p :: l) ++ r = 59 :: ((pairT p).drop 1 ++ (pairsT l ++ r)) := by rw [pairsT_cons]; unfold pairT; simp
    rw [e1, attrsO, if_pos (by simp), List.drop_succ_cons, List.drop_zero, attr_text hp.1 hs, if_pos rfl, ih]
theorem textS_mem {p : List Int} (h : rightB p = true) : ∀ c ∈ textS p, 47 ≤ c.toNat ∧ c.toNat ≤ 57 := by
  have key : ∀ {p : List Int}, p.all numOk = true → ∀ c ∈ segsS p, 47 ≤ c.toNat ∧ c.toNat ≤ 57 := by
    intro p
    induction p with
    | nil => intro _ c hc; simp [segsS] at hc
    | cons n p ih =>
      intro hp c hc
      rw [List.all_cons, Bool.and_eq_true] at hp
      have e : segsS (n :: p) = 47 :: itoa n ++ segsS p := rfl
      rw [e] at hc
      rcases List.mem_append.1 hc with hc | hc
      · rcases List.mem_cons.1 hc with rfl | hc
        · exact ⟨by decide, by decide⟩
        · have hn := hp.1
          simp [numOk] at hn
          obtain ⟨u, rfl⟩ : ∃ u : Nat, n = u := ⟨n.toNat, by omega⟩
          rw [itoa_nat] at hc
          have := digits_mem u c hc
          omega
      · exact ih hp.2 c hc
  unfold textS
  rw [if_neg (by rw [h]; simp)]
  split
  · intro c hc; simp at hc; subst hc; exact ⟨by decide, by decide⟩
  · unfold rightB at h
    rw [Bool.and_eq_true] at h
    exact key h.2
theorem link_text {k : Lk} {r : List UInt8} (hk : lkB k = true) (hr : ∀ c s, r = c :: s → c = 44) : linkO (linkT k ++ r) = some (cL k, r) := by
  unfold lkB at hk
  rw [Bool.and_eq_true, Bool.and_eq_true, decide_eq_true_eq] at hk
  obtain ⟨⟨h1, h2⟩, h3⟩ := hk
  have e1 : linkT k ++ r = 60 :: (textS (pL k) ++ 62 :: (pairsT (aL k) ++ r)) := by unfold linkT; simp
  have hall : (textS (pL k)).all ngtB = true := by
    rw [List.all_eq_true]
    intro c hc
    have := textS_mem h1 c hc
    unfold ngtB
    rw [Bool.not_eq_true', beq_eq_false_iff_ne]; omega
  obtain ⟨q1, q2⟩ := tw_app (q := ngtB) (a := textS (pL k)) (d := 62 :: (pairsT (aL k) ++ r)) hall (fun c s h => by cases h; rfl)
  have hp : pathF (60 :: (textS (pL k) ++ 62 :: (pairsT (aL k) ++ r))) = some (pL k, pairsT (aL k) ++ r) := by
    unfold pathF
    rw [if_pos (by simp), List.drop_succ_cons, List.drop_zero, q1, q2, read_text h1]
    simp
  rw [e1]
  unfold linkO
  rw [hp]
  simp only [attrs_text h2 h3 hr]
  rfl
theorem links_text : ∀ {n : Nat} {l : List Lk}, l.length ≤ n → l ≠ [] → l.all lkB = true → linksO n (linksT l) = .ok (l.map cL)
  | n, [], hn, h0, h => (h0 rfl).elim
  | 0, k :: l, hn, h0, h => by simp at hn
  | n + 1, k :: l, hn, h0, h => by
    rw [List.all_cons, Bool.and_eq_true] at h
    have e1 : linksT (k :: l) = linkT k ++ restT l := rfl
    have hl := link_text (r := restT l) h.1 (fun c s hc => by
      cases l with
      | nil => cases hc
      | cons m l =>
        have : restT (m :: l) = 44 :: (linkT m ++ restT l) := by simp [restT]
        rw [this] at hc
        cases hc; rfl)
    rw [e1, linksO, hl]
    cases l with
    | nil =>
      have : restT [] = [] := rfl
      simp only [this]
      rfl
    | cons m l =>
      have e2 : restT (m :: l) = 44 :: linksT (m :: l) := by simp [restT, linksT]
      have ih := links_text (n := n) (l := m :: l) (by simpa using hn) (by simp) h.2
      simp only [e2]
      have t1 : ((44 :: linksT (m :: l)) == []) = false := rfl
      have t2 : ((44 :: linksT (m :: l)).take 1 == [44]) = true := by simp
      rw [t1, t2, List.drop_succ_cons, List.drop_zero, ih]
      rfl
theorem read_write {l : List Lk} (h : rgB l = true) : readS (linksT l) = .ok (l.map cL) := by
  unfold rgB at h
  rw [Bool.and_eq_true, decide_eq_true_eq] at h
  unfold readS
  cases l with
  | nil => rfl
  | cons k l =>
    have : (linksT (k :: l) == []) = false := by
      rw [beq_eq_false_iff_ne]
      intro q
      have := congrArg List.length q
      simp [linksT, linkT] at this
    rw [this]
    exact links_text h.1 (by simp) h.2
end Go.Am.YtdnbedldmkagmaaDoor
namespace Go.Am.YtdnbedldmkagmaaDoor
set_option maxRecDepth 100000
set_option linter.unusedSimpArgs false
set_option linter.unusedVariables false
theorem links_many : ∀ {n : Nat} {l : List Lk}, n < l.length → l.all lkB = true → linksO n (linksT l) = .many
  | 0, l, hn, h => rfl
  | n + 1, [], hn, h => by simp at hn
  | n + 1, [k], hn, h => by simp at hn
  | n + 1, k :: m :: l, hn, h => by
    rw [List.all_cons, Bool.and_eq_true] at h
    have e2 : restT (m :: l) = 44 :: linksT (m :: l) := by simp [restT, linksT]
    have e1 : linksT (k :: m :: l) = linkT k ++ restT (m :: l) := rfl
    have hl := link_text (r := restT (m :: l)) h.1 (fun c s hc => by
      rw [e2] at hc
      cases hc; rfl)
    rw [e1, linksO, hl]
    have ih := links_many (n := n) (l := m :: l) (by simpa using hn) h.2
    simp only [e2]
    have t1 : ((44 :: linksT (m :: l)) == []) = false := rfl
    have t2 : ((44 :: linksT (m :: l)).take 1 == [44]) = true := by simp
    rw [t1, t2, List.drop_succ_cons, List.drop_zero, ih]
    rfl
theorem linksT_app {a b : List Lk} (ha : a ≠ []) (hb : b ≠ []) : linksT a ++ [44] ++ linksT b = linksT (a ++ b) := by
  cases a with
  | nil => exact (ha rfl).elim
  | cons x a =>
    cases b with
    | nil => exact (hb rfl).elim
    | cons y b => simp [linksT, restT]
theorem rg_len {l : List Lk} (h : rgB l = true) : (linksT l).length ≤ 46000 ∧ l.length ≤ 64 ∧ l.all lkB = true := by
  unfold rgB at h
  rw [Bool.and_eq_true, decide_eq_true_eq] at h
  refine ⟨?_, h.1, h.2⟩
  have h2 := h.2
  rw [List.all_eq_true] at h2
  have h1 := restT_len (n := 710) (l := l) (fun k hk => by
    have := h2 k hk
    unfold lkB at this
    rw [Bool.and_eq_true, Bool.and_eq_true, decide_eq_true_eq, List.all_eq_true] at this
    have h3 := pairsT_len (n := 80) (l := aL k) (fun p hp => by
      have h4 := this.2 p hp
      have h5 := pairT_len p
      unfold prB nmB at h4
      rw [Bool.and_eq_true, Bool.and_eq_true, Bool.and_eq_true, decide_eq_true_eq] at h4
      have h6 : p.2.1.length ≤ 60 := by
        have h7 := h4.2
        split at h7
        · have : p.2.1 = [] := by simpa using h7
          rw [this]; simp
        · unfold vlB at h7
          rw [Bool.and_eq_true, decide_eq_true_eq] at h7
          omega
      omega)
    have := textS_len (pL k)
    rw [linkT_len]
    omega)
  have := linksT_len l
  omega
theorem joins_at {h : Hp} (hal : CallA T (size h) 5 [] h = some (.bool true, h)) (base : Nat) {a b : PV} {l m : List Lk} (ha : Lv eL 2 a l) (hb : Lv eL 2 b m) : CallA T base 4 [a, b] h = some (.bool true, h) := by
  rw [S4]
  have f1 := fun c k => few_spec (base := c) (h := k) ha.rl
  have f2 := fun c k => few_spec (base := c) (h := k) hb.rl
  cases e1 : fewL l <;> rw [e1] at f1
  · simp only [hal, f1, ↓evD, evU, evL, Nat.reduceAdd, Nat.reduceSub, Nat.reduceMul, Nat.reduceLeDiff, Nat.reduceLT, Nat.reduceEqDiff, Nat.reduceBEq, reduceIte, reduceCtorEq, Int.reduceBEq, Int.reduceEq, Int.reduceLT, Int.reduceLE, Int.reduceGT, Int.reduceGE, Int.reduceAdd, Int.reduceSub, Int.reduceNeg, Int.reduceBNe, ite_true, ite_false, if_true, if_false, implies_true, forall_const]
  cases e2 : fewL m <;> rw [e2] at f2
  · simp only [hal, f1, f2, ↓evD, evU, evL, Nat.reduceAdd, Nat.reduceSub, Nat.reduceMul, Nat.reduceLeDiff, Nat.reduceLT, Nat.reduceEqDiff, Nat.reduceBEq, reduceIte, reduceCtorEq, Int.reduceBEq, Int.reduceEq, Int.reduceLT, Int.reduceLE, Int.reduceGT, Int.reduceGE, Int.reduceAdd, Int.reduceSub, Int.reduceNeg, Int.reduceBNe, ite_true, ite_false, if_true, if_false, implies_true, forall_const]
  obtain ⟨hl, hs⟩ := sm_few e1
  obtain ⟨hm, ht⟩ := sm_few e2
  by_cases n1 : l = []
  · have z1 : ((l.length : Int) == 0) = true := by rw [n1]; rfl
    simp only [hal, f1, f2, ha.len, z1, ↓evD, evU, evL, Nat.reduceAdd, Nat.reduceSub, Nat.reduceMul, Nat.reduceLeDiff, Nat.reduceLT, Nat.reduceEqDiff, Nat.reduceBEq, reduceIte, reduceCtorEq, Int.reduceBEq, Int.reduceEq, Int.reduceLT, Int.reduceLE, Int.reduceGT, Int.reduceGE, Int.reduceAdd, Int.reduceSub, Int.reduceNeg, Int.reduceBNe, ite_true, ite_false, if_true, if_false, implies_true, forall_const]
  by_cases n2 : m = []
  · have z1 : ((l.length : Int) == 0) = false := by
      have := List.length_pos_iff.2 n1
      rw [beq_eq_false_iff_ne]; omega
    have z2 : ((m.length : Int) == 0) = true := by rw [n2]; rfl
    simp only [hal, f1, f2, ha.len, hb.len, z1, z2, ↓evD, evU, evL, Nat.reduceAdd, Nat.reduceSub, Nat.reduceMul, Nat.reduceLeDiff, Nat.reduceLT, Nat.reduceEqDiff, Nat.reduceBEq, reduceIte, reduceCtorEq, Int.reduceBEq, Int.reduceEq, Int.reduceLT, Int.reduceLE, Int.reduceGT, Int.reduceGE, Int.reduceAdd, Int.reduceSub, Int.reduceNeg, Int.reduceBNe, ite_true, ite_false, if_true, if_false, implies_true, forall_const]
  have z1 : ((l.length : Int) == 0) = false := by
    have := List.length_pos_iff.2 n1
    rw [beq_eq_false_iff_ne]; omega
  have z2 : ((m.length : Int) == 0) = false := by
    have := List.length_pos_iff.2 n2
    rw [beq_eq_false_iff_ne]; omega
  have w1 := fun c k => write_spec c k ha.rl (by omega) hs (fun e => (few_link e1).2) (fun e q hq => by have := (few_link e1).1 q hq; omega)
  have w2 := fun c k => write_spec c k hb.rl (by omega) ht (fun e => (few_link e2).2) (fun e q hq => by have := (few_link e2).1 q hq; omega)
  have b0 : ((0 : Int) == 0) = true := rfl
  have b1 : ((1 : Int) == 0) = false := rfl
  have b3 : ((3 : Int) == 3) = true := rfl
  cases e3 : rgB l <;> simp only [e3, Bool.false_eq_true, if_false, if_true] at w1
  · cases e4 : rgB m <;> simp only [e4, Bool.false_eq_true, if_false, if_true] at w2 <;>
      simp only [hal, f1, f2, ha.len, hb.len, z1, z2, w1, w2, bne, b0, b1, ↓evD, evU, evL, Nat.reduceAdd, Nat.reduceSub, Nat.reduceMul, Nat.reduceLeDiff, Nat.reduceLT, Nat.reduceEqDiff, Nat.reduceBEq, reduceIte, reduceCtorEq, Int.reduceBEq, Int.reduceEq, Int.reduceLT, Int.reduceLE, Int.reduceGT, Int.reduceGE, Int.reduceAdd, Int.reduceSub, Int.reduceNeg, Int.reduceBNe, ite_true, ite_false, if_true, if_false, implies_true, forall_const]
  cases e4 : rgB m <;> simp only [e4, Bool.false_eq_true, if_false, if_true] at w2
  · simp only [hal, f1, f2, ha.len, hb.len, z1, z2, w1, w2, bne, b0, b1, ↓evD, evU, evL, Nat.reduceAdd, Nat.reduceSub, Nat.reduceMul, Nat.reduceLeDiff, Nat.reduceLT, Nat.reduceEqDiff, Nat.reduceBEq, reduceIte, reduceCtorEq, Int.reduceBEq, Int.reduceEq, Int.reduceLT, Int.reduceLE, Int.reduceGT, Int.reduceGE, Int.reduceAdd, Int.reduceSub, Int.reduceNeg, Int.reduceBNe, ite_true, ite_false, if_true, if_false, implies_true, forall_const]
  obtain ⟨g1, g2, g3⟩ := rg_len e3
  obtain ⟨g4, g5, g6⟩ := rg_len e4
  obtain ⟨A1, hA1, lA1⟩ : ∃ A, linksT l ++ [44] = A ∧ A.length = (linksT l).length + 1 := ⟨_, rfl, by simp⟩
  obtain ⟨A2, hA2, lA2⟩ : ∃ A, A1 ++ linksT m = A ∧ A.length = A1.length + (linksT m).length := ⟨_, rfl, by simp⟩
  have hA : A2 = linksT (l ++ m) := by rw [← hA2, ← hA1]; exact linksT_app n1 n2
  have c1 : (linksT l).length + 1 ≤ limS := by unfold limS; omega
  have c2 : A1.length + (linksT m).length ≤ limS := by unfold limS; omega
  have r1 := fun c k => readL_spec c k A2 (by omega)
  have wr : IntKind.i64.wrap ((l.length : Int) + (m.length : Int)) = ((l.length + m.length : Nat) : Int) := by
    rw [show (l.length : Int) + (m.length : Int) = ((l.length + m.length : Nat) : Int) by omega, wrap_small] <;> omega
  have hall : (l ++ m).all lkB = true := by rw [List.all_append, g3, g6]; rfl
  have hne : (linksT (l ++ m) == []) = false := by
    rw [← hA, beq_eq_false_iff_ne]
    intro q
    rw [q] at lA2
    simp at lA2
    omega
  have hrs : readS A2 = linksO 64 (linksT (l ++ m)) := by unfold readS; rw [hA, hne]; rfl
  generalize linksT l = s1 at *
  generalize linksT m = s2 at *
  by_cases c64 : l.length + m.length > 64
  · have k1 : (((l.length + m.length : Nat) : Int) > 64) = True := by simp only [eq_iff_iff, iff_true]; omega
    have hm := links_many (n := 64) (l := l ++ m) (by rw [List.length_append]; omega) hall
    rw [hrs, hm] at r1
    simp only [rsV] at r1
    simp only [hal, f1, f2, ha.len, hb.len, z1, z2, w1, w2, bne, b0, c1, hA1, c2, hA2, r1, wr, k1, b3, ↓evD, evU, evL, Nat.reduceAdd, Nat.reduceSub, Nat.reduceMul, Nat.reduceLeDiff, Nat.reduceLT, Nat.reduceEqDiff, Nat.reduceBEq, reduceIte, reduceCtorEq, Int.reduceBEq, Int.reduceEq, Int.reduceLT, Int.reduceLE, Int.reduceGT, Int.reduceGE, Int.reduceAdd, Int.reduceSub, Int.reduceNeg, Int.reduceBNe, ite_true, ite_false, if_true, if_false, implies_true, forall_const]
  · have k1 : (((l.length + m.length : Nat) : Int) > 64) = False := by simp only [eq_iff_iff, iff_false]; omega
    have hm := links_text (n := 64) (l := l ++ m) (by rw [List.length_append]; omega) (by simp [n1]) hall
    rw [hrs, hm] at r1
    simp only [rsV, List.nil_append] at r1
    have q1 := gAllL (h := h) (T := 37) elL (gZ_full 2) [] l (by unfold lim2; simp; omega)
    have q2 := gAllL (h := h) (T := 37) elL (gZ_full 2) l m (by unfold lim2; omega)
    rw [List.map_nil, gV_nil, gH_nil, List.nil_append] at q1
    have s1 := fun c k => sameL_spec c k (read_rl ((l ++ m).map cL)).rl (gV_rl (e := eL) (gZ_full 2) h (l ++ m)) (by rw [List.length_map, List.length_map, List.length_append]; omega) (by
      apply read_sm
      intro x hx
      exact (linksO_len hm).2 x hx)
    rw [map_cL, show ((l ++ m).map cL == (l ++ m).map cL) = true by simp] at s1
    simp only [hal, f1, f2, ha.len, hb.len, ha.elems, hb.elems, z1, z2, w1, w2, bne, b0, c1, hA1, c2, hA2, r1, wr, k1, q1, q2, s1, trunc_gH, ↓evD, evU, evL, Nat.reduceAdd, Nat.reduceSub, Nat.reduceMul, Nat.reduceLeDiff, Nat.reduceLT, Nat.reduceEqDiff, Nat.reduceBEq, reduceIte, reduceCtorEq, Int.reduceBEq, Int.reduceEq, Int.reduceLT, Int.reduceLE, Int.reduceGT, Int.reduceGE, Int.reduceAdd, Int.reduceSub, Int.reduceNeg, Int.reduceBNe, ite_true, ite_false, if_true, if_false, implies_true, forall_const]
theorem joins_true {a b : PV} {l m : List Lk} (ha : Lv eL 2 a l) (hb : Lv eL 2 b m) : CallA T 0 4 [a, b] [] = some (.bool true, []) := joins_at alive_spec 0 ha hb
end Go.Am.YtdnbedldmkagmaaDoor
namespace Go.Am.YtdnbedldmkagmaaDoor
set_option maxRecDepth 100000
set_option linter.unusedSimpArgs false
set_option linter.unusedVariables false
theorem eqI_loop {h : Hp} {a b : PV} {l m : List Int} (ha : Rl eI 1 a l) (hb : Rl eI 1 b m) (hl : l.length ≤ 1000000) : ∀ (r s q q' : List Int), l = q ++ r → m = q' ++ s → q.length = q'.length → r.length = s.length →
    P14_0 (size h) (size h) (i64 q.length) b a (i64 l.length) h = some (.bool (r == s), h)
  | [], [], q, q', h1, h2, h3, h4 => by
    rw [P14_0_eq]
    have e : q.length = l.length := by rw [h1]; simp
    have c1 : ((q.length : Int) < (l.length : Int)) = False := by simp; omega
    have e2 : (([] : List Int) == []) = true := rfl
    simp only [c1, e2, ↓evD, evU, evL, Nat.reduceAdd, Nat.reduceSub, Nat.reduceMul, Nat.reduceLeDiff, Nat.reduceLT, Nat.reduceEqDiff, Nat.reduceBEq, reduceIte, reduceCtorEq, Int.reduceBEq, Int.reduceEq, Int.reduceLT, Int.reduceLE, Int.reduceGT, Int.reduceGE, Int.reduceAdd, Int.reduceSub, Int.reduceNeg, Int.reduceBNe, ite_true, ite_false, if_true, if_false, implies_true, forall_const]
  | [], _ :: _, q, q', h1, h2, h3, h4 => by cases h4
  | _ :: _, [], q, q', h1, h2, h3, h4 => by cases h4
  | x :: r, y :: s, q, q', h1, h2, h3, h4 => by
    rw [P14_0_eq]
    have el : l.length = q.length + (r.length + 1) := by rw [h1]; simp
    have c1 : ((q.length : Int) < (l.length : Int)) = True := by simp; omega
    have hx : l[q.length]? = some x := by rw [h1]; simp
    have hy : m[q.length]? = some y := by rw [h2, h3]; simp
    have hec : ∀ x, (eI x).cells = [i64 x] := fun _ => rfl
    have w1 : IntKind.i64.wrap ((q.length : Int) + 1) = (((q ++ [x]).length : Nat) : Int) := by rw [show (q ++ [x]).length = q.length + 1 by simp, wrap_small] <;> omega
    have ih := eqI_loop (h := h) ha hb hl r s (q ++ [x]) (q' ++ [y]) (by rw [h1]; simp) (by rw [h2]; simp) (by simp; omega) (by simpa using h4)
    have e2 : (x :: r == y :: s) = (x == y && r == s) := rfl
    rw [e2]
    cases e : (x == y) <;> simp only [c1, ha.idx hx, hb.idx hy, hec, bne, e, w1, ih, Bool.false_and, Bool.true_and, ↓evD, evU, evL, Nat.reduceAdd, Nat.reduceSub, Nat.reduceMul, Nat.reduceLeDiff, Nat.reduceLT, Nat.reduceEqDiff, Nat.reduceBEq, reduceIte, reduceCtorEq, Int.reduceBEq, Int.reduceEq, Int.reduceLT, Int.reduceLE, Int.reduceGT, Int.reduceGE, Int.reduceAdd, Int.reduceSub, Int.reduceNeg, Int.reduceBNe, ite_true, ite_false, if_true, if_false, implies_true, forall_const]
theorem eqI_spec (base : Nat) (h : Hp) {a b : PV} {l m : List Int} (ha : Rl eI 1 a l) (hb : Rl eI 1 b m) (hl : l.length ≤ 1000000) : CallA T base 14 [a, b] h = some (.bool (l == m), h) := by
  rw [S14]
  by_cases e : l.length = m.length
  · have h1 : ((l.length : Int) == (m.length : Int)) = true := by rw [beq_iff_eq]; omega
    have := eqI_loop (h := h) ha hb hl l m [] [] rfl rfl rfl e
    simp only [ha.len, hb.len, bne, h1, ↓evD, evU, evL, Nat.reduceAdd, Nat.reduceSub, Nat.reduceMul, Nat.reduceLeDiff, Nat.reduceLT, Nat.reduceEqDiff, Nat.reduceBEq, reduceIte, reduceCtorEq, Int.reduceBEq, Int.reduceEq, Int.reduceLT, Int.reduceLE, Int.reduceGT, Int.reduceGE, Int.reduceAdd, Int.reduceSub, Int.reduceNeg, Int.reduceBNe, ite_true, ite_false, if_true, if_false, implies_true, forall_const]
    exact this
  · have h1 : ((l.length : Int) == (m.length : Int)) = false := by rw [beq_eq_false_iff_ne]; omega
    have e2 : (l == m) = false := by rw [beq_eq_false_iff_ne]; rintro rfl; exact e rfl
    simp only [ha.len, hb.len, bne, h1, e2, ↓evD, evU, evL, Nat.reduceAdd, Nat.reduceSub, Nat.reduceMul, Nat.reduceLeDiff, Nat.reduceLT, Nat.reduceEqDiff, Nat.reduceBEq, reduceIte, reduceCtorEq, Int.reduceBEq, Int.reduceEq, Int.reduceLT, Int.reduceLE, Int.reduceGT, Int.reduceGE, Int.reduceAdd, Int.reduceSub, Int.reduceNeg, Int.reduceBNe, ite_true, ite_false, if_true, if_false, implies_true, forall_const]
theorem eqP_loop {h : Hp} {a b : PV} {l m : List Pr} (ha : Rl eP 3 a l) (hb : Rl eP 3 b m) (hl : l.length ≤ 1000000) : ∀ (r s q q' : List Pr), l = q ++ r → m = q' ++ s → q.length = q'.length → r.length = s.length →
    P15_0 (size h) (size h) (i64 q.length) b a (i64 l.length) h = some (.bool (r == s), h)
  | [], [], q, q', h1, h2, h3, h4 => by
    rw [P15_0_eq]
    have e : q.length = l.length := by rw [h1]; simp
    have c1 : ((q.length : Int) < (l.length : Int)) = False := by simp; omega
    have e2 : (([] : List Pr) == []) = true := rfl
    simp only [c1, e2, ↓evD, evU, evL, Nat.reduceAdd, Nat.reduceSub, Nat.reduceMul, Nat.reduceLeDiff, Nat.reduceLT, Nat.reduceEqDiff, Nat.reduceBEq, reduceIte, reduceCtorEq, Int.reduceBEq, Int.reduceEq, Int.reduceLT, Int.reduceLE, Int.reduceGT, Int.reduceGE, Int.reduceAdd, Int.reduceSub, Int.reduceNeg, Int.reduceBNe, ite_true, ite_false, if_true, if_false, implies_true, forall_const]
  | [], _ :: _, q, q', h1, h2, h3, h4 => by cases h4
  | _ :: _, [], q, q', h1, h2, h3, h4 => by cases h4
  | x :: r, y :: s, q, q', h1, h2, h3, h4 => by
    rw [P15_0_eq]
    have el : l.length = q.length + (r.length + 1) := by rw [h1]; simp
    have c1 : ((q.length : Int) < (l.length : Int)) = True := by simp; omega
    have hx : l[q.length]? = some x := by rw [h1]; simp
    have hy : m[q.length]? = some y := by rw [h2, h3]; simp
    have w1 : IntKind.i64.wrap ((q.length : Int) + 1) = (((q ++ [x]).length : Nat) : Int) := by rw [show (q ++ [x]).length = q.length + 1 by simp, wrap_small] <;> omega
    have ih := eqP_loop (h := h) ha hb hl r s (q ++ [x]) (q' ++ [y]) (by rw [h1]; simp) (by rw [h2]; simp) (by simp; omega) (by simpa using h4)
    have e2 : (x :: r == y :: s) = (x == y && r == s) := rfl
    have ec : eqCells [2, 2, 0] [.str x.1, .str x.2.1, .bool x.2.2] [.str y.1, .str y.2.1, .bool y.2.2] = some (x == y) := by
      have : (x == y) = (x.1 == y.1 && (x.2.1 == y.2.1 && x.2.2 == y.2.2)) := rfl
      rw [this]
      show some (x.1 == y.1 && (x.2.1 == y.2.1 && ((x.2.2 == y.2.2) && true))) = _
      rw [Bool.and_true]
    rw [e2]
    cases e : (x == y) <;> rw [e] at ec <;> simp only [c1, ha.idx hx, hb.idx hy, ecP, ec, w1, ih, Bool.false_and, Bool.true_and, ↓evD, evU, evL, Nat.reduceAdd, Nat.reduceSub, Nat.reduceMul, Nat.reduceLeDiff, Nat.reduceLT, Nat.reduceEqDiff, Nat.reduceBEq, reduceIte, reduceCtorEq, Int.reduceBEq, Int.reduceEq, Int.reduceLT, Int.reduceLE, Int.reduceGT, Int.reduceGE, Int.reduceAdd, Int.reduceSub, Int.reduceNeg, Int.reduceBNe, ite_true, ite_false, if_true, if_false, implies_true, forall_const]
theorem eqP_spec (base : Nat) (h : Hp) {a b : PV} {l m : List Pr} (ha : Rl eP 3 a l) (hb : Rl eP 3 b m) (hl : l.length ≤ 1000000) : CallA T base 15 [a, b] h = some (.bool (l == m), h) := by
  rw [S15]
  by_cases e : l.length = m.length
  · have h1 : ((l.length : Int) == (m.length : Int)) = true := by rw [beq_iff_eq]; omega
    have := eqP_loop (h := h) ha hb hl l m [] [] rfl rfl rfl e
    simp only [ha.len, hb.len, bne, h1, ↓evD, evU, evL, Nat.reduceAdd, Nat.reduceSub, Nat.reduceMul, Nat.reduceLeDiff, Nat.reduceLT, Nat.reduceEqDiff, Nat.reduceBEq, reduceIte, reduceCtorEq, Int.reduceBEq, Int.reduceEq, Int.reduceLT, Int.reduceLE, Int.reduceGT, Int.reduceGE, Int.reduceAdd, Int.reduceSub, Int.reduceNeg, Int.reduceBNe, ite_true, ite_false, if_true, if_false, implies_true, forall_const]
    exact this
  · have h1 : ((l.length : Int) == (m.length : Int)) = false := by rw [beq_eq_false_iff_ne]; omega
    have e2 : (l == m) = false := by rw [beq_eq_false_iff_ne]; rintro rfl; exact e rfl
    simp only [ha.len, hb.len, bne, h1, e2, ↓evD, evU, evL, Nat.reduceAdd, Nat.reduceSub, Nat.reduceMul, Nat.reduceLeDiff, Nat.reduceLT, Nat.reduceEqDiff, Nat.reduceBEq, reduceIte, reduceCtorEq, Int.reduceBEq, Int.reduceEq, Int.reduceLT, Int.reduceLE, Int.reduceGT, Int.reduceGE, Int.reduceAdd, Int.reduceSub, Int.reduceNeg, Int.reduceBNe, ite_true, ite_false, if_true, if_false, implies_true, forall_const]
theorem eqL1_spec (base : Nat) (h : Hp) {x y : Lk} (hs : (pL x).length ≤ 10000 ∧ (aL x).length ≤ 10000) : CallA T base 13 [eL x, eL y] h = some (.bool (pL x == pL y && aL x == aL y), h) := by
  have h1 := fun b m => eqI_spec b m (pV x).rl (pV y).rl (by omega)
  have h2 := fun b m => eqP_spec b m (aV x).rl (aV y).rl (by omega)
  have e1 : eL x = .agg [x.1.1, x.2.1] := rfl
  have e2 : eL y = .agg [y.1.1, y.2.1] := rfl
  rw [S13, e1, e2]
  cases e3 : (pL x == pL y) <;> rw [e3] at h1 <;> cases e4 : (aL x == aL y) <;> rw [e4] at h2 <;>
    simp only [(pV x).scalar, (aV x).scalar, (pV y).scalar, (aV y).scalar, h1, h2, ↓evD, evU, evL, Nat.reduceAdd, Nat.reduceSub, Nat.reduceMul, Nat.reduceLeDiff, Nat.reduceLT, Nat.reduceEqDiff, Nat.reduceBEq, reduceIte, reduceCtorEq, Int.reduceBEq, Int.reduceEq, Int.reduceLT, Int.reduceLE, Int.reduceGT, Int.reduceGE, Int.reduceAdd, Int.reduceSub, Int.reduceNeg, Int.reduceBNe, ite_true, ite_false, if_true, if_false, implies_true, forall_const]
theorem eqL_loop {h : Hp} {a b : PV} {l m : List Lk} (ha : Rl eL 2 a l) (hb : Rl eL 2 b m) (hl : l.length ≤ 1000000) (hs : ∀ k ∈ l, (pL k).length ≤ 10000 ∧ (aL k).length ≤ 10000) : ∀ (r s q q' : List Lk) (H : Hp), Hg h H → l = q ++ r → m = q' ++ s → q.length = q'.length → r.length = s.length →
    P12_0 (size h) (size h) (i64 q.length) (.fn 13 []) b a (i64 l.length) H = some (.bool (r.map cL == s.map cL), h)
  | [], [], q, q', H, g, h1, h2, h3, h4 => by
    rw [P12_0_eq]
    have e : q.length = l.length := by rw [h1]; simp
    have c1 : ((q.length : Int) < (l.length : Int)) = False := by simp; omega
    have e2 : ((([] : List Lk).map cL) == (([] : List Lk).map cL)) = true := rfl
    rw [e2]
    simp only [c1, g.tr, ↓evD, evU, evL, Nat.reduceAdd, Nat.reduceSub, Nat.reduceMul, Nat.reduceLeDiff, Nat.reduceLT, Nat.reduceEqDiff, Nat.reduceBEq, reduceIte, reduceCtorEq, Int.reduceBEq, Int.reduceEq, Int.reduceLT, Int.reduceLE, Int.reduceGT, Int.reduceGE, Int.reduceAdd, Int.reduceSub, Int.reduceNeg, Int.reduceBNe, ite_true, ite_false, if_true, if_false, implies_true, forall_const]
  | [], _ :: _, q, q', H, g, h1, h2, h3, h4 => by cases h4
  | _ :: _, [], q, q', H, g, h1, h2, h3, h4 => by cases h4
  | x :: r, y :: s, q, q', H, g, h1, h2, h3, h4 => by
    rw [P12_0_eq]
    have el : l.length = q.length + (r.length + 1) := by rw [h1]; simp
    have c1 : ((q.length : Int) < (l.length : Int)) = True := by simp; omega
    have hx : l[q.length]? = some x := by rw [h1]; simp
    have hy : m[q.length]? = some y := by rw [h2, h3]; simp
    have w1 : IntKind.i64.wrap ((q.length : Int) + 1) = (((q ++ [x]).length : Nat) : Int) := by rw [show (q ++ [x]).length = q.length + 1 by simp, wrap_small] <;> omega
    have g1 := g.ext [.cells [x.1.1, x.2.1], .cells [y.1.1, y.2.1]]
    have ih := eqL_loop ha hb hl hs r s (q ++ [x]) (q' ++ [y]) _ g1 (by rw [h1]; simp) (by rw [h2]; simp) (by simp; omega) (by simpa using h4)
    have i1 := fun b m => eqL1_spec b m (y := y) (hs x (by rw [h1]; simp))
    have e5 : eL x = .agg [x.1.1, x.2.1] := rfl
    have e6 : eL y = .agg [y.1.1, y.2.1] := rfl
    rw [e5, e6] at i1
    have n1 := g.lt
    have n2 : (size H + 1 < size h) = False := by have := g.le; simp; omega
    have e2 : ((x :: r).map cL == (y :: s).map cL) = ((pL x == pL y && aL x == aL y) && r.map cL == s.map cL) := rfl
    rw [e2]
    cases e : (pL x == pL y && aL x == aL y) <;> rw [e] at i1 <;>
      simp only [c1, ha.idx hx, hb.idx hy, ecL, n1, n2, (pV x).scalar, (aV x).scalar, (pV y).scalar, (aV y).scalar, i1, List.append_nil, List.cons_append, List.nil_append, g1.tr, w1, ih, Bool.false_and, Bool.true_and, ↓evD, evU, evL, Nat.reduceAdd, Nat.reduceSub, Nat.reduceMul, Nat.reduceLeDiff, Nat.reduceLT, Nat.reduceEqDiff, Nat.reduceBEq, reduceIte, reduceCtorEq, Int.reduceBEq, Int.reduceEq, Int.reduceLT, Int.reduceLE, Int.reduceGT, Int.reduceGE, Int.reduceAdd, Int.reduceSub, Int.reduceNeg, Int.reduceBNe, ite_true, ite_false, if_true, if_false, implies_true, forall_const]
theorem same_spec (base : Nat) (h : Hp) {a b : PV} {l m : List Lk} (ha : Rl eL 2 a l) (hb : Rl eL 2 b m) (hl : l.length ≤ 1000000) (hs : ∀ k ∈ l, (pL k).length ≤ 10000 ∧ (aL k).length ≤ 10000) : CallA T base 7 [a, b] h = some (.bool (l.map cL == m.map cL), h) := by
  have h12 : ∀ base h, CallA T base 12 [a, b, .fn 13 []] h = some (.bool (l.map cL == m.map cL), h) := by
    intro base h
    rw [S12]
    by_cases e : l.length = m.length
    · have h1 : ((l.length : Int) == (m.length : Int)) = true := by rw [beq_iff_eq]; omega
      have := eqL_loop ha hb hl hs l m [] [] h (Hg.refl h) rfl rfl rfl e
      simp only [ha.len, hb.len, bne, h1, ↓evD, evU, evL, Nat.reduceAdd, Nat.reduceSub, Nat.reduceMul, Nat.reduceLeDiff, Nat.reduceLT, Nat.reduceEqDiff, Nat.reduceBEq, reduceIte, reduceCtorEq, Int.reduceBEq, Int.reduceEq, Int.reduceLT, Int.reduceLE, Int.reduceGT, Int.reduceGE, Int.reduceAdd, Int.reduceSub, Int.reduceNeg, Int.reduceBNe, ite_true, ite_false, if_true, if_false, implies_true, forall_const]
      exact this
    · have h1 : ((l.length : Int) == (m.length : Int)) = false := by rw [beq_eq_false_iff_ne]; omega
      have e2 : (l.map cL == m.map cL) = false := by
        rw [beq_eq_false_iff_ne]; intro q
        have := congrArg List.length q
        rw [List.length_map, List.length_map] at this
        exact e this
      simp only [ha.len, hb.len, bne, h1, e2, ↓evD, evU, evL, Nat.reduceAdd, Nat.reduceSub, Nat.reduceMul, Nat.reduceLeDiff, Nat.reduceLT, Nat.reduceEqDiff, Nat.reduceBEq, reduceIte, reduceCtorEq, Int.reduceBEq, Int.reduceEq, Int.reduceLT, Int.reduceLE, Int.reduceGT, Int.reduceGE, Int.reduceAdd, Int.reduceSub, Int.reduceNeg, Int.reduceBNe, ite_true, ite_false, if_true, if_false, implies_true, forall_const]
  rw [S7]
  simp only [h12, ↓evD, evU, evL, Nat.reduceAdd, Nat.reduceSub, Nat.reduceMul, Nat.reduceLeDiff, Nat.reduceLT, Nat.reduceEqDiff, Nat.reduceBEq, reduceIte, reduceCtorEq, Int.reduceBEq, Int.reduceEq, Int.reduceLT, Int.reduceLE, Int.reduceGT, Int.reduceGE, Int.reduceAdd, Int.reduceSub, Int.reduceNeg, Int.reduceBNe, ite_true, ite_false, if_true, if_false, implies_true, forall_const]
end Go.Am.YtdnbedldmkagmaaDoor
namespace Go.Am.YtdnbedldmkagmaaDoor
set_option maxRecDepth 100000
set_option linter.unusedSimpArgs false
set_option linter.unusedVariables false
open Go.Lib (decDigits itoa)
theorem low_pri {c : UInt8} (h : simB c = true) : priB c = true := by
  unfold simB lowB at h
  unfold priB
  simp only [Bool.or_eq_true, Bool.and_eq_true, decide_eq_true_eq, beq_iff_eq, Bool.not_eq_true', beq_eq_false_iff_ne] at *
  omega
theorem tw_all2 {q : UInt8 → Bool} : ∀ {w : List UInt8}, (w.takeWhile q).all q = true
  | [] => rfl
  | y :: w => by
    rw [List.takeWhile_cons]
    cases e : q y
    · rfl
    · simp only [if_true, List.all_cons, e, Bool.true_and]; exact tw_all2
theorem valS_len (v : List UInt8) : (valS v).length ≤ v.length + 2 := by
  unfold valS
  split <;> simp
theorem hd_len {c : UInt8} {d : List UInt8} (h : (d.take 1 == [c]) = true) : d.length = (d.drop 1).length + 1 := by
  cases d with
  | nil => cases h
  | cons x d => simp
theorem val_sound {t : List UInt8} (h : (valF t).2.1 = true) : vlB (valF t).1 = true ∧ (valS (valF t).1).length + (valF t).2.2.length ≤ t.length := by
  unfold valF at *
  cases e : (t.take 1 == [34])
  · rw [e] at h
    simp only [Bool.false_eq_true, if_false] at h ⊢
    rw [Bool.and_eq_true, decide_eq_true_eq] at h
    have h1 := tw_all2 (q := simB) (w := t)
    have h2 : (t.takeWhile simB).all priB = true := by
      rw [List.all_eq_true] at *
      exact fun x hx => low_pri (h1 x hx)
    have h3 : plB (t.takeWhile simB) = true := by unfold plB; rw [h.1, h1]; rfl
    have hl := tw_len (q := simB) t
    refine ⟨by unfold vlB; rw [h2, decide_eq_true h.2]; rfl, ?_⟩
    unfold valS
    rw [if_pos h3]; omega
  · rw [e] at h
    simp only [if_true] at h ⊢
    rw [Bool.and_eq_true, decide_eq_true_eq] at h
    have h1 := tw_all2 (q := priB) (w := t.drop 1)
    have hl := tw_len (q := priB) (t.drop 1)
    have hd := hd_len e
    have hd2 := hd_len h.2
    have h5 := valS_len ((t.drop 1).takeWhile priB)
    refine ⟨by unfold vlB; rw [h1, decide_eq_true h.1]; rfl, ?_⟩
    rw [decide_eq_true h.1]
    have e4 : tk 34 ((t.drop 1).dropWhile priB) = ((t.drop 1).dropWhile priB).drop 1 := by unfold tk; rw [h.2]; rfl
    rw [if_pos rfl, e4]
    omega
theorem attr_sound {t : List UInt8} (h : (attrF t).2.1 = true) : prB (attrF t).1 = true ∧ (pairT (attrF t).1).length + (attrF t).2.2.length ≤ t.length + 1 := by
  have hl := tw_len (q := lowB) t
  unfold attrF at *
  cases e1 : nmB (t.takeWhile lowB)
  · rw [e1] at h; cases h
  · rw [e1] at h
    cases e2 : ((t.dropWhile lowB).take 1 == [61])
    · simp only [if_true, Bool.false_eq_true, if_false]
      refine ⟨by unfold prB; rw [e1]; rfl, ?_⟩
      simp only [pairT, if_true, List.append_nil, List.length_cons]
      omega
    · rw [e2] at h
      simp only [if_true] at h ⊢
      obtain ⟨h1, h2⟩ := val_sound h
      have hd := hd_len e2
      refine ⟨by unfold prB; simp only [e1, h1, Bool.false_eq_true, if_false]; rfl, ?_⟩
      simp only [pairT, Bool.false_eq_true, if_false, List.length_append, List.length_cons]
      omega
theorem attrs_sound : ∀ {n : Nat} {t r : List UInt8} {bs : List Pr}, attrsO n t = some (bs, r) → bs.all prB = true ∧ (pairsT bs).length + r.length ≤ t.length
  | 0, t, r, bs, h => by
    unfold attrsO at h
    split at h
    · cases h
    · cases h; exact ⟨rfl, by simp [pairsT]⟩
  | n + 1, t, r, bs, h => by
    unfold attrsO at h
    split at h
    · rename_i e
      split at h
      · rename_i ea
        split at h
        · rename_i y hy
          cases h
          obtain ⟨h1, h2⟩ := attrs_sound (r := y.2) (bs := y.1) hy
          obtain ⟨h3, h4⟩ := attr_sound ea
          have hd := hd_len e
          refine ⟨by rw [List.all_cons, h3, h1]; rfl, ?_⟩
          rw [pairsT_cons, List.length_append]
          omega
        · cases h
      · cases h
    · cases h; exact ⟨rfl, by simp [pairsT]⟩
theorem nums_sound : ∀ {l : List (List UInt8)} {p : List Int}, numsO l = some p → p.all numOk = true ∧ (segsS p).length = (l.map fun s => s.length + 1).sum
  | [], p, h => by cases h; exact ⟨rfl, rfl⟩
  | s :: l, p, h => by
    unfold numsO at h
    split at h
    · cases h
    · rename_i u hu
      rw [Option.map_eq_some_iff] at h
      obtain ⟨q, hq, rfl⟩ := h
      obtain ⟨h1, h2⟩ := nums_sound hq
      obtain ⟨h3, h4⟩ := (numN_iff (by omega)).1 hu
      refine ⟨by rw [List.all_cons, h1, Bool.and_true]; simp [numOk]; omega, ?_⟩
      have e : segsS ((u : Int) :: q) = 47 :: (itoa u ++ segsS q) := rfl
      rw [e, itoa_nat, h4, List.length_cons, List.length_append, h2, List.map_cons, List.sum_cons]
      omega
theorem split_sum (c : UInt8) : ∀ t : List UInt8, ((splitL c t).map fun s => s.length + 1).sum = t.length + 1
  | [] => rfl
  | x :: r => by
    have ih := split_sum c r
    rw [splitL]
    split
    · rw [List.map_cons, List.sum_cons, ih]; simp; omega
    · cases e : splitL c r with
      | nil => exact (splitL_ne c r e).elim
      | cons y ys =>
        rw [e] at ih
        simp only [List.map_cons, List.sum_cons, List.length_cons] at ih ⊢
        omega
theorem readO_sound {a : List UInt8} {p : List Int} (h : readO a = some p) : rightB p = true ∧ (textS p).length ≤ a.length := by
  unfold readO at h
  split at h
  · cases h
  · rename_i e
    have e' : (a.take 1 == [47]) = true := by simpa using e
    have hd := hd_len e'
    split at h
    · cases h
      exact ⟨rfl, by show ([47] : List UInt8).length ≤ _; simp; omega⟩
    · unfold few at h
      split at h
      · cases h
      · rename_i h3
        obtain ⟨h1, h2⟩ := nums_sound h
        have hn := numsO_len h
        rw [split_sum] at h2
        have hr : rightB p = true := by unfold rightB; rw [h1, decide_eq_true (by omega)]; rfl
        refine ⟨hr, ?_⟩
        unfold textS
        rw [if_neg (by rw [hr]; simp)]
        split
        · simp; omega
        · omega
theorem link_sound {t : List UInt8} {x : Ln} {r : List UInt8} (h : linkO t = some (x, r)) : lkB (mkL x) = true ∧ (linkT (mkL x)).length + r.length ≤ t.length := by
  have hx := linkO_len h
  have h1 : pL (mkL x) = x.1 := congrArg Prod.fst (cL_mkL x)
  have h2 : aL (mkL x) = x.2 := congrArg Prod.snd (cL_mkL x)
  rw [linkT_len]
  unfold lkB
  rw [h1, h2]
  unfold linkO at h
  split at h
  · cases h
  · rename_i p r1 hp
    split at h
    · cases h
    · rename_i bs r2 ha
      cases h
      obtain ⟨a1, a2⟩ := attrs_sound ha
      unfold pathF at hp
      split at hp
      · rename_i e60
        split at hp
        · cases hp
        · rename_i q hq
          split at hp
          · rename_i e62
            cases hp
            obtain ⟨b1, b2⟩ := readO_sound hq
            have hl := tw_len (q := ngtB) (t.drop 1)
            have d1 := hd_len e60
            have d2 := hd_len e62
            simp only at *
            refine ⟨by rw [b1, a1, decide_eq_true hx.2]; rfl, by omega⟩
          · cases hp
      · cases hp
theorem restT_le (l : List Lk) : (restT l).length ≤ (linksT l).length + 1 := by
  cases l with
  | nil => simp [restT]
  | cons k l => simp [restT, linksT]
theorem links_sound : ∀ {n : Nat} {t : List UInt8} {l : List Ln}, linksO n t = .ok l → (l.map mkL).all lkB = true ∧ (linksT (l.map mkL)).length ≤ t.length
  | 0, t, l, h => by cases h
  | n + 1, t, l, h => by
    unfold linksO at h
    split at h
    · cases h
    · rename_i x r hx
      obtain ⟨h1, h2⟩ := link_sound hx
      split at h
      · cases h
        refine ⟨by simp [h1], ?_⟩
        have : linksT ([x].map mkL) = linkT (mkL x) := by simp [linksT, restT]
        rw [this]; omega
      · split at h
        · rename_i e44
          split at h
          · rename_i m hm
            cases h
            obtain ⟨h3, h4⟩ := links_sound hm
            have hd := hd_len e44
            refine ⟨by rw [List.map_cons, List.all_cons, h1, h3]; rfl, ?_⟩
            have : linksT ((x :: m).map mkL) = linkT (mkL x) ++ restT (m.map mkL) := rfl
            rw [this, List.length_append]
            have := restT_le (m.map mkL)
            omega
          · rename_i e hne
            exact (hne _ h).elim
        · cases h
theorem readS_sound {t : List UInt8} {l : List Ln} (h : readS t = .ok l) : rgB (l.map mkL) = true ∧ (linksT (l.map mkL)).length ≤ t.length := by
  have hl := readS_len h
  unfold rgB
  rw [decide_eq_true (by rw [List.length_map]; exact hl.1), Bool.true_and]
  unfold readS at h
  split at h
  · cases h; exact ⟨rfl, Nat.zero_le _⟩
  · exact links_sound h
end Go.Am.YtdnbedldmkagmaaDoor
