/- 'Am': functions of the library that look at their arguments alone, as the machine takes them.
   By the session's AI agent. -/
import Derived.Test.YthhceeaconflnaaDoorAmB
import Derived.Shelf.Strconv.Itoa4
import Derived.Shelf.Strconv.ParseIntPublic10
import Derived.Shelf.Strings.Cut
import Derived.Shelf.Strings.Trim
import Derived.Shelf.Small.Utf8
import Derived.Shelf.Unicode.DecodeSlow
import Derived.Shelf.Small.Strs
import Derived.WalkSmall
namespace Go.Am
open Go.RowKit (Below)
set_option linter.unusedVariables false
set_option linter.unusedSimpArgs false

def pItoa : List PV → Option PV
  | [.int .i64 n] => if -9223372036854775808 ≤ n ∧ n ≤ 9223372036854775807 then some (.str (Lib.itoa n)) else none
  | _ => none
def pFormat : List PV → Option PV
  | [.int .i64 n, .int .i64 10] => if -9223372036854775808 ≤ n ∧ n ≤ 9223372036854775807 then some (.str (Lib.itoa n)) else none
  | _ => none
def pIndexByte : List PV → Option PV
  | [.str s, .int .u8 c] => some (.int .i64 (Lib.indexByte s c.toNat.toUInt8))
  | _ => none
def pTrimRight : List PV → Option PV
  | [.str s, .str [c]] => if c.toNat < 128 ∧ s.length ≤ 9223372036854775807 then some (.str (Lib.trimRightB s c)) else none
  | _ => none
def pCut : List PV → Option PV
  | [.str s, .str t] => if s.length < 4294967281 then some (.tup [.str (Lib.cut s t).1, .str (Lib.cut s t).2.1, .bool (Lib.cut s t).2.2]) else none
  | _ => none
def pDecode : List PV → Option PV
  | [.str s] => some (.tup [.int .i32 (Lib.decodeGo ⟨s.toArray⟩).1, .int .i64 (Lib.decodeGo ⟨s.toArray⟩).2])
  | _ => none
def pParse (ti : Nat) : List PV → Option PV
  | [.str s, .int .i64 10, .int .i64 64] => if s.length ≤ 281474976710656 then (match Lib.parseIntB 64 s with
      | .ok v => some (.tup [.int .i64 v, .nilif])
      | Go.Lib.NumEnd.«syntax» => some (.tup [.int .i64 0, .iface ti .undef])
      | .range => some (.tup [.int .i64 (Lib.intSat 64 s), .iface ti .undef])) else none
  | _ => none

section
variable {N0 : Nat} {g : G} {w : World} {vs : List PV} {us : Array Value}
theorem rv_str' {l : List UInt8} {u : Value} (h : RV N0 g w (.str l) u) : u = .string ⟨l.toArray⟩ := by
  cases h with
  | str l s h => subst h; rfl
theorem rv_int' {k : IntKind} {n : Int} {u : Value} (h : RV N0 g w (.int k n) u) : u = .int k n := by cases h; rfl
theorem args_one {x : PV} (hl : us.size = [x].length) (hr : ∀ (j : Nat) (y : PV), [x][j]? = some y → RV N0 g w y (us.getD j Go.undef)) : ∃ u, us = #[u] ∧ RV N0 g w x u := by
  cases us with | mk l => match l, hl with
    | [u], _ => exact ⟨u, rfl, by simpa using hr 0 x rfl⟩
theorem args_two {x y : PV} (hl : us.size = [x, y].length) (hr : ∀ (j : Nat) (z : PV), [x, y][j]? = some z → RV N0 g w z (us.getD j Go.undef)) : ∃ u v, us = #[u, v] ∧ RV N0 g w x u ∧ RV N0 g w y v := by
  cases us with | mk l => match l, hl with
    | [u, v], _ => exact ⟨u, v, rfl, by simpa using hr 0 x rfl, by simpa using hr 1 y rfl⟩
theorem args_three {x y z : PV} (hl : us.size = [x, y, z].length) (hr : ∀ (j : Nat) (t : PV), [x, y, z][j]? = some t → RV N0 g w t (us.getD j Go.undef)) : ∃ u v q, us = #[u, v, q] ∧ RV N0 g w x u ∧ RV N0 g w y v ∧ RV N0 g w z q := by
  cases us with | mk l => match l, hl with
    | [u, v, q], _ => exact ⟨u, v, q, rfl, by simpa using hr 0 x rfl, by simpa using hr 1 y rfl, by simpa using hr 2 z rfl⟩
theorem rv_mkstr (l : List UInt8) : RV N0 g w (.str l) (.string ⟨l.toArray⟩) := .str l _ (by simp)
theorem rv_tup2 {x y : PV} {u v : Value} (h1 : RV N0 g w x u) (h2 : RV N0 g w y v) : RV N0 g w (.tup [x, y]) (.tuple #[u, v]) :=
  .tup _ _ rfl fun j z hz => match j, hz with
    | 0, hz => by cases hz; exact h1
    | 1, hz => by cases hz; exact h2
    | j + 2, hz => by simp at hz
theorem rv_tup3 {x y z : PV} {u v q : Value} (h1 : RV N0 g w x u) (h2 : RV N0 g w y v) (h3 : RV N0 g w z q) : RV N0 g w (.tup [x, y, z]) (.tuple #[u, v, q]) :=
  .tup _ _ rfl fun j t hz => match j, hz with
    | 0, hz => by cases hz; exact h1
    | 1, hz => by cases hz; exact h2
    | 2, hz => by cases hz; exact h3
    | j + 3, hz => by simp at hz
end

section
variable {P : Program} {I : Nat → World → Prop} {f : Nat}
theorem prim_itoa (henter : ∀ us w, (callFunc f us).run P w = .ok (.enter f us) w) (htab : ∀ N0 w0 w, I N0 w0 → Below N0 w0 w → Lib.TabIs P w "internal/strconv.uint64pow10" .u64 Lib.pow10Tab)
    (hc : ∀ (n : Int) (h0 : -9223372036854775808 ≤ n) (h1 : n ≤ 9223372036854775807) (w : World) (htab : Lib.TabIs P w "internal/strconv.uint64pow10" .u64 Lib.pow10Tab),
      Calls P f #[.int .i64 n] w fun e w' => e = .returned (.string ⟨(Lib.itoa n).toArray⟩) ∧ Below w.heap.size w w') : PrimOk P I f (fun vs h => (pItoa vs).map fun r => (r, none)) := by
  refine primOk_flat henter fun vs r hr N0 w0 g us w hI hb hlen hrel => ?_
  unfold pItoa at hr
  split at hr
  · split at hr
    · rename_i n hn
      cases hr
      obtain ⟨u, rfl, h1⟩ := args_one hlen hrel
      cases rv_int' h1
      exact (hc n hn.1 hn.2 w (htab _ _ _ hI hb)).mono fun e w' ⟨h1, h2⟩ => ⟨_, h1, h2, fun g w => rv_mkstr _⟩
    · cases hr
  · cases hr

theorem prim_format (henter : ∀ us w, (callFunc f us).run P w = .ok (.enter f us) w) (htab : ∀ N0 w0 w, I N0 w0 → Below N0 w0 w → Lib.TabIs P w "internal/strconv.uint64pow10" .u64 Lib.pow10Tab)
    (hc : ∀ (n : Int) (h0 : -9223372036854775808 ≤ n) (h1 : n ≤ 9223372036854775807) (w : World) (htab : Lib.TabIs P w "internal/strconv.uint64pow10" .u64 Lib.pow10Tab),
      Calls P f #[.int .i64 n, .int .i64 10] w fun e w' => e = .returned (.string ⟨(Lib.itoa n).toArray⟩) ∧ Below w.heap.size w w') : PrimOk P I f (fun vs h => (pFormat vs).map fun r => (r, none)) := by
  refine primOk_flat henter fun vs r hr N0 w0 g us w hI hb hlen hrel => ?_
  unfold pFormat at hr
  split at hr
  · split at hr
    · rename_i n hn
      cases hr
      obtain ⟨u, v, rfl, h1, h2⟩ := args_two hlen hrel
      cases rv_int' h1
      cases rv_int' h2
      exact (hc n hn.1 hn.2 w (htab _ _ _ hI hb)).mono fun e w' ⟨h1, h2⟩ => ⟨_, h1, h2, fun g w => rv_mkstr _⟩
    · cases hr
  · cases hr

theorem prim_indexByte (henter : ∀ us w, (callFunc f us).run P w = .ok (.enter f us) w)
    (hc : ∀ (s : ByteArray) (c : Int) (w : World), Calls P f #[.string s, .int .u8 c] w fun e w' => e = .returned (.int .i64 (Lib.indexByte s.data.toList c.toNat.toUInt8)) ∧ w' = w) : PrimOk P I f (fun vs h => (pIndexByte vs).map fun r => (r, none)) := by
  refine primOk_flat henter fun vs r hr N0 w0 g us w hI hb hlen hrel => ?_
  unfold pIndexByte at hr
  split at hr
  · cases hr
    obtain ⟨u, v, rfl, h1, h2⟩ := args_two hlen hrel
    cases rv_str' h1
    cases rv_int' h2
    exact (hc _ _ w).mono fun e w' ⟨h1, h2⟩ => ⟨_, h1, h2 ▸ Below.refl _ _, fun g w => .int _ _⟩
  · cases hr

theorem prim_trimRight (henter : ∀ us w, (callFunc f us).run P w = .ok (.enter f us) w)
    (hc : ∀ (s : ByteArray) (c : UInt8) (hc : c.toNat < 128) (w : World) (hs : s.size ≤ 9223372036854775807), Calls P f #[.string s, .string ⟨#[c]⟩] w fun e w' => e = .returned (.string ⟨(Lib.trimRightB s.data.toList c).toArray⟩) ∧ w' = w) : PrimOk P I f (fun vs h => (pTrimRight vs).map fun r => (r, none)) := by
  refine primOk_flat henter fun vs r hr N0 w0 g us w hI hb hlen hrel => ?_
  unfold pTrimRight at hr
  split at hr
  · split at hr
    · rename_i s c hn
      cases hr
      obtain ⟨u, v, rfl, h1, h2⟩ := args_two hlen hrel
      cases rv_str' h1
      cases rv_str' h2
      exact (hc ⟨s.toArray⟩ c hn.1 w (show s.toArray.size ≤ _ by simpa using hn.2)).mono fun e w' ⟨h1, h2⟩ => ⟨_, h1, h2 ▸ Below.refl _ _, fun g w => rv_mkstr _⟩
    · cases hr
  · cases hr

theorem prim_cut (henter : ∀ us w, (callFunc f us).run P w = .ok (.enter f us) w)
    (hc : ∀ N0 w0, I N0 w0 → ∀ (s sep : ByteArray) (w : World), Below N0 w0 w → s.size < 4294967281 → Calls P f #[.string s, .string sep] w fun e w' =>
      e = .returned (.tuple #[.string ⟨(Lib.cut s.data.toList sep.data.toList).1.toArray⟩, .string ⟨(Lib.cut s.data.toList sep.data.toList).2.1.toArray⟩, .bool (Lib.cut s.data.toList sep.data.toList).2.2]) ∧ Below w.heap.size w w') :
    PrimOk P I f (fun vs h => (pCut vs).map fun r => (r, none)) := by
  refine primOk_flat henter fun vs r hr N0 w0 g us w hI hb hlen hrel => ?_
  unfold pCut at hr
  split at hr
  · split at hr
    · rename_i s c hn
      cases hr
      obtain ⟨u, v, rfl, h1, h2⟩ := args_two hlen hrel
      cases rv_str' h1
      cases rv_str' h2
      exact (hc N0 w0 hI ⟨s.toArray⟩ ⟨c.toArray⟩ w hb (show s.toArray.size < _ by simpa using hn)).mono fun e w' ⟨h1, h2⟩ => ⟨_, h1, h2, fun g w => rv_tup3 (rv_mkstr _) (rv_mkstr _) (.bool _)⟩
    · cases hr
  · cases hr

theorem prim_decode {g0 g1 : Nat} (henter : ∀ us w, (callFunc f us).run P w = .ok (.enter f us) w) (htab : ∀ N0 w0 w, I N0 w0 → Below N0 w0 w → Lib.Utf8Tabs g0 g1 w)
    (hc : ∀ (s : ByteArray) (w : World) (hT : Lib.Utf8Tabs g0 g1 w), Calls P f #[.string s] w fun e w' => e = .returned (.tuple #[.int .i32 (Lib.decodeGo s).1, .int .i64 (Lib.decodeGo s).2]) ∧ Below w.heap.size w w') :
    PrimOk P I f (fun vs h => (pDecode vs).map fun r => (r, none)) := by
  refine primOk_flat henter fun vs r hr N0 w0 g us w hI hb hlen hrel => ?_
  unfold pDecode at hr
  split at hr
  · cases hr
    obtain ⟨u, rfl, h1⟩ := args_one hlen hrel
    cases rv_str' h1
    exact (hc _ w (htab _ _ _ hI hb)).mono fun e w' ⟨h1, h2⟩ => ⟨_, h1, h2, fun g w => rv_tup2 (.int _ _) (.int _ _)⟩
  · cases hr

theorem prim_parse {ti : Nat} (henter : ∀ us w, (callFunc f us).run P w = .ok (.enter f us) w)
    (hok : ∀ (s : ByteArray) (v : Int) (w : World), s.size ≤ 281474976710656 → Lib.parseIntB 64 s.data.toList = .ok v → Calls P f #[.string s, .int .i64 10, .int .i64 64] w fun e w' => e = .returned (.tuple #[.int .i64 v, .nilIface]) ∧ Below w.heap.size w w')
    (hsy : ∀ N0 w0, I N0 w0 → ∀ (s : ByteArray) (w : World), Below N0 w0 w → s.size ≤ 281474976710656 → Lib.parseIntB 64 s.data.toList = Go.Lib.NumEnd.«syntax» →
      Calls P f #[.string s, .int .i64 10, .int .i64 64] w fun e w' => ∃ N, e = .returned (.tuple #[.int .i64 0, .iface ti (.pointer (some ⟨N, 0, none⟩))]) ∧ Below w.heap.size w w')
    (hra : ∀ N0 w0, I N0 w0 → ∀ (s : ByteArray) (w : World), Below N0 w0 w → s.size ≤ 281474976710656 → Lib.parseIntB 64 s.data.toList = .range →
      Calls P f #[.string s, .int .i64 10, .int .i64 64] w fun e w' => ∃ N, e = .returned (.tuple #[.int .i64 (Lib.intSat 64 s.data.toList), .iface ti (.pointer (some ⟨N, 0, none⟩))]) ∧ Below w.heap.size w w') :
    PrimOk P I f (fun vs h => (pParse ti vs).map fun r => (r, none)) := by
  refine primOk_flat henter fun vs r hr N0 w0 g us w hI hb hlen hrel => ?_
  unfold pParse at hr
  split at hr
  · split at hr
    · rename_i s hn
      obtain ⟨u, v, q, rfl, h1, h2, h3⟩ := args_three hlen hrel
      cases rv_str' h1
      cases rv_int' h2
      cases rv_int' h3
      have hn' : (⟨s.toArray⟩ : ByteArray).size ≤ 281474976710656 := show s.toArray.size ≤ _ by simpa using hn
      split at hr
      · rename_i v hv
        cases hr
        exact (hok ⟨s.toArray⟩ v w hn' (by simpa using hv)).mono fun e w' ⟨h1, h2⟩ => ⟨_, h1, h2, fun g w => rv_tup2 (.int _ _) .nilif⟩
      · rename_i hv
        cases hr
        exact (hsy N0 w0 hI ⟨s.toArray⟩ w hb hn' (by simpa using hv)).mono fun e w' ⟨N, h1, h2⟩ => ⟨_, h1, h2, fun g w => rv_tup2 (.int _ _) (.iface _ _ _ (.undef _ (by simp)))⟩
      · rename_i hv
        cases hr
        exact (hra N0 w0 hI ⟨s.toArray⟩ w hb hn' (by simpa using hv)).mono fun e w' ⟨N, h1, h2⟩ => ⟨_, h1, h2, fun g w => rv_tup2 (.int _ _) (.iface _ _ _ (.undef _ (by simp)))⟩
    · cases hr
  · cases hr
end
end Go.Am
