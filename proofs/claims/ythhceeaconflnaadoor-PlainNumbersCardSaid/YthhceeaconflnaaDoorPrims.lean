/- The library's functions at this program, as the machine takes them.
   By the session's AI agent. -/
import Derived.Test.YthhceeaconflnaaDoorAmP
import Derived.Test.YthhceeaconflnaaDoorShelf
import Derived.Test.YthhceeaconflnaaDoorBld
import Derived.Lib.AtoiErrMem
import Derived.Lib.AppendIntMem
namespace Go.Proofs.YthhceeaconflnaaDoor
open Go Go.Proofs Go.Am
open Go.RowKit (Below)
set_option linter.unusedVariables false

/-- What is known of the package-level variables when a call begins. -/
structure Facts (N0 : Nat) (w0 : World) : Prop where
  size : 7 < N0
  tab : Lib.TabIs Tryd.prog w0 "internal/strconv.uint64pow10" .u64 Lib.pow10Tab
  utf8 : Lib.Utf8Tabs 0 1 w0
  maxLen : ∃ m, w0.cell? ⟨5, 0, none⟩ = some (.int .i64 m)
  syn : ∃ te pe, w0.cell? ⟨6, 0, none⟩ = some (.iface te pe)
  ran : ∃ te pe, w0.cell? ⟨7, 0, none⟩ = some (.iface te pe)

theorem facts_tab {N0 : Nat} {w0 w : World} (h : Facts N0 w0) (hb : Below N0 w0 w) : Lib.TabIs Tryd.prog w "internal/strconv.uint64pow10" .u64 Lib.pow10Tab :=
  var?_below hb (g := 2) (by kernel_rfl) (by have := h.size; omega) h.tab
theorem facts_cell {N0 : Nat} {w0 w : World} (h : Facts N0 w0) (hb : Below N0 w0 w) {c o : Nat} (hc : c ≤ 7) : w.cell? ⟨c, o, none⟩ = w0.cell? ⟨c, o, none⟩ :=
  below_cell hb (by have := h.size; omega) o
theorem facts_utf8 {N0 : Nat} {w0 w : World} (h : Facts N0 w0) (hb : Below N0 w0 w) : Lib.Utf8Tabs 0 1 w :=
  ⟨fun c hc => by rw [facts_cell h hb (by omega)]; exact h.utf8.1 c hc, fun i hi => by rw [facts_cell h hb (by omega), facts_cell h hb (by omega)]; exact h.utf8.2 i hi⟩

theorem p_itoa : PrimOk Tryd.prog Facts 22 (fun vs h => (pItoa vs).map fun r => (r, none)) :=
  prim_itoa (Am.enters_of Tryd.func22 (by kernel_rfl) rfl) (fun _ _ _ h hb => facts_tab h hb) fun n h0 h1 w ht => (Tryd.strconv_Itoa n h0 h1 w ht).mono fun e w' ⟨h1, k, os, h2⟩ => ⟨h1, h2 ▸ Lib.below_grow _ _ (Nat.le_refl _) _ _⟩
theorem p_format : PrimOk Tryd.prog Facts 23 (fun vs h => (pFormat vs).map fun r => (r, none)) :=
  prim_format (Am.enters_of Tryd.func23 (by kernel_rfl) rfl) (fun _ _ _ h hb => facts_tab h hb) fun n h0 h1 w ht => (Tryd.strconv_FormatInt_10 n h0 h1 w ht).mono fun e w' ⟨h1, k, os, h2⟩ => ⟨h1, h2 ▸ Lib.below_grow _ _ (Nat.le_refl _) _ _⟩
theorem p_indexByte : PrimOk Tryd.prog Facts 58 (fun vs h => (pIndexByte vs).map fun r => (r, none)) :=
  prim_indexByte (Am.enters_of Tryd.func58 (by kernel_rfl) rfl) Tryd.strings_IndexByte
theorem p_trimRight : PrimOk Tryd.prog Facts 57 (fun vs h => (pTrimRight vs).map fun r => (r, none)) :=
  prim_trimRight (Am.enters_of Tryd.func57 (by kernel_rfl) rfl) Tryd.strings_TrimRight_one
theorem p_cut : PrimOk Tryd.prog Facts 49 (fun vs h => (pCut vs).map fun r => (r, none)) :=
  prim_cut (Am.enters_of Tryd.func49 (by kernel_rfl) rfl) fun N0 w0 hI s sep w hb hs => by
    obtain ⟨m, hm⟩ := hI.maxLen
    exact (Tryd.strings_Cut s sep m w hs (by rw [facts_cell hI hb (by omega)]; exact hm)).mono fun e w' ⟨h1, n, h2⟩ => ⟨h1, h2 ▸ below_drewN (Below.refl _ _) n⟩
theorem p_decode : PrimOk Tryd.prog Facts 30 (fun vs h => (pDecode vs).map fun r => (r, none)) :=
  prim_decode (Am.enters_of Tryd.func30 (by kernel_rfl) rfl) (fun _ _ _ h hb => facts_utf8 h hb) Tryd.utf8_DecodeRuneInString
theorem p_parse : PrimOk Tryd.prog Facts 50 (fun vs h => (pParse 111 vs).map fun r => (r, none)) :=
  prim_parse (Am.enters_of Tryd.func50 (by kernel_rfl) rfl)
    (fun s v w hs hv => (Tryd.strconv_ParseInt_10_at64_ok s (by omega) v hv w).mono fun e w' ⟨h1, h2⟩ => ⟨h1, by
      rcases h2 with rfl | ⟨t, rfl⟩
      · exact Below.refl _ _
      · exact Lib.bytesWorld_below _ _ _⟩)
    (fun N0 w0 hI s w hb hs hv => by
      obtain ⟨te, pe, hc⟩ := hI.syn
      exact (Tryd.strconv_ParseInt_10_at64_syntax s hs hv (.iface te pe) w (by rw [facts_cell hI hb (by omega)]; exact hc) (.inr ⟨_, _, rfl⟩)).mono fun e w' ⟨N, h1, _, _, h2⟩ => ⟨N, h1, h2⟩)
    (fun N0 w0 hI s w hb hs hv => by
      obtain ⟨te, pe, hc⟩ := hI.ran
      exact (Tryd.strconv_ParseInt_10_at64_range s hs hv (.iface te pe) w (by rw [facts_cell hI hb (by omega)]; exact hc) (.inr ⟨_, _, rfl⟩)).mono fun e w' ⟨N, h1, _, _, h2⟩ => ⟨N, h1, h2⟩)
end Go.Proofs.YthhceeaconflnaaDoor
