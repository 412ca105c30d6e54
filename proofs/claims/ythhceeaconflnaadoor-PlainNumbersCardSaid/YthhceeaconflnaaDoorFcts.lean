/- What a row's list of package-level variables gives.
   By the session's AI agent. -/
import Derived.Test.YthhceeaconflnaaDoorPrims
import Derived.Test.YthhceeaconflnaaDoorRows
import Derived.Lib.LaidTab
import Derived.Lib.LaidU8
import Derived.LaidLaws
import Derived.Stop.LaidErr
namespace Go.Proofs.YthhceeaconflnaaDoor
open Go Go.Proofs Go.Lib
set_option linter.unusedVariables false
set_option maxRecDepth 100000
theorem sentinel_cell {W : World} {n nm : String} {d : DataW Unit} {g : Nat} (hg : Tryd.prog.globalNamed n = some g) (hty : (Tryd.prog.globals[g]?).map (·.type) = some 66) (h : VarReads Tryd.prog W n (.iface nm d)) :
    ∃ te pe, W.cell? ⟨g, 0, none⟩ = some (.iface te pe) := by
  obtain ⟨g', t, cs, fuel, p, h1, h2, h3, h4⟩ := h
  obtain rfl := Option.some.inj (hg.symm.trans h1)
  obtain rfl := Option.some.inj (hty.symm.trans h2)
  have := iface_of_trod Tryd.underlying66 h4
  obtain ⟨_, u, v, hcs, _⟩ := this
  refine ⟨u, v, ?_⟩
  rw [World.var?_cell hg h3 0, ← Array.getElem?_toList, hcs]
  rfl
theorem facts_of {W : World} {l : List (String × DataW Unit)} (h : laidMet Tryd.prog l W) (hs : W.ShapedOpen Tryd.prog) (h1 : ("internal/strconv.uint64pow10", Rows.laid_internal_strconv_uint64pow10) ∈ l)
    (h2 : ("unicode/utf8.acceptRanges", Rows.laid_unicode_utf8_acceptRanges) ∈ l) (h3 : ("unicode/utf8.first", Rows.laid_unicode_utf8_first) ∈ l)
    (h4 : ("strconv.ErrSyntax", Rows.laid_strconv_ErrSyntax) ∈ l) (h5 : ("strconv.ErrRange", Rows.laid_strconv_ErrRange) ∈ l) : Facts W.heap.size W := by
  have e6 := sentinel_cell (g := 6) (by kernel_rfl) (by kernel_rfl) (laidMet.reads h h4)
  have e7 := sentinel_cell (g := 7) (by kernel_rfl) (by kernel_rfl) (laidMet.reads h h5)
  refine ⟨?_, ?_, ?_, Tryd.laysM145.s1_3 W hs, e6, e7⟩
  · obtain ⟨te, pe, hc⟩ := e7
    rcases Nat.lt_or_ge 7 W.heap.size with h' | h'
    · exact h'
    · simp [World.cell?, Array.getElem?_eq_none h'] at hc
  · obtain ⟨g, t, cs, fuel, p, q1, q2, q3, q4⟩ := laidMet.reads h h1
    obtain rfl := Option.some.inj ((show Tryd.prog.globalNamed "internal/strconv.uint64pow10" = some 2 by kernel_rfl).symm.trans q1)
    obtain rfl := Option.some.inj ((show (Tryd.prog.globals[2]?).map (·.type) = some 93 by kernel_rfl).symm.trans q2)
    unfold TabIs
    have q5 : DataW.trod (fun _ => ()) Tryd.prog W 0 (fun _ => true) false fuel 93 cs.toList = some (tabData .u64 pow10Tab, p) := q4
    rw [q3, ← cells_of_tab Tryd.underlying93 Tryd.underlying72 (by kernel_rfl) (by kernel_rfl) q5]
  · exact utf8Tabs_of_reads (ρ := Tryd.lays260_ren) { Tryd.lays260 with } ⟨by kernel_rfl, by kernel_rfl, by kernel_rfl, by kernel_rfl, by kernel_rfl, by kernel_rfl, by kernel_rfl⟩ (laidMet.reads h h3) (laidMet.reads h h2)
end Go.Proofs.YthhceeaconflnaaDoor
