/- What the arguments of these statements are, read as data. By the session's AI agent. -/
import Derived.Test.YtlmfmjmpfcaliaaS5
import Derived.Test.YtlmfmjmpfcaliaaAm22
import Derived.Test.YtlmfmjmpfcaliaaProg
import Derived.KernelRfl
namespace Go.Am.Ytlmfmjmpfcaliaa
open Go.Proofs
set_option maxRecDepth 100000
set_option linter.unusedSimpArgs false
theorem sh_strs {cs : List PV} (h : Sh Try.prog 27 cs) : ∃ p, cs = [plV p] ∧ ∀ l ∈ pls p, l.length ≤ reachBytes := by
  have c9 : Try.prog.cellsOf 9 = 1 := by kernel_rfl
  rcases Sh.inv_slice Try.underlying27 h with rfl | ⟨rows, rfl, hr, _⟩
  · exact ⟨none, rfl, fun l hl => by simp [pls] at hl⟩
  · obtain ⟨ss, hs, hq⟩ := exists_map (fun l : List UInt8 => [PV.str l]) (fun l => l.length ≤ reachBytes) rows (fun r hm => by
      obtain ⟨l, hl, hb⟩ := Sh.inv_str Try.underlying9 (hr r hm).1
      exact ⟨l, hl, hb⟩)
    refine ⟨some ss, ?_, hq⟩
    subst hs
    rw [c9]
    show _ = [PV.sl .no 1 (ss.map .str)]
    rw [List.map_map]
    have : (rowV Try.prog 9 ∘ fun l : List UInt8 => [PV.str l]) = PV.str := by
      funext l
      exact rowV_str Try.underlying9 _
    rw [this]
theorem one_of_take {cs : List PV} {i : Nat} {x : PV} (h : (cs.drop i).take 1 = [x]) : cs[i]? = some x := by
  have : ((cs.drop i).take 1)[0]? = some x := by rw [h]; rfl
  simpa using this
theorem sh_op {cs : List PV} (h : Sh Try.prog 32 cs) : ∃ o, cs = opC o := by
  have c32 : Try.prog.cellsOf 32 = 6 := by kernel_rfl
  have c3 : Try.prog.cellsOf 3 = 1 := by kernel_rfl
  have c4 : Try.prog.cellsOf 4 = 1 := by kernel_rfl
  have c2 : Try.prog.cellsOf 2 = 1 := by kernel_rfl
  have c27 : Try.prog.cellsOf 27 = 1 := by kernel_rfl
  obtain ⟨hl, hf⟩ := Sh.inv_struct Try.underlying32 h
  rw [c32] at hl
  obtain ⟨n0, e0, _⟩ := Sh.inv_int Try.underlying3 (show Sh Try.prog 3 ((cs.drop 0).take (Try.prog.cellsOf 3)) from hf 0 _ rfl)
  obtain ⟨n1, e1, _⟩ := Sh.inv_int Try.underlying3 (show Sh Try.prog 3 ((cs.drop 1).take (Try.prog.cellsOf 3)) from hf 1 _ rfl)
  obtain ⟨b2, e2⟩ := Sh.inv_bool Try.underlying4 (show Sh Try.prog 4 ((cs.drop 2).take (Try.prog.cellsOf 4)) from hf 2 _ rfl)
  obtain ⟨n3, e3, _⟩ := Sh.inv_int Try.underlying2 (show Sh Try.prog 2 ((cs.drop 3).take (Try.prog.cellsOf 2)) from hf 3 _ rfl)
  obtain ⟨n4, e4, _⟩ := Sh.inv_int Try.underlying2 (show Sh Try.prog 2 ((cs.drop 4).take (Try.prog.cellsOf 2)) from hf 4 _ rfl)
  obtain ⟨p5, e5, _⟩ := sh_strs (show Sh Try.prog 27 ((cs.drop 5).take (Try.prog.cellsOf 27)) from hf 5 _ rfl)
  rw [c3] at e0 e1
  rw [c4] at e2
  rw [c2] at e3 e4
  rw [c27] at e5
  refine ⟨⟨n0, n1, b2, n3, n4, p5⟩, ?_⟩
  have g0 := one_of_take e0
  have g1 := one_of_take e1
  have g2 := one_of_take e2
  have g3 := one_of_take e3
  have g4 := one_of_take e4
  have g5 := one_of_take e5
  apply List.ext_getElem?
  intro i
  rcases Nat.lt_or_ge i 6 with hi | hi
  · obtain rfl | rfl | rfl | rfl | rfl | rfl : i = 0 ∨ i = 1 ∨ i = 2 ∨ i = 3 ∨ i = 4 ∨ i = 5 := by omega
    · exact g0
    · exact g1
    · exact g2
    · exact g3
    · exact g4
    · exact g5
  · rw [List.getElem?_eq_none (by omega), List.getElem?_eq_none (by simp [opC]; omega)]
theorem sh_ops {x : PV} (h : Sh Try.prog 22 [x]) : ∃ ops, OpsArg x ops ∧ ops.length ≤ maxLen := by
  have c32 : Try.prog.cellsOf 32 = 6 := by kernel_rfl
  rcases Sh.inv_slice Try.underlying22 h with hx | ⟨rows, hx, hr, hn, _⟩
  · cases hx
    exact ⟨[], .nil, Nat.zero_le _⟩
  · obtain ⟨ops, hs, _⟩ := exists_map opC (fun _ => True) rows (fun r hm => by
      obtain ⟨o, ho⟩ := sh_op (hr r hm).1
      exact ⟨o, ho, trivial⟩)
    subst hs
    cases hx
    refine ⟨ops, ?_, by simpa using hn⟩
    rw [c32, List.map_map]
    have : (rowV Try.prog 32 ∘ opC) = opV := by
      funext o
      show rowV Try.prog 32 (opC o) = opV o
      rw [rowV_struct Try.underlying32]
      rfl
    rw [this]
    exact .sl ops
end Go.Am.Ytlmfmjmpfcaliaa
