/- RegRenews: the loaded program returns true, and writes into nothing that was there. By the session's AI agent. -/
import Derived.Test.YtlmfmjmpfcaliaaS14
import Derived.Test.YtlmfmjmpfcaliaaS9
import Derived.Test.YtlmfmjmpfcaliaaTb
namespace Go.Am.Ytlmfmjmpfcaliaa
open Go.Proofs
open Go.RowKit (Below)
theorem sh_strs2 {cs : List PV} (h : Sh Try.prog 27 cs) : ∃ p, cs = [plV p] ∧ (∀ l ∈ pls p, l.length ≤ reachBytes) ∧ (pls p).length ≤ maxLen := by
  have c9 : Try.prog.cellsOf 9 = 1 := by kernel_rfl
  rcases Sh.inv_slice Try.underlying27 h with rfl | ⟨rows, rfl, hr, hn, _⟩
  · exact ⟨none, rfl, (fun l hl => by simp [pls] at hl), Nat.zero_le _⟩
  · obtain ⟨ss, hs, hq⟩ := exists_map (fun l : List UInt8 => [PV.str l]) (fun l => l.length ≤ reachBytes) rows (fun r hm => by
      obtain ⟨l, hl, hb⟩ := Sh.inv_str Try.underlying9 (hr r hm).1
      exact ⟨l, hl, hb⟩)
    refine ⟨some ss, ?_, hq, by rw [hs] at hn; simpa [pls] using hn⟩
    subst hs
    rw [c9]
    show _ = [PV.sl .no 1 (ss.map .str)]
    rw [List.map_map]
    have : (rowV Try.prog 9 ∘ fun l : List UInt8 => [PV.str l]) = PV.str := by
      funext l
      exact rowV_str Try.underlying9 _
    rw [this]
theorem rv_args4 {w : World} {x y z t : PV} {v u p q : Value} (h1 : RV w.heap.size ⟨id, 0, fun _ => none⟩ w x v) (h2 : RV w.heap.size ⟨id, 0, fun _ => none⟩ w y u)
    (h3 : RV w.heap.size ⟨id, 0, fun _ => none⟩ w z p) (h4 : RV w.heap.size ⟨id, 0, fun _ => none⟩ w t q) :
    ∀ (j : Nat) s, [x, y, z, t][j]? = some s → RV w.heap.size ⟨id, 0, fun _ => none⟩ w s ((#[v, u, p, q] : Array Value).getD j Go.undef) := by
  intro j s hs
  match j with
  | 0 => simp at hs; subst hs; exact h1
  | 1 => simp at hs; subst hs; exact h2
  | 2 => simp at hs; subst hs; exact h3
  | 3 => simp at hs; subst hs; exact h4
  | j + 4 => simp at hs
theorem regRenews_walk (w : World) {x y z t : PV} {v u p q : Value} (h1 : RV w.heap.size ⟨id, 0, fun _ => none⟩ w x v) (s1 : Sh Try.prog 2 [x]) (h2 : RV w.heap.size ⟨id, 0, fun _ => none⟩ w y u) (s2 : Sh Try.prog 3 [y])
    (h3 : RV w.heap.size ⟨id, 0, fun _ => none⟩ w z p) (s3 : Sh Try.prog 27 [z]) (h4 : RV w.heap.size ⟨id, 0, fun _ => none⟩ w t q) (s4 : Sh Try.prog 3 [t]) :
    Calls Try.prog 4 #[v, u, p, q] w fun e w' => e = .returned (.bool true) ∧ Below w.heap.size w w' := by
  obtain ⟨tm, e1, _⟩ := Sh.inv_int Try.underlying2 s1
  obtain ⟨tk, e2, _⟩ := Sh.inv_int Try.underlying3 s2
  obtain ⟨pl, e3, hb, hl⟩ := sh_strs2 s3
  obtain ⟨cd, e4, _⟩ := Sh.inv_int Try.underlying3 s4
  cases e1; cases e2; cases e3; cases e4
  have b1 : ∀ l ∈ pls pl, l.length ≤ 140737488355328 := fun l hm => by
    have := hb l hm
    unfold reachBytes at this
    omega
  have b2 : (pls pl).length ≤ 9223372036854775807 := Nat.le_trans hl (by decide)
  refine (sound tableOk (renews_law tm tk cd pl b1 b2) w #[v, u, p, q] rfl (rv_args4 h1 h2 h3 h4)).mono fun e w' h => ?_
  obtain ⟨u, g', rfl, hu, hb⟩ := h
  cases hu
  exact ⟨rfl, hb⟩
end Go.Am.Ytlmfmjmpfcaliaa
