/- A text builder's check and its text, at this program's numbers: the walks, and that they are the machine's.
   By the session's AI agent. -/
import Derived.Test.YthhceeaconflnaaDoorAmB
import Derived.Test.YthhceeaconflnaaDoorProg
import Derived.WalkKit
import Derived.ProofKit
import Derived.KernelRfl
import Derived.Laws.Externs
namespace Go.Proofs.YthhceeaconflnaaDoor
open Go Go.Proofs
set_option linter.unusedVariables false
set_option maxHeartbeats 1000000 in
set_option maxRecDepth 100000 in
theorem copyCheck_used (b : Nat) (w : World) (h0 : w.cell? ⟨b, 0, none⟩ = some (.pointer (some ⟨b, 0, none⟩))) :
    Calls Tryd.prog 43 #[.pointer (some ⟨b, 0, none⟩)] w fun e w' => e = .returned (.tuple #[]) ∧ w' = w := by
  have t72 := Tryd.underlying62; have a72 := Tryd.isAgg62; have z72 := Tryd.sizeOf62; have v72 := Tryd.zeroValue62; have u72 := run_underlying Tryd.underlying62
  have t70 := Tryd.underlying60; have a70 := Tryd.isAgg60; have z70 := Tryd.sizeOf60; have v70 := Tryd.zeroValue60; have u70 := run_underlying Tryd.underlying60
  go_enter Tryd.func43, Tryd.ntmps43
  go_wp2
  rw [Lib.run_neq_ptr_same w _ Tryd.underlying60 Tryd.type62]
  go_wp2
  go_end0
  exact ⟨rfl, rfl⟩

set_option maxHeartbeats 1000000 in
set_option maxRecDepth 100000 in
theorem copyCheck_fresh (b : Nat) (w : World) (h0 : w.cell? ⟨b, 0, none⟩ = some (.pointer none)) (hsh : w.shape? b = some (62, 2)) (hfz : w.frozen? ⟨b, 0, none⟩ = false) :
    Calls Tryd.prog 43 #[.pointer (some ⟨b, 0, none⟩)] w fun e w' => e = .returned (.tuple #[]) ∧ w' = w.setCell ⟨b, 0, none⟩ (.pointer (some ⟨b, 0, none⟩)) := by
  have t72 := Tryd.underlying62; have a72 := Tryd.isAgg62; have z72 := Tryd.sizeOf62; have v72 := Tryd.zeroValue62; have u72 := run_underlying Tryd.underlying62
  have t70 := Tryd.underlying60; have a70 := Tryd.isAgg60; have z70 := Tryd.sizeOf60; have v70 := Tryd.zeroValue60; have u70 := run_underlying Tryd.underlying60
  have t164 := Tryd.underlying89; have u164 := run_underlying Tryd.underlying89
  go_enter Tryd.func43, Tryd.ntmps43
  go_wp2
  rw [Lib.run_to_unsafe w ⟨b, 0, none⟩ Tryd.underlying60 Tryd.underlying89 Tryd.type62 (by decide) hsh (Nat.zero_lt_succ 1)]
  simp only [Result.andThen]
  rw [Oper.upon_value]
  go_wp2
  rw [run_callFunc_extern Tryd.func51 (by kernel_rfl) (by kernel_rfl) (by kernel_rfl) (e := Extern.AbiNoEscape.same) (by kernel_rfl)]
  rw [Lib.run_noEscape]
  simp only [Result.andThen]
  rw [Oper.upon_value]
  go_wp2
  rw [Lib.run_from_unsafe w ⟨b, 0, none⟩ Tryd.underlying89 Tryd.underlying60 Tryd.type62 hsh (by kernel_rfl)]
  simp only [Result.andThen]
  rw [Oper.upon_value]
  go_wp2
  go_end0
  exact ⟨rfl, rfl⟩

set_option maxHeartbeats 1000000 in
set_option maxRecDepth 100000 in
theorem string_row (b c cap cells : Nat) (l : List UInt8) (w : World) (h1 : w.cell? ⟨b, 1, none⟩ = some (.slice (some ⟨c, 0, none⟩) l.length cap)) (h0 : l ≠ []) (hc : l.length ≤ cap)
    (hsh : w.shape? c = some (5, cells)) (hn : l.length ≤ cells) (hlim : l.length ≤ 17179869184) (hcell : ∀ j x, l[j]? = some x → w.cell? ((⟨c, 0, none⟩ : Addr).add j) = some (.int .u8 x.toNat)) :
    Calls Tryd.prog 33 #[.pointer (some ⟨b, 0, none⟩)] w fun e w' => e = .returned (.string ⟨l.toArray⟩) ∧ w' = w.drew.freeze ⟨c, 0, none⟩ l.length := by
  have hl0 : l.length ≠ 0 := by simpa using h0
  have c1 : w.drew.cell? ⟨b, 1, none⟩ = some (.slice (some ⟨c, 0, none⟩) l.length cap) := h1
  have hSD : (Builtin.unsafeSliceData_ #[22] 74 #[.slice (some ⟨c, 0, none⟩) l.length cap]).run Tryd.prog w.drew = .ok (.pointer (some ⟨c, 0, none⟩)) w.drew :=
    Lib.run_unsafeSliceData_row _ _ _ _ _ _ (by omega)
  have hUS : (Builtin.unsafeString_ #[74, 3] 9 #[.pointer (some ⟨c, 0, none⟩), .int .i64 l.length]).run Tryd.prog w.drew = .ok (.string ⟨l.toArray⟩) (w.drew.freeze ⟨c, 0, none⟩ l.length) :=
    Lib.run_unsafeString_row w.drew 74 3 9 5 Tryd.underlying74 (by kernel_rfl) c cells hsh l h0 hn (by omega) hcell
  have mixed : Tryd.prog.follows .mixedOrders = true := by kernel_rfl
  go_enter Tryd.func33, Tryd.ntmps33
  go_wp2
  go_region
  all_goals (go_wp2; go_ret; exact ⟨rfl, rfl⟩)

set_option maxHeartbeats 1000000 in
set_option maxRecDepth 100000 in
theorem string_nil (b : Nat) (w : World) (h1 : w.cell? ⟨b, 1, none⟩ = some (.slice none 0 0)) :
    Calls Tryd.prog 33 #[.pointer (some ⟨b, 0, none⟩)] w fun e w' => e = .returned (.string ⟨#[]⟩) ∧ w' = w.drew := by
  have c1 : w.drew.cell? ⟨b, 1, none⟩ = some (.slice none 0 0) := h1
  have hSD : (Builtin.unsafeSliceData_ #[22] 74 #[.slice none 0 0]).run Tryd.prog w.drew = .ok (.pointer none) w.drew := Lib.run_unsafeSliceData_nil _ _ _ _ _
  have hUS : (Builtin.unsafeString_ #[74, 3] 9 #[.pointer none, .int .i64 0]).run Tryd.prog w.drew = .ok (.string ByteArray.empty) w.drew := Lib.run_unsafeString_none _ _ _ _ _
  have mixed : Tryd.prog.follows .mixedOrders = true := by kernel_rfl
  go_enter Tryd.func33, Tryd.ntmps33
  go_wp2
  go_region
  all_goals (go_wp2; go_ret; exact ⟨rfl, rfl⟩)

open Go.Am in
theorem prim_copyCheck {I : Nat → World → Prop} : PrimOk Tryd.prog I 43 (pCopyCheck 62) := primOk_copyCheck (Am.enters_of Tryd.func43 (by kernel_rfl) rfl) copyCheck_used copyCheck_fresh
open Go.Am in
theorem prim_string {I : Nat → World → Prop} : PrimOk Tryd.prog I 33 (pString 5) := primOk_string (Am.enters_of Tryd.func33 (by kernel_rfl) rfl) string_nil string_row
end Go.Proofs.YthhceeaconflnaaDoor
