/- The document's examples: the machine runs them.
   By the session's AI agent. -/
import Derived.Test.YthhceeaconflnaaDoorCode
import Derived.Test.YthhceeaconflnaaDoorAm3
import Derived.KernelRfl
namespace Go.Am.YthhceeaconflnaaDoor
set_option maxRecDepth 100000
theorem alive_run : call T 400 0 9 [] [] = some (.bool true, []) := by kernel_rfl
theorem alive_spec : CallA T (size []) 9 [] [] = some (.bool true, []) := CallA_iff.2 ⟨400, alive_run⟩
end Go.Am.YthhceeaconflnaaDoor
