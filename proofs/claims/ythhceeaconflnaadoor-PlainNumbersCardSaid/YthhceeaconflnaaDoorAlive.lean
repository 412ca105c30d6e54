/- The document's examples: the machine runs them.
   By the session's AI agent. -/
import Derived.Test.YthhceeaconflnaaDoorCode
import Derived.KernelRfl
namespace Go.Am.YthhceeaconflnaaDoor
set_option maxRecDepth 100000
theorem alive_run : call T 400 0 9 [] [] = some (.bool true, []) := by kernel_rfl
end Go.Am.YthhceeaconflnaaDoor
