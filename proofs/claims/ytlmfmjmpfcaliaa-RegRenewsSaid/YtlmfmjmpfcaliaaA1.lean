/- The example in front of every statement (alive) is true: by the kernel, on the abstract machine. By the session's AI agent. -/
import Derived.Test.YtlmfmjmpfcaliaaCode
import Derived.Test.YtlmfmjmpfcaliaaAm3
import Derived.KernelRfl
namespace Go.Am.Ytlmfmjmpfcaliaa
theorem alive_call : call T 60 0 7 [] [] = some (.bool true, []) := by kernel_rfl
theorem alive_spec : CallA T 0 7 [] [] = some (.bool true, []) := CallA_of 60 alive_call
end Go.Am.Ytlmfmjmpfcaliaa
