/- The abstract machine's code is what the loaded program compiles to, function by function: by the kernel. Printed by wip/v2/mkcode.py. -/
import Derived.Test.YthhceeaconflnaaDoorCode
import Derived.Test.YthhceeaconflnaaDoorPrims
import Derived.KernelRfl
namespace Go.Am.YthhceeaconflnaaDoor
open Go.Proofs
set_option maxRecDepth 100000
def gl : Globs := []
theorem C_3 : cFn Tryd.prog gl {} Tryd.f3 = some F3 := by kernel_rfl
theorem C_4 : cFn Tryd.prog gl {} Tryd.f4 = some F4 := by kernel_rfl
theorem C_5 : cFn Tryd.prog gl {} Tryd.f5 = some F5 := by kernel_rfl
theorem C_6 : cFn Tryd.prog gl {} Tryd.f6 = some F6 := by kernel_rfl
theorem C_7 : cFn Tryd.prog gl {} Tryd.f7 = some F7 := by kernel_rfl
theorem C_8 : cFn Tryd.prog gl {} Tryd.f8 = some F8 := by kernel_rfl
theorem C_9 : cFn Tryd.prog gl {} Tryd.f9 = some F9 := by kernel_rfl
theorem C_10 : cFn Tryd.prog gl {} Tryd.f10 = some F10 := by kernel_rfl
theorem C_11 : cFn Tryd.prog gl {} Tryd.f11 = some F11 := by kernel_rfl
theorem C_12 : cFn Tryd.prog gl {} Tryd.f12 = some F12 := by kernel_rfl
theorem C_13 : cFn Tryd.prog gl {} Tryd.f13 = some F13 := by kernel_rfl
theorem C_14 : cFn Tryd.prog gl {} Tryd.f14 = some F14 := by kernel_rfl
theorem C_15 : cFn Tryd.prog gl {} Tryd.f15 = some F15 := by kernel_rfl
theorem C_16 : cFn Tryd.prog gl {} Tryd.f16 = some F16 := by kernel_rfl
theorem C_17 : cFn Tryd.prog gl {} Tryd.f17 = some F17 := by kernel_rfl
theorem C_18 : cFn Tryd.prog gl {} Tryd.f18 = some F18 := by kernel_rfl
theorem C_19 : cFn Tryd.prog gl {} Tryd.f19 = some F19 := by kernel_rfl
theorem C_20 : cFn Tryd.prog gl {} Tryd.f20 = some F20 := by kernel_rfl
theorem C_21 : cFn Tryd.prog gl {} Tryd.f21 = some F21 := by kernel_rfl
theorem C_24 : cFn Tryd.prog gl {} Tryd.f24 = some F24 := by kernel_rfl
theorem C_25 : cFn Tryd.prog gl {} Tryd.f25 = some F25 := by kernel_rfl
theorem C_26 : cFn Tryd.prog gl {} Tryd.f26 = some F26 := by kernel_rfl
theorem C_27 : cFn Tryd.prog gl {} Tryd.f27 = some F27 := by kernel_rfl
theorem C_28 : cFn Tryd.prog gl {} Tryd.f28 = some F28 := by kernel_rfl
theorem C_29 : cFn Tryd.prog gl {} Tryd.f29 = some F29 := by kernel_rfl
theorem C_31 : cFn Tryd.prog gl {} Tryd.f31 = some F31 := by kernel_rfl
theorem C_32 : cFn Tryd.prog gl { keep := true } Tryd.f32 = some F32 := by kernel_rfl
theorem C_36 : cFn Tryd.prog gl {} Tryd.f36 = some F36 := by kernel_rfl
theorem C_37 : cFn Tryd.prog gl { apart := [(12, 3)] } Tryd.f37 = some F37 := by kernel_rfl
theorem C_38 : cFn Tryd.prog gl {} Tryd.f38 = some F38 := by kernel_rfl
theorem C_39 : cFn Tryd.prog gl {} Tryd.f39 = some F39 := by kernel_rfl
theorem C_40 : cFn Tryd.prog gl {} Tryd.f40 = some F40 := by kernel_rfl
theorem C_41 : cFn Tryd.prog gl {} Tryd.f41 = some F41 := by kernel_rfl
theorem C_48 : cFn Tryd.prog gl {} Tryd.f48 = some F48 := by kernel_rfl
theorem tableOk : TableOk Tryd.prog gl Go.Proofs.YthhceeaconflnaaDoor.Facts T := by
  intro f it h
  unfold T at h
  split at h
  · cases h; exact ⟨{}, Tryd.f3, Tryd.func3, C_3⟩
  · cases h; exact ⟨{}, Tryd.f4, Tryd.func4, C_4⟩
  · cases h; exact ⟨{}, Tryd.f5, Tryd.func5, C_5⟩
  · cases h; exact ⟨{}, Tryd.f6, Tryd.func6, C_6⟩
  · cases h; exact ⟨{}, Tryd.f7, Tryd.func7, C_7⟩
  · cases h; exact ⟨{}, Tryd.f8, Tryd.func8, C_8⟩
  · cases h; exact ⟨{}, Tryd.f9, Tryd.func9, C_9⟩
  · cases h; exact ⟨{}, Tryd.f10, Tryd.func10, C_10⟩
  · cases h; exact ⟨{}, Tryd.f11, Tryd.func11, C_11⟩
  · cases h; exact ⟨{}, Tryd.f12, Tryd.func12, C_12⟩
  · cases h; exact ⟨{}, Tryd.f13, Tryd.func13, C_13⟩
  · cases h; exact ⟨{}, Tryd.f14, Tryd.func14, C_14⟩
  · cases h; exact ⟨{}, Tryd.f15, Tryd.func15, C_15⟩
  · cases h; exact ⟨{}, Tryd.f16, Tryd.func16, C_16⟩
  · cases h; exact ⟨{}, Tryd.f17, Tryd.func17, C_17⟩
  · cases h; exact ⟨{}, Tryd.f18, Tryd.func18, C_18⟩
  · cases h; exact ⟨{}, Tryd.f19, Tryd.func19, C_19⟩
  · cases h; exact ⟨{}, Tryd.f20, Tryd.func20, C_20⟩
  · cases h; exact ⟨{}, Tryd.f21, Tryd.func21, C_21⟩
  · cases h; exact Go.Proofs.YthhceeaconflnaaDoor.p_itoa
  · cases h; exact Go.Proofs.YthhceeaconflnaaDoor.p_format
  · cases h; exact ⟨{}, Tryd.f24, Tryd.func24, C_24⟩
  · cases h; exact ⟨{}, Tryd.f25, Tryd.func25, C_25⟩
  · cases h; exact ⟨{}, Tryd.f26, Tryd.func26, C_26⟩
  · cases h; exact ⟨{}, Tryd.f27, Tryd.func27, C_27⟩
  · cases h; exact ⟨{}, Tryd.f28, Tryd.func28, C_28⟩
  · cases h; exact ⟨{}, Tryd.f29, Tryd.func29, C_29⟩
  · cases h; exact Go.Proofs.YthhceeaconflnaaDoor.p_decode
  · cases h; exact ⟨{}, Tryd.f31, Tryd.func31, C_31⟩
  · cases h; exact ⟨{ keep := true }, Tryd.f32, Tryd.func32, C_32⟩
  · cases h; exact Go.Proofs.YthhceeaconflnaaDoor.prim_string
  · cases h; exact ⟨{}, Tryd.f36, Tryd.func36, C_36⟩
  · cases h; exact ⟨{ apart := [(12, 3)] }, Tryd.f37, Tryd.func37, C_37⟩
  · cases h; exact ⟨{}, Tryd.f38, Tryd.func38, C_38⟩
  · cases h; exact ⟨{}, Tryd.f39, Tryd.func39, C_39⟩
  · cases h; exact ⟨{}, Tryd.f40, Tryd.func40, C_40⟩
  · cases h; exact ⟨{}, Tryd.f41, Tryd.func41, C_41⟩
  · cases h; exact Go.Proofs.YthhceeaconflnaaDoor.prim_copyCheck
  · cases h; exact ⟨{}, Tryd.f48, Tryd.func48, C_48⟩
  · cases h; exact Go.Proofs.YthhceeaconflnaaDoor.p_cut
  · cases h; exact Go.Proofs.YthhceeaconflnaaDoor.p_parse
  · cases h; exact Go.Proofs.YthhceeaconflnaaDoor.p_trimRight
  · cases h; exact Go.Proofs.YthhceeaconflnaaDoor.p_indexByte
  · cases h
end Go.Am.YthhceeaconflnaaDoor
