/- The abstract machine's code is what the loaded program compiles to, function by function: by the kernel. Printed by wip/mktable.py. -/
import Derived.Test.YtlmfmjmpfcaliaaCode
import Derived.Test.YtlmfmjmpfcaliaaAm20
import Derived.Test.YtlmfmjmpfcaliaaProg
import Derived.KernelRfl
namespace Go.Am.Ytlmfmjmpfcaliaa
open Go.Proofs
set_option maxRecDepth 100000
theorem C_2 : cFn Try.prog {} Try.f2 = some F2 := by kernel_rfl
theorem C_3 : cFn Try.prog {} Try.f3 = some F3 := by kernel_rfl
theorem C_4 : cFn Try.prog { boxes := [(7, 2)] } Try.f4 = some F4 := by kernel_rfl
theorem C_5 : cFn Try.prog {} Try.f5 = some F5 := by kernel_rfl
theorem C_6 : cFn Try.prog {} Try.f6 = some F6 := by kernel_rfl
theorem C_7 : cFn Try.prog {} Try.f7 = some F7 := by kernel_rfl
theorem C_8 : cFn Try.prog {} Try.f8 = some F8 := by kernel_rfl
theorem C_9 : cFn Try.prog { keep := true } Try.f9 = some F9 := by kernel_rfl
theorem C_10 : cFn Try.prog {} Try.f10 = some F10 := by kernel_rfl
theorem C_11 : cFn Try.prog {} Try.f11 = some F11 := by kernel_rfl
theorem C_12 : cFn Try.prog {} Try.f12 = some F12 := by kernel_rfl
theorem C_13 : cFn Try.prog {} Try.f13 = some F13 := by kernel_rfl
theorem C_14 : cFn Try.prog {} Try.f14 = some F14 := by kernel_rfl
theorem C_15 : cFn Try.prog {} Try.f15 = some F15 := by kernel_rfl
theorem C_16 : cFn Try.prog {} Try.f16 = some F16 := by kernel_rfl
theorem C_17 : cFn Try.prog {} Try.f17 = some F17 := by kernel_rfl
theorem C_18 : cFn Try.prog {} Try.f18 = some F18 := by kernel_rfl
theorem C_19 : cFn Try.prog {} Try.f19 = some F19 := by kernel_rfl
theorem C_20 : cFn Try.prog {} Try.f20 = some F20 := by kernel_rfl
theorem C_21 : cFn Try.prog {} Try.f21 = some F21 := by kernel_rfl
theorem C_22 : cFn Try.prog {} Try.f22 = some F22 := by kernel_rfl
theorem C_23 : cFn Try.prog {} Try.f23 = some F23 := by kernel_rfl
theorem C_24 : cFn Try.prog {} Try.f24 = some F24 := by kernel_rfl
theorem C_25 : cFn Try.prog {} Try.f25 = some F25 := by kernel_rfl
theorem C_26 : cFn Try.prog {} Try.f26 = some F26 := by kernel_rfl
theorem C_27 : cFn Try.prog {} Try.f27 = some F27 := by kernel_rfl
theorem C_28 : cFn Try.prog {} Try.f28 = some F28 := by kernel_rfl
theorem C_29 : cFn Try.prog {} Try.f29 = some F29 := by kernel_rfl
theorem C_30 : cFn Try.prog {} Try.f30 = some F30 := by kernel_rfl
theorem C_31 : cFn Try.prog {} Try.f31 = some F31 := by kernel_rfl
theorem C_32 : cFn Try.prog {} Try.f32 = some F32 := by kernel_rfl
theorem C_33 : cFn Try.prog {} Try.f33 = some F33 := by kernel_rfl
theorem C_34 : cFn Try.prog {} Try.f34 = some F34 := by kernel_rfl
theorem C_35 : cFn Try.prog {} Try.f35 = some F35 := by kernel_rfl
theorem C_36 : cFn Try.prog {} Try.f36 = some F36 := by kernel_rfl
theorem C_37 : cFn Try.prog {} Try.f37 = some F37 := by kernel_rfl
theorem C_38 : cFn Try.prog {} Try.f38 = some F38 := by kernel_rfl
theorem C_39 : cFn Try.prog {} Try.f39 = some F39 := by kernel_rfl
theorem C_40 : cFn Try.prog {} Try.f40 = some F40 := by kernel_rfl
theorem C_41 : cFn Try.prog {} Try.f41 = some F41 := by kernel_rfl
theorem C_42 : cFn Try.prog {} Try.f42 = some F42 := by kernel_rfl
theorem C_43 : cFn Try.prog {} Try.f43 = some F43 := by kernel_rfl
theorem C_44 : cFn Try.prog {} Try.f44 = some F44 := by kernel_rfl
theorem C_45 : cFn Try.prog {} Try.f45 = some F45 := by kernel_rfl
theorem C_46 : cFn Try.prog {} Try.f46 = some F46 := by kernel_rfl
theorem C_47 : cFn Try.prog {} Try.f47 = some F47 := by kernel_rfl
theorem C_48 : cFn Try.prog {} Try.f48 = some F48 := by kernel_rfl
theorem tableOk : TableOk Try.prog T := by
  intro f it h
  unfold T at h
  split at h
  · cases h; exact ⟨{}, Try.f2, Try.func2, C_2⟩
  · cases h; exact ⟨{}, Try.f3, Try.func3, C_3⟩
  · cases h; exact ⟨{ boxes := [(7, 2)] }, Try.f4, Try.func4, C_4⟩
  · cases h; exact ⟨{}, Try.f5, Try.func5, C_5⟩
  · cases h; exact ⟨{}, Try.f6, Try.func6, C_6⟩
  · cases h; exact ⟨{}, Try.f7, Try.func7, C_7⟩
  · cases h; exact ⟨{}, Try.f8, Try.func8, C_8⟩
  · cases h; exact ⟨{ keep := true }, Try.f9, Try.func9, C_9⟩
  · cases h; exact ⟨{}, Try.f10, Try.func10, C_10⟩
  · cases h; exact ⟨{}, Try.f11, Try.func11, C_11⟩
  · cases h; exact ⟨{}, Try.f12, Try.func12, C_12⟩
  · cases h; exact ⟨{}, Try.f13, Try.func13, C_13⟩
  · cases h; exact ⟨{}, Try.f14, Try.func14, C_14⟩
  · cases h; exact ⟨{}, Try.f15, Try.func15, C_15⟩
  · cases h; exact ⟨{}, Try.f16, Try.func16, C_16⟩
  · cases h; exact ⟨{}, Try.f17, Try.func17, C_17⟩
  · cases h; exact ⟨{}, Try.f18, Try.func18, C_18⟩
  · cases h; exact ⟨{}, Try.f19, Try.func19, C_19⟩
  · cases h; exact ⟨{}, Try.f20, Try.func20, C_20⟩
  · cases h; exact ⟨{}, Try.f21, Try.func21, C_21⟩
  · cases h; exact ⟨{}, Try.f22, Try.func22, C_22⟩
  · cases h; exact ⟨{}, Try.f23, Try.func23, C_23⟩
  · cases h; exact ⟨{}, Try.f24, Try.func24, C_24⟩
  · cases h; exact ⟨{}, Try.f25, Try.func25, C_25⟩
  · cases h; exact ⟨{}, Try.f26, Try.func26, C_26⟩
  · cases h; exact ⟨{}, Try.f27, Try.func27, C_27⟩
  · cases h; exact ⟨{}, Try.f28, Try.func28, C_28⟩
  · cases h; exact ⟨{}, Try.f29, Try.func29, C_29⟩
  · cases h; exact ⟨{}, Try.f30, Try.func30, C_30⟩
  · cases h; exact ⟨{}, Try.f31, Try.func31, C_31⟩
  · cases h; exact ⟨{}, Try.f32, Try.func32, C_32⟩
  · cases h; exact ⟨{}, Try.f33, Try.func33, C_33⟩
  · cases h; exact ⟨{}, Try.f34, Try.func34, C_34⟩
  · cases h; exact ⟨{}, Try.f35, Try.func35, C_35⟩
  · cases h; exact ⟨{}, Try.f36, Try.func36, C_36⟩
  · cases h; exact ⟨{}, Try.f37, Try.func37, C_37⟩
  · cases h; exact ⟨{}, Try.f38, Try.func38, C_38⟩
  · cases h; exact ⟨{}, Try.f39, Try.func39, C_39⟩
  · cases h; exact ⟨{}, Try.f40, Try.func40, C_40⟩
  · cases h; exact ⟨{}, Try.f41, Try.func41, C_41⟩
  · cases h; exact ⟨{}, Try.f42, Try.func42, C_42⟩
  · cases h; exact ⟨{}, Try.f43, Try.func43, C_43⟩
  · cases h; exact ⟨{}, Try.f44, Try.func44, C_44⟩
  · cases h; exact ⟨{}, Try.f45, Try.func45, C_45⟩
  · cases h; exact ⟨{}, Try.f46, Try.func46, C_46⟩
  · cases h; exact ⟨{}, Try.f47, Try.func47, C_47⟩
  · cases h; exact ⟨{}, Try.f48, Try.func48, C_48⟩
  · cases h
end Go.Am.Ytlmfmjmpfcaliaa
