/- The texts are the program's. -/
import Derived.Test.YtcjfijmbdoiaiaaGreatDoorProg
import Derived.Test.YtcjfijmbdoiaiaaGreatDoorWk1
set_option linter.unusedSimpArgs false
set_option linter.unusedVariables false
namespace Go.Ai
theorem mix : Go.Proofs.Tryz.prog.follows .mixedOrders = true := by kernel_rfl
theorem fn_field_Put : FnIs Go.Proofs.Tryz.prog 160 A_field_Put := ⟨by kernel_rfl, Go.Proofs.Tryz.f160, Go.Proofs.Tryz.func160, by kernel_rfl⟩
theorem fn_field_Take : FnIs Go.Proofs.Tryz.prog 120 A_field_Take := ⟨by kernel_rfl, Go.Proofs.Tryz.f120, Go.Proofs.Tryz.func120, by kernel_rfl⟩
theorem fn_crc_On : FnIs Go.Proofs.Tryz.prog 94 A_crc_On := ⟨by kernel_rfl, Go.Proofs.Tryz.f94, Go.Proofs.Tryz.func94, by kernel_rfl⟩
theorem fn_dev_Dev_step : FnIs Go.Proofs.Tryz.prog 173 A_dev_Dev_step := ⟨by kernel_rfl, Go.Proofs.Tryz.f173, Go.Proofs.Tryz.func173, by kernel_rfl⟩
end Go.Ai
