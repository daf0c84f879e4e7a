/- The chapter's example, reckoned by the kernel. -/
import Derived.Test.YtcjfijmbdoiaiaaGreatDoorKvF1
import Derived.Test.YtcjfijmbdoiaiaaGreatDoorKvF2
set_option linter.unusedSimpArgs false
set_option linter.unusedVariables false
namespace Go.Ai

noncomputable def kvF : List (Nat × AFn) := KvFT1 ++ KvFT2
noncomputable def kvS : List (Nat × ASum) := [(160, sumPut), (120, sumTake), (94, sumOn 0), (173, sumStep), (116, sumSync), (244, sumCopy 300), (231, sumRepeat), (63, sum63), (167, sumSortedS 228)]
theorem kvF_ok : FnL Go.Proofs.Tryz.prog kvF := FnL.append _ _ KvFT1_ok KvFT2_ok
theorem kvS_ok : SumL Go.Proofs.Tryz.prog kvS := ⟨okPut, okTake, okOn, okStep, okSync, copy_ok, repeat_ok, ok63, ok167, trivial⟩

/-- The heap when the call begins: the sums' table alone. -/
def kvS0 : AS := ⟨.node (some (.cells crcTab 1 true true none)) .leaf .leaf, 5⟩

theorem kvNil_run (key : List UInt8) : saysTrue (kcall kprims (lookN kvF) (lookN kvS) 100000 100 4 [.str key] kvS0) = true := by kernel_rfl
end Go.Ai
