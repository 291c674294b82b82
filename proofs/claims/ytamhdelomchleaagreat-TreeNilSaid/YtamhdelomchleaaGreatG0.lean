/- The calls of block.Blocks are as they are told. -/
import Derived.Test.YtamhdelomchleaaGreatF3
import Derived.KernelRfl
namespace Go.Proofs.YtamhdelomchleaaGreat
open Go.IM
theorem em0_sure : em0.sure T0 300 59 = true := by kernel_rfl
theorem em1_sure : em1.sure T0 300 59 = true := by kernel_rfl
theorem em2_sure : em2.sure T0 300 59 = true := by kernel_rfl
end Go.Proofs.YtamhdelomchleaaGreat
