/- The calls of block.Blocks are as they are told. -/
import Derived.Test.YtamhdelomchleaaGreatF3
import Derived.KernelRfl
namespace Go.Proofs.YtamhdelomchleaaGreat
open Go.IM
theorem em3_sure : em3.sure T0 300 59 = true := by kernel_rfl
theorem em4_sure : em4.sure T0 300 59 = true := by kernel_rfl
theorem em5_sure : em5.sure T0 300 59 = true := by kernel_rfl
end Go.Proofs.YtamhdelomchleaaGreat
