/- The calls of block.Blocks are as they are told. -/
import Derived.Test.YtamhdelomchleaaGreatF3
import Derived.KernelRfl
namespace Go.Proofs.YtamhdelomchleaaGreat
open Go.IM
theorem em6_sure : em6.sure T0 300 59 = true := by kernel_rfl
theorem em7_sure : em7.sure T0 300 59 = true := by kernel_rfl
theorem em8_sure : em8.sure T0 300 59 = true := by kernel_rfl
end Go.Proofs.YtamhdelomchleaaGreat
