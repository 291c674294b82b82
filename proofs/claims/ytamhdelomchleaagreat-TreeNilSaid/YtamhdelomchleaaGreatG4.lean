/- The calls of block.Blocks are as they are told. -/
import Derived.Test.YtamhdelomchleaaGreatF3
import Derived.KernelRfl
namespace Go.Proofs.YtamhdelomchleaaGreat
open Go.IM
theorem em12_sure : em12.sure T0 300 59 = true := by kernel_rfl
theorem em13_sure : em13.sure T0 300 59 = true := by kernel_rfl
theorem em14_sure : em14.sure T0 300 59 = true := by kernel_rfl
end Go.Proofs.YtamhdelomchleaaGreat
