/- The calls of block.Blocks are as they are told. -/
import Derived.Test.YtamhdelomchleaaGreatF3
import Derived.KernelRfl
namespace Go.Proofs.YtamhdelomchleaaGreat
open Go.IM
theorem em9_sure : em9.sure T0 300 59 = true := by kernel_rfl
theorem em10_sure : em10.sure T0 300 59 = true := by kernel_rfl
theorem em11_sure : em11.sure T0 300 59 = true := by kernel_rfl
end Go.Proofs.YtamhdelomchleaaGreat
