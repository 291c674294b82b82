/- awake, by the kernel. -/
import Derived.Test.YtamhdelomchleaaGreatF3
import Derived.KernelRfl
namespace Go.Proofs.YtamhdelomchleaaGreat
open Go.IM
/-- It comes to true. -/
def isT : Res Value → Bool
  | .ok v _ _ _ _ => veq 10 v (.bool true)
  | _ => false
theorem awake_run : isT (callK T1 (execK T1 300) 7 [] .nil 0) = true := by kernel_rfl
end Go.Proofs.YtamhdelomchleaaGreat
