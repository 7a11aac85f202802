/- The walk of the law ShotNil: its run, reckoned. -/
import Derived.Test.YtjhejbajkkehjaaGreatSXT
import Derived.Test.YtjhejbajkkehjaaGreatSX16
set_option maxRecDepth 20000
namespace Go.SX.Y
open Go.Proofs Go.RowKit
theorem shotNil_run (d : Int) : (SX.runN (std noW) tt ffa noStop 60).1 3 [.iv .u64 d] [] isTrue = (S.bl true = S.bl true) := by kernel_rfl
theorem shotNil_walk (d : Int) (w : World) : Calls Tryz.prog 3 #[.int .u64 d] w fun e w' => e = .returned (.bool true) ∧ Below w.heap.size w w' :=
  run_calls tok (by kernel_rfl) ffaok noStop_ok (fi := fi3) rfl ((shotNil_run d).symm ▸ rfl) [.int .u64 d] (oks_cons (by simp only [S.ok]) oks_nil) w
end Go.SX.Y
