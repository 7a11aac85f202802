/- The walk of the law ClockNil: its run, reckoned. -/
import Derived.Test.YtjhejbajkkehjaaGreatSxLoad
set_option maxRecDepth 20000
namespace Go.SX.Y
open Go.Proofs Go.RowKit
theorem clockNil_run (a0 : Int) : (SX.runN (std noW) tt ffL stopL 400).1 4 [.iv .u64 a0] [] isTrue = (S.bl true = S.bl true) := by kernel_rfl
theorem clockNil_walk (a0 : Int) (w : World) : Calls Tryz.prog 4 #[.int .u64 a0] w fun e w' => e = .returned (.bool true) ∧ Below w.heap.size w w' :=
  run_calls tok (by kernel_rfl) ffLok stopL_ok (fi := fi4) rfl ((clockNil_run a0).symm ▸ rfl) [.int .u64 a0] (oks_cons (by simp only [S.ok]) (oks_nil)) w
end Go.SX.Y
