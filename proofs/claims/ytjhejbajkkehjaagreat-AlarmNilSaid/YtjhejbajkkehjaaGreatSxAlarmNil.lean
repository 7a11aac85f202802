/- The walk of the law AlarmNil: its run, reckoned. -/
import Derived.Test.YtjhejbajkkehjaaGreatSxStop2
set_option maxRecDepth 20000
namespace Go.SX.Y
open Go.Proofs Go.RowKit
theorem alarmNil_run (a0 : Int) : (SX.runN (std noW) tt ffB stopB 400).1 9 [.iv .u64 a0] [] isTrue = (S.bl true = S.bl true) := by kernel_rfl
theorem alarmNil_walk (a0 : Int) (w : World) : Calls Tryz.prog 9 #[.int .u64 a0] w fun e w' => e = .returned (.bool true) ∧ Below w.heap.size w w' :=
  run_calls tok (by kernel_rfl) ffBok stopB_ok (fi := fi9) rfl ((alarmNil_run a0).symm ▸ rfl) [.int .u64 a0] (oks_cons (by simp only [S.ok]) (oks_nil)) w
end Go.SX.Y
