/- The walk of the law TickerNil: its run, reckoned. -/
import Derived.Test.YtjhejbajkkehjaaGreatSxStop2
set_option maxRecDepth 20000
namespace Go.SX.Y
open Go.Proofs Go.RowKit
theorem tickerNil_run (a0 a1 : Int) : (SX.runN (std noW) tt ffB stopB 400).1 8 [.iv .u32 a0, .iv .u32 a1] [] isTrue = (S.bl true = S.bl true) := by kernel_rfl
theorem tickerNil_walk (a0 a1 : Int) (w : World) : Calls Tryz.prog 8 #[.int .u32 a0, .int .u32 a1] w fun e w' => e = .returned (.bool true) ∧ Below w.heap.size w w' :=
  run_calls tok (by kernel_rfl) ffBok stopB_ok (fi := fi8) rfl ((tickerNil_run a0 a1).symm ▸ rfl) [.int .u32 a0, .int .u32 a1] (oks_cons (by simp only [S.ok]) (oks_cons (by simp only [S.ok]) (oks_nil))) w
end Go.SX.Y
