/- A lifted law's walk. -/
import Derived.Test.YtbkegflipglioaaGreatLc
import Derived.Test.YtbkegflipglioaaGreatTgC
set_option maxRecDepth 20000
namespace Go.SX.Y
open Go.SX Go.RowKit Go.Proofs Lc
theorem tickerRings_walk (a0 : Int) (a1 : Int) (a2 : Bool) (a3 : Int) (l0 : 0 ≤ a0) (u0 : a0 < 4294967296) (l1 : 0 ≤ a1) (u1 : a1 < 4294967296) (l3 : -9223372036854775808 ≤ a3) (u3 : a3 < 9223372036854775808) (w : World) : Calls Tryz.prog 6 #[.int .u32 a0, .int .u32 a1, .bool a2, .int .i64 a3] w fun e w' => e = .returned (.bool true) ∧ Below w.heap.size w w' := by
  have hyes : yesK (.bv true) [] := rfl
  exact lift_calls (fi := fi6) (by kernel_rfl) (tickRings_sem a0 a1 a2 a3 yesK (Tg.tickRings_all2 yesK hyes a0 a1 a2 a3 l0 u0 l1)) [.int .u32 a0, .int .u32 a1, .bool a2, .int .i64 a3] (oks_cons (by simp only [S.ok]) (oks_cons (by simp only [S.ok]) (oks_cons (by simp only [S.ok]) (oks_cons (by simp only [S.ok]) (oks_nil))))) w
end Go.SX.Y
