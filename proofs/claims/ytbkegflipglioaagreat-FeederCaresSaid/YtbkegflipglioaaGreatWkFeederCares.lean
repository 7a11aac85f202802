/- A lifted law's walk. -/
import Derived.Test.YtbkegflipglioaaGreatLv
import Derived.Test.YtbkegflipglioaaGreatFdC
set_option maxRecDepth 20000
namespace Go.SX.Y
open Go.SX Go.RowKit Go.Proofs Go.Proofs.YtbkegflipglioaaGreat Lc
theorem feederCares_walk (a0 : Int) (a1 : Int) (a2 : Option Addr) (n2 c2 : Nat) (z2 : List Nat) (a3 : Bool) (a4 : Int) (l0 : 0 ≤ a0) (u0 : a0 < 4294967296) (l1 : 0 ≤ a1) (u1 : a1 < 4294967296) (l4 : 0 ≤ a4) (u4 : a4 < 18446744073709551616) (w : World) (hl : z2.length = n2) (hz : Vec w (.slice a2 n2 c2) n2 (z2.map fun x => .int .u64 (x : Nat))) : Calls Tryz.prog 8 #[.int .u32 a0, .int .u32 a1, .slice a2 n2 c2, .bool a3, .int .u64 a4] w fun e w' => e = .returned (.bool true) ∧ Below w.heap.size w w' := by
  have hyes : ∀ h, yesK (.bv true) h := fun _ => rfl
  obtain ⟨e, H, hv⟩ := win_ok hl hz
  exact lift_callsH (fi := fi8) (by kernel_rfl) (feedCares_sem a0 a1 a3 a4 (rowsN z2) yesK (Fd.feedCares_all2 yesK (rowsN z2) (hyes _) (rowsN_nn z2) a0 a1 a3 a4 l0 l1 l4)) [.int .u32 a0, .int .u32 a1, .slice a2 n2 c2, .bool a3, .int .u64 a4] H (oks_cons (by simp only [S.ok]) (oks_cons (by simp only [S.ok]) (oks_cons hv (oks_cons (by simp only [S.ok]) (oks_cons (by simp only [S.ok]) (oks_nil))))))
end Go.SX.Y
