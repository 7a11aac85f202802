/- A lifted law's walk. -/
import Derived.Test.YtbkegflipglioaaGreatLw
import Derived.Test.YtbkegflipglioaaGreatSgC
set_option maxRecDepth 20000
namespace Go.SX.Y
open Go.SX Go.RowKit Go.Proofs Go.Proofs.YtbkegflipglioaaGreat Lc
theorem shotArms_walk (a0 : Int) (a1 : Int) (a2 : Option Addr) (n2 c2 : Nat) (z2 : List Nat) (a3 : Option Addr) (n3 c3 : Nat) (z3 : List Nat) (l0 : -9223372036854775808 ≤ a0) (u0 : a0 < 9223372036854775808) (l1 : -9223372036854775808 ≤ a1) (u1 : a1 < 9223372036854775808) (w : World) (hl2 : z2.length = n2) (hz2 : Vec w (.slice a2 n2 c2) n2 (z2.map fun x => .int .u32 (x : Nat))) (hb2 : ∀ x ∈ z2, (x : Int) < 4294967296) (hl3 : z3.length = n3) (hz3 : Vec w (.slice a3 n3 c3) n3 (z3.map fun x => .int .u64 (x : Nat))) (hb3 : ∀ x ∈ z3, (x : Int) < 18446744073709551616) : Calls Tryz.prog 9 #[.int .i64 a0, .int .i64 a1, .slice a2 n2 c2, .slice a3 n3 c3] w fun e w' => e = .returned (.bool true) ∧ Below w.heap.size w w' := by
  have hyes : ∀ h, yesK (.bv true) h := fun _ => rfl
  obtain ⟨e, H, hv2, hv3⟩ := win_ok2 hl2 hz2 hl3 hz3
  exact lift_callsH (fi := fi9) (by kernel_rfl) (shotArms_sem a0 a1 (rowsN z2) (rowsN z3) yesK (Sg.shotArms_all2 yesK (rowsN z2) (rowsN z3) (hyes _) (rowsN_b (by decide) hb3) a0 a1)) [.int .i64 a0, .int .i64 a1, .slice a2 n2 c2, .slice a3 n3 c3] H (oks_cons (by simp only [S.ok]) (oks_cons (by simp only [S.ok]) (oks_cons hv2 (oks_cons hv3 (oks_nil)))))
end Go.SX.Y
