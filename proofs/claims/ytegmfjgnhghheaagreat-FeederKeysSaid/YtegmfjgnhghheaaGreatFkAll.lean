/- FeederKeys: the walk. -/
import Derived.Test.YtegmfjgnhghheaaGreatSxFkPA
import Derived.Test.YtegmfjgnhghheaaGreatSxFkPB
import Derived.Test.YtegmfjgnhghheaaGreatSxFkPC
import Derived.Test.YtegmfjgnhghheaaGreatSxFkPD
import Derived.Test.YtegmfjgnhghheaaGreatSxFkPE
import Derived.Test.YtegmfjgnhghheaaGreatSxFkPF
import Derived.Test.YtegmfjgnhghheaaGreatSxFkPG
import Derived.Test.YtegmfjgnhghheaaGreatSxFkPI
set_option maxRecDepth 20000
namespace Go.SX.Y
open Go.Proofs Go.RowKit
theorem known21_run : (SX.runN (std noW) tt ffB stopB 400).1 12 [] [] isTrue = (S.bl true = S.bl true) := by kernel_rfl
theorem stop21_ok : ∀ f args h K, stopK 12 f args h K → CallSem noW Tryz.prog f args h K :=
  stopK_ok (kn := 12) (n := 400) (fi := fi12) (by kernel_rfl) known21_run
theorem fk_args (q0 q1 q2 : Int) (b : Bool) : oks 1 (fun _ => ⟨0, 0, 0⟩) [.iv .u32 q0, .iv .u32 q1, .iv .u64 q2, .bl b] [.int .u32 q0, .int .u32 q1, .int .u64 q2, .bool b] :=
  oks_cons (by simp only [S.ok]) (oks_cons (by simp only [S.ok]) (oks_cons (by simp only [S.ok]) (oks_cons (by simp only [S.ok]) oks_nil)))
theorem feederKeys_walk (q0 q1 q2 : Int) (b : Bool) (h0 : 0 ≤ q0) (h1 : 0 ≤ q1) (h2 : 0 ≤ q2) (w : World) : Calls Tryz.prog 3 #[.int .u32 q0, .int .u32 q1, .int .u64 q2, .bool b] w fun e w' => e = .returned (.bool true) ∧ Below w.heap.size w w' := by
  have go : ∀ {l : List Bool} {p : Prop}, (SX.runN (std noW) tt (ffN 12) (stopK 12) 400).1 3 [.iv .u32 q0, .iv .u32 q1, .iv .u64 q2, .bl b] [.orc l] isTr = p → p → Calls Tryz.prog 3 #[.int .u32 q0, .int .u32 q1, .int .u64 q2, .bool b] w fun e w' => e = .returned (.bool true) ∧ Below w.heap.size w w' :=
    fun hr hp => orc_calls (ffNok 12) stop21_ok (fi := fi3) (by kernel_rfl) hr hp _ (fk_args q0 q1 q2 b) w
  have t0 : 0 < 2 + q1 % 1000 := by omega
  have c0 : 0 ≤ q0 % (2 + q1 % 1000) := Int.emod_nonneg _ (by omega)
  have w0 : 0 ≤ q2 % (2 + q1 % 1000) := Int.emod_nonneg _ (by omega)
  rcases Int.lt_or_le (q2 % (2 + q1 % 1000)) (q0 % (2 + q1 % 1000)) with hlt | hle
  · by_cases hw : q2 % (2 + q1 % 1000) = 0
    · cases b with
      | false => exact go (FkF_run q0 q1 q2) (FkF_all q0 q1 q2 h0 h1 h2 hw hlt)
      | true => exact go (FkI_run q0 q1 q2) (FkI_all q0 q1 q2 h0 h1 h2 hw hlt)
    · cases b with
      | false => exact go (FkB_run q0 q1 q2) (FkB_all q0 q1 q2 h0 h1 h2 hw hlt)
      | true => exact go (FkD_run q0 q1 q2) (FkD_all q0 q1 q2 h0 h1 h2 hw hlt)
  · by_cases hc : q0 % (2 + q1 % 1000) = 0
    · cases b with
      | false => exact go (FkE_run q0 q1 q2) (FkE_all q0 q1 q2 h0 h1 h2 hc)
      | true => exact go (FkG_run q0 q1 q2) (FkG_all q0 q1 q2 h0 h1 h2 hc)
    · cases b with
      | false => exact go (FkA_run q0 q1 q2) (FkA_all q0 q1 q2 h0 h1 h2 hc hle)
      | true => exact go (FkC_run q0 q1 q2) (FkC_all q0 q1 q2 h0 h1 h2 hc hle)
end Go.SX.Y
