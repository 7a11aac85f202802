/- script: what is wrong with a head. -/
import Derived.Test.YtdmdnijgjgjmkaaProg
import Derived.Test.YtdmdnijgjgjmkaaVec
set_option maxRecDepth 20000
namespace Go.Proofs.Ytdmdnijgjgjmkaa
open Go.RowKit

/-- What is wrong with a head. -/
def headOk (a b d c r : Int) : Bool := decide (1 ≤ a ∧ a ≤ 8 ∧ 1 ≤ b ∧ b ≤ 8 ∧ d ≠ 0 ∧ 0 ≤ c ∧ c ≤ a - 1 ∧ 1 ≤ r ∧ r ≤ 4096)
def headChk (a b d c r : Int) : Int := if headOk a b d c r then 0 else 5
theorem script_within (n lo hi : Int) (w : World) : Calls Try.prog 53 #[.int .i64 n, .int .i64 lo, .int .i64 hi] w fun e w' => e = .returned (.bool (decide (lo ≤ n ∧ n ≤ hi))) ∧ w' = w := by
  go_enter Try.func53, Try.ntmps53
  by_cases h : lo ≤ n <;> go_wp2_with fail
  all_goals
    go_ret
    refine ⟨?_, rfl⟩
    first | (simp [h]; done) | (simp; omega)

set_option maxHeartbeats 2000000 in
theorem script_check (a b d c r : Int) (w : World) :
    Calls Try.prog 45 #[.agg #[.int .i64 a, .int .i64 b, .int .u32 d, .int .i64 c, .int .i64 r]] w fun e w' => e = .returned (.int .i64 (headChk a b d c r)) ∧ Upd [] w w' := by
  by_cases ha : a = 0
  · subst ha
    have h5 : Held (headChk 0 b d c r = 5) := ⟨if_neg (by simp [headOk])⟩
    go_enter Try.func45, Try.ntmps45
    go_wp2_with (go_at_call 53; refine (script_within _ _ _ _).mono ?_; rintro e w' ⟨rfl, rfl⟩)
    all_goals
      go_ret
      rw [h5.out]
      exact ⟨rfl, by (repeat (first | exact Upd.refl _ _ | refine Upd.drew ?_ | refine Upd.drewN ?_ _ | refine Upd.setCell ?_ _ _ (by simp) | refine Upd.alloc ?_ _))⟩
  · go_enter Try.func45, Try.ntmps45
    go_wp2_with (go_at_call 53; refine (script_within _ _ _ _).mono ?_; rintro e w' ⟨rfl, rfl⟩)
    all_goals
      go_ret
      refine ⟨?_, by (repeat (first | exact Upd.refl _ _ | refine Upd.drew ?_ | refine Upd.drewN ?_ _ | refine Upd.setCell ?_ _ _ (by simp) | refine Upd.alloc ?_ _))⟩

      try simp only [beq_iff_eq, beq_eq_false_iff_ne, ne_eq, Bool.not_eq_true', Bool.not_eq_false', decide_eq_true_eq, decide_eq_false_iff_not] at *
      first
      | (have hc : headOk a b d c r = false := by simp only [headOk, decide_eq_false_iff_not]; omega
         have hd : headChk a b d c r = 5 := by simp [headChk, hc]
         rw [hd]; rfl)
      | (have hc : headOk a b 0 c r = false := by simp only [headOk, decide_eq_false_iff_not]; omega
         have hd : headChk a b 0 c r = 5 := by simp [headChk, hc]
         rw [hd]; rfl)
      | (have hc : headOk a b d c r = true := by simp only [headOk, decide_eq_true_eq]; omega
         have hd : headChk a b d c r = 0 := by simp [headChk, hc]
         rw [hd]; rfl)

end Go.Proofs.Ytdmdnijgjgjmkaa
