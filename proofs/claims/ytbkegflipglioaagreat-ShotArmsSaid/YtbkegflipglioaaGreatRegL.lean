/- bus.Regions: the walk. -/
import Derived.Test.YtbkegflipglioaaGreatProg
import Derived.Test.YtbkegflipglioaaGreatRegW
import Derived.Maps.RangeRun
import Derived.Maps.AppendAt
import Derived.WalkKit
set_option maxRecDepth 20000
namespace Go.Proofs.YtbkegflipglioaaGreat
open Go.RowKit Go.Sort Go.Lib

set_option maxHeartbeats 2000000 in
theorem regions_ins_nil (fv : Value) (w : World) : Calls Tryz.prog 176 #[.slice none 0 0, .int .i64 0, .int .i64 0, fv] w fun e w' => e = .returned (.tuple #[]) ∧ w' = w := by
  go_enter Tryz.func176, Tryz.ntmps176
  go_wp2
  refine wp_loop_rounds 1 ?_
  rw [rounds_succ]
  go_wp2
  go_end0
  exact ⟨rfl, rfl⟩
set_option maxHeartbeats 2000000 in
theorem regions_pdq_nil (lim : Int) (fv : Value) (w : World) : Calls Tryz.prog 173 #[.slice none 0 0, .int .i64 0, .int .i64 0, .int .i64 lim, fv] w fun e w' => e = .returned (.tuple #[]) ∧ w' = w := by
  go_enter Tryz.func173, Tryz.ntmps173
  go_wp2
  refine wp_loop_rounds 1 ?_
  rw [rounds_succ]
  go_wp2_with (go_at_call 176; refine (regions_ins_nil _ _).mono ?_; rintro e w' ⟨rfl, rfl⟩)
  (try simp only [Exit.inBlock, Exit.then]); refine bodyPost_ret (results_none rfl _ _ _) rfl ?_
  exact ⟨rfl, rfl⟩
set_option maxHeartbeats 2000000 in
theorem regions_sort_nil (fv : Value) (w : World) : Calls Tryz.prog 163 #[.slice none 0 0, fv] w fun e w' => e = .returned (.tuple #[]) ∧ w' = w := by
  have hl : ∀ W, Calls Tryz.prog 174 #[.int .u64 0] W fun e w' => (∃ l : Int, e = .returned (.int .i64 l)) ∧ w' = W := fun W => regions_len 0 W (by omega)
  go_enter Tryz.func163, Tryz.ntmps163
  go_wp2_with (first | (go_at_call 174; refine (hl _).mono ?_; rintro e w' ⟨⟨l, rfl⟩, rfl⟩) | (go_at_call 173; refine (regions_pdq_nil _ _ _).mono ?_; rintro e w' ⟨rfl, rfl⟩))
  go_end0
  exact ⟨rfl, rfl⟩
end Go.Proofs.YtbkegflipglioaaGreat
