/- Walks of the statements of layer 9: its known example, and the two that need no document's answer. -/
import Derived.Test.YtdmdnijgjgjmkaaProg
import Derived.Test.YtdmdnijgjgjmkaaBase
import Derived.Test.YtdmdnijgjgjmkaaRstc
namespace Go.Proofs.Ytdmdnijgjgjmkaa
open Go.RowKit

set_option maxHeartbeats 400000 in
theorem l09_known (w : World) :
    Calls Try.prog 17 #[] w fun e w' => e = .returned (.bool true) ∧ Upd [] w w' := by
  go_enter Try.func17, Try.ntmps17
  go_wp2_with fail
  refine (rstc_new _).mono ?_
  rintro e w1 ⟨b, rfl, hb, hB1, hu1⟩
  go_wp2_with fail
  refine (rstc_latch_yes b 2 _ _ hB1 (by omega)).mono ?_
  rintro e w2 ⟨rfl, hB2, hu2⟩
  go_wp2_with fail
  refine (rstc_cause b _ _ hB2 (by decide) (by decide)).mono ?_
  rintro e w3 ⟨rfl, hu3⟩
  have hB3 := hB2.upd hu3 (by simp)
  rw [show (RS.init.latch 2).c = 3 from by decide]
  go_wp2_with fail
  refine (rstc_last b _ _ hB3 (by decide) (by decide)).mono ?_
  rintro e w4 ⟨rfl, hu4⟩
  have hB4 := hB3.upd hu4 (by simp)
  rw [show (RS.init.latch 2).l = 2 from by decide]
  go_wp2_with fail
  refine (rstc_count b _ _ hB4).mono ?_
  rintro e w5 ⟨rfl, hu5⟩
  have hB5 := hB4.upd hu5 (by simp)
  rw [show (RS.init.latch 2).n = 1 from by decide]
  go_wp2_with fail
  refine (rstc_store b 0 1 _ _ hB5 (by omega) (by omega)).mono ?_
  rintro e w6 ⟨rfl, hB6, hu6⟩
  rw [show ((RS.init.latch 2).store 0 1).2 = 0 from by decide]
  go_wp2_with fail
  refine (rstc_cause b _ _ hB6 (by decide) (by decide)).mono ?_
  rintro e w7 ⟨rfl, hu7⟩
  rw [show ((RS.init.latch 2).store 0 1).1.c = 2 from by decide]
  go_wp2_with fail
  go_ret
  exact ⟨rfl, ((((((hu1.and hu2 (by simp [hb])).trans hu3).trans hu4).trans hu5).and hu6 (by simp [hb])).trans hu7)⟩

set_option maxHeartbeats 400000 in
theorem l09_nil (off v : Int) (w : World) :
    Calls Try.prog 5 #[.int .u32 off, .int .u32 v] w fun e w' => e = .returned (.bool true) ∧ Upd [] w w' := by
  go_enter Try.func5, Try.ntmps5
  go_wp2_with fail
  refine (rstc_load_nil _ _).mono ?_
  rintro e w1 ⟨rfl, rfl⟩
  go_wp2_with fail
  refine (l09_known _).mono ?_
  rintro e w2 ⟨rfl, hu2⟩
  go_wp2_with fail
  refine (rstc_latch_nil _ _).mono ?_
  rintro e w3 ⟨rfl, rfl⟩
  go_wp2_with fail
  refine (rstc_asked_nil _).mono ?_
  rintro e w4 ⟨rfl, hu4⟩
  go_wp2_with fail
  refine (rstc_cause_nil _).mono ?_
  rintro e w5 ⟨rfl, hu5⟩
  go_wp2_with fail
  refine (rstc_last_nil _).mono ?_
  rintro e w6 ⟨rfl, hu6⟩
  go_wp2_with fail
  refine (rstc_count_nil _).mono ?_
  rintro e w7 ⟨rfl, hu7⟩
  go_wp2_with fail
  refine (rstc_store_nil _ _ _).mono ?_
  rintro e w8 ⟨rfl, rfl⟩
  go_wp2_with fail
  refine (rstc_copy_nil _).mono ?_
  rintro e w9 ⟨rfl, rfl⟩
  go_wp2_with fail
  go_ret
  exact ⟨rfl, (((hu2.trans hu4).trans hu5).trans hu6).trans hu7⟩

end Go.Proofs.Ytdmdnijgjgjmkaa
