/- The reference's controller of resets: a store. -/
import Derived.Test.YtdmdnijgjgjmkaaProg
import Derived.Test.YtdmdnijgjgjmkaaBase
import Derived.Test.YtdmdnijgjgjmkaaRef09
namespace Go.Proofs.Ytdmdnijgjgjmkaa
open Go.RowKit

set_option maxRecDepth 100000 in
set_option maxHeartbeats 400000 in
theorem r09_store_bad (r : RR) (off v : Int) (w : World) (h0 : 0 ≤ off) (h1 : off < 4294967296) (he : (r.load off).2 ≠ 0) :
    Calls Try.prog 22 #[.agg r.cells.toArray, .int .u32 off, .int .u32 v] w fun e w' => e = .returned (.tuple #[.agg r.cells.toArray, .int .i64 (r.load off).2]) ∧ Upd [] w w' := by
  go_enter Try.func22, Try.ntmps22
  go_wp2_with (refine wpList_load_all rfl 37 _ rfl (T := 37) (cs := r.cells) ?_ rfl 35 _ Try.underlying37 rfl r09_size (RR.len _) ?_; exact (Blk.new _ _ _).alloc _)
  refine (r09_load r off _ h0 h1).mono ?_
  rintro e w1 ⟨rfl, hu1⟩
  have hB1 : Blk w1 w.heap.size 37 r.cells := ((Blk.new w 37 r.cells).alloc _).upd hu1 (by simp)
  have hB2 : Blk w1 (w.heap.size + 1) 37 RR.zero.cells := (Blk.at (T := 37) (cs := RR.zero.cells) (by simp)).upd hu1 (by simp)
  have hU1 : Upd [] w w1 := Upd.trans (by (repeat (first | exact Upd.refl _ _ | refine Upd.drew ?_ | refine Upd.drewN ?_ _ | refine Upd.setCell ?_ _ _ (by simp) | refine Upd.alloc ?_ _))) hu1
  clear hu1
  have he' : ((r.load off).2 != 0) = true := by simpa using he
  clear he
  go_wp2_with (first | (refine wpList_load_all rfl 37 _ rfl (T := 37) (cs := r.cells) ?_ rfl 35 _ Try.underlying37 rfl r09_size (RR.len _) ?_; exact hB1) | (refine wpList_store_all rfl 37 _ _ rfl (T := 37) (cs := RR.zero.cells) ?_ rfl _ rfl 35 r09_size (RR.len _) (RR.len _) (RR.one _) ?_; exact hB2; intro w2 hw2 hu2 hs2))
  refine bodyPost_ret (results_blk_tmp rfl _ hw2 rfl Try.underlying37 rfl r09_size (RR.len _)) rfl ⟨?_, hU1.and hu2 (by simp)⟩
  rfl

set_option maxRecDepth 100000 in
set_option maxHeartbeats 400000 in
theorem r09_store_4 (r : RR) (v : Int) (w : World) :
    Calls Try.prog 22 #[.agg r.cells.toArray, .int .u32 4, .int .u32 v] w fun e w' => e = .returned (.tuple #[.agg r.cells.toArray, .int .i64 12]) ∧ Upd [] w w' := by
  go_enter Try.func22, Try.ntmps22
  go_wp2_with (refine wpList_load_all rfl 37 _ rfl (T := 37) (cs := r.cells) ?_ rfl 35 _ Try.underlying37 rfl r09_size (RR.len _) ?_; exact (Blk.new _ _ _).alloc _)
  refine (r09_load r 4 _ (by omega) (by omega)).mono ?_
  rintro e w1 ⟨rfl, hu1⟩
  have hB1 : Blk w1 w.heap.size 37 r.cells := ((Blk.new w 37 r.cells).alloc _).upd hu1 (by simp)
  have hB2 : Blk w1 (w.heap.size + 1) 37 RR.zero.cells := (Blk.at (T := 37) (cs := RR.zero.cells) (by simp)).upd hu1 (by simp)
  have hU1 : Upd [] w w1 := Upd.trans (by (repeat (first | exact Upd.refl _ _ | refine Upd.drew ?_ | refine Upd.drewN ?_ _ | refine Upd.setCell ?_ _ _ (by simp) | refine Upd.alloc ?_ _))) hu1
  clear hu1
  rw [show (r.load 4).2 = 0 from by simp [RR.load]]
  go_wp2_with (first | (refine wpList_load_all rfl 37 _ rfl (T := 37) (cs := r.cells) ?_ rfl 35 _ Try.underlying37 rfl r09_size (RR.len _) ?_; exact hB1) | (refine wpList_store_all rfl 37 _ _ rfl (T := 37) (cs := RR.zero.cells) ?_ rfl _ rfl 35 r09_size (RR.len _) (RR.len _) (RR.one _) ?_; exact hB2; intro w2 hw2 hu2 hs2))
  refine bodyPost_ret (results_blk_tmp rfl _ hw2 rfl Try.underlying37 rfl r09_size (RR.len _)) rfl ⟨?_, hU1.and hu2 (by simp)⟩
  rfl

set_option maxRecDepth 100000 in
set_option maxHeartbeats 400000 in
theorem r09_store_12 (r : RR) (v : Int) (w : World) :
    Calls Try.prog 22 #[.agg r.cells.toArray, .int .u32 12, .int .u32 v] w fun e w' => e = .returned (.tuple #[.agg r.cells.toArray, .int .i64 12]) ∧ Upd [] w w' := by
  go_enter Try.func22, Try.ntmps22
  go_wp2_with (refine wpList_load_all rfl 37 _ rfl (T := 37) (cs := r.cells) ?_ rfl 35 _ Try.underlying37 rfl r09_size (RR.len _) ?_; exact (Blk.new _ _ _).alloc _)
  refine (r09_load r 12 _ (by omega) (by omega)).mono ?_
  rintro e w1 ⟨rfl, hu1⟩
  have hB1 : Blk w1 w.heap.size 37 r.cells := ((Blk.new w 37 r.cells).alloc _).upd hu1 (by simp)
  have hB2 : Blk w1 (w.heap.size + 1) 37 RR.zero.cells := (Blk.at (T := 37) (cs := RR.zero.cells) (by simp)).upd hu1 (by simp)
  have hU1 : Upd [] w w1 := Upd.trans (by (repeat (first | exact Upd.refl _ _ | refine Upd.drew ?_ | refine Upd.drewN ?_ _ | refine Upd.setCell ?_ _ _ (by simp) | refine Upd.alloc ?_ _))) hu1
  clear hu1
  rw [show (r.load 12).2 = 0 from by simp [RR.load]]
  go_wp2_with (first | (refine wpList_load_all rfl 37 _ rfl (T := 37) (cs := r.cells) ?_ rfl 35 _ Try.underlying37 rfl r09_size (RR.len _) ?_; exact hB1) | (refine wpList_store_all rfl 37 _ _ rfl (T := 37) (cs := RR.zero.cells) ?_ rfl _ rfl 35 r09_size (RR.len _) (RR.len _) (RR.one _) ?_; exact hB2; intro w2 hw2 hu2 hs2))
  refine bodyPost_ret (results_blk_tmp rfl _ hw2 rfl Try.underlying37 rfl r09_size (RR.len _)) rfl ⟨?_, hU1.and hu2 (by simp)⟩
  rfl

set_option maxRecDepth 100000 in
set_option maxHeartbeats 400000 in
theorem r09_store_8no (r : RR) (v : Int) (w : World) (hv : v ≠ 45063) :
    Calls Try.prog 22 #[.agg r.cells.toArray, .int .u32 8, .int .u32 v] w fun e w' => e = .returned (.tuple #[.agg r.cells.toArray, .int .i64 0]) ∧ Upd [] w w' := by
  go_enter Try.func22, Try.ntmps22
  go_wp2_with (refine wpList_load_all rfl 37 _ rfl (T := 37) (cs := r.cells) ?_ rfl 35 _ Try.underlying37 rfl r09_size (RR.len _) ?_; exact (Blk.new _ _ _).alloc _)
  refine (r09_load r 8 _ (by omega) (by omega)).mono ?_
  rintro e w1 ⟨rfl, hu1⟩
  have hB1 : Blk w1 w.heap.size 37 r.cells := ((Blk.new w 37 r.cells).alloc _).upd hu1 (by simp)
  have hB2 : Blk w1 (w.heap.size + 1) 37 RR.zero.cells := (Blk.at (T := 37) (cs := RR.zero.cells) (by simp)).upd hu1 (by simp)
  have hU1 : Upd [] w w1 := Upd.trans (by (repeat (first | exact Upd.refl _ _ | refine Upd.drew ?_ | refine Upd.drewN ?_ _ | refine Upd.setCell ?_ _ _ (by simp) | refine Upd.alloc ?_ _))) hu1
  clear hu1
  rw [show (r.load 8).2 = 0 from by simp [RR.load]]
  go_wp2_with (first | (refine wpList_load_all rfl 37 _ rfl (T := 37) (cs := r.cells) ?_ rfl 35 _ Try.underlying37 rfl r09_size (RR.len _) ?_; exact hB1) | (refine wpList_store_all rfl 37 _ _ rfl (T := 37) (cs := RR.zero.cells) ?_ rfl _ rfl 35 r09_size (RR.len _) (RR.len _) (RR.one _) ?_; exact hB2; intro w2 hw2 hu2 hs2))
  refine bodyPost_ret (results_blk_tmp rfl _ hw2 rfl Try.underlying37 rfl r09_size (RR.len _)) rfl ⟨?_, hU1.and hu2 (by simp)⟩
  rfl

set_option maxRecDepth 100000 in
set_option maxHeartbeats 400000 in
theorem r09_store_8yes (r : RR) (w : World) :
    Calls Try.prog 22 #[.agg r.cells.toArray, .int .u32 8, .int .u32 45063] w fun e w' => e = .returned (.tuple #[.agg ({ r with asked := true } : RR).cells.toArray, .int .i64 0]) ∧ Upd [] w w' := by
  go_enter Try.func22, Try.ntmps22
  go_wp2_with (refine wpList_load_all rfl 37 _ rfl (T := 37) (cs := r.cells) ?_ rfl 35 _ Try.underlying37 rfl r09_size (RR.len _) ?_; exact (Blk.new _ _ _).alloc _)
  refine (r09_load r 8 _ (by omega) (by omega)).mono ?_
  rintro e w1 ⟨rfl, hu1⟩
  have hB1 : Blk w1 w.heap.size 37 r.cells := ((Blk.new w 37 r.cells).alloc _).upd hu1 (by simp)
  have hB2 : Blk w1 (w.heap.size + 1) 37 RR.zero.cells := (Blk.at (T := 37) (cs := RR.zero.cells) (by simp)).upd hu1 (by simp)
  have hU1 : Upd [] w w1 := Upd.trans (by (repeat (first | exact Upd.refl _ _ | refine Upd.drew ?_ | refine Upd.drewN ?_ _ | refine Upd.setCell ?_ _ _ (by simp) | refine Upd.alloc ?_ _))) hu1
  clear hu1
  rw [show (r.load 8).2 = 0 from by simp [RR.load]]
  have hf := hB1.free
  have c34 := (hB1.cell 34).trans (show (r.cells.toArray)[34]? = some (.bool r.asked) by simp [RR.cells])
  have hl1 := hB1.lt
  have HT : Hid (r.cells.set 34 (.bool true) = ({ r with asked := true } : RR).cells) := by
    show _ = _
    simp [RR.cells, List.set_append]
  go_wp2_with (first | (refine wpList_load_all rfl 37 _ rfl (T := 37) (cs := ({ r with asked := true } : RR).cells) ?_ rfl 35 _ Try.underlying37 rfl r09_size (RR.len _) ?_; exact (hB1.set _).eq HT.out) | (refine wpList_store_all rfl 37 _ _ rfl (T := 37) (cs := RR.zero.cells) ?_ rfl _ rfl 35 r09_size (RR.len _) (RR.len _) (RR.one _) ?_; exact hB2.far _ (by simp); intro w2 hw2 hu2 hs2))
  refine bodyPost_ret (results_blk_tmp rfl _ hw2 rfl Try.underlying37 rfl r09_size (RR.len _)) rfl ⟨?_, (hU1.setCell _ _ (by simp)).and hu2 (by simp)⟩
  rfl

/-- The causes that a store clears, behind k rounds. -/
def clr (c : Nat → Bool) (v : Int) (k : Nat) : Nat → Bool := fun i => if i < k then c i && !(v / 2 ^ i % 2 == 1) else c i
theorem clr_succ (c : Nat → Bool) (v : Int) (k : Nat) : (fun i => if i = k then (c k && !(v / 2 ^ k % 2 == 1)) else clr c v k i) = clr c v (k + 1) := by
  funext i
  simp only [clr]
  by_cases e : i = k
  · subst e; simp
  · rw [if_neg e]; split <;> split <;> first | rfl | omega

set_option maxRecDepth 100000 in
set_option maxHeartbeats 1000000 in
theorem r09_store_0 (r : RR) (v : Int) (w : World) (hv0 : 0 ≤ v) (hv1 : v < 4294967296) :
    Calls Try.prog 22 #[.agg r.cells.toArray, .int .u32 0, .int .u32 v] w fun e w' => e = .returned (.tuple #[.agg ({ r with cs := clr r.cs v 32 } : RR).cells.toArray, .int .i64 0]) ∧ Upd [] w w' := by
  go_enter Try.func22, Try.ntmps22
  go_wp2_with (refine wpList_load_all rfl 37 _ rfl (T := 37) (cs := r.cells) ?_ rfl 35 _ Try.underlying37 rfl r09_size (RR.len _) ?_; exact (Blk.new _ _ _).alloc _)
  refine (r09_load r 0 _ (by omega) (by omega)).mono ?_
  rintro e w1 ⟨rfl, hu1⟩
  have hB1 : Blk w1 w.heap.size 37 r.cells := ((Blk.new w 37 r.cells).alloc _).upd hu1 (by simp)
  have hB2 : Blk w1 (w.heap.size + 1) 37 RR.zero.cells := (Blk.at (T := 37) (cs := RR.zero.cells) (by simp)).upd hu1 (by simp)
  have hU1 : Upd [] w w1 := Upd.trans (by (repeat (first | exact Upd.refl _ _ | refine Upd.drew ?_ | refine Upd.drewN ?_ _ | refine Upd.setCell ?_ _ _ (by simp) | refine Upd.alloc ?_ _))) hu1
  clear hu1
  rw [show (r.load 0).2 = 0 from by simp [RR.load]]
  have hl2 := hB2.lt
  go_wp2_with fail
  refine (fn_bits v _ hv0 hv1).mono ?_
  rintro e w2 ⟨rfl, hu2⟩
  have hB1' := hB1.upd hu2 (by simp)
  have hB2' := hB2.upd hu2 (by simp)
  have hU2 := hU1.trans hu2
  have hl2' := hB2'.lt
  go_wp2_with (refine wpList_store_all rfl 35 _ _ rfl (T := 35) (cs := List.replicate 32 (Value.bool false)) ?_ rfl _ rfl 32 arr32_size (fb_len _ _) (by simp) (fb_one _ _) ?_; exact Blk.at (cs := List.replicate 32 (Value.bool false)) (by simp); intro w3 hw3 hu3 hs3)
  have hB1'' := (hB1'.alloc _).upd hu3 (by simp; omega)
  have hB2'' := (hB2'.alloc _).upd hu3 (by simp; omega)
  have hU3 := (hU2.alloc _).and hu3 (by simp; omega)
  have hne : w2.heap.size ≠ w.heap.size := by omega
  have hne2 : w2.heap.size ≠ w.heap.size + 1 := by omega
  clear hB1 hB2 hU1 hu2 hB1' hB2' hU2 hl2 hu3 hs3
  go_wp2_with fail
  go_loopw [11] (fun j wr => ∃ k : Nat, k ≤ 32 ∧ j = .int .i64 k ∧ Blk wr w.heap.size 37 ({ r with cs := clr r.cs v k } : RR).cells ∧ Blk wr (w.heap.size + 1) 37 RR.zero.cells ∧ Blk wr w2.heap.size 35 (fb (fun i => v / 2 ^ i % 2 == 1) 32) ∧ Upd [] w wr) (fun j _ => 32 - (intOf j).toNat)
  case atStart => exact ⟨0, by omega, rfl, hB1''.eq (by unfold clr; simp), hB2'', hw3, hU3⟩
  case round =>
    clear hB1'' hB2'' hw3 hU3
    obtain ⟨k, hk, rfl, hB1, hB2, hB3, hU⟩ := hrel
    by_cases hlt : k < 32
    · have ck := (hB1.cell k).trans (show _ = some (.bool (r.cs k)) by simp [RR.cells, fb, clr, hlt, List.getElem?_append])
      have bk := (hB3.cell k).trans (show _ = some (.bool (v / 2 ^ k % 2 == 1)) by simp [fb, hlt])
      have hf := hB1.free
      have hset : (({ r with cs := clr r.cs v k } : RR).cells).set k (.bool (r.cs k && !(v / 2 ^ k % 2 == 1))) = ({ r with cs := clr r.cs v (k + 1) } : RR).cells := by
        simp only [RR.cells]
        rw [List.set_append_left _ _ (by simpa using hlt), fb_set, clr_succ]
      have HS : Hid (Blk (wr.setCell ⟨w.heap.size, k, none⟩ (.bool (r.cs k && !(v / 2 ^ k % 2 == 1)))) w.heap.size 37 ({ r with cs := clr r.cs v (k + 1) } : RR).cells) := (hB1.set _).eq hset
      clear hset
      generalize (v / 2 ^ k % 2 == 1) = y at bk HS
      generalize r.cs k = x at ck HS
      cases x <;> cases y
      all_goals
        have HS' := HS.out
        simp only [Bool.false_and, Bool.true_and, Bool.not_true, Bool.not_false] at HS'
        have HT : Hid _ := HS'
        clear HS HS'
        go_wp2_with fail
        go_roundw
        case rel => exact ⟨k + 1, by omega, by go_num, HT.out, hB2.far _ (by simp), hB3.far _ hne, hU.setCell _ _ (by simp)⟩
        case measure => simp [intOf]; omega
    · have hge : 32 ≤ k := by omega
      have hk32 : k = 32 := by omega
      have hB1' : Blk wr w.heap.size 37 ({ r with cs := clr r.cs v 32 } : RR).cells := hk32 ▸ hB1
      clear hB1 hk32
      go_wp2_with (first | (refine wpList_load_all rfl 37 _ rfl (T := 37) (cs := ({ r with cs := clr r.cs v 32 } : RR).cells) ?_ rfl 35 _ Try.underlying37 rfl r09_size (RR.len _) ?_; exact hB1') | (refine wpList_store_all rfl 37 _ _ rfl (T := 37) (cs := RR.zero.cells) ?_ rfl _ rfl 35 r09_size (RR.len _) (RR.len _) (RR.one _) ?_; exact hB2; intro w4 hw4 hu4 hs4))
      refine bodyPost_ret (results_blk_tmp rfl _ hw4 rfl Try.underlying37 rfl r09_size (RR.len _)) rfl ⟨rfl, hU.and hu4 (by simp)⟩

/-- What a store makes of a controller, and the error. -/
def RR.store (r : RR) (off v : Int) : RR × Int :=
  if (r.load off).2 ≠ 0 then (r, (r.load off).2) else if off = 4 then (r, 12) else if off = 12 then (r, 12)
  else if off = 8 then (if v = 45063 then { r with asked := true } else r, 0)
  else ({ r with cs := clr r.cs v 32 }, 0)

theorem r09_store (r : RR) (off v : Int) (w : World) (h0 : 0 ≤ off) (h1 : off < 4294967296) (hv0 : 0 ≤ v) (hv1 : v < 4294967296) :
    Calls Try.prog 22 #[.agg r.cells.toArray, .int .u32 off, .int .u32 v] w fun e w' => e = .returned (.tuple #[.agg (r.store off v).1.cells.toArray, .int .i64 (r.store off v).2]) ∧ Upd [] w w' := by
  by_cases he : (r.load off).2 = 0
  · have hoff : off = 0 ∨ off = 4 ∨ off = 8 ∨ off = 12 := by
      unfold RR.load at he
      repeat' split at he
      all_goals first | omega | simp at he
    rcases hoff with rfl | rfl | rfl | rfl
    · simpa [RR.store, RR.load] using r09_store_0 r v w hv0 hv1
    · simpa [RR.store, RR.load] using r09_store_4 r v w
    · by_cases hv : v = 45063
      · subst hv; simpa [RR.store, RR.load] using r09_store_8yes r w
      · simpa [RR.store, RR.load, hv] using r09_store_8no r v w hv
    · simpa [RR.store, RR.load] using r09_store_12 r v w
  · have := r09_store_bad r off v w h0 h1 he
    simpa [RR.store, he] using this

end Go.Proofs.Ytdmdnijgjgjmkaa
