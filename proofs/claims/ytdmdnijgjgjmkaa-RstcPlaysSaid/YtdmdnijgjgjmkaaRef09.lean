/- Walks of the reference's controller of resets. -/
import Derived.Test.YtdmdnijgjgjmkaaProg
import Derived.Test.YtdmdnijgjgjmkaaBase
import Derived.Test.YtdmdnijgjgjmkaaRef04
import Derived.KernelRfl
namespace Go.Proofs.Ytdmdnijgjgjmkaa
open Go.RowKit

/-- The document's controller: its causes as truths. -/
structure RR where
  cs : Nat → Bool
  last : Int
  count : Int
  asked : Bool
def RR.cells (r : RR) : List Value := fb r.cs 32 ++ [.int .i64 r.last, .int .u32 r.count, .bool r.asked]
theorem RR.len (r : RR) : r.cells.length = 35 := by simp [RR.cells]
theorem RR.one (r : RR) : ∀ v ∈ r.cells, v.oneCell' = true := by
  intro v hv
  rcases List.mem_append.1 hv with h | h
  · exact fb_one _ _ v h
  · simp at h; rcases h with rfl | rfl | rfl <;> rfl
def RR.zero : RR := ⟨fun _ => false, 0, 0, false⟩
theorem RR.zero_cells : RR.zero.cells = List.replicate 32 (Value.bool false) ++ [Value.int .i64 0, Value.int .u32 0, Value.bool false] := by simp [RR.cells, RR.zero, fb_false]
def RR.init : RR := ⟨fun i => 1 / 2 ^ i % 2 == (1 : Int), 1, 0, false⟩
theorem r09_zero (w : World) : (zeroValue 37).run Try.prog w = .ok (.agg (List.replicate 32 (Value.bool false) ++ [Value.int .i64 0, Value.int .u32 0, Value.bool false]).toArray) w := by kernel_rfl
theorem r09_size : (Try.prog.info? 37).map (·.size) = some 35 := by kernel_rfl
theorem arr32_size : (Try.prog.info? 35).map (·.size) = some 32 := by kernel_rfl

set_option maxRecDepth 100000 in
set_option maxHeartbeats 400000 in
theorem r09_new (w : World) :
    Calls Try.prog 18 #[] w fun e w' => e = .returned (.agg RR.init.cells.toArray) ∧ Upd [] w w' := by
  go_enter Try.func18, Try.ntmps18
  go_wp2_with fail
  refine (fn_bits _ _ (by omega) (by omega)).mono ?_
  rintro e w' ⟨rfl, hu⟩
  have hb := Blk.new w 37 (List.replicate 32 (Value.bool false) ++ [Value.int .i64 0, Value.int .u32 0, Value.bool false])
  have hb' := hb.upd hu (by simp)
  have hu' := (Upd.alloc (Upd.refl [] w) _).trans hu
  go_wp2_with (first | (refine wpList_build rfl 37 _ rfl [(0, .agg (fb (fun i => 1 / 2 ^ i % 2 == 1) 32).toArray), (1, .int .i64 1)] rfl _ Try.underlying37 _ r09_zero #[(0, 32), (32, 1), (33, 1), (34, 1)] (fun _ => by kernel_rfl) RR.init.cells (by simp [fillList, splice, List.drop_append, List.drop_eq_nil_of_le, Value.cells, RR.init, RR.cells]) ?_) | (refine wpList_store_all rfl 37 _ _ rfl hb' rfl _ rfl 35 (by kernel_rfl) (RR.len _) (by simp) (RR.one _) ?_; intro w2 hw2 hu2 hs2))
  refine bodyPost_ret (results_blk rfl _ hw2 rfl Try.underlying37 rfl r09_size (RR.len _)) rfl ⟨rfl, hu'.and hu2 (by simp)⟩

def RR.lat (r : RR) (j : Nat) (c : Int) : RR := { cs := fun i => if i = j then true else r.cs i, last := c, count := if r.count = 4294967295 then r.count else (r.count + 1) % 4294967296, asked := false }

set_option maxRecDepth 100000 in
set_option maxHeartbeats 400000 in
theorem r09_latch_no (r : RR) (c : Int) (w : World) (h2 : c ≠ 2) (h4 : c ≠ 4) (h8 : c ≠ 8) (h16 : c ≠ 16) :
    Calls Try.prog 19 #[.agg r.cells.toArray, .int .i64 c] w fun e w' => e = .returned (.tuple #[.agg r.cells.toArray, .bool false]) ∧ Upd [] w w' := by
  go_enter Try.func19, Try.ntmps19
  go_wp2
  go_loopw [6] (fun j wr => ∃ k : Nat, 1 ≤ k ∧ k ≤ 5 ∧ j = .int .i64 k ∧ Blk wr w.heap.size 37 r.cells ∧ Blk wr (w.heap.size + 1) 37 RR.zero.cells ∧ Upd [] w wr) (fun j _ => 5 - (intOf j).toNat)
  case atStart => exact ⟨1, by omega, by omega, rfl, (Blk.new w _ _).alloc _, Blk.eq (Blk.at (by simp)) rfl, by (repeat (first | exact Upd.refl _ _ | refine Upd.drew ?_ | refine Upd.drewN ?_ _ | refine Upd.setCell ?_ _ _ (by simp) | refine Upd.alloc ?_ _))⟩
  case round =>
    obtain ⟨k, hk1, hk, rfl, hB1, hB2, hU⟩ := hrel
    by_cases hlt : k < 5
    · have hk4 : k = 1 ∨ k = 2 ∨ k = 3 ∨ k = 4 := by omega
      rcases hk4 with rfl | rfl | rfl | rfl
      · clear hk1 hk hlt
        go_wp2
        go_roundw
        case rel => exact ⟨2, by omega, by omega, by go_num, hB1.alloc _, hB2.alloc _, hU.alloc _⟩
        case measure => simp [intOf]
      · clear hk1 hk hlt
        go_wp2
        go_roundw
        case rel => exact ⟨3, by omega, by omega, by go_num, hB1.alloc _, hB2.alloc _, hU.alloc _⟩
        case measure => simp [intOf]
      · clear hk1 hk hlt
        go_wp2
        go_roundw
        case rel => exact ⟨4, by omega, by omega, by go_num, hB1.alloc _, hB2.alloc _, hU.alloc _⟩
        case measure => simp [intOf]
      · clear hk1 hk hlt
        go_wp2
        go_roundw
        case rel => exact ⟨5, by omega, by omega, by go_num, hB1.alloc _, hB2.alloc _, hU.alloc _⟩
        case measure => simp [intOf]
    · have hge : 5 ≤ k := by omega
      go_wp2_with (first | (refine wpList_load_all rfl 37 _ rfl hB1 rfl 35 _ Try.underlying37 rfl r09_size (RR.len _) ?_) | (refine wpList_store_all rfl 37 _ _ rfl hB2 rfl _ rfl 35 r09_size (RR.len _) (RR.len _) (RR.one _) ?_; intro w2 hw2 hu2 hs2))
      refine bodyPost_ret (results_blk_tmp rfl _ hw2 rfl Try.underlying37 rfl r09_size (RR.len _)) rfl ⟨rfl, hU.and hu2 (by simp)⟩

set_option maxRecDepth 100000 in
set_option maxHeartbeats 400000 in
theorem r09_latch_2 (r : RR) (w : World) :
    Calls Try.prog 19 #[.agg r.cells.toArray, .int .i64 2] w fun e w' => e = .returned (.tuple #[.agg (r.lat 1 2).cells.toArray, .bool true]) ∧ Upd [] w w' := by
  have c33 : (r.cells.toArray)[33]? = some (.int .u32 r.count) := by simp [RR.cells]
  have c32 : (r.cells.toArray)[32]? = some (.int .i64 r.last) := by simp [RR.cells]
  have c34 : (r.cells.toArray)[34]? = some (.bool r.asked) := by simp [RR.cells]
  have cj : (r.cells.toArray)[1]? = some (.bool (r.cs 1)) := by simp [RR.cells, fb, List.getElem?_append]
  go_enter Try.func19, Try.ntmps19
  go_wp2
  go_loopw [6] (fun j wr => ∃ k : Nat, 1 ≤ k ∧ k ≤ 1 ∧ j = .int .i64 k ∧ Blk wr w.heap.size 37 r.cells ∧ Blk wr (w.heap.size + 1) 37 RR.zero.cells ∧ Upd [] w wr) (fun j _ => 5 - (intOf j).toNat)
  case atStart => exact ⟨1, by omega, by omega, rfl, (Blk.new w _ _).alloc _, Blk.eq (Blk.at (by simp)) rfl, by (repeat (first | exact Upd.refl _ _ | refine Upd.drew ?_ | refine Upd.drewN ?_ _ | refine Upd.setCell ?_ _ _ (by simp) | refine Upd.alloc ?_ _))⟩
  case round =>
    obtain ⟨k, hk1, hk, rfl, hB1, hB2, hU⟩ := hrel
    have hk4 : k = 1 := by omega
    subst hk4
    · have hf := hB1.free
      have hc33 := (hB1.cell 33).trans c33
      have hc32 := (hB1.cell 32).trans c32
      have hc34 := (hB1.cell 34).trans c34
      have hcj := (hB1.cell 1).trans cj
      have hl1 := hB1.lt
      have hl2 := hB2.lt
      clear hk1 hk c33 c32 c34 cj
      by_cases hm : r.count = 4294967295
      · have hm1 : (r.count != 4294967295) = false := by simp [hm]
        have HT : Hid (((r.cells.set 1 (.bool true)).set 32 (.int .i64 2)).set 34 (.bool false) = (r.lat 1 2).cells) := by
          show _ = _
          simp [RR.cells, RR.lat, List.set_append, fb_set, hm]
        clear hm
        go_wp2_with (first | (refine wpList_load_all rfl 37 _ rfl (T := 37) (cs := (r.lat 1 2).cells) ?_ rfl 35 _ Try.underlying37 rfl r09_size (RR.len _) ?_; exact (Blk.alloc (Blk.set (Blk.set (Blk.set hB1 _) _) _) _).eq HT.out) | (refine wpList_store_all rfl 37 _ _ rfl (T := 37) (cs := RR.zero.cells) ?_ rfl _ rfl 35 r09_size (RR.len _) (RR.len _) (RR.one _) ?_; exact Blk.alloc (Blk.far (Blk.far (Blk.far hB2 _ (by simp)) _ (by simp)) _ (by simp)) _; intro w2 hw2 hu2 hs2))
        refine bodyPost_ret (results_blk_tmp rfl _ hw2 rfl Try.underlying37 rfl r09_size (RR.len _)) rfl ⟨rfl, ?_⟩
        exact Upd.and ((((hU.setCell _ _ (by simp)).setCell _ _ (by simp)).setCell _ _ (by simp)).alloc _) hu2 (by simp)
      · have hm1 : (r.count != 4294967295) = true := by simp [hm]
        have HT : Hid ((((r.cells.set 1 (.bool true)).set 32 (.int .i64 2)).set 34 (.bool false)).set 33 (.int .u32 ((r.count + 1) % 4294967296)) = (r.lat 1 2).cells) := by
          show _ = _
          simp [RR.cells, RR.lat, List.set_append, fb_set, hm]
        clear hm
        go_wp2_with (first | (refine wpList_load_all rfl 37 _ rfl (T := 37) (cs := (r.lat 1 2).cells) ?_ rfl 35 _ Try.underlying37 rfl r09_size (RR.len _) ?_; exact (Blk.alloc (Blk.set (Blk.set (Blk.set (Blk.set hB1 _) _) _) _) _).eq HT.out) | (refine wpList_store_all rfl 37 _ _ rfl (T := 37) (cs := RR.zero.cells) ?_ rfl _ rfl 35 r09_size (RR.len _) (RR.len _) (RR.one _) ?_; exact Blk.alloc (Blk.far (Blk.far (Blk.far (Blk.far hB2 _ (by simp)) _ (by simp)) _ (by simp)) _ (by simp)) _; intro w2 hw2 hu2 hs2))
        refine bodyPost_ret (results_blk_tmp rfl _ hw2 rfl Try.underlying37 rfl r09_size (RR.len _)) rfl ⟨rfl, ?_⟩
        exact Upd.and (((((hU.setCell _ _ (by simp)).setCell _ _ (by simp)).setCell _ _ (by simp)).setCell _ _ (by simp)).alloc _) hu2 (by simp)

set_option maxRecDepth 100000 in
set_option maxHeartbeats 400000 in
theorem r09_latch_4 (r : RR) (w : World) :
    Calls Try.prog 19 #[.agg r.cells.toArray, .int .i64 4] w fun e w' => e = .returned (.tuple #[.agg (r.lat 2 4).cells.toArray, .bool true]) ∧ Upd [] w w' := by
  have c33 : (r.cells.toArray)[33]? = some (.int .u32 r.count) := by simp [RR.cells]
  have c32 : (r.cells.toArray)[32]? = some (.int .i64 r.last) := by simp [RR.cells]
  have c34 : (r.cells.toArray)[34]? = some (.bool r.asked) := by simp [RR.cells]
  have cj : (r.cells.toArray)[2]? = some (.bool (r.cs 2)) := by simp [RR.cells, fb, List.getElem?_append]
  go_enter Try.func19, Try.ntmps19
  go_wp2
  go_loopw [6] (fun j wr => ∃ k : Nat, 1 ≤ k ∧ k ≤ 2 ∧ j = .int .i64 k ∧ Blk wr w.heap.size 37 r.cells ∧ Blk wr (w.heap.size + 1) 37 RR.zero.cells ∧ Upd [] w wr) (fun j _ => 5 - (intOf j).toNat)
  case atStart => exact ⟨1, by omega, by omega, rfl, (Blk.new w _ _).alloc _, Blk.eq (Blk.at (by simp)) rfl, by (repeat (first | exact Upd.refl _ _ | refine Upd.drew ?_ | refine Upd.drewN ?_ _ | refine Upd.setCell ?_ _ _ (by simp) | refine Upd.alloc ?_ _))⟩
  case round =>
    obtain ⟨k, hk1, hk, rfl, hB1, hB2, hU⟩ := hrel
    have hk4 : k = 1 ∨ k = 2 := by omega
    rcases hk4 with rfl | rfl
    · clear hk1 hk
      go_wp2
      go_roundw
      case rel => exact ⟨2, by omega, by omega, by go_num, hB1.alloc _, hB2.alloc _, hU.alloc _⟩
      case measure => simp [intOf]
    · have hf := hB1.free
      have hc33 := (hB1.cell 33).trans c33
      have hc32 := (hB1.cell 32).trans c32
      have hc34 := (hB1.cell 34).trans c34
      have hcj := (hB1.cell 2).trans cj
      have hl1 := hB1.lt
      have hl2 := hB2.lt
      clear hk1 hk c33 c32 c34 cj
      by_cases hm : r.count = 4294967295
      · have hm1 : (r.count != 4294967295) = false := by simp [hm]
        have HT : Hid (((r.cells.set 2 (.bool true)).set 32 (.int .i64 4)).set 34 (.bool false) = (r.lat 2 4).cells) := by
          show _ = _
          simp [RR.cells, RR.lat, List.set_append, fb_set, hm]
        clear hm
        go_wp2_with (first | (refine wpList_load_all rfl 37 _ rfl (T := 37) (cs := (r.lat 2 4).cells) ?_ rfl 35 _ Try.underlying37 rfl r09_size (RR.len _) ?_; exact (Blk.alloc (Blk.set (Blk.set (Blk.set hB1 _) _) _) _).eq HT.out) | (refine wpList_store_all rfl 37 _ _ rfl (T := 37) (cs := RR.zero.cells) ?_ rfl _ rfl 35 r09_size (RR.len _) (RR.len _) (RR.one _) ?_; exact Blk.alloc (Blk.far (Blk.far (Blk.far hB2 _ (by simp)) _ (by simp)) _ (by simp)) _; intro w2 hw2 hu2 hs2))
        refine bodyPost_ret (results_blk_tmp rfl _ hw2 rfl Try.underlying37 rfl r09_size (RR.len _)) rfl ⟨rfl, ?_⟩
        exact Upd.and ((((hU.setCell _ _ (by simp)).setCell _ _ (by simp)).setCell _ _ (by simp)).alloc _) hu2 (by simp)
      · have hm1 : (r.count != 4294967295) = true := by simp [hm]
        have HT : Hid ((((r.cells.set 2 (.bool true)).set 32 (.int .i64 4)).set 34 (.bool false)).set 33 (.int .u32 ((r.count + 1) % 4294967296)) = (r.lat 2 4).cells) := by
          show _ = _
          simp [RR.cells, RR.lat, List.set_append, fb_set, hm]
        clear hm
        go_wp2_with (first | (refine wpList_load_all rfl 37 _ rfl (T := 37) (cs := (r.lat 2 4).cells) ?_ rfl 35 _ Try.underlying37 rfl r09_size (RR.len _) ?_; exact (Blk.alloc (Blk.set (Blk.set (Blk.set (Blk.set hB1 _) _) _) _) _).eq HT.out) | (refine wpList_store_all rfl 37 _ _ rfl (T := 37) (cs := RR.zero.cells) ?_ rfl _ rfl 35 r09_size (RR.len _) (RR.len _) (RR.one _) ?_; exact Blk.alloc (Blk.far (Blk.far (Blk.far (Blk.far hB2 _ (by simp)) _ (by simp)) _ (by simp)) _ (by simp)) _; intro w2 hw2 hu2 hs2))
        refine bodyPost_ret (results_blk_tmp rfl _ hw2 rfl Try.underlying37 rfl r09_size (RR.len _)) rfl ⟨rfl, ?_⟩
        exact Upd.and (((((hU.setCell _ _ (by simp)).setCell _ _ (by simp)).setCell _ _ (by simp)).setCell _ _ (by simp)).alloc _) hu2 (by simp)

set_option maxRecDepth 100000 in
set_option maxHeartbeats 400000 in
theorem r09_latch_8 (r : RR) (w : World) :
    Calls Try.prog 19 #[.agg r.cells.toArray, .int .i64 8] w fun e w' => e = .returned (.tuple #[.agg (r.lat 3 8).cells.toArray, .bool true]) ∧ Upd [] w w' := by
  have c33 : (r.cells.toArray)[33]? = some (.int .u32 r.count) := by simp [RR.cells]
  have c32 : (r.cells.toArray)[32]? = some (.int .i64 r.last) := by simp [RR.cells]
  have c34 : (r.cells.toArray)[34]? = some (.bool r.asked) := by simp [RR.cells]
  have cj : (r.cells.toArray)[3]? = some (.bool (r.cs 3)) := by simp [RR.cells, fb, List.getElem?_append]
  go_enter Try.func19, Try.ntmps19
  go_wp2
  go_loopw [6] (fun j wr => ∃ k : Nat, 1 ≤ k ∧ k ≤ 3 ∧ j = .int .i64 k ∧ Blk wr w.heap.size 37 r.cells ∧ Blk wr (w.heap.size + 1) 37 RR.zero.cells ∧ Upd [] w wr) (fun j _ => 5 - (intOf j).toNat)
  case atStart => exact ⟨1, by omega, by omega, rfl, (Blk.new w _ _).alloc _, Blk.eq (Blk.at (by simp)) rfl, by (repeat (first | exact Upd.refl _ _ | refine Upd.drew ?_ | refine Upd.drewN ?_ _ | refine Upd.setCell ?_ _ _ (by simp) | refine Upd.alloc ?_ _))⟩
  case round =>
    obtain ⟨k, hk1, hk, rfl, hB1, hB2, hU⟩ := hrel
    have hk4 : k = 1 ∨ k = 2 ∨ k = 3 := by omega
    rcases hk4 with rfl | rfl | rfl
    · clear hk1 hk
      go_wp2
      go_roundw
      case rel => exact ⟨2, by omega, by omega, by go_num, hB1.alloc _, hB2.alloc _, hU.alloc _⟩
      case measure => simp [intOf]
    · clear hk1 hk
      go_wp2
      go_roundw
      case rel => exact ⟨3, by omega, by omega, by go_num, hB1.alloc _, hB2.alloc _, hU.alloc _⟩
      case measure => simp [intOf]
    · have hf := hB1.free
      have hc33 := (hB1.cell 33).trans c33
      have hc32 := (hB1.cell 32).trans c32
      have hc34 := (hB1.cell 34).trans c34
      have hcj := (hB1.cell 3).trans cj
      have hl1 := hB1.lt
      have hl2 := hB2.lt
      clear hk1 hk c33 c32 c34 cj
      by_cases hm : r.count = 4294967295
      · have hm1 : (r.count != 4294967295) = false := by simp [hm]
        have HT : Hid (((r.cells.set 3 (.bool true)).set 32 (.int .i64 8)).set 34 (.bool false) = (r.lat 3 8).cells) := by
          show _ = _
          simp [RR.cells, RR.lat, List.set_append, fb_set, hm]
        clear hm
        go_wp2_with (first | (refine wpList_load_all rfl 37 _ rfl (T := 37) (cs := (r.lat 3 8).cells) ?_ rfl 35 _ Try.underlying37 rfl r09_size (RR.len _) ?_; exact (Blk.alloc (Blk.set (Blk.set (Blk.set hB1 _) _) _) _).eq HT.out) | (refine wpList_store_all rfl 37 _ _ rfl (T := 37) (cs := RR.zero.cells) ?_ rfl _ rfl 35 r09_size (RR.len _) (RR.len _) (RR.one _) ?_; exact Blk.alloc (Blk.far (Blk.far (Blk.far hB2 _ (by simp)) _ (by simp)) _ (by simp)) _; intro w2 hw2 hu2 hs2))
        refine bodyPost_ret (results_blk_tmp rfl _ hw2 rfl Try.underlying37 rfl r09_size (RR.len _)) rfl ⟨rfl, ?_⟩
        exact Upd.and ((((hU.setCell _ _ (by simp)).setCell _ _ (by simp)).setCell _ _ (by simp)).alloc _) hu2 (by simp)
      · have hm1 : (r.count != 4294967295) = true := by simp [hm]
        have HT : Hid ((((r.cells.set 3 (.bool true)).set 32 (.int .i64 8)).set 34 (.bool false)).set 33 (.int .u32 ((r.count + 1) % 4294967296)) = (r.lat 3 8).cells) := by
          show _ = _
          simp [RR.cells, RR.lat, List.set_append, fb_set, hm]
        clear hm
        go_wp2_with (first | (refine wpList_load_all rfl 37 _ rfl (T := 37) (cs := (r.lat 3 8).cells) ?_ rfl 35 _ Try.underlying37 rfl r09_size (RR.len _) ?_; exact (Blk.alloc (Blk.set (Blk.set (Blk.set (Blk.set hB1 _) _) _) _) _).eq HT.out) | (refine wpList_store_all rfl 37 _ _ rfl (T := 37) (cs := RR.zero.cells) ?_ rfl _ rfl 35 r09_size (RR.len _) (RR.len _) (RR.one _) ?_; exact Blk.alloc (Blk.far (Blk.far (Blk.far (Blk.far hB2 _ (by simp)) _ (by simp)) _ (by simp)) _ (by simp)) _; intro w2 hw2 hu2 hs2))
        refine bodyPost_ret (results_blk_tmp rfl _ hw2 rfl Try.underlying37 rfl r09_size (RR.len _)) rfl ⟨rfl, ?_⟩
        exact Upd.and (((((hU.setCell _ _ (by simp)).setCell _ _ (by simp)).setCell _ _ (by simp)).setCell _ _ (by simp)).alloc _) hu2 (by simp)

set_option maxRecDepth 100000 in
set_option maxHeartbeats 400000 in
theorem r09_latch_16 (r : RR) (w : World) :
    Calls Try.prog 19 #[.agg r.cells.toArray, .int .i64 16] w fun e w' => e = .returned (.tuple #[.agg (r.lat 4 16).cells.toArray, .bool true]) ∧ Upd [] w w' := by
  have c33 : (r.cells.toArray)[33]? = some (.int .u32 r.count) := by simp [RR.cells]
  have c32 : (r.cells.toArray)[32]? = some (.int .i64 r.last) := by simp [RR.cells]
  have c34 : (r.cells.toArray)[34]? = some (.bool r.asked) := by simp [RR.cells]
  have cj : (r.cells.toArray)[4]? = some (.bool (r.cs 4)) := by simp [RR.cells, fb, List.getElem?_append]
  go_enter Try.func19, Try.ntmps19
  go_wp2
  go_loopw [6] (fun j wr => ∃ k : Nat, 1 ≤ k ∧ k ≤ 4 ∧ j = .int .i64 k ∧ Blk wr w.heap.size 37 r.cells ∧ Blk wr (w.heap.size + 1) 37 RR.zero.cells ∧ Upd [] w wr) (fun j _ => 5 - (intOf j).toNat)
  case atStart => exact ⟨1, by omega, by omega, rfl, (Blk.new w _ _).alloc _, Blk.eq (Blk.at (by simp)) rfl, by (repeat (first | exact Upd.refl _ _ | refine Upd.drew ?_ | refine Upd.drewN ?_ _ | refine Upd.setCell ?_ _ _ (by simp) | refine Upd.alloc ?_ _))⟩
  case round =>
    obtain ⟨k, hk1, hk, rfl, hB1, hB2, hU⟩ := hrel
    have hk4 : k = 1 ∨ k = 2 ∨ k = 3 ∨ k = 4 := by omega
    rcases hk4 with rfl | rfl | rfl | rfl
    · clear hk1 hk
      go_wp2
      go_roundw
      case rel => exact ⟨2, by omega, by omega, by go_num, hB1.alloc _, hB2.alloc _, hU.alloc _⟩
      case measure => simp [intOf]
    · clear hk1 hk
      go_wp2
      go_roundw
      case rel => exact ⟨3, by omega, by omega, by go_num, hB1.alloc _, hB2.alloc _, hU.alloc _⟩
      case measure => simp [intOf]
    · clear hk1 hk
      go_wp2
      go_roundw
      case rel => exact ⟨4, by omega, by omega, by go_num, hB1.alloc _, hB2.alloc _, hU.alloc _⟩
      case measure => simp [intOf]
    · have hf := hB1.free
      have hc33 := (hB1.cell 33).trans c33
      have hc32 := (hB1.cell 32).trans c32
      have hc34 := (hB1.cell 34).trans c34
      have hcj := (hB1.cell 4).trans cj
      have hl1 := hB1.lt
      have hl2 := hB2.lt
      clear hk1 hk c33 c32 c34 cj
      by_cases hm : r.count = 4294967295
      · have hm1 : (r.count != 4294967295) = false := by simp [hm]
        have HT : Hid (((r.cells.set 4 (.bool true)).set 32 (.int .i64 16)).set 34 (.bool false) = (r.lat 4 16).cells) := by
          show _ = _
          simp [RR.cells, RR.lat, List.set_append, fb_set, hm]
        clear hm
        go_wp2_with (first | (refine wpList_load_all rfl 37 _ rfl (T := 37) (cs := (r.lat 4 16).cells) ?_ rfl 35 _ Try.underlying37 rfl r09_size (RR.len _) ?_; exact (Blk.alloc (Blk.set (Blk.set (Blk.set hB1 _) _) _) _).eq HT.out) | (refine wpList_store_all rfl 37 _ _ rfl (T := 37) (cs := RR.zero.cells) ?_ rfl _ rfl 35 r09_size (RR.len _) (RR.len _) (RR.one _) ?_; exact Blk.alloc (Blk.far (Blk.far (Blk.far hB2 _ (by simp)) _ (by simp)) _ (by simp)) _; intro w2 hw2 hu2 hs2))
        refine bodyPost_ret (results_blk_tmp rfl _ hw2 rfl Try.underlying37 rfl r09_size (RR.len _)) rfl ⟨rfl, ?_⟩
        exact Upd.and ((((hU.setCell _ _ (by simp)).setCell _ _ (by simp)).setCell _ _ (by simp)).alloc _) hu2 (by simp)
      · have hm1 : (r.count != 4294967295) = true := by simp [hm]
        have HT : Hid ((((r.cells.set 4 (.bool true)).set 32 (.int .i64 16)).set 34 (.bool false)).set 33 (.int .u32 ((r.count + 1) % 4294967296)) = (r.lat 4 16).cells) := by
          show _ = _
          simp [RR.cells, RR.lat, List.set_append, fb_set, hm]
        clear hm
        go_wp2_with (first | (refine wpList_load_all rfl 37 _ rfl (T := 37) (cs := (r.lat 4 16).cells) ?_ rfl 35 _ Try.underlying37 rfl r09_size (RR.len _) ?_; exact (Blk.alloc (Blk.set (Blk.set (Blk.set (Blk.set hB1 _) _) _) _) _).eq HT.out) | (refine wpList_store_all rfl 37 _ _ rfl (T := 37) (cs := RR.zero.cells) ?_ rfl _ rfl 35 r09_size (RR.len _) (RR.len _) (RR.one _) ?_; exact Blk.alloc (Blk.far (Blk.far (Blk.far (Blk.far hB2 _ (by simp)) _ (by simp)) _ (by simp)) _ (by simp)) _; intro w2 hw2 hu2 hs2))
        refine bodyPost_ret (results_blk_tmp rfl _ hw2 rfl Try.underlying37 rfl r09_size (RR.len _)) rfl ⟨rfl, ?_⟩
        exact Upd.and (((((hU.setCell _ _ (by simp)).setCell _ _ (by simp)).setCell _ _ (by simp)).setCell _ _ (by simp)).alloc _) hu2 (by simp)

/-- What the document latches. -/
def RR.latch (r : RR) (c : Int) : RR := if c = 2 then r.lat 1 2 else if c = 4 then r.lat 2 4 else if c = 8 then r.lat 3 8 else if c = 16 then r.lat 4 16 else r
def isCause (c : Int) : Bool := decide (c = 2 ∨ c = 4 ∨ c = 8 ∨ c = 16)
theorem r09_latch (r : RR) (c : Int) (w : World) :
    Calls Try.prog 19 #[.agg r.cells.toArray, .int .i64 c] w fun e w' => e = .returned (.tuple #[.agg (r.latch c).cells.toArray, .bool (isCause c)]) ∧ Upd [] w w' := by
  by_cases h2 : c = 2
  · subst h2; simpa [RR.latch, isCause] using r09_latch_2 r w
  by_cases h4 : c = 4
  · subst h4; simpa [RR.latch, isCause] using r09_latch_4 r w
  by_cases h8 : c = 8
  · subst h8; simpa [RR.latch, isCause] using r09_latch_8 r w
  by_cases h16 : c = 16
  · subst h16; simpa [RR.latch, isCause] using r09_latch_16 r w
  have := r09_latch_no r c w h2 h4 h8 h16
  simpa [RR.latch, isCause, h2, h4, h8, h16] using this

def RR.load (r : RR) (off : Int) : Int × Int :=
  if off % 4 ≠ 0 then (0, 11) else if off = 0 then (wdz r.cs, 0) else if off = 4 then (r.count, 0) else if off = 8 then (0, 0) else if off = 12 then (r.last % 4294967296, 0) else (0, 10)

set_option maxRecDepth 100000 in
set_option maxHeartbeats 400000 in
theorem r09_load (r : RR) (off : Int) (w : World) (h0 : 0 ≤ off) (h1 : off < 4294967296) :
    Calls Try.prog 20 #[.agg r.cells.toArray, .int .u32 off] w fun e w' => e = .returned (.tuple #[.int .u32 (r.load off).1, .int .i64 (r.load off).2]) ∧ Upd [] w w' := by
  have hB := Blk.new w 37 r.cells
  have c33 := (hB.cell 33).trans (show (r.cells.toArray)[33]? = some (.int .u32 r.count) by simp [RR.cells])
  have c32 := (hB.cell 32).trans (show (r.cells.toArray)[32]? = some (.int .i64 r.last) by simp [RR.cells])
  by_cases e0 : off % 4 = 0
  · by_cases e1 : off = 0
    · subst e1
      clear c33 c32
      go_enter Try.func20, Try.ntmps20
      go_wp2_with (first | (refine wpList_load_sub rfl 35 _ rfl (T := 37) hB rfl (fb r.cs 32) _ Try.underlying35 rfl ?_ ?_ ?_ ?_; simpa using arr32_size; simp [RR.cells]; simp [RR.cells]) | (go_at_call 44; refine (fn_word _ _).mono ?_; rintro e w' ⟨rfl, hu⟩))
      go_ret2
      exact ⟨by simp [RR.load], (Upd.alloc (Upd.refl [] w) _).trans hu⟩
    by_cases e1 : off = 4
    · subst e1
      go_enter Try.func20, Try.ntmps20
      go_wp2
      go_ret2
      exact ⟨by simp [RR.load], by (repeat (first | exact Upd.refl _ _ | refine Upd.drew ?_ | refine Upd.drewN ?_ _ | refine Upd.setCell ?_ _ _ (by simp) | refine Upd.alloc ?_ _))⟩
    by_cases e1 : off = 8
    · subst e1
      go_enter Try.func20, Try.ntmps20
      go_wp2
      go_ret2
      exact ⟨by simp [RR.load], by (repeat (first | exact Upd.refl _ _ | refine Upd.drew ?_ | refine Upd.drewN ?_ _ | refine Upd.setCell ?_ _ _ (by simp) | refine Upd.alloc ?_ _))⟩
    by_cases e1 : off = 12
    · subst e1
      go_enter Try.func20, Try.ntmps20
      go_wp2
      go_ret2
      exact ⟨by simp [RR.load], by (repeat (first | exact Upd.refl _ _ | refine Upd.drew ?_ | refine Upd.drewN ?_ _ | refine Upd.setCell ?_ _ _ (by simp) | refine Upd.alloc ?_ _))⟩
    go_enter Try.func20, Try.ntmps20
    go_wp2
    go_ret2
    exact ⟨by simp [RR.load, *], by (repeat (first | exact Upd.refl _ _ | refine Upd.drew ?_ | refine Upd.drewN ?_ _ | refine Upd.setCell ?_ _ _ (by simp) | refine Upd.alloc ?_ _))⟩
  · go_enter Try.func20, Try.ntmps20
    go_wp2
    go_ret2
    exact ⟨by simp [RR.load, *], by (repeat (first | exact Upd.refl _ _ | refine Upd.drew ?_ | refine Upd.drewN ?_ _ | refine Upd.setCell ?_ _ _ (by simp) | refine Upd.alloc ?_ _))⟩


end Go.Proofs.Ytdmdnijgjgjmkaa
