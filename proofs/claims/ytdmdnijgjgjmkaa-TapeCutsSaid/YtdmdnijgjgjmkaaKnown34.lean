/- The chapter's examples hold. -/
import Derived.Test.YtdmdnijgjgjmkaaProg
import Derived.Test.YtdmdnijgjgjmkaaTapeBytes2
import Derived.Test.YtdmdnijgjgjmkaaLaw34
set_option maxRecDepth 20000
namespace Go.Proofs.Ytdmdnijgjgjmkaa
open Go.RowKit

def hd34 : Hd := ⟨1, 1, 10, 0, 4⟩
theorem put34 : putAll [5, 300] = [5, 172, 2] := by simp [putAll, putOne_lt, putOne_ge]
theorem tape34 (v : Value) : tapeB hd34 1 [⟨6, [], v⟩] = [84, 1, 1, 10, 0, 4, 1, 6, 0] := by simp [tapeB, tapeNums, hd34, Hd.nums, OpD.nums, putAll, putOne_lt]
theorem err34 (v : Value) : tapeErr hd34 [⟨6, [], v⟩] = 0 := by
  have h1 : hd34.chk = 0 := by simp [hd34, Hd.chk, headChk, headOk]
  have h2 : OpD.chk ⟨6, [], v⟩ = 0 := by simp [OpD.chk, chk, shapeAt, shapeList]
  unfold tapeErr
  rw [if_pos h1]
  simp [opsErr, h2]
theorem vec_nil (w : World) : Vec w (.slice none 0 0) 0 [] := ⟨none, 0, rfl, by omega, by simp, Or.inl rfl⟩

theorem vec_new (w : World) (T : TypeId) (cs : List Value) (n : Nat) (hn : n ≤ maxLen) : Vec (w.alloc (Obj.cells cs.toArray T)) (.slice (some ⟨w.heap.size, 0, none⟩) n n) n cs :=
  ⟨_, n, rfl, Nat.le_refl _, hn, Or.inr ⟨w.heap.size, 0, rfl, by simp, fun j u hj => (show Blk (w.alloc (Obj.cells cs.toArray T)) w.heap.size T cs from heap_alloc_new w _).get (0 + j) (by rw [Nat.zero_add]; exact hj)⟩⟩
theorem upd_new (w : World) (o : Obj) : Upd [] w (w.alloc o) := (Upd.refl _ _).alloc _
theorem l34_known (w : World) : Calls Try.prog 31 #[] w fun e w' => e = .returned (.bool true) ∧ Upd [] w w' := by
  go_enter Try.func31, Try.ntmps31
  go_wp2_with (first
    | ((with_reducible refine at_build ?_); refine wpList_bld rfl 64 _ rfl (cells := hd34.cells.toArray) (by kernel_rfl) rfl ?_)
    | ((with_reducible refine at_build ?_); refine wpList_bld rfl 68 _ rfl (cells := #[.int .i64 6, .slice none 0 0]) (by kernel_rfl) rfl ?_))
  have hB0 : Blk (w.alloc (Obj.cells #[Value.int IntKind.i64 6, Value.slice none 0 0] 68)) w.heap.size 68 (opCells [⟨6, [], .slice none 0 0⟩]) := heap_alloc_new w _
  have hU0 : Upd [] w (w.alloc (Obj.cells #[Value.int IntKind.i64 6, Value.slice none 0 0] 68)) := by (repeat (first | exact Upd.refl _ _ | refine Upd.drew ?_ | refine Upd.drewN ?_ _ | refine Upd.setCell ?_ _ _ (by simp) | refine Upd.alloc ?_ _))
  generalize w.alloc (Obj.cells #[Value.int IntKind.i64 6, Value.slice none 0 0] 68) = w0 at *
  refine (tape_bytes hd34 [⟨6, [], .slice none 0 0⟩] _ w0 (vec_of_own (own_of_blk (base := 0) (size := 2) (n := 1) hB0 (Nat.zero_le _) rfl (by decide))) (by intro o ho; rw [List.mem_singleton.1 ho]; exact ⟨vec_nil _, by simp⟩) ⟨by simp⟩ (by decide)).mono ?_
  rintro e w1 ⟨hu1, h | h⟩
  · obtain ⟨_, v1, rfl, hown⟩ := h
    have hV1 := vec_of_own hown
    have hlen9 : ([⟨6, [], .slice none 0 0⟩] : List OpD).length = 1 := rfl
    rw [hlen9, tape34] at hV1
    clear hown hlen9 hB0
    have hU1 := hU0.trans hu1
    clear hU0 hu1
    go_wp2_with fail
    refine (tape_put _ [5, 300] _ (vec_new w1 55 (u64s [5, 300]) 2 (by decide)) (by intro n hn; simp only [List.mem_cons, List.not_mem_nil, or_false] at hn; rcases hn with rfl | rfl <;> exact ⟨by decide⟩) ⟨by simp⟩).mono ?_
    rintro e w2 ⟨v2, rfl, hown2, hu2⟩
    have hV2 := vec_of_own hown2
    rw [put34] at hV2
    have hU2 := (hU1.trans (upd_new _ _)).trans hu2
    have hV1' := hV1.upd ((upd_new _ _).trans hu2)
    clear hV1 hU1 hu2 hown2
    go_wp2_with fail
    refine (l34_same _ _ [5, 172, 2] [5, 172, 2] _ (hV2.upd (upd_new _ _)) (vec_new w2 5 (bys [5, 172, 2]) 3 (by decide))).mono ?_
    rintro e w3 ⟨rfl, hu3⟩
    have hU3 := (hU2.trans (upd_new _ _)).trans hu3
    have hV3 := hV1'.upd ((upd_new _ _).trans hu3)
    rw [decide_eq_true rfl]
    clear hV1' hU2 hu3 hV2
    go_wp2_with fail
    refine (l34_same _ _ [84, 1, 1, 10, 0, 4, 1, 6, 0] [84, 1, 1, 10, 0, 4, 1, 6, 0] _ (hV3.upd (upd_new _ _)) (vec_new w3 5 (bys [84, 1, 1, 10, 0, 4, 1, 6, 0]) 9 (by decide))).mono ?_
    rintro e w4 ⟨rfl, hu4⟩
    have hU4 := (hU3.trans (upd_new _ _)).trans hu4
    rw [decide_eq_true rfl]
    go_wp2_with fail
    go_ret
    exact ⟨rfl, hU4⟩
  · exact absurd (err34 _) h.1
end Go.Proofs.Ytdmdnijgjgjmkaa
