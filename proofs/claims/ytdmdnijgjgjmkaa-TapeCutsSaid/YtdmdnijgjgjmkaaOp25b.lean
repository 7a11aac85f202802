/- op: the shape of a kind; what is wrong with an operation. -/
import Derived.Test.YtdmdnijgjgjmkaaProg
import Derived.Test.YtdmdnijgjgjmkaaOp25
set_option maxRecDepth 20000
namespace Go.Proofs.Ytdmdnijgjgjmkaa
open Go.RowKit

def noShape : Shape := ⟨[], -1, false, false⟩
def shapeAt (k : Int) : Shape := if k < 1 ∨ 24 < k then noShape else shapeList.getD k.toNat noShape
theorem shape_zero : (Try.prog.info? 110).bind (·.zero) = some (.agg [Value.string ⟨#[]⟩, .int .i64 0, .bool false, .bool false].toArray) := by kernel_rfl
theorem shape_size : (Try.prog.info? 110).map (·.size) = some 4 := by kernel_rfl
theorem shape_get (n : Nat) (h : n < 25) : shapeCells.extract (n * 4) (n * 4 + 4) = (shapeList.getD n noShape).cells.toArray := by
  have : n = 0 ∨ n = 1 ∨ n = 2 ∨ n = 3 ∨ n = 4 ∨ n = 5 ∨ n = 6 ∨ n = 7 ∨ n = 8 ∨ n = 9 ∨ n = 10 ∨ n = 11 ∨ n = 12 ∨ n = 13 ∨ n = 14 ∨ n = 15 ∨ n = 16 ∨ n = 17 ∨ n = 18 ∨ n = 19 ∨ n = 20 ∨ n = 21 ∨ n = 22 ∨ n = 23 ∨ n = 24 := by omega
  rcases this with h | h | h | h | h | h | h | h | h | h | h | h | h | h | h | h | h | h | h | h | h | h | h | h | h <;> subst h <;> simp [shapeCells, shapeList, Shape.cells]
theorem Shape.one (s : Shape) : ∀ v ∈ s.cells, v.oneCell' = true := by
  intro v hv
  simp only [Shape.cells, List.mem_cons, List.not_mem_nil, or_false] at hv
  rcases hv with rfl | rfl | rfl | rfl <;> rfl

set_option maxHeartbeats 4000000 in
theorem op_of (k : Int) (w : World) : Calls Try.prog 54 #[.int .i64 k] w fun e w' => e = .returned (.agg (shapeAt k).cells.toArray) ∧ Upd [] w w' := by
  go_enter Try.func54, Try.ntmps54
  by_cases hk : k < 1 ∨ 24 < k
  · have hA : shapeAt k = noShape := if_pos hk
    rw [hA]
    go_wp2_with ((with_reducible refine at_alloc _ ?_); refine wpList_alc rfl _ rfl [Value.string ⟨#[]⟩, .int .i64 0, .bool false, .bool false] shape_zero ?_; intro w0 hB hU hs)
    all_goals
      refine (op_shapes _).mono ?_
      rintro e w1 ⟨rfl, hu1⟩
      have hB1 := hB.upd hu1 (by simp)
      go_wp2_with (first
        | ((with_reducible refine at_index _ ?_); refine wpList_idx rfl 115 _ _ rfl Try.underlying115 shape_size Try.underlying110 rfl shapeCells rfl 0 rfl rfl (by decide) ?_; rw [shape_get 0 (by decide)])
        | ((with_reducible refine at_store _ ?_); refine wpList_store_all rfl 110 _ _ rfl hB1 rfl noShape.cells rfl 4 shape_size rfl rfl (Shape.one _) ?_; intro w2 hB2 hU2 hs2))
      exact bodyPost_ret (results_blk Try.results54 _ hB2 rfl Try.underlying110 rfl shape_size rfl) rfl ⟨rfl, (hU.trans hu1).and hU2 (by simp)⟩
  · have hA : shapeAt k = shapeList.getD k.toNat noShape := if_neg hk
    rw [hA]
    have hkn : Held (k = (k.toNat : Int)) := ⟨by omega⟩
    have hk25 : k.toNat < 25 := by omega
    go_wp2_with ((with_reducible refine at_alloc _ ?_); refine wpList_alc rfl _ rfl [Value.string ⟨#[]⟩, .int .i64 0, .bool false, .bool false] shape_zero ?_; intro w0 hB hU hs)
    all_goals
      refine (op_shapes _).mono ?_
      rintro e w1 ⟨rfl, hu1⟩
      have hB1 := hB.upd hu1 (by simp)
      go_wp2_with (first
        | ((with_reducible refine at_index _ ?_); refine wpList_idx rfl 115 _ _ rfl Try.underlying115 shape_size Try.underlying110 rfl shapeCells rfl k.toNat rfl hkn.out hk25 ?_; rw [shape_get k.toNat hk25])
        | ((with_reducible refine at_store _ ?_); refine wpList_store_all rfl 110 _ _ rfl hB1 rfl (shapeList.getD k.toNat noShape).cells rfl 4 shape_size rfl rfl (Shape.one _) ?_; intro w2 hB2 hU2 hs2))
      exact bodyPost_ret (results_blk Try.results54 _ hB2 rfl Try.underlying110 rfl shape_size rfl) rfl ⟨rfl, (hU.trans hu1).and hU2 (by simp)⟩

end Go.Proofs.Ytdmdnijgjgjmkaa
