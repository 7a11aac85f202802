/- op: the shapes of kinds. -/
import Derived.Test.YtdmdnijgjgjmkaaProg
import Derived.Test.YtdmdnijgjgjmkaaVec
set_option maxRecDepth 20000
namespace Go.Proofs.Ytdmdnijgjgjmkaa
open Go.RowKit

/-- The shape of a kind: its word, how many numbers, words or not, accesses or not. -/
structure Shape where
  word : List UInt8
  need : Int
  words : Bool
  access : Bool
def Shape.val (s : Shape) : Value := .agg #[.string ⟨s.word.toArray⟩, .int .i64 s.need, .bool s.words, .bool s.access]
def Shape.cells (s : Shape) : List Value := [.string ⟨s.word.toArray⟩, .int .i64 s.need, .bool s.words, .bool s.access]
def shapeList : List Shape := [⟨[], -1, false, false⟩,
  ⟨[97, 116], 2, false, true⟩,
  ⟨[97, 102, 116, 101, 114], 2, false, true⟩,
  ⟨[99, 97, 110, 99, 101, 108], 1, true, true⟩,
  ⟨[100, 114, 111, 112], 1, false, true⟩,
  ⟨[116, 105, 99, 107], 1, false, false⟩,
  ⟨[115, 101, 114, 118, 101], 0, false, true⟩,
  ⟨[98, 111, 111, 116], 0, false, false⟩,
  ⟨[100, 111, 103], 3, true, true⟩,
  ⟨[102, 101, 101, 100], 0, false, true⟩,
  ⟨[99, 97, 114, 101], 0, false, true⟩,
  ⟨[107, 101, 121], 1, true, true⟩,
  ⟨[115, 116, 111, 112], 0, false, true⟩,
  ⟨[103, 97, 112, 115], -1, true, false⟩,
  ⟨[110, 111, 119], 0, false, true⟩,
  ⟨[115, 101, 99, 111, 110, 100, 115], 0, false, true⟩,
  ⟨[115, 101, 116], 1, false, true⟩,
  ⟨[97, 114, 109], 1, false, true⟩,
  ⟨[116, 97, 107, 101], 0, false, true⟩,
  ⟨[99, 111, 117, 110, 116], 4, true, true⟩,
  ⟨[114, 105, 110, 103], 1, true, true⟩,
  ⟨[108, 111, 97, 100], 1, true, true⟩,
  ⟨[115, 116, 111, 114, 101], 2, true, true⟩,
  ⟨[115, 116, 97, 116, 101], 0, false, false⟩,
  ⟨[102, 105, 114, 101, 115], 0, false, false⟩]
def shapeCells : Array Value := (shapeList.flatMap Shape.cells).toArray

theorem shape_0 : Try.prog.built 110 [(1, .int .i64 (-1))] = some #[.string ⟨#[]⟩, .int .i64 (-1), .bool false, .bool false] := by kernel_rfl
theorem shape_1 : Try.prog.built 110 [(0, .string ⟨#[97, 116]⟩), (1, .int .i64 2), (2, .bool false), (3, .bool true)] = some #[.string ⟨#[97, 116]⟩, .int .i64 (2), .bool false, .bool true] := by kernel_rfl
theorem shape_2 : Try.prog.built 110 [(0, .string ⟨#[97, 102, 116, 101, 114]⟩), (1, .int .i64 2), (2, .bool false), (3, .bool true)] = some #[.string ⟨#[97, 102, 116, 101, 114]⟩, .int .i64 (2), .bool false, .bool true] := by kernel_rfl
theorem shape_3 : Try.prog.built 110 [(0, .string ⟨#[99, 97, 110, 99, 101, 108]⟩), (1, .int .i64 1), (2, .bool true), (3, .bool true)] = some #[.string ⟨#[99, 97, 110, 99, 101, 108]⟩, .int .i64 (1), .bool true, .bool true] := by kernel_rfl
theorem shape_4 : Try.prog.built 110 [(0, .string ⟨#[100, 114, 111, 112]⟩), (1, .int .i64 1), (2, .bool false), (3, .bool true)] = some #[.string ⟨#[100, 114, 111, 112]⟩, .int .i64 (1), .bool false, .bool true] := by kernel_rfl
theorem shape_5 : Try.prog.built 110 [(0, .string ⟨#[116, 105, 99, 107]⟩), (1, .int .i64 1), (2, .bool false), (3, .bool false)] = some #[.string ⟨#[116, 105, 99, 107]⟩, .int .i64 (1), .bool false, .bool false] := by kernel_rfl
theorem shape_6 : Try.prog.built 110 [(0, .string ⟨#[115, 101, 114, 118, 101]⟩), (1, .int .i64 0), (2, .bool false), (3, .bool true)] = some #[.string ⟨#[115, 101, 114, 118, 101]⟩, .int .i64 (0), .bool false, .bool true] := by kernel_rfl
theorem shape_7 : Try.prog.built 110 [(0, .string ⟨#[98, 111, 111, 116]⟩), (1, .int .i64 0), (2, .bool false), (3, .bool false)] = some #[.string ⟨#[98, 111, 111, 116]⟩, .int .i64 (0), .bool false, .bool false] := by kernel_rfl
theorem shape_8 : Try.prog.built 110 [(0, .string ⟨#[100, 111, 103]⟩), (1, .int .i64 3), (2, .bool true), (3, .bool true)] = some #[.string ⟨#[100, 111, 103]⟩, .int .i64 (3), .bool true, .bool true] := by kernel_rfl
theorem shape_9 : Try.prog.built 110 [(0, .string ⟨#[102, 101, 101, 100]⟩), (1, .int .i64 0), (2, .bool false), (3, .bool true)] = some #[.string ⟨#[102, 101, 101, 100]⟩, .int .i64 (0), .bool false, .bool true] := by kernel_rfl
theorem shape_10 : Try.prog.built 110 [(0, .string ⟨#[99, 97, 114, 101]⟩), (1, .int .i64 0), (2, .bool false), (3, .bool true)] = some #[.string ⟨#[99, 97, 114, 101]⟩, .int .i64 (0), .bool false, .bool true] := by kernel_rfl
theorem shape_11 : Try.prog.built 110 [(0, .string ⟨#[107, 101, 121]⟩), (1, .int .i64 1), (2, .bool true), (3, .bool true)] = some #[.string ⟨#[107, 101, 121]⟩, .int .i64 (1), .bool true, .bool true] := by kernel_rfl
theorem shape_12 : Try.prog.built 110 [(0, .string ⟨#[115, 116, 111, 112]⟩), (1, .int .i64 0), (2, .bool false), (3, .bool true)] = some #[.string ⟨#[115, 116, 111, 112]⟩, .int .i64 (0), .bool false, .bool true] := by kernel_rfl
theorem shape_13 : Try.prog.built 110 [(0, .string ⟨#[103, 97, 112, 115]⟩), (1, .int .i64 (-1)), (2, .bool true), (3, .bool false)] = some #[.string ⟨#[103, 97, 112, 115]⟩, .int .i64 (-1), .bool true, .bool false] := by kernel_rfl
theorem shape_14 : Try.prog.built 110 [(0, .string ⟨#[110, 111, 119]⟩), (1, .int .i64 0), (2, .bool false), (3, .bool true)] = some #[.string ⟨#[110, 111, 119]⟩, .int .i64 (0), .bool false, .bool true] := by kernel_rfl
theorem shape_15 : Try.prog.built 110 [(0, .string ⟨#[115, 101, 99, 111, 110, 100, 115]⟩), (1, .int .i64 0), (2, .bool false), (3, .bool true)] = some #[.string ⟨#[115, 101, 99, 111, 110, 100, 115]⟩, .int .i64 (0), .bool false, .bool true] := by kernel_rfl
theorem shape_16 : Try.prog.built 110 [(0, .string ⟨#[115, 101, 116]⟩), (1, .int .i64 1), (2, .bool false), (3, .bool true)] = some #[.string ⟨#[115, 101, 116]⟩, .int .i64 (1), .bool false, .bool true] := by kernel_rfl
theorem shape_17 : Try.prog.built 110 [(0, .string ⟨#[97, 114, 109]⟩), (1, .int .i64 1), (2, .bool false), (3, .bool true)] = some #[.string ⟨#[97, 114, 109]⟩, .int .i64 (1), .bool false, .bool true] := by kernel_rfl
theorem shape_18 : Try.prog.built 110 [(0, .string ⟨#[116, 97, 107, 101]⟩), (1, .int .i64 0), (2, .bool false), (3, .bool true)] = some #[.string ⟨#[116, 97, 107, 101]⟩, .int .i64 (0), .bool false, .bool true] := by kernel_rfl
theorem shape_19 : Try.prog.built 110 [(0, .string ⟨#[99, 111, 117, 110, 116]⟩), (1, .int .i64 4), (2, .bool true), (3, .bool true)] = some #[.string ⟨#[99, 111, 117, 110, 116]⟩, .int .i64 (4), .bool true, .bool true] := by kernel_rfl
theorem shape_20 : Try.prog.built 110 [(0, .string ⟨#[114, 105, 110, 103]⟩), (1, .int .i64 1), (2, .bool true), (3, .bool true)] = some #[.string ⟨#[114, 105, 110, 103]⟩, .int .i64 (1), .bool true, .bool true] := by kernel_rfl
theorem shape_21 : Try.prog.built 110 [(0, .string ⟨#[108, 111, 97, 100]⟩), (1, .int .i64 1), (2, .bool true), (3, .bool true)] = some #[.string ⟨#[108, 111, 97, 100]⟩, .int .i64 (1), .bool true, .bool true] := by kernel_rfl
theorem shape_22 : Try.prog.built 110 [(0, .string ⟨#[115, 116, 111, 114, 101]⟩), (1, .int .i64 2), (2, .bool true), (3, .bool true)] = some #[.string ⟨#[115, 116, 111, 114, 101]⟩, .int .i64 (2), .bool true, .bool true] := by kernel_rfl
theorem shape_23 : Try.prog.built 110 [(0, .string ⟨#[115, 116, 97, 116, 101]⟩), (1, .int .i64 0), (2, .bool false), (3, .bool false)] = some #[.string ⟨#[115, 116, 97, 116, 101]⟩, .int .i64 (0), .bool false, .bool false] := by kernel_rfl
theorem shape_24 : Try.prog.built 110 [(0, .string ⟨#[102, 105, 114, 101, 115]⟩), (1, .int .i64 0), (2, .bool false), (3, .bool false)] = some #[.string ⟨#[102, 105, 114, 101, 115]⟩, .int .i64 (0), .bool false, .bool false] := by kernel_rfl

theorem shapes_all : Try.prog.built 115 ((shapeList.map Shape.val).zipIdx.map fun x => (x.2, x.1)) = some shapeCells := by kernel_rfl

theorem shapes_zero : (Try.prog.info? 115).bind (·.zero) = some (.agg ((List.replicate 25 [Value.string ⟨#[]⟩, .int .i64 0, .bool false, .bool false]).flatten).toArray) := by kernel_rfl
theorem shapes_size : (Try.prog.info? 115).map (·.size) = some 100 := by kernel_rfl
theorem shapes_one : ∀ v ∈ shapeList.flatMap Shape.cells, v.oneCell' = true := by
  intro v hv
  obtain ⟨s, _, h⟩ := List.mem_flatMap.1 hv
  simp only [Shape.cells, List.mem_cons, List.not_mem_nil, or_false] at h
  rcases h with rfl | rfl | rfl | rfl <;> rfl
set_option maxHeartbeats 4000000 in
theorem op_shapes (w : World) : Calls Try.prog 60 #[] w fun e w' => e = .returned (.agg shapeCells) ∧ Upd [] w w' := by
  go_enter Try.func60, Try.ntmps60
  go_wp2_with (first
    | ((with_reducible refine at_alloc _ ?_); refine wpList_alc rfl _ rfl (List.replicate 25 [Value.string ⟨#[]⟩, .int .i64 0, .bool false, .bool false]).flatten shapes_zero ?_; intro w0 hB hU hs)
    | ((with_reducible refine at_build ?_)
       refine wpList_bld rfl 110 _ rfl shape_0 rfl ?_
       refine wpList_bld rfl 110 _ rfl shape_1 rfl ?_
       refine wpList_bld rfl 110 _ rfl shape_2 rfl ?_
       refine wpList_bld rfl 110 _ rfl shape_3 rfl ?_
       refine wpList_bld rfl 110 _ rfl shape_4 rfl ?_
       refine wpList_bld rfl 110 _ rfl shape_5 rfl ?_
       refine wpList_bld rfl 110 _ rfl shape_6 rfl ?_
       refine wpList_bld rfl 110 _ rfl shape_7 rfl ?_
       refine wpList_bld rfl 110 _ rfl shape_8 rfl ?_
       refine wpList_bld rfl 110 _ rfl shape_9 rfl ?_
       refine wpList_bld rfl 110 _ rfl shape_10 rfl ?_
       refine wpList_bld rfl 110 _ rfl shape_11 rfl ?_
       refine wpList_bld rfl 110 _ rfl shape_12 rfl ?_
       refine wpList_bld rfl 110 _ rfl shape_13 rfl ?_
       refine wpList_bld rfl 110 _ rfl shape_14 rfl ?_
       refine wpList_bld rfl 110 _ rfl shape_15 rfl ?_
       refine wpList_bld rfl 110 _ rfl shape_16 rfl ?_
       refine wpList_bld rfl 110 _ rfl shape_17 rfl ?_
       refine wpList_bld rfl 110 _ rfl shape_18 rfl ?_
       refine wpList_bld rfl 110 _ rfl shape_19 rfl ?_
       refine wpList_bld rfl 110 _ rfl shape_20 rfl ?_
       refine wpList_bld rfl 110 _ rfl shape_21 rfl ?_
       refine wpList_bld rfl 110 _ rfl shape_22 rfl ?_
       refine wpList_bld rfl 110 _ rfl shape_23 rfl ?_
       refine wpList_bld rfl 110 _ rfl shape_24 rfl ?_
       simp only [Act.put, List.setIfInBounds_toArray, List.set_cons_succ, List.set_cons_zero]
       refine wpList_bld rfl 115 _ rfl shapes_all rfl ?_
       simp only [Act.put, List.setIfInBounds_toArray, List.set_cons_succ, List.set_cons_zero]
       refine wpList_store_all ?_ 115 (.tmp 0) (.tmp 26) rfl hB rfl (shapeList.flatMap Shape.cells) ?_ 100 shapes_size rfl rfl shapes_one ?_
       · rfl
       · rfl
       intro w1 hB1 hU1 hs1
       simp only [Act.put]))
  exact bodyPost_ret (v := .agg shapeCells) (results_blk Try.results60 _ hB1 rfl Try.underlying115 rfl shapes_size rfl) rfl ⟨rfl, hU.and hU1 (by simp)⟩

end Go.Proofs.Ytdmdnijgjgjmkaa
