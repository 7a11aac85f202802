/- op: what is wrong with an operation. -/
import Derived.Test.YtdmdnijgjgjmkaaProg
import Derived.Test.YtdmdnijgjgjmkaaOp25b
import Derived.Test.YtdmdnijgjgjmkaaTapePut
set_option maxRecDepth 20000
namespace Go.Proofs.Ytdmdnijgjgjmkaa
open Go.RowKit

/-- What is wrong with an operation. -/
def chk (k : Int) (zs : List Nat) : Nat :=
  if (shapeAt k).word = [] then 9 else if (shapeAt k).need ≠ -1 ∧ (zs.length : Int) ≠ (shapeAt k).need then 3 else if 64 < zs.length then 6
  else if (shapeAt k).words = true ∧ ∃ n ∈ zs, 4294967295 < n then 5 else 0


theorem op_check1 (n : Nat) (w : World) : Calls Try.prog 56 #[.int .u64 n] w fun e w' => e = .returned (.bool (decide (4294967295 < n))) ∧ Upd [] w w' := by
  go_enter Try.func56, Try.ntmps56
  go_wp2_with fail
  go_ret
  refine ⟨?_, Upd.refl _ _⟩
  simp
  omega
theorem index_func (v : Value) (zs : List Nat) (w : World) (hv : Vec w v zs.length (u64s zs)) :
    Calls Try.prog 61 #[v, .func (.func 56) #[] #[]] w fun e w' => ∃ i : Int, e = .returned (.int .i64 i) ∧ (0 ≤ i ↔ ∃ n ∈ zs, 4294967295 < n) ∧ Upd [] w w' := by
  obtain ⟨a, cap, rfl, hcap, hmax, hcell⟩ := hv
  go_enter Try.func61, Try.ntmps61
  go_wp2_with fail
  go_loopw [8] (fun i wr => ∃ j : Nat, i = .int .i64 j ∧ j ≤ zs.length ∧ Held (∀ n ∈ zs.take j, ¬ 4294967295 < n) ∧ Upd [] w wr) (fun i _ => zs.length - (intOf i).toNat)
  case atStart => exact ⟨0, rfl, by omega, ⟨by simp⟩, Upd.refl _ _⟩
  case round =>
    obtain ⟨j, rfl, hj, hno, hU⟩ := hrel
    by_cases hlt : j < zs.length
    · rcases hcell with h0 | ⟨b, o, rfl, hb, hc⟩
      · have := congrArg List.length h0; simp only [u64s, List.length_map, List.length_nil] at this; omega
      have hck : wr.cell? ⟨b, o + j, none⟩ = some (.int .u64 (zs[j] : Nat)) := (hU.cell hb (by simp)).trans (hc j _ (by simp [u64s, hlt]))
      have hkc : j < cap := Nat.lt_of_lt_of_le hlt hcap
      have hmem : Held (zs[j] ∈ zs) := ⟨List.getElem_mem hlt⟩
      have htk : Held (zs.take (j + 1) = zs.take j ++ [zs[j]]) := ⟨List.take_succ_eq_append_getElem hlt⟩
      have hb63 : Held (zs.length ≤ 9223372036854775807) := ⟨by have := maxLen_eq; omega⟩
      generalize zs[j] = z at *
      clear hc
      go_wp2_with fail
      refine (op_check1 _ _).mono ?_
      rintro e w1 ⟨rfl, hu1⟩
      by_cases hz : 4294967295 < z
      · go_wp2_with fail
        go_ret
        exact ⟨_, rfl, ⟨fun _ => ⟨z, hmem.out, hz⟩, fun _ => by omega⟩, hU.trans hu1⟩
      · go_wp2_with fail
        have hw : wrap64 ((j : Int) + 1) = ((j + 1 : Nat) : Int) := by have := hb63.out; rw [wrap64_small _ (by omega)]; rfl
        rw [hw]
        refine ⟨⟨j + 1, rfl, by omega, ⟨?_⟩, hU.trans hu1⟩, ?_⟩
        · rw [htk.out]
          intro n hn
          rcases List.mem_append.1 hn with h | h
          · exact hno.out n h
          · rw [List.mem_singleton.1 h]; exact hz
        · clear hw; simp only [intOf]; omega
    · have hall : Held (∀ n ∈ zs, ¬ 4294967295 < n) := ⟨by
        have h1 := hno.out
        rwa [List.take_of_length_le (by omega)] at h1⟩
      clear hcell
      go_wp2_with fail
      go_ret
      exact ⟨-1, rfl, ⟨fun h => by omega, fun ⟨n, h1, h2⟩ => absurd h2 (hall.out n h1)⟩, hU⟩
theorem contains_func (v : Value) (zs : List Nat) (w : World) (hv : Vec w v zs.length (u64s zs)) :
    Calls Try.prog 55 #[v, .func (.func 56) #[] #[]] w fun e w' => e = .returned (.bool (decide (∃ n ∈ zs, 4294967295 < n))) ∧ Upd [] w w' := by
  go_enter Try.func55, Try.ntmps55
  go_wp2_with fail
  refine (index_func _ zs _ hv).mono ?_
  rintro e w1 ⟨i, rfl, hi, hu⟩
  go_wp2_with fail
  go_ret
  refine ⟨?_, hu⟩
  simp [hi]

theorem op_check (k : Int) (v : Value) (zs : List Nat) (w : World) (hv : Vec w v zs.length (u64s zs)) (hz : ∀ n ∈ zs, W64 n) :
    Calls Try.prog 47 #[.agg #[.int .i64 k, v]] w fun e w' => e = .returned (.int .i64 (chk k zs : Nat)) ∧ Upd [] w w' := by
  have hv0 := hv
  obtain ⟨a, cap, rfl, hcap, hmax, hcell⟩ := hv
  go_enter Try.func47, Try.ntmps47
  go_wp2_with fail
  have hU0 : Upd [] w (w.alloc (Obj.cells #[Value.int IntKind.i64 k, Value.slice a zs.length cap] 68)) := by (repeat (first | exact Upd.refl _ _ | refine Upd.drew ?_ | refine Upd.drewN ?_ _ | refine Upd.setCell ?_ _ _ (by simp) | refine Upd.alloc ?_ _))
  have hB0 : Blk (w.alloc (Obj.cells #[Value.int IntKind.i64 k, Value.slice a zs.length cap] 68)) w.heap.size 68 [Value.int IntKind.i64 k, Value.slice a zs.length cap] := heap_alloc_new w _
  generalize w.alloc (Obj.cells #[Value.int IntKind.i64 k, Value.slice a zs.length cap] 68) = w0 at *
  refine (op_of _ _).mono ?_
  rintro e w1 ⟨rfl, hu1⟩
  have hB1 := hB0.upd hu1 (by simp)
  have hlt1 : w.heap.size < w1.heap.size := hB1.lt
  generalize hS : shapeAt k = S
  go_wp2_with (first
    | ((with_reducible refine at_alloc _ ?_); refine wpList_alc rfl _ rfl [Value.string ⟨#[]⟩, .int .i64 0, .bool false, .bool false] shape_zero ?_; intro w2 hB2 hU2 hs2; have hb2 := hB1.upd hU2 (by simp))
    | ((with_reducible refine at_store _ ?_); refine wpList_store_all rfl 110 _ _ rfl hB2 rfl S.cells rfl 4 shape_size rfl rfl (Shape.one _) ?_; intro w3 hB3 hU3 hs3; have hb3 := hb2.upd hU3 (by simp; omega); have hU03 : Upd [] w w3 := ((hU0.trans hu1).trans hU2).and hU3 (by have := hU0.size; simp; omega); have c0 := hb3.get 1 rfl; have c1 := hB3.get 0 rfl; have c2 := hB3.get 1 rfl; have c3 := hB3.get 2 rfl; clear hB1 hB0 hb2 hB2 hU2 hU3 hu1 hs2 hs3))
  all_goals first
    | (refine (contains_func _ zs _ (hv0.upd hU03)).mono ?_; rintro e w4 ⟨rfl, hu4⟩; by_cases hbig : ∃ n ∈ zs, 4294967295 < n <;> go_wp2_with fail)
    | skip
  all_goals
    go_ret
    refine ⟨?_, by first | exact hU03.trans hu4 | exact hU03⟩
    clear hU03 hb3 hB3 c0 c1 c2 c3 hcell hv0 hU0 hlt1 hz hmax hcap
    try clear hu4
    try simp only [bne_iff_ne, ne_eq, bne_eq_false_iff_eq, List.isEmpty_iff, List.isEmpty_eq_false_iff] at *
    first
    | (have hc : chk k zs = 9 := by
         unfold chk
         rw [hS]
         repeat' split
         all_goals first | rfl | (exfalso; first | omega | (simp_all; done) | (simp_all; omega))
       rw [hc]
       rfl)
    | (have hc : chk k zs = 3 := by
         unfold chk
         rw [hS]
         repeat' split
         all_goals first | rfl | (exfalso; first | omega | (simp_all; done) | (simp_all; omega))
       rw [hc]
       rfl)
    | (have hc : chk k zs = 6 := by
         unfold chk
         rw [hS]
         repeat' split
         all_goals first | rfl | (exfalso; first | omega | (simp_all; done) | (simp_all; omega))
       rw [hc]
       rfl)
    | (have hc : chk k zs = 5 := by
         unfold chk
         rw [hS]
         repeat' split
         all_goals first | rfl | (exfalso; first | omega | (simp_all; done) | (simp_all; omega))
       rw [hc]
       rfl)
    | (have hc : chk k zs = 0 := by
         unfold chk
         rw [hS]
         repeat' split
         all_goals first | rfl | (exfalso; first | omega | (simp_all; done) | (simp_all; omega))
       rw [hc]
       rfl)
end Go.Proofs.Ytdmdnijgjgjmkaa
