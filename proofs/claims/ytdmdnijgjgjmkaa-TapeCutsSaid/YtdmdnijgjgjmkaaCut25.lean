/- The laws' op.Cut: at most 70 numbers. -/
import Derived.Test.YtdmdnijgjgjmkaaProg
import Derived.Test.YtdmdnijgjgjmkaaParseS
import Derived.Test.YtdmdnijgjgjmkaaKnown34
set_option maxRecDepth 20000
namespace Go.Proofs.Ytdmdnijgjgjmkaa
open Go.RowKit

theorem Vec.cut {w : World} {a : Option Addr} {n n' cap : Nat} {cells : List Value} (h : Vec w (.slice a n' cap) n cells) (k m : Nat) (hk : k ≤ n) : Vec w (.slice a k cap) k (cells.take m) := by
  obtain ⟨a', cap', h1, h2, h3, h4⟩ := h
  simp only [Value.slice.injEq] at h1
  obtain ⟨rfl, _, rfl⟩ := h1
  refine ⟨a, cap, rfl, by omega, h3, ?_⟩
  rcases h4 with h4 | ⟨b, o, ha, hb, hc⟩
  · exact Or.inl (by rw [h4]; simp)
  · refine Or.inr ⟨b, o, ha, hb, fun j u hj => hc j u ?_⟩
    rw [List.getElem?_take] at hj
    split at hj
    · exact hj
    · cases hj
theorem u64s_take (l : List Nat) (k : Nat) : (u64s l).take k = u64s (l.take k) := by simp [u64s, List.map_take]
def OpD.cut (o : OpD) (v : Value) : OpD := ⟨o.k, o.ns.take 70, v⟩

theorem l25_cut (o : OpD) (W0 w : World) (ho : OpOk W0 o) :
    Calls Try.prog 32 #[.agg #[.int .i64 o.k, o.v]] w fun e w' => ∃ v', e = .returned (.agg #[.int .i64 o.k, v']) ∧ OpOk W0 (o.cut v') ∧ Upd [] w w' := by
  obtain ⟨k, ns, v⟩ := o
  obtain ⟨hvec, h64⟩ := ho
  dsimp only at hvec h64 ⊢
  have hvec0 := hvec
  obtain ⟨a, cap, rfl, hcap, hmax, _⟩ := hvec
  obtain ⟨N, hN, hNc⟩ : ∃ N : Nat, N = (ns.take 70).length ∧ Vec W0 (.slice a N cap) N (u64s (ns.take 70)) := ⟨_, rfl, by rw [← u64s_take]; exact hvec0.cut _ _ (by rw [List.length_take]; omega)⟩
  have hok : OpOk W0 (OpD.cut ⟨k, ns, .slice a ns.length cap⟩ (.slice a N cap)) := ⟨by rw [hN] at hNc ⊢; exact hNc, fun n hn => h64 n (List.mem_of_mem_take hn)⟩
  rw [List.length_take] at hN
  go_enter Try.func32, Try.ntmps32
  by_cases h70 : ns.length ≤ 70
  · obtain rfl : N = ns.length := by omega
    have hle : (ns.length : Int) ≤ 70 := by omega
    have hnc : (ns.length : Int) ≤ cap := by omega
    clear hN
    go_wp2_with (first
      | ((with_reducible refine at_alloc 68 ?_); refine wpList_alc rfl _ rfl [Value.int .i64 0, .slice none 0 0] op_zero ?_; intro w1 hR1 hU1 hs1; have hB1 := (show Blk (w.alloc (Obj.cells #[Value.int .i64 k, .slice a ns.length cap] 68)) w.heap.size 68 [.int .i64 k, .slice a ns.length cap] from heap_alloc_new w _).upd hU1 (by simp); have hW1 := (upd_new w (Obj.cells #[Value.int .i64 k, .slice a ns.length cap] 68)).trans hU1; have c1 := hB1.get 1 rfl; rw [show (w.alloc (Obj.cells #[Value.int .i64 k, .slice a ns.length cap] 68)).heap.size = w.heap.size + 1 from by simp] at hR1)
      | ((with_reducible refine at_store 52 ?_); refine wpList_put rfl 52 _ _ rfl hB1 rfl (.slice a ns.length cap) rfl rfl (by kernel_rfl) (by simp) ?_; intro w2 hB2 hU2 hs2; have hR2 := hR1.upd hU2 (by simp); have hW2 := hW1.and hU2 (by simp))
      | ((with_reducible refine at_load 68 ?_); refine wpList_load_all rfl 68 _ rfl hB2 rfl 2 _ Try.underlying68 rfl op_size rfl ?_)
      | ((with_reducible refine at_store 68 ?_); refine wpList_store_all rfl 68 _ _ rfl hR2 rfl [.int .i64 k, .slice a ns.length cap] rfl 2 op_size rfl rfl (by simp [Value.oneCell']) ?_; intro w3 hR3 hU3 hs3))
    all_goals
      refine bodyPost_ret (results_blk Try.results32 _ hR3 rfl Try.underlying68 rfl op_size rfl) rfl ⟨_, rfl, hok, hW2.and hU3 (by simp)⟩
  · obtain rfl : N = 70 := by omega
    have hle : ¬ (ns.length : Int) ≤ 70 := by omega
    have hnc : (70 : Int) ≤ cap := by omega
    clear hN
    go_wp2_with (first
      | ((with_reducible refine at_alloc 68 ?_); refine wpList_alc rfl _ rfl [Value.int .i64 0, .slice none 0 0] op_zero ?_; intro w1 hR1 hU1 hs1; have hB1 := (show Blk (w.alloc (Obj.cells #[Value.int .i64 k, .slice a ns.length cap] 68)) w.heap.size 68 [.int .i64 k, .slice a ns.length cap] from heap_alloc_new w _).upd hU1 (by simp); have hW1 := (upd_new w (Obj.cells #[Value.int .i64 k, .slice a ns.length cap] 68)).trans hU1; have c1 := hB1.get 1 rfl; rw [show (w.alloc (Obj.cells #[Value.int .i64 k, .slice a ns.length cap] 68)).heap.size = w.heap.size + 1 from by simp] at hR1)
      | ((with_reducible refine at_store 52 ?_); refine wpList_put rfl 52 _ _ rfl hB1 rfl (.slice a 70 cap) rfl rfl (by kernel_rfl) (by simp) ?_; intro w2 hB2 hU2 hs2; have hR2 := hR1.upd hU2 (by simp); have hW2 := hW1.and hU2 (by simp))
      | ((with_reducible refine at_load 68 ?_); refine wpList_load_all rfl 68 _ rfl hB2 rfl 2 _ Try.underlying68 rfl op_size rfl ?_)
      | ((with_reducible refine at_store 68 ?_); refine wpList_store_all rfl 68 _ _ rfl hR2 rfl [.int .i64 k, .slice a 70 cap] rfl 2 op_size rfl rfl (by simp [Value.oneCell']) ?_; intro w3 hR3 hU3 hs3))
    all_goals
      refine bodyPost_ret (results_blk Try.results32 _ hR3 rfl Try.underlying68 rfl op_size rfl) rfl ⟨_, rfl, hok, hW2.and hU3 (by simp)⟩
end Go.Proofs.Ytdmdnijgjgjmkaa
