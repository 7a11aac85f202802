/- tape.Bytes: a tape. -/
import Derived.Test.YtdmdnijgjgjmkaaProg
import Derived.Test.YtdmdnijgjgjmkaaTapeP
import Derived.Test.YtdmdnijgjgjmkaaTapeBytes
set_option maxRecDepth 20000
namespace Go.Proofs.Ytdmdnijgjgjmkaa
open Go.RowKit

theorem u64_nat (x : Int) (h : 0 ≤ x ∧ x ≤ 9223372036854775807) : IntKind.u64.wrap x = ((x.toNat : Nat) : Int) := by
  have : IntKind.u64.wrap x = x % 18446744073709551616 := rfl
  omega
theorem zero_sl : (Try.prog.info? 53).bind (·.zero) = some (.slice none 0 0) := by kernel_rfl
theorem op_zero : (Try.prog.info? 68).bind (·.zero) = some (.agg [Value.int .i64 0, .slice none 0 0].toArray) := by kernel_rfl
theorem op_size : (Try.prog.info? 68).map (·.size) = some 2 := by kernel_rfl
theorem info_u64 : (Try.prog.info? 55).map (fun i => (i.zero, i.size, i.bytes)) = some (some (.int .u64 0), 1, 8) := by kernel_rfl
/-- What is wrong with a tape. -/
def tapeErr (h : Hd) (l : List OpD) : Int := if h.chk = 0 then (opsErr l : Nat) else h.chk
theorem tape_bytes (h : Hd) (l : List OpD) (v : Value) (w : World) (hv : Vec w v l.length (opCells l)) (hl : ∀ o ∈ l, OpOk w o) (hlen : Held (l.length ≤ 1000000)) (hd : 0 ≤ h.d ∧ h.d ≤ 4294967295) :
    Calls Try.prog 34 #[.agg h.cells.toArray, v] w fun e w' => Upd [] w w' ∧ ((tapeErr h l = 0 ∧ ∃ v', e = .returned (.tuple #[v', .int .i64 0]) ∧ w'.ownsRow w.heap.size 5 1 v' (tapeB h l.length l).length (bys (tapeB h l.length l))) ∨ (tapeErr h l ≠ 0 ∧ e = .returned (.tuple #[.slice none 0 0, .int .i64 (tapeErr h l)]))) := by
  obtain ⟨a, cap, rfl, hcap, hmax, hcell⟩ := hv
  obtain ⟨a1, b1, d1, c1, r1⟩ := h
  replace hd : 0 ≤ d1 ∧ d1 ≤ 4294967295 := hd
  change Calls Try.prog 34 #[.agg #[.int .i64 a1, .int .i64 b1, .int .u32 d1, .int .i64 c1, .int .i64 r1], _] w _
  go_enter Try.func34, Try.ntmps34
  go_wp2_with fail
  generalize hw0 : w.alloc (Obj.cells #[Value.int IntKind.i64 a1, Value.int IntKind.i64 b1, Value.int IntKind.u32 d1, Value.int IntKind.i64 c1, Value.int IntKind.i64 r1] 64) = w0
  have hU0 : Upd [] w w0 := by rw [← hw0]; (repeat (first | exact Upd.refl _ _ | refine Upd.drew ?_ | refine Upd.drewN ?_ _ | refine Upd.setCell ?_ _ _ (by simp) | refine Upd.alloc ?_ _))
  have hB0 : Blk w0 w.heap.size 64 [.int .i64 a1, .int .i64 b1, .int .u32 d1, .int .i64 c1, .int .i64 r1] := by rw [← hw0]; exact heap_alloc_new w _
  clear hw0
  refine (script_check _ _ _ _ _ _).mono ?_
  rintro e w1 ⟨rfl, hu1⟩
  have hB1 := hB0.upd hu1 (by simp)
  by_cases hc : headChk a1 b1 d1 c1 r1 = 0
  · have hok := Held.mk (headOk_of hc)
    have hhk := Held.mk hc
    rw [hc]
    clear hc
    go_wp2_with (first
      | ((with_reducible refine at_slit ?_); refine wpList_slit rfl 53 5 1 [(0, .const (.int .u8 84))] rfl info_u8 Try.underlying53 rfl (by decide) [.int .u8 84] rfl rfl (by decide) (by decide) (by simp [Value.cells]) ?_; obtain ⟨w2, hw2⟩ : ∃ w2, w1.alloc (.cells ([Value.int .u8 84].flatMap (·.cells.toList)).toArray 5) = w2 := ⟨_, rfl⟩; have hU2 : Upd [] w1 w2 := (by rw [← hw2]; (repeat (first | exact Upd.refl _ _ | refine Upd.drew ?_ | refine Upd.drewN ?_ _ | refine Upd.setCell ?_ _ _ (by simp) | refine Upd.alloc ?_ _))); have hR2 : Blk w2 w1.heap.size 5 (bys [84]) := (by rw [← hw2]; exact heap_alloc_new w1 _); rw [hw2]; clear hw2)
      | ((with_reducible refine at_alloc _ ?_); refine wpList_var rfl _ rfl (.slice none 0 0) zero_sl rfl ?_; intro w3 hB3 hU3 hs3)
      | ((with_reducible refine at_store _ ?_); refine wpList_put rfl 53 _ _ rfl hB3 rfl (.slice (some ⟨w1.heap.size, 0, none⟩) 1 1) rfl rfl (by kernel_rfl) (by decide) ?_; intro w4 hB4 hU4 hs4; have hH := ((hB1.upd hU2 (by simp)).upd hU3 (by simp)).upd hU4 (by have := hB1.lt; have := hU2.size; simp; omega); have k0 := hH.get 0 rfl; have k1 := hH.get 1 rfl; have k2 := hH.get 2 rfl; have k3 := hH.get 3 rfl; have k4 := hH.get 4 rfl))
    all_goals
      have hmx := maxLen_eq
      have hU4' : Upd [] w w4 := (((hU0.trans hu1).trans hU2).trans hU3).and hU4 (by have := hB1.lt; have := hU2.size; simp; omega)
      have hR4 : Blk w4 w1.heap.size 5 (bys [84]) := (hR2.upd hU3 (by simp)).upd hU4 (by have := hR2.lt; simp; omega)
      have hX : (#[Value.int IntKind.u64 (IntKind.u64.wrap a1), Value.int IntKind.u64 (IntKind.u64.wrap b1), Value.int IntKind.u64 d1, Value.int IntKind.u64 (IntKind.u64.wrap c1), Value.int IntKind.u64 (IntKind.u64.wrap r1), Value.int IntKind.u64 (IntKind.u64.wrap l.length)] : Array Value) = (u64s [a1.toNat, b1.toNat, d1.toNat, c1.toNat, r1.toNat, l.length]).toArray := by
        have h1 := hok.out
        have h2 := hlen.out
        rw [u64_nat a1 (by omega), u64_nat b1 (by omega), u64_nat c1 (by omega), u64_nat r1 (by omega), u64_nat l.length (by omega)]
        have e : d1 = ((d1.toNat : Nat) : Int) := by omega
        simp only [u64s, List.map_cons, List.map_nil, ← e, Int.toNat_natCast]
      rw [hX]
      have hBn : Blk (w4.alloc (Obj.cells (u64s [a1.toNat, b1.toNat, d1.toNat, c1.toNat, r1.toNat, l.length]).toArray 55)) w4.heap.size 55 (u64s [a1.toNat, b1.toNat, d1.toNat, c1.toNat, r1.toNat, l.length]) := heap_alloc_new w4 _
      have hUn : Upd [] w4 (w4.alloc (Obj.cells (u64s [a1.toNat, b1.toNat, d1.toNat, c1.toNat, r1.toNat, l.length]).toArray 55)) := by (repeat (first | exact Upd.refl _ _ | refine Upd.drew ?_ | refine Upd.drewN ?_ _ | refine Upd.setCell ?_ _ _ (by simp) | refine Upd.alloc ?_ _))
      have hVn := vec_of_own (own_of_blk (base := 0) (size := 1) (n := 6) hBn (Nat.zero_le _) rfl (by decide))
      have hOut : Out w (w4.alloc (Obj.cells (u64s [a1.toNat, b1.toNat, d1.toNat, c1.toNat, r1.toNat, l.length]).toArray 55)) w2.heap.size [84] :=
        ⟨⟨_, hB4.upd hUn (by simp), own_upd0 (own_of_blk hR4 (by have := hu1.size; have := hU0.size; omega) rfl (by decide)) hUn, by have := hR2.lt; simp [Value.ownBlock]; omega⟩, by have := hU2.size; have := hu1.size; have := hU0.size; omega⟩
      have hs24 : w4.heap.size = w2.heap.size + 1 := hs4.trans hs3
      rw [hs24] at hVn
      refine (bytes_put w w2.heap.size [84] _ [a1.toNat, b1.toNat, d1.toNat, c1.toNat, r1.toNat, l.length] _ hVn ?_ ⟨by simp⟩ hOut [] (hU4'.trans hUn)).mono ?_
      · have h1 := hok.out
        have h2 := hlen.out
        intro n hn
        simp only [List.mem_cons, List.not_mem_nil, or_false] at hn
        rcases hn with rfl | rfl | rfl | rfl | rfl | rfl <;> exact ⟨by omega⟩
      rintro e w5 ⟨rfl, hO5, hU5, hK5⟩
      clear hX k0 k1 k2 k3 k4 hH hBn hUn hVn hOut hR4 hR2 hU4 hU3 hU2 hB4 hB3 hB1 hB0 hu1
      clear hs4 hs3 hmx
      go_wp2_with fail
      go_loopw [42] (fun i wr => ∃ j : Nat, j ≤ l.length ∧ i = .int .i64 j ∧ Held (∀ o ∈ l.take j, o.chk = 0) ∧ Out w wr w2.heap.size (tapeB ⟨a1, b1, d1, c1, r1⟩ l.length (l.take j)) ∧ Upd [] w wr) (fun i _ => l.length - (intOf i).toNat)
      case atStart => exact ⟨0, by omega, rfl, ⟨by simp⟩, by rw [List.take_zero, tapeB_nil]; exact hO5, hU5⟩
      case round =>
        obtain ⟨j, hj, rfl, hno, hO, hU⟩ := hrel
        by_cases hlt : j < l.length
        · have hok1 := hl _ (List.getElem_mem hlt)
          obtain ⟨g0, g1⟩ := opCells_get l hlt
          rcases hcell with h0 | ⟨b, o, rfl, hb, hcl⟩
          · have := congrArg List.length h0; rw [opCells_len] at this; simp only [List.length_nil] at this; omega
          have k0 : wr.cell? ⟨b, o + j * 2, none⟩ = some (.int .i64 l[j].k) := (hU.cell hb (by simp)).trans (hcl _ _ g0)
          have k1 : wr.cell? ⟨b, o + j * 2 + 1, none⟩ = some l[j].v := by rw [Nat.add_assoc]; exact (hU.cell hb (by simp)).trans (hcl _ _ g1)
          have hjc : j < cap := Nat.lt_of_lt_of_le hlt hcap
          have htk : Held (l.take (j + 1) = l.take j ++ [l[j]]) := ⟨List.take_succ_eq_append_getElem hlt⟩
          have herr : Held (l[j].chk ≠ 0 → opsErr l = l[j].chk) := ⟨fun h => opsErr_take hlt hno.out h⟩
          clear hcl g0 g1
          generalize l[j] = o1 at *
          obtain ⟨k, ns, v1⟩ := o1
          obtain ⟨hvec, hw64⟩ := hok1
          dsimp only at k0 k1 hvec hw64
          have hvec0 := hvec
          obtain ⟨ov, oc, rfl, hvr⟩ := hvec
          clear hvr
          go_wp2_with (first
            | ((with_reducible refine at_alloc _ ?_); refine wpList_alc rfl _ rfl [Value.int .i64 0, .slice none 0 0] op_zero ?_; intro w6 hB6 hU6 hs6)
            | ((with_reducible refine at_store _ ?_); refine wpList_store_all rfl 68 _ _ rfl hB6 rfl [Value.int .i64 k, .slice ov ns.length oc] rfl 2 op_size rfl rfl (by simp [Value.oneCell']) ?_; intro w7 hB7 hU7 hs7; have m0 := hB7.get 0 rfl; have m1 := hB7.get 1 rfl))
          have hUr7 : Upd [] wr w7 := hU6.and hU7 (by simp)
          refine (op_check k _ ns w7 (hvec0.upd (hU.trans hUr7)) hw64).mono ?_
          rintro e w8 ⟨rfl, hu8⟩
          have hB8 := hB7.upd hu8 (by simp)
          have hO8 := hO.upd (hUr7.trans hu8) (by simp)
          have hU8 := hU.trans (hUr7.trans hu8)
          have hlr : wr.heap.size < w8.heap.size := hB8.lt
          have hbo := hO.lt
          clear m0 m1 hB7 hB6 hU6 hU7 hUr7 hu8 hs6 hs7 hO
          by_cases hck : chk k ns = 0
          · have m0 := hB8.get 0 rfl
            have m1 := hB8.get 1 rfl
            have hck' := Held.mk hck
            rw [hck]
            clear hck
            go_wp2_with fail
            have hX : (#[Value.int IntKind.u64 (IntKind.u64.wrap k), Value.int IntKind.u64 (IntKind.u64.wrap ns.length)] : Array Value) = (u64s [k.toNat, ns.length]).toArray := by
              have h1 := chk_zero hck'.out
              rw [u64_nat k (by omega), u64_nat ns.length (by omega)]
              rfl
            rw [hX]
            have hBn : Blk (w8.alloc (Obj.cells (u64s [k.toNat, ns.length]).toArray 55)) w8.heap.size 55 (u64s [k.toNat, ns.length]) := heap_alloc_new w8 _
            have hUn : Upd [] w8 (w8.alloc (Obj.cells (u64s [k.toNat, ns.length]).toArray 55)) := by (repeat (first | exact Upd.refl _ _ | refine Upd.drew ?_ | refine Upd.drewN ?_ _ | refine Upd.setCell ?_ _ _ (by simp) | refine Upd.alloc ?_ _))
            have hVn := vec_of_own (own_of_blk (base := 0) (size := 1) (n := 2) hBn (Nat.zero_le _) rfl (by decide))
            have hW2 : ∀ n ∈ [k.toNat, ns.length], W64 n := fun n hn => nums_w64 (o := ⟨k, ns, .slice ov ns.length oc⟩) hw64 hck'.out n (by simp only [OpD.nums, List.mem_cons, List.not_mem_nil, or_false] at *; rcases hn with h | h; exact Or.inl h; exact Or.inr (Or.inl h))
            have hL1 := tapeB_len ⟨a1, b1, d1, c1, r1⟩ l.length (l.take j) hd.2 hhk.out ⟨by have := hlen.out; omega⟩ (fun o ho => (hl o (List.mem_of_mem_take ho)).w64) hno.out
            have hL2 : (l.take j).length ≤ 1000000 := by have := hlen.out; rw [List.length_take]; omega
            have hmore := tapeB_more ⟨a1, b1, d1, c1, r1⟩ l.length (l.take j) ⟨k, ns, .slice ov ns.length oc⟩
            rw [← htk.out] at hmore
            replace hmore := Held.mk hmore
            have hns64 := (chk_zero hck'.out).2.2
            generalize tapeB ⟨a1, b1, d1, c1, r1⟩ l.length (l.take j) = xs at *
            replace hL1 : Held (xs.length ≤ 660000061) := ⟨by omega⟩
            have hL3 : (putAll [k.toNat, ns.length]).length ≤ 20 := putAll_len _ fun n hn => (hW2 n hn).lt
            refine (bytes_put w w2.heap.size xs _ [k.toNat, ns.length] _ hVn hW2 ⟨by have := hL1.out; simp only [List.length_cons, List.length_nil]; omega⟩ (hO8.upd hUn (by simp)) [] (hU8.trans hUn)).mono ?_
            rintro e w9 ⟨rfl, hO9, hU9, hK9⟩
            have hB9 := hK9 _ _ _ (by decide) (by omega) (hB8.upd hUn (by simp))
            have m0 := hB9.get 0 rfl
            have m1 := hB9.get 1 rfl
            clear hX hBn hUn hVn hO8 hB8 hU8 hK9 hL2
            go_wp2_with fail
            refine (bytes_put w w2.heap.size _ _ ns _ (hvec0.upd hU9) hw64 ⟨by have := hL1.out; simp only [List.length_append]; omega⟩ hO9 [] hU9).mono ?_
            rintro e w10 ⟨rfl, hO10, hU10, hK10⟩
            clear hK10 hB9 m0 m1 hO9 hvec0 hU9 hK5
            go_wp2_with fail
            rw [show wrap64 ((j : Int) + 1) = ((j + 1 : Nat) : Int) from by have := hlen.out; rw [wrap64_small _ (by omega)]; rfl]
            refine ⟨⟨j + 1, by omega, rfl, ⟨fun o ho => ?_⟩, by rw [hmore.out]; exact hO10, hU10⟩, ?_⟩
            · rw [htk.out] at ho
              rcases List.mem_append.1 ho with h | h
              · exact hno.out o h
              · rw [List.mem_singleton.1 h]; exact hck'.out
            · simp only [intOf]; omega
          · have he : opsErr l = chk k ns := herr.out hck
            have hck' := Held.mk hck
            go_wp2_with fail
            all_goals
              go_ret2
              have hE : tapeErr ⟨a1, b1, d1, c1, r1⟩ l = (chk k ns : Nat) := (if_pos hhk.out).trans (by rw [he])
              exact ⟨hU8, Or.inr ⟨by rw [hE]; have := hck'.out; omega, by rw [hE]; rfl⟩⟩
        · have hall : l.take j = l := List.take_of_length_le (by omega)
          rw [hall] at hno hO
          obtain ⟨⟨v5, hB5, hown5, _⟩, _⟩ := hO
          have c0 := hB5.get 0 rfl
          go_wp2_with fail
          all_goals
            go_ret2
            refine ⟨hU, Or.inl ⟨(if_pos hhk.out).trans (by rw [opsErr_all hno.out]; rfl), _, rfl, hown5⟩⟩
  · have hc' := Held.mk hc
    go_wp2_with fail
    all_goals
      go_ret2
      have hE : tapeErr ⟨a1, b1, d1, c1, r1⟩ l = headChk a1 b1 d1 c1 r1 := if_neg hc'.out
      exact ⟨hU0.trans hu1, Or.inr ⟨by rw [hE]; exact hc'.out, by rw [hE]; rfl⟩⟩
end Go.Proofs.Ytdmdnijgjgjmkaa
