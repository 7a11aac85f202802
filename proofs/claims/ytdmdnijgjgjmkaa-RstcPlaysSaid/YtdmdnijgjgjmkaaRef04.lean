/- Walks of the references' bits: a bit, the truths of a word, the word of truths. -/
import Derived.Test.YtdmdnijgjgjmkaaProg
import Derived.Test.YtdmdnijgjgjmkaaBase
import Derived.KernelRfl
namespace Go.Proofs.Ytdmdnijgjgjmkaa
open Go.RowKit

theorem ref_bit (n : Int) (i : Nat) (w : World) (h0 : 0 ≤ n) (h1 : n < 18446744073709551616) (hi : i ≤ 64) :
    Calls Try.prog 52 #[.int .u64 n, .int .i64 i] w fun e w' => e = .returned (.bool (n / 2 ^ i % 2 == 1)) ∧ w = w' := by
  go_enter Try.func52, Try.ntmps52
  go_wp2
  go_loop [0, 5] (fun x j => ∃ k : Nat, k ≤ i ∧ j = .int .i64 k ∧ x = .int .u64 (n / 2 ^ k)) (fun _ j => i - (intOf j).toNat)
  case atStart => exact ⟨0, Nat.zero_le _, rfl, by simp⟩
  case round =>
    obtain ⟨k, hk, rfl, rfl⟩ := hrel
    have e1 : (n / 2 ^ k) / 2 = n / 2 ^ (k + 1) := by
      rw [Int.ediv_ediv_of_nonneg (Int.pow_nonneg (by decide)), Int.pow_succ]
    have p0 : 0 ≤ n / 2 ^ k := Int.ediv_nonneg h0 (Int.pow_nonneg (by decide))
    have p1 : n / 2 ^ k < 18446744073709551616 := Int.lt_of_le_of_lt (Int.ediv_le_self _ h0) h1
    have H1 : Hid ((n / 2 ^ k) / 2 = n / 2 ^ (k + 1)) := e1
    clear e1
    by_cases hlt : k < i
    · go_wp2
      go_round
      case rel => exact ⟨k + 1, by omega, by go_num, by rw [← H1.out]⟩
      case measure => simp [intOf]; omega
    · have : k = i := by omega
      subst this
      go_wp2
      go_ret
      exact ⟨rfl, rfl⟩

/-- Truths as cells. -/
def bools (cs : List Bool) : List Value := cs.map Value.bool
theorem bools_len (cs : List Bool) : (bools cs).length = cs.length := by simp [bools]
theorem bools_get (cs : List Bool) (j : Nat) (h : j < cs.length) : (bools cs)[j]? = some (.bool cs[j]) := by simp [bools, h]

/-- The word of truths, the lowest first. -/
def wd : List Bool → Nat
  | [] => 0
  | b :: l => (if b then 1 else 0) + 2 * wd l
theorem wd_append (l : List Bool) (b : Bool) : wd (l ++ [b]) = wd l + (if b then 2 ^ l.length else 0) := by
  induction l with
  | nil => simp [wd]
  | cons x l ih => simp only [List.cons_append, wd, ih, List.length_cons, Nat.pow_succ]; cases b <;> cases x <;> simp <;> omega
theorem wd_lt (l : List Bool) : wd l < 2 ^ l.length := by
  induction l with
  | nil => simp [wd]
  | cons x l ih => simp only [wd, List.length_cons, Nat.pow_succ]; split <;> omega
theorem wd_take (cs : List Bool) (k : Nat) (h : k < cs.length) : wd (cs.take (k + 1)) = wd (cs.take k) + (if cs[k] then 2 ^ k else 0) := by
  rw [List.take_succ_eq_append_getElem h, wd_append, List.length_take, Nat.min_eq_left (by omega)]
theorem wd_take_lt (cs : List Bool) (k : Nat) (h : k ≤ cs.length) : wd (cs.take k) < 2 ^ k := by
  have := wd_lt (cs.take k)
  rwa [List.length_take, Nat.min_eq_left h] at this

set_option maxRecDepth 100000 in
set_option maxHeartbeats 400000 in
theorem ref_word (cs : List Bool) (w : World) (hcs : cs.length = 32) :
    Calls Try.prog 44 #[.agg (bools cs).toArray] w fun e w' => e = .returned (.int .u32 (wd cs)) ∧ Upd [] w w' := by
  have hb := Blk.new w 35 (bools cs)
  have hc := hb.cell
  have hL : Hid (cs.length = 32) := hcs
  have hk32 : ∀ k, k < 32 → (bools cs).toArray[k]? = some (.bool (cs[k]?.getD false)) := fun k hk => by
    have : k < cs.length := by omega
    simp [bools_get, this]
  clear hcs
  go_enter Try.func44, Try.ntmps44
  go_wp2
  go_loop [3, 4, 5] (fun x u j => ∃ k : Nat, k ≤ 32 ∧ j = .int .i64 k ∧ x = .int .u32 (wd (cs.take k)) ∧ u = .int .u32 ((2 ^ k : Nat) % 4294967296)) (fun _ _ j => 32 - (intOf j).toNat)
  case atStart => exact ⟨0, by omega, rfl, by simp [wd], by simp⟩
  case round =>
    obtain ⟨k, hk, rfl, rfl, rfl⟩ := hrel
    by_cases hlt : k < 32
    · have hcell := (hc k).trans (hk32 k hlt)
      clear hc hk32
      have e1 := wd_take cs k (by rw [hL.out]; exact hlt)
      have e2 : cs[k]?.getD false = cs[k]'(by rw [hL.out]; exact hlt) := by
        have : k < cs.length := by rw [hL.out]; exact hlt
        simp [this]
      have l1 := wd_take_lt cs k (by rw [hL.out]; exact hk)
      have l2 : (2 : Nat) ^ (k + 1) ≤ 2 ^ 32 := Nat.pow_le_pow_right (by omega) (by omega)
      have e3 : (2 : Nat) ^ (k + 1) = 2 ^ k * 2 := Nat.pow_succ 2 k
      have l3 : (2 : Nat) ^ 32 = 4294967296 := rfl
      have u0 : (((2 : Nat) ^ k : Nat) : Int) % 4294967296 = ((2 : Nat) ^ k : Nat) := by omega
      have q0 : (0 : Int) ≤ ((2 : Nat) ^ k : Nat) := by omega
      have q1 : ((((2 : Nat) ^ k : Nat)) : Int) < 4294967296 := by omega
      have x0 : (0 : Int) ≤ (wd (cs.take k) : Nat) := by omega
      have x1 : (((wd (cs.take k) : Nat)) : Int) + ((2 : Nat) ^ k : Nat) < 4294967296 := by omega
      rw [u0]
      have E1 : Hid (((wd (cs.take (k + 1)) : Nat) : Int) = (wd (cs.take k) : Nat) + (if cs[k]?.getD false then (((2 : Nat) ^ k : Nat) : Int) else 0)) := by
        show ((wd (cs.take (k + 1)) : Nat) : Int) = _
        rw [e1, e2]; split <;> simp
      have E2 : Hid ((((2 : Nat) ^ (k + 1) : Nat) : Int) % 4294967296 = (2 * ((2 : Nat) ^ k : Nat) : Int) % 4294967296) := by
        show _ = _
        rw [e3]; congr 1; omega
      clear e1 e2 l1 l2 e3 l3 u0
      generalize cs[k]?.getD false = bk at hcell E1
      generalize ((wd (cs.take k) : Nat) : Int) = xk at *
      generalize (((2 : Nat) ^ k : Nat) : Int) = yk at *
      have E1' := E1.out
      cases bk
      all_goals
        simp [-Int.natCast_pow] at E1'
        have E3 : Hid _ := E1'
        clear E1 E1'
        go_wp2
        go_round
        case rel => exact ⟨k + 1, by omega, by go_num, by rw [E3.out], by rw [E2.out]⟩
        case measure => simp [intOf]; omega
    · have hge : 32 ≤ k := by omega
      clear hc hk32
      go_wp2
      go_ret
      exact ⟨by rw [List.take_of_length_le (by rw [hL.out]; exact hge)]; rfl, by (repeat (first | exact Upd.refl _ _ | refine Upd.drew ?_ | refine Upd.drewN ?_ _ | refine Upd.setCell ?_ _ _ (by simp) | refine Upd.alloc ?_ _))⟩

/-- The truths of a word. -/
def bitsOf (v : Int) : List Bool := (List.range 32).map fun i => v / 2 ^ i % 2 == 1
theorem bitsOf_len (v : Int) : (bitsOf v).length = 32 := by simp [bitsOf]

theorem bitsOf_get (v : Int) (k : Nat) (h : k < 32) : (bitsOf v)[k]? = some (v / 2 ^ k % 2 == 1) := by simp [bitsOf, h]
/-- The truths that are there behind k rounds. -/
def bitsTo (v : Int) (k : Nat) : List Bool := (bitsOf v).take k ++ List.replicate (32 - k) false
theorem bitsTo_len (v : Int) (k : Nat) (h : k ≤ 32) : (bitsTo v k).length = 32 := by simp [bitsTo, bitsOf_len]; omega
theorem bitsTo_set (v : Int) (k : Nat) (h : k < 32) : (bitsTo v k).set k (v / 2 ^ k % 2 == 1) = bitsTo v (k + 1) := by
  apply List.ext_getElem
  · rw [List.length_set, bitsTo_len v k (by omega), bitsTo_len v (k + 1) (by omega)]
  · intro i h1 h2
    rw [List.length_set, bitsTo_len v k (by omega)] at h1
    simp only [List.getElem_set, bitsTo, List.getElem_append, List.length_take, bitsOf, List.getElem_take, List.getElem_map, List.getElem_range, List.getElem_replicate]
    by_cases e : k = i
    · subst e; simp; omega
    · rw [if_neg e]; split <;> split <;> first | rfl | omega
theorem bools_set (cs : List Bool) (k : Nat) (x : Bool) : (bools cs).set k (.bool x) = bools (cs.set k x) := by simp [bools]
theorem bools_one (cs : List Bool) : ∀ v ∈ bools cs, v.oneCell' = true := by
  intro v hv
  obtain ⟨b, _, rfl⟩ := List.mem_map.1 hv
  rfl

set_option maxRecDepth 100000 in
set_option maxHeartbeats 400000 in
theorem ref_bits (v : Int) (w : World) (h0 : 0 ≤ v) (h1 : v < 4294967296) :
    Calls Try.prog 43 #[.int .u32 v] w fun e w' => e = .returned (.agg (bools (bitsOf v)).toArray) ∧ Upd [] w w' := by
  go_enter Try.func43, Try.ntmps43
  go_wp2
  go_loopw [4] (fun j wr => ∃ k : Nat, k ≤ 32 ∧ j = .int .i64 k ∧ Blk wr w.heap.size 35 (bools (List.replicate 32 false)) ∧ Blk wr (w.heap.size + 1) 35 (bools (bitsTo v k)) ∧ Upd [] w wr) (fun j _ => 32 - (intOf j).toNat)
  case atStart => exact ⟨0, by omega, rfl, Blk.eq ((Blk.new w _ _).alloc _) rfl, Blk.eq (Blk.at (by simp)) rfl, by (repeat (first | exact Upd.refl _ _ | refine Upd.drew ?_ | refine Upd.drewN ?_ _ | refine Upd.setCell ?_ _ _ (by simp) | refine Upd.alloc ?_ _))⟩
  case round =>
    obtain ⟨k, hk, rfl, hB1, hB2, hU⟩ := hrel
    have hf := hB2.free
    have hf1 := hB1.free
    by_cases hlt : k < 32
    · have hcs : wr.cell? ⟨w.heap.size + 1, k, none⟩ = some (.bool ((bitsTo v k)[k]?.getD false)) := by
        rw [hB2.cell]
        have : k < (bitsTo v k).length := by rw [bitsTo_len v k hk]; exact hlt
        simp [bools_get, this]
      go_wp2_with (go_at_call 52; refine (ref_bit _ _ _ (by omega) (by omega) (by omega)).mono ?_; rintro e w' ⟨rfl, rfl⟩)
      go_roundw
      case rel => exact ⟨k + 1, by omega, by go_num, hB1.far _ (by omega), Blk.eq (hB2.set _) (by rw [bools_set, bitsTo_set v k hlt]), hU.setCell _ _ (by simp)⟩
      case measure => simp [intOf]; omega
    · have hge : 32 ≤ k := by omega
      have hlast : bitsTo v k = bitsOf v := by
        have : k = 32 := by omega
        subst this
        simp only [bitsTo, Nat.sub_self, List.replicate_zero, List.append_nil]
        exact List.take_of_length_le (by rw [bitsOf_len]; omega)
      rw [hlast] at hB2
      have hl : (bools (bitsOf v)).length = 32 := by rw [bools_len, bitsOf_len]
      have HL : Hid ((bools (bitsOf v)).length = 32) := hl
      clear hl hlast
      go_wp2_with (first | (refine wpList_load_all rfl _ _ rfl hB2 rfl 32 _ Try.underlying35 rfl (by kernel_rfl) HL.out ?_) | (refine wpList_store_all rfl _ _ _ rfl hB1 rfl _ rfl 32 (by kernel_rfl) HL.out (by simp [bools_len]) (bools_one _) ?_; intro w2 hw2 hu2 hs2))
      refine bodyPost_ret (results_blk rfl _ hw2 rfl Try.underlying35 rfl (by kernel_rfl) HL.out) rfl ⟨rfl, hU.and hu2 (by simp)⟩

/-! ### Truths as a function -/
/-- n truths as cells. -/
def fb (c : Nat → Bool) (n : Nat) : List Value := (List.range n).map fun i => .bool (c i)
@[simp] theorem fb_len (c : Nat → Bool) (n : Nat) : (fb c n).length = n := by simp [fb]
theorem fb_bools (c : Nat → Bool) (n : Nat) : fb c n = bools ((List.range n).map c) := by simp [fb, bools]
theorem fb_get (c : Nat → Bool) (n i : Nat) (h : i < n) : (fb c n)[i]? = some (.bool (c i)) := by simp [fb, h]
theorem fb_set (c : Nat → Bool) (n k : Nat) (x : Bool) : (fb c n).set k (.bool x) = fb (fun i => if i = k then x else c i) n := by
  apply List.ext_getElem
  · simp
  · intro i h1 h2
    simp only [fb, List.getElem_set, List.getElem_map, List.getElem_range]
    by_cases e : k = i
    · subst e; simp
    · rw [if_neg e, if_neg (fun h => e h.symm)]
theorem fb_one (c : Nat → Bool) (n : Nat) : ∀ v ∈ fb c n, v.oneCell' = true := by
  intro v hv
  obtain ⟨b, _, rfl⟩ := List.mem_map.1 hv
  rfl
theorem fb_congr {c d : Nat → Bool} {n : Nat} (h : ∀ i, i < n → c i = d i) : fb c n = fb d n := by
  unfold fb
  apply List.map_congr_left
  intro i hi
  rw [h i (List.mem_range.1 hi)]
theorem fb_false (n : Nat) : fb (fun _ => false) n = List.replicate n (Value.bool false) := by
  apply List.ext_getElem <;> simp [fb]

/-- The word of the first 32 truths. -/
def wdf (c : Nat → Bool) : Nat := wd ((List.range 32).map c)
theorem wdf_lt (c : Nat → Bool) : wdf c < 4294967296 := by
  have := wd_lt ((List.range 32).map c)
  rw [List.length_map, List.length_range] at this
  exact this
/-- The same as an integer. -/
def wdz (c : Nat → Bool) : Int := (wdf c : Nat)
theorem wdz_0 (c : Nat → Bool) : 0 ≤ wdz c := by unfold wdz; omega
theorem wdz_1 (c : Nat → Bool) : wdz c < 4294967296 := by have := wdf_lt c; unfold wdz; omega
theorem fn_word (c : Nat → Bool) (w : World) :
    Calls Try.prog 44 #[.agg (fb c 32).toArray] w fun e w' => e = .returned (.int .u32 (wdz c)) ∧ Upd [] w w' := by
  rw [fb_bools]
  exact ref_word _ w (by simp)
theorem fn_bits (v : Int) (w : World) (h0 : 0 ≤ v) (h1 : v < 4294967296) :
    Calls Try.prog 43 #[.int .u32 v] w fun e w' => e = .returned (.agg (fb (fun i => v / 2 ^ i % 2 == 1) 32).toArray) ∧ Upd [] w w' := by
  rw [fb_bools]
  exact ref_bits v w h0 h1

end Go.Proofs.Ytdmdnijgjgjmkaa
