/- The document's number that bytes begin with. -/
import Derived.Test.YtdmdnijgjgjmkaaProg
import Derived.Test.YtdmdnijgjgjmkaaRef34
set_option maxRecDepth 20000
namespace Go.Proofs.Ytdmdnijgjgjmkaa
open Go.RowKit

/-- The value of m bytes from place t on. -/
def sv (l : List Nat) : Nat → Nat → Nat
  | 0, _ => 0
  | m + 1, t => l.getD t 0 % 128 + 128 * sv l m (t + 1)
theorem sv_last (l : List Nat) : ∀ m t, sv l (m + 1) t = sv l m t + (l.getD (t + m) 0 % 128) * 128 ^ m := by
  intro m
  induction m with
  | zero => intro t; simp [sv]
  | succ m ih =>
    intro t
    have e1 : 128 * (l.getD (t + (m + 1)) 0 % 128 * 128 ^ m) = l.getD (t + (m + 1)) 0 % 128 * 128 ^ (m + 1) := by rw [Nat.pow_succ, Nat.mul_left_comm, Nat.mul_comm (128 ^ m) 128]
    rw [sv, ih (t + 1), sv, show t + 1 + m = t + (m + 1) by omega, Nat.mul_add, e1]
    omega
theorem pv_sv (l : List Nat) (m : Nat) : pv l m = sv l m 0 := by
  induction m with
  | zero => rfl
  | succ m ih => rw [pv, sv_last, ih, Nat.zero_add]
theorem sv_more (l : List Nat) : ∀ t m, 128 ^ t * sv l m t ≤ pv l (t + m) := by
  intro t m
  induction m with
  | zero => simp [sv]
  | succ m ih =>
    rw [sv_last, Nat.mul_add, show t + (m + 1) = (t + m) + 1 by omega, pv, Nat.pow_add, ← Nat.mul_assoc, Nat.mul_comm (128 ^ t) (l.getD (t + m) 0 % 128), Nat.mul_assoc]
    omega
theorem getN_of {d : List Nat} {j : Nat} (hj : lead 10 d = j) (h1 : j ≠ 10) (h2 : j < d.length) : getN d = if (0 < j ∧ d[j] = 0) ∨ 18446744073709551616 ≤ pv d (j + 1) then (0, 0, 3) else (pv d (j + 1), j + 1, 0) := by
  unfold getN
  rw [hj, if_neg h1, if_neg (by omega), getD_at h2]

theorem ref34_get (v : Value) (l : List Nat) (at_ : Nat) (w : World) (hb : ∀ n ∈ l, n < 256) (hv : Vec w v l.length (bys l)) (ha : at_ ≤ l.length) :
    Calls Try.prog 28 #[v, .int .i64 at_] w fun e w' => e = .returned (.tuple #[.int .u64 ((getN (l.drop at_)).1 : Nat), .int .i64 ((at_ : Int) + ((getN (l.drop at_)).2.1 : Nat)), .int .i64 ((getN (l.drop at_)).2.2 : Nat)]) ∧ Upd [] w w' := by
  obtain ⟨a, cap, rfl, hcap, hmax, hcell⟩ := hv
  have hmx : maxLen = 9223372036854775807 := by decide
  have hd : (l.drop at_).length = l.length - at_ := by simp
  have hdj : ∀ j (h : at_ + j < l.length) (h2 : j < (l.drop at_).length), (l.drop at_)[j] = l[at_ + j] := by intro j h h2; simp
  generalize l.drop at_ = d at *
  go_enter Try.func28, Try.ntmps28
  go_wp2_with fail
  go_loopw [7] (fun e wr => ∃ j : Nat, e = .int .i64 ((at_ + j : Nat) : Int) ∧ j ≤ lead 10 d ∧ wr = w) (fun e _ => l.length - (intOf e).toNat)
  case atStart => exact ⟨0, by simp, by omega, rfl⟩
  case round =>
    obtain ⟨j, rfl, hj, rfl⟩ := hrel
    have hle := lead_le 10 d
    by_cases hin : at_ + j < l.length
    · rcases hcell with h0 | ⟨b, o, rfl, hbk, hc⟩
      · have := congrArg List.length h0; simp only [bys, List.length_map, List.length_nil] at this; omega
      have hck : wr.cell? ⟨b, o + (at_ + j), none⟩ = some (.int .u8 (l[at_ + j] : Nat)) := hc _ _ (by simp [bys, hin])
      have hkc : at_ + j < cap := Nat.lt_of_lt_of_le hin hcap
      have hdj' := fun h2 => hdj j hin h2
      have hw1 : True → wrap64 ((at_ : Int) + j + 1) = at_ + j + 1 := fun _ => wrap64_small _ (by omega)
      have hw2 : True → wrap64 ((at_ : Int) + j - at_) = j := fun _ => by rw [wrap64_small _ (by omega)]; omega
      have hw3 : True → wrap64 (j : Int) = j := fun _ => wrap64_small _ (by omega)
      by_cases hlt : j < 10
      · obtain ⟨hmore, hlast⟩ := lead_next j 10 d (by omega) hlt hj
        rw [hdj'] at hmore hlast
        generalize hy : l[at_ + j] = y at hck hmore hlast
        have hc' : ∀ i (h : i < l.length), wr.cell? ⟨b, o + i, none⟩ = some (.int .u8 (l[i] : Nat)) := fun i h => hc i _ (by simp [bys, h])
        have hB : Held (l.length ≤ 9223372036854775807) := ⟨by omega⟩
        clear hmx hc
        by_cases h128 : 128 ≤ y
        · have hj1 := hmore h128
          clear hmore hlast
          go_wp2_with fail
          rw [hw1 trivial]
          refine ⟨⟨j + 1, by simp; omega, hj1, trivial⟩, ?_⟩
          simp only [intOf]; omega
        · have hl := hlast (by omega)
          have hjd : j < d.length := by omega
          have hGN := getN_of hl (by omega) hjd
          have hyd : d[j] = y := by rw [hdj' hjd, hy]
          clear hmore hlast hj hle hl
          rw [hyd] at hGN
          have hGN' : Held (getN d = if 0 < j ∧ y = 0 ∨ 18446744073709551616 ≤ pv d (j + 1) then (0, 0, 3) else (pv d (j + 1), j + 1, 0)) := ⟨hGN⟩
          clear hGN hyd hy
          go_wp2_with fail
          go_loopw [8, 9] (fun n i wr' => ∃ t x : Nat, t ≤ j + 1 ∧ i = .int .i64 ((at_ : Int) + t - 1) ∧ n = .int .u64 x ∧ Held (x = sv d (j + 1 - t) t) ∧ W64 x ∧ wr' = wr) (fun _ i _ => ((intOf i) + 1 - at_).toNat)
          case atStart => exact ⟨j + 1, 0, by omega, congrArg _ (by omega), rfl, ⟨by simp [sv]⟩, ⟨by decide⟩, rfl⟩
          case round =>
            obtain ⟨t, x, ht, rfl, rfl, hx, hx64, rfl⟩ := hrel
            cases t with
            | zero =>
              have hP : Held (x = pv d (j + 1)) := ⟨by rw [pv_sv]; exact hx.out⟩
              clear hx
              go_wp2_with fail
              all_goals
                go_ret3
                rw [hGN'.out]
                try simp only [beq_iff_eq, bne_iff_ne, ne_eq, beq_eq_false_iff_ne, bne_eq_false_iff_eq] at *
                have h1 := hP.out
                have h2 := hx64.lt
                first
                | rw [if_neg (show ¬ (0 < j ∧ y = 0 ∨ 18446744073709551616 ≤ pv d (j + 1)) by omega), ← h1]
                  have hw1' := hw1 trivial
                  rw [Int.add_assoc] at hw1'
                  exact ⟨by simp [hw1', Int.add_assoc], Upd.refl _ _⟩
                | rw [if_pos (show (0 < j ∧ y = 0 ∨ 18446744073709551616 ≤ pv d (j + 1)) by omega)]
                  exact ⟨by simp, Upd.refl _ _⟩
            | succ t =>
              have htin : at_ + t < l.length := by omega
              have hct : wr.cell? ⟨b, o + (at_ + t), none⟩ = some (.int .u8 (l[at_ + t] : Nat)) := hc' _ htin
              go_wp2_with fail
              case roundEnd =>
                have hw : wrap64 ((at_ : Int) + (t + 1) - 1 - 1) = (at_ : Int) + t - 1 := by
                  have := hB.out
                  rw [wrap64_small _ (by omega)]; omega
                have hdt := hdj t htin (by omega)
                rw [hw]
                refine ⟨⟨t, x * 128 + l[at_ + t] % 128, by omega, rfl, by simp, ⟨?_⟩, ⟨by omega⟩, trivial⟩, ?_⟩
                · rw [hx.out, show j + 1 - t = (j - t) + 1 by omega, sv, getD_at (by omega), hdt, show j + 1 - (t + 1) = j - t by omega]
                  omega
                · clear hw; simp only [intOf]; omega
              all_goals
                go_ret3
                rw [hGN'.out]
                have h1 := sv_more d (t + 1) (j + 1 - (t + 1))
                rw [← hx.out, show t + 1 + (j + 1 - (t + 1)) = j + 1 by omega, Nat.pow_succ, Nat.mul_assoc] at h1
                have h2 : 128 * x ≤ 128 ^ t * (128 * x) := Nat.le_mul_of_pos_left _ (Nat.pow_pos (by decide))
                rw [if_pos (show (0 < j ∧ y = 0 ∨ 18446744073709551616 ≤ pv d (j + 1)) by omega)]
                exact ⟨by simp, Upd.refl _ _⟩
      · have hG : Held (getN d = (0, 0, 3)) := ⟨by
          unfold getN
          rw [if_pos (by omega)]⟩
        have h10 : ((at_ : Int) + j - at_ == 10) = true := by simp only [beq_iff_eq]; omega
        clear hle
        go_wp2_with fail
        all_goals
          go_ret3
          rw [hG.out]
          exact ⟨by simp, Upd.refl _ _⟩
    · have hjd : j = d.length := by omega
      by_cases hj10 : j = 10
      · have hG : Held (getN d = (0, 0, 3)) := ⟨by
          unfold getN
          rw [if_pos (by omega)]⟩
        have h10 : ((at_ : Int) + j - at_ == 10) = true := by simp only [beq_iff_eq]; omega
        clear hle hcell
        go_wp2_with fail
        all_goals
          go_ret3
          rw [hG.out]
          exact ⟨by simp, Upd.refl _ _⟩
      · have hG : Held (getN d = (0, 0, 4)) := ⟨by
          unfold getN
          rw [if_neg (by omega), if_pos (by omega)]⟩
        have h10 : ((at_ : Int) + j - at_ == 10) = false := by simp only [beq_eq_false_iff_ne]; omega
        clear hle hcell
        go_wp2_with fail
        all_goals
          go_ret3
          rw [hG.out]
          exact ⟨by simp, Upd.refl _ _⟩

end Go.Proofs.Ytdmdnijgjgjmkaa
