/- Quiet boards: the clock's registers, through a port of one gap. -/
import Derived.Test.YtbkegflipglioaaGreatQsA
import Derived.Test.YtbkegflipglioaaGreatAsH
set_option maxRecDepth 20000
namespace Go.SX.Y.Pl
open Go.SX Go.SX.Y
theorem srq32 (x : Int) (h : 0 ≤ x) : srq x 32 = x / 4294967296 := by
  show Int.fdiv x (2 ^ min (Int.toNat 32) 64) = _
  rw [Int.fdiv_eq_ediv_of_nonneg _ (by decide)]
  rfl
theorem slq32 (x : Int) : slq x 32 = (x * 4294967296) % 18446744073709551616 := rfl
theorem rrq_nat (a b : Nat) (ha : a < 4294967296) (hb : b < 4294967296) : rrq ((a : Int) * 4294967296) b = (a : Int) * 4294967296 + b := by
  have e1 : ((a : Int) * 4294967296) = ((a * 4294967296 : Nat) : Int) := by omega
  rw [e1]
  show ((BitVec.ofInt 64 ((a * 4294967296 : Nat) : Int) ||| BitVec.ofInt 64 (b : Int)).toNat : Int) % 18446744073709551616 = _
  rw [BitVec.toNat_or, BitVec.ofInt_natCast, BitVec.ofInt_natCast, BitVec.toNat_ofNat, BitVec.toNat_ofNat, Nat.mod_eq_of_lt (by omega), Nat.mod_eq_of_lt (by omega)]
  have h2 : a * 4294967296 ||| b = a * 4294967296 + b := by
    have := Nat.shiftLeft_add_eq_or_of_lt (b := b) (i := 32) (by omega) a
    rw [Nat.shiftLeft_eq] at this
    exact this.symm
  rw [h2]
  omega
theorem join_eq {v s : Int} (v0 : 0 ≤ v) (v1 : v < 4294967296) (s0 : 0 ≤ s) (s1 : s < 4294967296) : rrq (slq (cvq v 0) 32) (cvq s 0) = v * 4294967296 + s := by
  have h1 : cvq v 0 = v := by rw [cvq_eq]; omega
  have h2 : cvq s 0 = s := by rw [cvq_eq]; omega
  have h3 : slq v 32 = v * 4294967296 := by rw [slq32]; omega
  rw [h1, h2, h3]
  obtain ⟨a, rfl⟩ := Int.eq_ofNat_of_zero_le v0
  obtain ⟨b, rfl⟩ := Int.eq_ofNat_of_zero_le s0
  exact rrq_nat a b (by omega) (by omega)
theorem st8 (T s al dv v : Int) (ra : Bool) : Mo.tStore8_v1 v (RT T s al dv ra) = RT T v al dv ra := by kernel_rfl
theorem st12 {T s al dv v : Int} {ra : Bool} (hd : 0 < dv) (v0 : 0 ≤ v) (v1 : v < 4294967296) (s0 : 0 ≤ s) (s1 : s < 4294967296) : Mo.tStore12_v1 v (RT T s al dv ra) = RT ((v * 4294967296 + s) * dv) s al dv ra := by
  have h : Mo.tStore12_v1 v (RT T s al dv ra) = ⟨rrq (slq (cvq v 0) 32) (cvq s 0), al, 0, s, false, ra, dv⟩ := by kernel_rfl
  rw [h, join_eq v0 v1 s0 s1]
  unfold RT
  rw [Int.mul_ediv_cancel _ (by omega), Int.mul_emod_left]
theorem store_8 (t v h : Int) (r : Mo.Rt) : Mo.dStore8_v1 v (Q t r h) = Q t (Mo.tStore8_v1 v r) (hiB (iM 18446744073709551615 t) (Mo.tStore8_v1 v r).raised) := by
  have e : Mo.dStore8_v1 v (Q t r h) = Mo.dSettle_v1 (Q t (Mo.tStore8_v1 v r) h) := by kernel_rfl
  rw [e]; exact settle_Q _ _ _
theorem store_12 (t v h : Int) (r : Mo.Rt) : Mo.dStore12_v1 v (Q t r h) = Q t (Mo.tStore12_v1 v r) (hiB (iM 18446744073709551615 t) (Mo.tStore12_v1 v r).raised) := by
  have e : Mo.dStore12_v1 v (Q t r h) = Mo.dSettle_v1 (Q t (Mo.tStore12_v1 v r) h) := by kernel_rfl
  rw [e]; exact settle_Q _ _ _
theorem storepre_8 (t v h : Int) (r : Mo.Rt) (T s al dv : Int) (ra : Bool) (hr : r = RT T s al dv ra) : Mo.dStore8_pre v (Q t r h) := by
  subst hr
  have e : Mo.dStore8_pre v (Q t (RT T s al dv ra) h) = Mo.dSettle_pre (Q t (Mo.tStore8_v1 v (RT T s al dv ra)) h) := by kernel_rfl
  rw [e]; exact settlepre_Q _ _ _
theorem storepre_12 (t v h : Int) (r : Mo.Rt) (T s al dv : Int) (ra : Bool) (hr : r = RT T s al dv ra) : Mo.dStore12_pre v (Q t r h) := by
  subst hr
  have e : Mo.dStore12_pre v (Q t (RT T s al dv ra) h) = Mo.dSettle_pre (Q t (Mo.tStore12_v1 v (RT T s al dv ra)) h) := by kernel_rfl
  rw [e]; exact settlepre_Q _ _ _
theorem secQ (t h T s al dv : Int) (ra : Bool) : Mo.Rt.sec (Mo.Bd.t (Q t (RT T s al dv ra) h)) = T / dv := rfl
/-- Behind g ticks. -/
theorem tickRT {T n s al dv t h : Int} {ra : Bool} (hk : RTok T dv) (hn : 0 ≤ n) (hk2 : RTok (T + n) dv) (hn2 : n < 18446744073709551616) :
    ∃ h', Mo.dTick_v1 n (Q t (RT T s al dv ra) h) = Q (sat (t + n)) (RT (T + n) s al dv ra) h' ∧ (0 ≤ t → Mo.dTick_pre n (Q t (RT T s al dv ra) h)) := by
  obtain ⟨h1, h2⟩ := tTick_RT (s := s) (al := al) (ra := ra) hk hn hk2 hn2
  refine ⟨_, by rw [tick_Q, h1], fun h0 => tickpre_Q h0 hn h2⟩
theorem RTok.mono {T T' dv : Int} (h : RTok T' dv) (h0 : 0 ≤ T) (h1 : T ≤ T') : RTok T dv := ⟨h0, Int.lt_of_le_of_lt (Int.ediv_le_ediv h.d0 h1) h.hi, h.d0, h.d1⟩
end Go.SX.Y.Pl
