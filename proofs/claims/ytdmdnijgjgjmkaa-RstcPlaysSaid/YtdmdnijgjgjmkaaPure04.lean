/- Words and their truths: plain arithmetic. -/
import Derived.Test.YtdmdnijgjgjmkaaRef04
import Derived.Laws.BitsLemmas
namespace Go.Proofs.Ytdmdnijgjgjmkaa

theorem wd_testBit (l : List Bool) : ∀ i, (wd l).testBit i = l[i]?.getD false := by
  induction l with
  | nil => intro i; simp [wd]
  | cons b l ih =>
    intro i
    cases i with
    | zero => cases b <;> simp [wd, Nat.testBit_zero]
    | succ i =>
      rw [Nat.testBit_succ]
      have : wd (b :: l) / 2 = wd l := by simp only [wd]; cases b <;> simp <;> omega
      rw [this, ih]
      simp
theorem wdf_testBit (c : Nat → Bool) (i : Nat) : (wdf c).testBit i = (decide (i < 32) && c i) := by
  unfold wdf
  rw [wd_testBit]
  by_cases h : i < 32 <;> simp [h]
/-- A word is told by its truths. -/
theorem wdf_of (c : Nat → Bool) (n : Nat) (hn : n < 4294967296) (h : ∀ i, i < 32 → n.testBit i = c i) : wdf c = n := by
  apply Nat.eq_of_testBit_eq
  intro i
  rw [wdf_testBit]
  by_cases hi : i < 32
  · simp [hi, h i hi]
  · have : n.testBit i = false := Nat.testBit_lt_two_pow (Nat.lt_of_lt_of_le hn (Nat.pow_le_pow_right (by decide : 0 < 2) (by omega : 32 ≤ i)))
    simp [hi, this]
theorem wdz_of (c : Nat → Bool) (n : Nat) (hn : n < 4294967296) (h : ∀ i, i < 32 → n.testBit i = c i) : wdz c = n := by
  unfold wdz; rw [wdf_of c n hn h]
theorem bit_int (v : Int) (h0 : 0 ≤ v) (i : Nat) : (v / 2 ^ i % 2 == 1) = v.toNat.testBit i := by
  obtain ⟨n, rfl⟩ := Int.eq_ofNat_of_zero_le h0
  rw [Int.toNat_natCast, Nat.testBit_eq_decide_div_mod_eq]
  have : ((n : Int) / 2 ^ i % 2) = ((n / 2 ^ i % 2 : Nat) : Int) := by simp
  rw [this]
  by_cases h : n / 2 ^ i % 2 = 1 <;> simp [h]
  omega
theorem wdz_bits (v : Int) (h0 : 0 ≤ v) (h1 : v < 4294967296) : wdz (fun i => v / 2 ^ i % 2 == 1) = v := by
  rw [wdz_of _ v.toNat (by omega) (fun i _ => (bit_int v h0 i).symm)]
  omega
theorem u32_wraps (n : Int) (g0 : 0 ≤ n) (g1 : n < 2 ^ 32) : IntKind.u32.wrap n = n := by rw [IntKind.wrap_u32]; omega
theorem u32_or (a b : Nat) (ha : a < 4294967296) (hb : b < 4294967296) : bits .or .u32 a b = ((a ||| b : Nat) : Int) := (bits_nat .u32 32 (by decide) u32_wraps a b ha hb).2
theorem u32_and (a b : Nat) (ha : a < 4294967296) (hb : b < 4294967296) : bits .and .u32 a b = ((a &&& b : Nat) : Int) := (bits_nat .u32 32 (by decide) u32_wraps a b ha hb).1
theorem u32_andNot (a b : Nat) (_ha : a < 4294967296) (_hb : b < 4294967296) : ∃ n : Nat, bits .andNot .u32 a b = n ∧ n < 4294967296 ∧ ∀ i, i < 32 → n.testBit i = (a.testBit i && !b.testBit i) := by
  have hlt := (BitVec.ofNat 32 a &&& ~~~ BitVec.ofNat 32 b).isLt
  refine ⟨(BitVec.ofNat 32 a &&& ~~~ BitVec.ofNat 32 b).toNat, ?_, hlt, fun i hi => ?_⟩
  · simp only [bits, BitVec.ofInt_natCast]
    exact u32_wraps _ (Int.natCast_nonneg _) (by exact_mod_cast hlt)
  · rw [BitVec.testBit_toNat]
    simp only [BitVec.getLsbD_and, BitVec.getLsbD_not, BitVec.getLsbD_ofNat, hi, decide_true, Bool.true_and]
theorem wdz_cast (c : Nat → Bool) : wdz c = ((wdf c : Nat) : Int) := rfl
theorem wdz_set (c : Nat → Bool) (j : Nat) (hj : j < 32) : wdz (fun i => if i = j then true else c i) = bits .or .u32 (wdz c) ((2 ^ j : Nat) : Int) := by
  have h2 : 2 ^ j < 4294967296 := Nat.pow_lt_pow_right (by decide : 1 < 2) hj
  rw [wdz_cast c, u32_or _ _ (wdf_lt c) h2]
  refine wdz_of _ _ (Nat.or_lt_two_pow (n := 32) (wdf_lt c) h2) (fun i hi => ?_)
  rw [Nat.testBit_or, wdf_testBit, Nat.testBit_two_pow]
  by_cases e : i = j
  · subst e; simp
  · have : ¬ j = i := fun h => e h.symm
    simp [hi, e, this]
theorem wdz_clr (c : Nat → Bool) (v : Int) (h0 : 0 ≤ v) (h1 : v < 4294967296) (d : Nat → Bool) (hd : ∀ i, i < 32 → d i = (c i && !(v / 2 ^ i % 2 == 1))) : wdz d = bits .andNot .u32 (wdz c) v := by
  obtain ⟨n, rfl⟩ := Int.eq_ofNat_of_zero_le h0
  obtain ⟨m, e, hm, ht⟩ := u32_andNot (wdf c) n (wdf_lt c) (by omega)
  rw [wdz_cast c, e]
  refine wdz_of _ _ hm (fun i hi => ?_)
  rw [ht i hi, hd i hi, wdf_testBit, bit_int _ h0, Int.toNat_natCast]
  simp [hi]

end Go.Proofs.Ytdmdnijgjgjmkaa
