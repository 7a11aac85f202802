/- ShotWords: the plain law. -/
import Derived.Test.YtjhejbajkkehjaaGreatSxShotWords
namespace Go.SX.Y
theorem c32 (x y : Int) : stdA .conv .u32 x y = x % 4294967296 := rfl
theorem c64 (x y : Int) : stdA .conv .u64 x y = x % 18446744073709551616 := rfl
theorem sh32 (x : Int) : stdA .shl .u64 x 32 = (x * 4294967296) % 18446744073709551616 := rfl
theorem shr32 (x : Int) (h : 0 ≤ x) : stdA .shr .u64 x 32 = x / 4294967296 := by
  show x.fdiv 4294967296 = _
  rw [Int.fdiv_eq_ediv_of_nonneg x (by decide)]
theorem rem32 (x : Int) (h : 0 ≤ x) : stdA .rem .u64 x 4294967296 = x % 4294967296 := by
  show x.tmod 4294967296 = _
  rw [Int.tmod_eq_emod_of_nonneg h]
theorem quo32 (x : Int) (h : 0 ≤ x) : stdA .quo .u64 x 4294967296 = (x / 4294967296) % 18446744073709551616 := by
  show (x.tdiv 4294967296) % 18446744073709551616 = _
  rw [Int.tdiv_eq_ediv_of_nonneg h]
theorem or32 (h l : Int) (h0 : 0 ≤ h) (h1 : h < 4294967296) (l0 : 0 ≤ l) (l1 : l < 4294967296) : stdA .or .u64 (h * 4294967296) l = h * 4294967296 + l := by
  obtain ⟨h, rfl⟩ := Int.eq_ofNat_of_zero_le h0
  obtain ⟨l, rfl⟩ := Int.eq_ofNat_of_zero_le l0
  show ((BitVec.ofInt 64 ((h : Int) * 4294967296) ||| BitVec.ofInt 64 (l : Int)).toNat : Int) % 18446744073709551616 = _
  have e1 : ((h : Int) * 4294967296) = ((h * 4294967296 : Nat) : Int) := by omega
  have hh : h < 4294967296 := by omega
  have hl : l < 4294967296 := by omega
  rw [e1, BitVec.toNat_or, BitVec.ofInt_natCast, BitVec.ofInt_natCast, BitVec.toNat_ofNat, BitVec.toNat_ofNat]
  have p64 : (2 : Nat) ^ 64 = 18446744073709551616 := by decide
  have p32 : (2 : Nat) ^ 32 = 4294967296 := by decide
  rw [p64, Nat.mod_eq_of_lt (show h * 4294967296 < 18446744073709551616 by omega), Nat.mod_eq_of_lt (show l < 18446744073709551616 by omega)]
  have key := Nat.shiftLeft_add_eq_or_of_lt (i := 32) (b := l) (by rw [p32]; exact hl) h
  rw [Nat.shiftLeft_eq, p32] at key
  rw [← key]
  omega
theorem sw1_eq (a : Int) (h0 : 0 ≤ a) : sw1 a = 18446744069414584320 + a % 4294967296 := by
  unfold sw1
  rw [rem32 a h0, c32, c64, show (18446744069414584320 : Int) = 4294967295 * 4294967296 by decide]
  have : a % 4294967296 % 4294967296 % 18446744073709551616 = a % 4294967296 := by omega
  rw [this, or32 _ _ (by decide) (by decide) (by omega) (by omega)]
theorem sw2_eq (a : Int) (h0 : 0 ≤ a) (h1 : a < 18446744073709551616) : sw2 a = a := by
  unfold sw2
  rw [sw1_eq a h0, quo32 a h0, c32, c64, sh32, c32, c64]
  have e1 : a / 4294967296 % 18446744073709551616 % 4294967296 % 18446744073709551616 * 4294967296 % 18446744073709551616 = a / 4294967296 * 4294967296 := by omega
  have e2 : (18446744069414584320 + a % 4294967296) % 4294967296 % 18446744073709551616 = a % 4294967296 := by omega
  rw [e1, e2, or32 _ _ (by omega) (by omega) (by omega) (by omega)]
  omega
theorem sw3_eq (a : Int) (h0 : 0 ≤ a) (h1 : a < 18446744073709551616) : sw3 a = a / 4294967296 * 4294967296 + 4294967295 := by
  unfold sw3
  rw [sw2_eq a h0 h1, shr32 a h0, c32, c64, sh32]
  have e1 : a / 4294967296 % 4294967296 % 18446744073709551616 * 4294967296 % 18446744073709551616 = a / 4294967296 * 4294967296 := by omega
  rw [e1, or32 _ _ (by omega) (by omega) (by decide) (by decide)]
theorem sw4_eq (a d : Int) (h0 : 0 ≤ a) (h1 : a < 18446744073709551616) (d0 : 0 ≤ d) (d1 : d < 18446744073709551616) : sw4 a d = d / 4294967296 * 4294967296 + 4294967295 := by
  unfold sw4
  rw [sw3_eq a h0 h1, shr32 d d0, c32, c64, sh32, c32, c64]
  have e1 : d / 4294967296 % 4294967296 % 18446744073709551616 * 4294967296 % 18446744073709551616 = d / 4294967296 * 4294967296 := by omega
  have e2 : (a / 4294967296 * 4294967296 + 4294967295) % 4294967296 % 18446744073709551616 = 4294967295 := by omega
  rw [e1, e2, or32 _ _ (by omega) (by omega) (by decide) (by decide)]
theorem sw5_eq (a d : Int) (h0 : 0 ≤ a) (h1 : a < 18446744073709551616) (d0 : 0 ≤ d) (d1 : d < 18446744073709551616) : sw5 a d = d := by
  unfold sw5
  rw [sw4_eq a d h0 h1 d0 d1, shr32 _ (by omega), c32, c64, sh32, c32, c64]
  have e1 : (d / 4294967296 * 4294967296 + 4294967295) / 4294967296 % 4294967296 % 18446744073709551616 * 4294967296 % 18446744073709551616 = d / 4294967296 * 4294967296 := by omega
  have e2 : d % 4294967296 % 18446744073709551616 = d % 4294967296 := by omega
  rw [e1, e2, or32 _ _ (by omega) (by omega) (by omega) (by omega)]
  omega
theorem sw_all (a d : Int) (h0 : 0 ≤ a) (h1 : a < 18446744073709551616) (d0 : 0 ≤ d) (d1 : d < 18446744073709551616) : swT1 a d := by
  have hmin : stdA .min .u64 a d = if d < a then d else a := rfl
  have k1 : stdB .le (stdA .min .u64 a d) (sw3 a) = true := by
    rw [hmin, sw3_eq a h0 h1]
    simp only [stdB, decide_eq_true_eq]
    split <;> omega
  have k2 : stdB .le (stdA .min .u64 a d) (sw4 a d) = true := by
    rw [hmin, sw4_eq a d h0 h1 d0 d1]
    simp only [stdB, decide_eq_true_eq]
    split <;> omega
  have k3 : stdB .eq (sw5 a d) d = true := by
    rw [sw5_eq a d h0 h1 d0 d1]
    simp [stdB]
  have hl : swLeaf a d := by
    unfold swLeaf
    rw [if_pos k1, if_pos k2]
    exact k3
  have h5 : swT5 a d := by unfold swT5; split <;> exact hl
  have h4 : swT4 a d := by unfold swT4; split <;> exact h5
  have h3 : swT3 a d := by unfold swT3; split <;> exact h4
  have h2 : swT2 a d := by unfold swT2; split <;> exact h3
  unfold swT1; split <;> exact h2
open Go.Proofs Go.RowKit in
theorem shotWords_walk (a0 a1 : Int) (h0 : 0 ≤ a0 ∧ a0 < 18446744073709551616) (h1 : 0 ≤ a1 ∧ a1 < 18446744073709551616) (w : World) : Calls Tryz.prog 5 #[.int .u64 a0, .int .u64 a1] w fun e w' => e = .returned (.bool true) ∧ Below w.heap.size w w' :=
  tr_calls ffBok stopB_ok (fi := fi5) (by kernel_rfl) (shotWords_tree a0 a1) (sw_all a0 a1 h0.1 h0.2 h1.1 h1.2) [.int .u64 a0, .int .u64 a1] (oks_cons (by simp only [S.ok]) (oks_cons (by simp only [S.ok]) oks_nil)) w
end Go.SX.Y
