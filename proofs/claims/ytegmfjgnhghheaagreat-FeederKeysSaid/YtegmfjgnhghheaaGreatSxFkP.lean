/- FeederKeys: how a claim is shown. -/
import Derived.Test.YtegmfjgnhghheaaGreatSxOrc2
namespace Go.SX.Y
theorem fA : std noW .A = stdA := rfl
theorem fB : std noW .B = stdB := rfl
theorem fQ : std noW .Q = stdQ := rfl
theorem fTb (op : BO) (a b : Int) : tb (std noW) false op a b = stdB op a b := rfl
theorem add32 (x y : Int) : stdA .add .u32 x y = (x + y) % 4294967296 := rfl
theorem add64 (x y : Int) : stdA .add .u64 x y = (x + y) % 18446744073709551616 := rfl
theorem sub64 (x y : Int) : stdA .sub .u64 x y = (x - y) % 18446744073709551616 := rfl
theorem cv32 (x y : Int) : stdA .conv .u32 x y = x % 4294967296 := rfl
theorem cv64 (x y : Int) : stdA .conv .u64 x y = x % 18446744073709551616 := rfl
theorem rm64 (x y : Int) (h : 0 ≤ x) : stdA .rem .u64 x y = x % y := Int.tmod_eq_emod_of_nonneg h
theorem rm32 (x y : Int) (h : 0 ≤ x) : stdA .rem .u32 x y = x % y := Int.tmod_eq_emod_of_nonneg h
theorem qu64 (x y : Int) (h : 0 ≤ x) : stdA .quo .u64 x y = (x / y) % 18446744073709551616 := by
  show (x.tdiv y) % 18446744073709551616 = _
  rw [Int.tdiv_eq_ediv_of_nonneg h]
theorem bEq (x y : Int) : stdB .eq x y = decide (x = y) := by
  simp only [stdB]
  by_cases h : x = y <;> simp [h]
theorem bNe (x y : Int) : stdB .ne x y = !decide (x = y) := by
  simp only [stdB, bne]
  by_cases h : x = y <;> simp [h]
theorem bLt (x y : Int) : stdB .lt x y = decide (x < y) := rfl
theorem bLe (x y : Int) : stdB .le x y = decide (x ≤ y) := rfl
theorem qAnd (a b : Bool) : stdQ .and a b = (a && b) := rfl
theorem qNot (a b : Bool) : stdQ .not a b = !a := rfl
/-- Total, as the law makes it. -/
theorem fk_T (q1 : Int) (h : 0 ≤ q1) : stdA .add .u32 2 (stdA .rem .u32 q1 1000) = 2 + q1 % 1000 := by
  rw [rm32 _ _ h, add32]; omega
theorem ite_intro {c A : Prop} [Decidable c] (h : c) (a : A) : if c then A else False := by rw [if_pos h]; exact a
theorem l0 : Int.ofNat 0 = 0 := rfl
theorem l1 : Int.ofNat (Nat.succ 0) = 1 := rfl
theorem l10 : Int.ofNat (Nat.succ 9) = 10 := rfl
theorem lmax : Int.ofNat (Nat.succ 18446744073709551614) = 18446744073709551615 := rfl
theorem on_nat (n : Nat) : Int.ofNat n = (n : Int) := rfl
end Go.SX.Y
