/- Numbers as bytes: plain arithmetic. -/
import Derived.Laws.BitsLemmas
set_option maxRecDepth 20000
namespace Go.Proofs.Ytdmdnijgjgjmkaa

/-- The bytes of one number, by sevens, the lowest first. -/
def putOne (n : Nat) : List Nat := if n < 128 then [n] else (n % 128 + 128) :: putOne (n / 128)
termination_by n
decreasing_by omega
theorem putOne_lt {n : Nat} (h : n < 128) : putOne n = [n] := by rw [putOne, if_pos h]
theorem putOne_ge {n : Nat} (h : 128 ≤ n) : putOne n = (n % 128 + 128) :: putOne (n / 128) := by rw [putOne, if_neg (by omega)]
theorem putOne_len (j : Nat) : ∀ n, n < 128 ^ (j + 1) → (putOne n).length ≤ j + 1 := by
  induction j with
  | zero => intro n h; rw [putOne_lt (by simpa using h)]; simp
  | succ j ih =>
    intro n h
    by_cases hl : n < 128
    · rw [putOne_lt hl]; simp
    · rw [putOne_ge (by omega)]
      have : n / 128 < 128 ^ (j + 1) := by rw [Nat.pow_succ] at h; omega
      have := ih _ this
      simp; omega
theorem putOne_len64 {n : Nat} (h : n < 18446744073709551616) : (putOne n).length ≤ 10 := putOne_len 9 n (Nat.lt_of_lt_of_le h (by decide))
theorem putOne_pos (n : Nat) : 0 < (putOne n).length := by
  by_cases h : n < 128
  · rw [putOne_lt h]; simp
  · rw [putOne_ge (by omega)]; simp
/-- The bytes of numbers. -/
def putAll : List Nat → List Nat
  | [] => []
  | n :: l => putOne n ++ putAll l
theorem putAll_append (a b : List Nat) : putAll (a ++ b) = putAll a ++ putAll b := by
  induction a with
  | nil => rfl
  | cons x a ih => simp [putAll, ih]
theorem putAll_take (l : List Nat) (k : Nat) (h : k < l.length) : putAll (l.take (k + 1)) = putAll (l.take k) ++ putOne l[k] := by
  rw [List.take_succ_eq_append_getElem h, putAll_append]; simp [putAll]
theorem putAll_len (l : List Nat) (h : ∀ n ∈ l, n < 18446744073709551616) : (putAll l).length ≤ 10 * l.length := by
  induction l with
  | nil => simp [putAll]
  | cons x l ih =>
    have := putOne_len64 (h x (by simp))
    have := ih (fun n hn => h n (by simp [hn]))
    simp [putAll]; omega

set_option maxRecDepth 8000 in
theorem or128 (m : Int) (h : 0 ≤ m) : bits .or .u8 (m % 256) 128 = m % 128 + 128 := by
  obtain ⟨n, rfl⟩ := Int.eq_ofNat_of_zero_le h
  have h1 : ((n : Int) % 256) = ((n % 256 : Nat) : Int) := by simp
  have h2 : n % 256 < 2 ^ 8 := Nat.mod_lt _ (by decide)
  rw [h1, show (128 : Int) = ((128 : Nat) : Int) from rfl, (bits_nat .u8 8 (by decide) wraps_u8 (n % 256) 128 h2 (by decide)).2]
  have e : n % 256 ||| 128 = n % 128 + 128 := by
    have hd : ∀ k, k < 256 → k ||| 128 = k % 128 + 128 := by decide
    rw [hd _ h2, Nat.mod_mod_of_dvd _ (by decide)]
  rw [e]; simp

end Go.Proofs.Ytdmdnijgjgjmkaa
