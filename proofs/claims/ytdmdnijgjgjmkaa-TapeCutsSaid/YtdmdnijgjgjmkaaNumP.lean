/- Numbers as bytes, and back: plain arithmetic. -/
import Derived.Test.YtdmdnijgjgjmkaaProg
import Derived.Test.YtdmdnijgjgjmkaaRef34Get
set_option maxRecDepth 20000
namespace Go.Proofs.Ytdmdnijgjgjmkaa

theorem sv_cons (x : Nat) (t : List Nat) : ∀ m k, sv (x :: t) m (k + 1) = sv t m k := by
  intro m
  induction m with
  | zero => intro k; rfl
  | succ m ih => intro k; simp only [sv]; rw [ih (k + 1)]; simp [List.getD]
theorem pv_cons (x : Nat) (t : List Nat) (m : Nat) : pv (x :: t) (m + 1) = x % 128 + 128 * pv t m := by
  rw [pv_sv, pv_sv, sv, sv_cons]; simp [List.getD]
theorem lead_cons (f x : Nat) (t : List Nat) : lead (f + 1) (x :: t) = if 128 ≤ x then lead f t + 1 else 0 := rfl
/-- What a number's bytes begin with, read back. -/
theorem lead_putOne (n : Nat) : ∀ (r : List Nat) (f : Nat), (putOne n).length ≤ f → lead f (putOne n ++ r) = (putOne n).length - 1 ∧ pv (putOne n ++ r) (putOne n).length = n ∧ ((putOne n ++ r).getD ((putOne n).length - 1) 0 = 0 → n < 128) := by
  induction n using Nat.strongRecOn with
  | _ n ih =>
    intro r f hf
    by_cases h : n < 128
    · rw [putOne_lt h] at hf ⊢
      obtain ⟨g, rfl⟩ : ∃ g, f = g + 1 := ⟨f - 1, by simp at hf; omega⟩
      refine ⟨?_, ?_, fun _ => h⟩
      · rw [List.cons_append, lead_cons, if_neg (by omega)]; rfl
      · show pv (n :: r) 1 = n
        rw [pv_cons, pv, Nat.mod_eq_of_lt h]; omega
    · rw [putOne_ge (by omega)] at hf ⊢
      have hp := putOne_pos (n / 128)
      obtain ⟨g, rfl⟩ : ∃ g, f = g + 1 := ⟨f - 1, by simp at hf; omega⟩
      obtain ⟨h1, h2, h3⟩ := ih (n / 128) (by omega) r g (by simpa using hf)
      simp only [List.cons_append, List.length_cons, Nat.add_sub_cancel]
      refine ⟨?_, ?_, ?_⟩
      · rw [lead_cons, if_pos (by omega), h1]; omega
      · rw [pv_cons, h2]; omega
      · intro h0
        obtain ⟨k, hk⟩ : ∃ k, (putOne (n / 128)).length = k + 1 := ⟨(putOne (n / 128)).length - 1, by omega⟩
        rw [hk] at h0 h3
        have h0' : (putOne (n / 128) ++ r).getD k 0 = 0 := by simpa [List.getD] using h0
        have h4 := h3 h0'
        exfalso
        have hl : (putOne (n / 128)) = [n / 128] := putOne_lt h4
        rw [hl] at h0' hk
        simp at hk
        subst hk
        simp [List.getD] at h0'
        omega
theorem getN_put (n : Nat) (r : List Nat) (hn : n < 18446744073709551616) : getN (putOne n ++ r) = (n, (putOne n).length, 0) := by
  have hp := putOne_pos n
  have hl := putOne_len64 hn
  obtain ⟨h1, h2, h3⟩ := lead_putOne n r 10 hl
  obtain ⟨k, hk⟩ : ∃ k, (putOne n).length = k + 1 := ⟨(putOne n).length - 1, by omega⟩
  rw [hk] at h1 h2 h3 hl
  unfold getN
  rw [h1, Nat.add_sub_cancel, if_neg (by omega), if_neg (by rw [List.length_append, hk]; omega), h2, if_neg, hk]
  rintro (⟨ha, hb⟩ | hb)
  · have h4 := h3 hb
    rw [putOne_lt h4] at hk
    simp at hk
    omega
  · omega
/-- The other way. -/
theorem put_getN : ∀ (j f : Nat) (l : List Nat), lead f l = j → j < f → j < l.length → (0 < j → l.getD j 0 ≠ 0) → (∀ x ∈ l, x < 256) → putOne (pv l (j + 1)) = l.take (j + 1) := by
  intro j
  induction j with
  | zero =>
    intro f l h1 h2 h3 h4 h5
    cases l with
    | nil => simp at h3
    | cons x t =>
      obtain ⟨f, rfl⟩ : ∃ g, f = g + 1 := ⟨f - 1, by omega⟩
      rw [lead_cons] at h1
      have hx : x < 128 := by split at h1 <;> omega
      rw [pv_cons, pv, Nat.mod_eq_of_lt hx, Nat.mul_zero, Nat.add_zero, putOne_lt hx]
      simp
  | succ j ih =>
    intro f l h1 h2 h3 h4 h5
    cases l with
    | nil => simp at h3
    | cons x t =>
      obtain ⟨f, rfl⟩ : ∃ g, f = g + 1 := ⟨f - 1, by omega⟩
      rw [lead_cons] at h1
      have hx : 128 ≤ x := by split at h1 <;> omega
      rw [if_pos hx] at h1
      have hx2 : x < 256 := h5 x (by simp)
      have hlast : t.getD j 0 ≠ 0 := by have := h4 (by omega); simpa [List.getD] using this
      have htl : j < t.length := by simpa using h3
      have hiht := ih f t (by omega) (by omega) htl (fun _ => hlast) (fun y hy => h5 y (by simp [hy]))
      have hv : 1 ≤ pv t (j + 1) := by
        have hlt : t.getD j 0 < 128 := by
          by_cases hc : t.getD j 0 < 128
          · exact hc
          · exfalso
            have := lead_next j f t htl (by omega) (by omega)
            rw [getD_at htl] at hc
            have := this.1 (by omega)
            omega
        rw [pv, Nat.mod_eq_of_lt hlt]
        have : 1 ≤ t.getD j 0 * 128 ^ j := Nat.mul_pos (by omega) (Nat.pow_pos (by decide))
        omega
      rw [pv_cons, putOne_ge (by omega), List.take_succ_cons]
      congr 1
      · omega
      · rw [← hiht]; congr 1; omega
theorem getN_ok {l : List Nat} (hb : ∀ x ∈ l, x < 256) (h : (getN l).2.2 = 0) : 1 ≤ (getN l).2.1 ∧ (getN l).2.1 ≤ l.length ∧ (getN l).1 < 18446744073709551616 ∧ putOne (getN l).1 = l.take (getN l).2.1 := by
  unfold getN at h ⊢
  split at h
  · simp at h
  split at h
  · simp at h
  split at h
  · simp at h
  rename_i h1 h2 h3
  rw [if_neg h1, if_neg h2, if_neg h3]
  have h4 := lead_le 10 l
  refine ⟨by simp, by simp; omega, by simp; omega, ?_⟩
  exact put_getN (lead 10 l) 10 l rfl (by omega) (by omega) (fun hp h0 => h3 (Or.inl ⟨hp, h0⟩)) hb
theorem getN_bad {l : List Nat} (h : (getN l).2.2 ≠ 0) : (getN l).1 = 0 ∧ (getN l).2.1 = 0 ∧ ((getN l).2.2 = 3 ∨ (getN l).2.2 = 4) := by
  unfold getN at h ⊢
  repeat' split
  all_goals first | exact ⟨rfl, rfl, Or.inl rfl⟩ | exact ⟨rfl, rfl, Or.inr rfl⟩ | skip
  rename_i h1 h2 h3
  rw [if_neg h1, if_neg h2, if_neg h3] at h
  simp at h
theorem putOne_bytes (n : Nat) : ∀ x ∈ putOne n, x < 256 := by
  induction n using Nat.strongRecOn with
  | _ n ih =>
    intro x hx
    by_cases h : n < 128
    · rw [putOne_lt h] at hx; rw [List.mem_singleton.1 hx]; omega
    · rw [putOne_ge (by omega)] at hx
      rcases List.mem_cons.1 hx with rfl | hx
      · omega
      · exact ih (n / 128) (by omega) x hx
theorem putAll_bytes (l : List Nat) : ∀ x ∈ putAll l, x < 256 := by
  induction l with
  | nil => intro x hx; simp [putAll] at hx
  | cons n l ih =>
    intro x hx
    rcases List.mem_append.1 (show x ∈ putOne n ++ putAll l from hx) with h | h
    · exact putOne_bytes n x h
    · exact ih x h
end Go.Proofs.Ytdmdnijgjgjmkaa
