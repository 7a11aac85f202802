/- Tapes that are cut short: plain arithmetic. -/
import Derived.Test.YtdmdnijgjgjmkaaProg
import Derived.Test.YtdmdnijgjgjmkaaParseP
set_option maxRecDepth 20000
namespace Go.Proofs.Ytdmdnijgjgjmkaa

theorem lead_all : ∀ (f : Nat) (l : List Nat), (∀ x ∈ l, 128 ≤ x) → l.length ≤ f → lead f l = l.length := by
  intro f
  induction f with
  | zero => intro l _ h; simp at h; subst h; rfl
  | succ f ih =>
    intro l h hl
    cases l with
    | nil => rfl
    | cons x t => rw [lead_cons, if_pos (h x (by simp)), ih t (fun y hy => h y (by simp [hy])) (by simpa using hl)]; simp
theorem putOne_big (n : Nat) : ∀ j, j < (putOne n).length → ∀ x ∈ (putOne n).take j, 128 ≤ x := by
  induction n using Nat.strongRecOn with
  | _ n ih =>
    intro j hj x hx
    by_cases h : n < 128
    · rw [putOne_lt h] at hj hx
      have : j = 0 := by simpa using hj
      subst this
      simp at hx
    · rw [putOne_ge (by omega)] at hj hx
      cases j with
      | zero => simp at hx
      | succ j =>
        rw [List.take_succ_cons] at hx
        rcases List.mem_cons.1 hx with rfl | hx
        · omega
        · exact ih (n / 128) (by omega) j (by simpa using hj) x hx
theorem takeP_cut (g great n j : Nat) (hn : n < 18446744073709551616) (hj : j < (putOne n).length) : takeP g great ((putOne n).take j) = .error 4 := by
  have hl := putOne_len64 hn
  have hlen : ((putOne n).take j).length = j := by rw [List.length_take]; omega
  have h1 := lead_all 10 ((putOne n).take j) (putOne_big n j hj) (by omega)
  have h2 : getN ((putOne n).take j) = (0, 0, 4) := by
    unfold getN
    rw [h1, if_neg (by omega), if_pos (Nat.le_refl _)]
  unfold takeP
  rw [h2, if_neg (by simp)]
theorem takes_cut (g great : Nat) : ∀ (zs : List Nat) (j : Nat), (∀ z ∈ zs, z < 18446744073709551616 ∧ z ≤ g) → j < (putAll zs).length → takes g great zs.length ((putAll zs).take j) = .error 4 := by
  intro zs
  induction zs with
  | nil => intro j _ h; simp [putAll] at h
  | cons z zs ih =>
    intro j h hj
    have e : putAll (z :: zs) = putOne z ++ putAll zs := rfl
    rw [e, List.length_append] at hj
    rw [List.length_cons, takes, e, List.take_append]
    by_cases hc : j < (putOne z).length
    · rw [show j - (putOne z).length = 0 by omega, List.take_zero, List.append_nil, takeP_cut g great z j (h z (by simp)).1 hc, bnd_error]
    · rw [List.take_of_length_le (by omega), takeP_put g great z _ (h z (by simp)).1 (h z (by simp)).2, bnd_ok, ih _ (fun x hx => h x (by simp [hx])) (by omega), bnd_error]
theorem opP_cut (k : Nat) (ns : List Nat) (j : Nat) (hk : k < 18446744073709551616) (hn : ∀ x ∈ ns, x < 18446744073709551616) (hl : ns.length ≤ 1048576) (hj : j < (putAll (k :: ns.length :: ns)).length) :
    opP ((putAll (k :: ns.length :: ns)).take j) = .error 4 := by
  have e : putAll (k :: ns.length :: ns) = putOne k ++ (putOne ns.length ++ putAll ns) := by simp [putAll]
  rw [e, List.length_append, List.length_append] at hj
  unfold opP
  rw [e, List.take_append]
  by_cases h1 : j < (putOne k).length
  · rw [show j - (putOne k).length = 0 by omega, List.take_zero, List.append_nil, takeP_cut _ _ k j hk h1, bnd_error]
  · rw [List.take_of_length_le (by omega), takeP_put _ _ k _ hk (by omega), bnd_ok, List.take_append]
    by_cases h2 : j - (putOne k).length < (putOne ns.length).length
    · rw [show j - (putOne k).length - (putOne ns.length).length = 0 by omega, List.take_zero, List.append_nil, takeP_cut _ _ ns.length _ (by omega) h2, bnd_error]
    · rw [List.take_of_length_le (by omega), takeP_put _ _ ns.length _ (by omega) hl, bnd_ok, takes_cut _ _ ns _ (fun x hx => ⟨hn x hx, by have := hn x hx; omega⟩) (by omega), bnd_error]
theorem opsP_cut : ∀ (os : List (Nat × List Nat)) (j : Nat), (∀ o ∈ os, o.1 < 18446744073709551616 ∧ (∀ x ∈ o.2, x < 18446744073709551616) ∧ o.2.length ≤ 1048576 ∧ chk (o.1 : Nat) o.2 = 0) →
    j < (putAll (os.flatMap fun o => o.1 :: o.2.length :: o.2)).length → opsP os.length ((putAll (os.flatMap fun o => o.1 :: o.2.length :: o.2)).take j) = .error 4 := by
  intro os
  induction os with
  | nil => intro j _ h; simp [putAll] at h
  | cons o os ih =>
    intro j h hj
    obtain ⟨h1, h2, h3, h4⟩ := h o (by simp)
    rw [List.flatMap_cons, putAll_append, List.length_append] at hj
    rw [List.length_cons, opsP, List.flatMap_cons, putAll_append, List.take_append]
    by_cases hc : j < (putAll (o.1 :: o.2.length :: o.2)).length
    · rw [show j - (putAll (o.1 :: o.2.length :: o.2)).length = 0 by omega, List.take_zero, List.append_nil, opP_cut o.1 o.2 j h1 h2 h3 hc, bnd_error]
    · rw [List.take_of_length_le (by omega), opP_put o.1 o.2 _ h1 h2 h3, if_pos h4, bnd_ok, ih _ (fun x hx => h x (by simp [hx])) (by omega), bnd_error]
theorem parseP_cut (hs : List Nat) (os : List (Nat × List Nat)) (j : Nat) (hl : hs.length = 5) (hh : ∀ x ∈ hs, x ≤ 4294967295) (hc : numsChk hs = 0) (hm : os.length ≤ 1048576)
    (h : ∀ o ∈ os, o.1 < 18446744073709551616 ∧ (∀ x ∈ o.2, x < 18446744073709551616) ∧ o.2.length ≤ 1048576 ∧ chk (o.1 : Nat) o.2 = 0)
    (hj : j < (84 :: putAll (hs ++ [os.length] ++ os.flatMap fun o => o.1 :: o.2.length :: o.2)).length) :
    parseP ((84 :: putAll (hs ++ [os.length] ++ os.flatMap fun o => o.1 :: o.2.length :: o.2)).take j) = .error (if j = 0 then 3 else 4) := by
  cases j with
  | zero => simp [parseP]
  | succ j =>
    have e : putAll (hs ++ [os.length] ++ os.flatMap fun o => o.1 :: o.2.length :: o.2) = putAll hs ++ (putOne os.length ++ putAll (os.flatMap fun o => o.1 :: o.2.length :: o.2)) := by
      rw [putAll_append, putAll_append]; simp [putAll]
    rw [List.length_cons, e, List.length_append, List.length_append] at hj
    rw [List.take_succ_cons, if_neg (by omega), e]
    unfold parseP
    rw [if_neg (by simp), List.drop_succ_cons, List.drop_zero, List.take_append]
    have hh' : ∀ x ∈ hs, x < 18446744073709551616 ∧ x ≤ 4294967295 := fun x hx => by have := hh x hx; omega
    by_cases h1 : j < (putAll hs).length
    · rw [show j - (putAll hs).length = 0 by omega, List.take_zero, List.append_nil]
      have := takes_cut 4294967295 5 hs j hh' h1
      rw [hl] at this
      rw [this, bnd_error]
    · rw [List.take_of_length_le (by omega)]
      have := takes_put 4294967295 5 hs ((putOne os.length ++ putAll (os.flatMap fun o => o.1 :: o.2.length :: o.2)).take (j - (putAll hs).length)) hh'
      rw [hl] at this
      rw [this, bnd_ok]
      simp only [hc]
      rw [if_neg (by simp), List.take_append]
      by_cases h2 : j - (putAll hs).length < (putOne os.length).length
      · rw [show j - (putAll hs).length - (putOne os.length).length = 0 by omega, List.take_zero, List.append_nil, takeP_cut _ _ os.length _ (by omega) h2, bnd_error]
      · rw [List.take_of_length_le (by omega), takeP_put _ _ os.length _ (by omega) hm, bnd_ok, opsP_cut os _ h (by omega), bnd_error]
end Go.Proofs.Ytdmdnijgjgjmkaa
