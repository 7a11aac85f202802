/- Quiet boards with an alarm. -/
import Derived.Test.YtbkegflipglioaaGreatQrA
set_option maxRecDepth 20000
namespace Go.SX.Y.Pl
open Go.SX Go.SX.Y
theorem srq32 (x : Int) (h : 0 ≤ x) : srq x 32 = x / 4294967296 := by
  show Int.fdiv x (2 ^ min (Int.toNat 32) 64) = _
  rw [Int.fdiv_eq_ediv_of_nonneg _ (by decide)]
  rfl
theorem slq32 (x : Int) : slq x 32 = (x * 4294967296) % 18446744073709551616 := rfl
theorem rrq_nat (a b : Nat) (ha : a < 4294967296) (hb : b < 4294967296) : rrq ((a : Int) * 4294967296) b = (a : Int) * 4294967296 + b := by
  have e1 : ((a : Int) * 4294967296) = ((a * 4294967296 : Nat) : Int) := by omega
  rw [e1]
  show ((BitVec.ofInt 64 ((a * 4294967296 : Nat) : Int) ||| BitVec.ofInt 64 (b : Int)).toNat : Int) % 18446744073709551616 = _
  rw [BitVec.toNat_or, BitVec.ofInt_natCast, BitVec.ofInt_natCast, BitVec.toNat_ofNat, BitVec.toNat_ofNat, Nat.mod_eq_of_lt (by omega), Nat.mod_eq_of_lt (by omega)]
  have h2 : a * 4294967296 ||| b = a * 4294967296 + b := by
    have := Nat.shiftLeft_add_eq_or_of_lt (b := b) (i := 32) (by omega) a
    rw [Nat.shiftLeft_eq] at this
    exact this.symm
  rw [h2]
  omega
theorem join_eq {v s : Int} (v0 : 0 ≤ v) (v1 : v < 4294967296) (s0 : 0 ≤ s) (s1 : s < 4294967296) : rrq (slq (cvq v 0) 32) (cvq s 0) = v * 4294967296 + s := by
  have h1 : cvq v 0 = v := by rw [cvq_eq]; omega
  have h2 : cvq s 0 = s := by rw [cvq_eq]; omega
  have h3 : slq v 32 = v * 4294967296 := by rw [slq32]; omega
  rw [h1, h2, h3]
  obtain ⟨a, rfl⟩ := Int.eq_ofNat_of_zero_le v0
  obtain ⟨b, rfl⟩ := Int.eq_ofNat_of_zero_le s0
  exact rrq_nat a b (by omega) (by omega)

noncomputable def RG (T s al dv : Int) (en ra : Bool) : Mo.Rt := ⟨T / dv, al, T % dv, s, en, ra, dv⟩
theorem notM (x y : Int) : (stdQ QO.not (iM x y) (iM x y) = true) = ¬ (x ≤ y) := by simp [stdQ, iM, stdB]
def up (en : Bool) (al x y : Int) : Bool := en && (decide (al ≤ y) && !decide (al ≤ x))
theorem tTick_RG {T n s al dv : Int} {en ra : Bool} (hk : RTok T dv) (hn : 0 ≤ n) (hk2 : RTok (T + n) dv) (hn2 : n < 18446744073709551616) : Mo.tTick_v1 n (RG T s al dv en ra) = RG (T + n) s al dv en (ra || up en al (T / dv) ((T + n) / dv)) ∧ Mo.tTick_pre n (RG T s al dv en ra) := by
  obtain ⟨q1, q2⟩ := rest_eq hk.lo hn hk.d0
  have a0 : 0 ≤ n / dv := Int.ediv_nonneg hn (by have := hk.d0; omega)
  have a1 : 0 ≤ T % dv := Int.emod_nonneg _ (by have := hk.d0; omega)
  have a2 : T % dv < dv := Int.emod_lt_of_pos _ hk.d0
  have a3 : 0 ≤ n % dv := Int.emod_nonneg _ (by have := hk.d0; omega)
  have a4 : n % dv < dv := Int.emod_lt_of_pos _ hk.d0
  have a5 : 0 ≤ (T % dv + n % dv) / dv := Int.ediv_nonneg (by omega) (by have := hk.d0; omega)
  have a6 : 0 ≤ T / dv := Int.ediv_nonneg hk.lo (by have := hk.d0; omega)
  have a7 : 0 ≤ (T % dv + n % dv) % dv := Int.emod_nonneg _ (by have := hk.d0; omega)
  have a8 : (T % dv + n % dv) % dv < dv := Int.emod_lt_of_pos _ hk.d0
  have d0 := hk.d0
  have d1 := hk.d1
  have hi2 := hk2.hi
  rw [q1] at hi2
  have c1 : cvq dv 0 = dv := by rw [cvq_eq]; omega
  have c2 : cvq (T % dv) 0 = T % dv := by rw [cvq_eq]; omega
  have c3 : quq n dv = n / dv := by rw [quq_eq _ _ hn]; omega
  have c4 : rmq n dv = n % dv := rmq_eq _ _ hn
  have c5 : adq (T % dv) (n % dv) = T % dv + n % dv := by rw [adq_eq]; omega
  have c6 : quq (T % dv + n % dv) dv = (T % dv + n % dv) / dv := by rw [quq_eq _ _ (by omega)]; omega
  have c7 : adq (n / dv) ((T % dv + n % dv) / dv) = n / dv + (T % dv + n % dv) / dv := by rw [adq_eq]; omega
  have c8 : rmq (T % dv + n % dv) dv = (T % dv + n % dv) % dv := rmq_eq _ _ (by omega)
  have c9 : cvw ((T % dv + n % dv) % dv) 0 = (T % dv + n % dv) % dv := by rw [cvw_eq]; omega
  have p1 : (T / dv + (n / dv + (T % dv + n % dv) / dv)) / 18446744073709551616 = 0 := Int.ediv_eq_zero_of_lt (by omega) (by omega)
  have p2 : (T / dv + (n / dv + (T % dv + n % dv) / dv)) % 18446744073709551616 = T / dv + (n / dv + (T % dv + n % dv) / dv) := Int.emod_eq_of_lt (by omega) (by omega)
  constructor
  · cases en
    · simp only [Mo.tTick_v1, RG, c1, c2, c3, c4, c5, c6, c7, c8, c9, p1, p2, iE_eq, Bool.false_eq_true, if_false, if_true, q1, q2, up, Bool.false_and, Bool.or_false]
    · simp only [Mo.tTick_v1, RG, c1, c2, c3, c4, c5, c6, c7, c8, c9, p1, p2, iE_eq, iM_eq, notM, if_true, q1, q2, up, Bool.true_and]
      by_cases g1 : al ≤ T / dv + (n / dv + (T % dv + n % dv) / dv) <;> by_cases g2 : al ≤ T / dv <;> simp [g1, g2]
  · simp only [Mo.tTick_pre, RG, c1, c2, c3, c4, c5, c6, c7, iN_eq]
    rw [if_pos (by omega), if_pos (by omega), if_pos (by omega), if_pos (by omega)]
    exact ⟨⟨a6, by omega⟩, trivial⟩
theorem tickRG {T n s al dv t h : Int} {en ra : Bool} (hk : RTok T dv) (hn : 0 ≤ n) (hk2 : RTok (T + n) dv) (hn2 : n < 18446744073709551616) (ht : 0 ≤ t) :
    ∃ t' a, 0 ≤ t' ∧ Mo.dTick_v1 n (Q t (RG T s al dv en ra) h) = Q t' (RG (T + n) s al dv en (ra || up en al (T / dv) ((T + n) / dv))) (hiB a (ra || up en al (T / dv) ((T + n) / dv))) ∧ Mo.dTick_pre n (Q t (RG T s al dv en ra) h) := by
  obtain ⟨h1, h2⟩ := tTick_RG (s := s) (al := al) (en := en) (ra := ra) hk hn hk2 hn2
  exact ⟨_, iM 18446744073709551615 (sat (t + n)), sat_nonneg, by rw [tick_Q, h1]; rfl, tickpre_Q ht hn h2⟩
/-- No tick at all. -/
theorem tick0 {T s al dv t h : Int} {en ra : Bool} (hk : RTok T dv) (ht : 0 ≤ t) : ∃ t' a, 0 ≤ t' ∧ Mo.dTick_v1 0 (Q t (RG T s al dv en ra) h) = Q t' (RG T s al dv en ra) (hiB a ra) ∧ Mo.dTick_pre 0 (Q t (RG T s al dv en ra) h) := by
  obtain ⟨t', a, h1, h2, h3⟩ := tickRG (T := T) (n := 0) (s := s) (al := al) (dv := dv) (t := t) (h := h) (en := en) (ra := ra) hk (Int.le_refl _) (by rw [Int.add_zero]; exact hk) (by decide) ht
  have e : up en al (T / dv) ((T + 0) / dv) = false := by
    rw [Int.add_zero]; unfold up
    by_cases g : al ≤ T / dv <;> simp [g]
  rw [e, Bool.or_false, Int.add_zero] at h2
  exact ⟨t', a, h1, h2, h3⟩
theorem st8 (T s al dv v : Int) (ra : Bool) : Mo.tStore8_v1 v (RG T s al dv false ra) = RG T v al dv false ra := by kernel_rfl
theorem st12 {T s al dv v : Int} {ra : Bool} (hd : 0 < dv) (v0 : 0 ≤ v) (v1 : v < 4294967296) (s0 : 0 ≤ s) (s1 : s < 4294967296) : Mo.tStore12_v1 v (RG T s al dv false ra) = RG ((v * 4294967296 + s) * dv) s al dv false ra := by
  have h : Mo.tStore12_v1 v (RG T s al dv false ra) = ⟨rrq (slq (cvq v 0) 32) (cvq s 0), al, 0, s, false, ra, dv⟩ := by kernel_rfl
  rw [h, join_eq v0 v1 s0 s1]
  unfold RG
  rw [Int.mul_ediv_cancel _ (by omega), Int.mul_emod_left]
theorem st16 (T s al dv v : Int) (ra : Bool) : Mo.tStore16_v1 v (RG T s al dv false ra) = RG T s (rrq (slq (cvq (cvw (srq al 32) 0) 0) 32) (cvq v 0)) dv false ra := by kernel_rfl
theorem st20 (T s al dv v : Int) (ra : Bool) : Mo.tStore20_v1 v (RG T s al dv false ra) = RG T s (rrq (slq (cvq v 0) 32) (cvq (cvw al 0) 0)) dv false ra := by kernel_rfl
theorem st24a (T s al dv : Int) (en ra : Bool) : Mo.tStore24_v1 0 (RG T s al dv en ra) = RG T s al dv false ra := by cases en <;> kernel_rfl
theorem st24b (T s al dv : Int) (ra : Bool) : Mo.tStore24_v1 1 (RG T s al dv false ra) = RG T s al dv true (ra || decide (al ≤ T / dv)) := by
  have h : Mo.tStore24_v1 1 (RG T s al dv false ra) = (if iM al (T / dv) = true then RG T s al dv true true else RG T s al dv true ra) := by kernel_rfl
  rw [h]
  simp only [iM_eq]
  by_cases g : al ≤ T / dv <;> simp [g]
theorem st28a {T s al dv : Int} (g : al ≤ T / dv) : Mo.tStore28_v1 1 (RG T s al dv true true) = RG T s al dv true false := by
  have h : Mo.tStore28_v1 1 (RG T s al dv true true) = (if iM al (T / dv) = true then (if stdQ QO.not (iM al (T / dv)) (iM al (T / dv)) = true then RG T s al dv true true else RG T s al dv true false) else RG T s al dv true false) := by kernel_rfl
  rw [h]
  simp only [iM_eq, notM]
  simp [g]
theorem st28b (T s al dv : Int) (ra : Bool) : Mo.tStore28_v1 1 (RG T s al dv false ra) = RG T s al dv false false := by cases ra <;> kernel_rfl
theorem ld28 (T s al dv : Int) (en ra : Bool) : Mo.tLoad28_v1 (RG T s al dv en ra) = if ra then 1 else 0 := by cases en <;> cases ra <;> kernel_rfl
theorem pend (a ra : Bool) : iE (srw (anw (hiB a ra) 65536) 16) 1 = ra := by cases a <;> cases ra <;> kernel_rfl
theorem store_8 (t v h : Int) (r : Mo.Rt) : ∃ a, Mo.dStore8_v1 v (Q t r h) = Q t (Mo.tStore8_v1 v r) (hiB a (Mo.tStore8_v1 v r).raised) ∧ Mo.dStore8_pre v (Q t r h) := by
  have e : Mo.dStore8_v1 v (Q t r h) = Mo.dSettle_v1 (Q t (Mo.tStore8_v1 v r) h) := by kernel_rfl
  have p : Mo.dStore8_pre v (Q t r h) = Mo.dSettle_pre (Q t (Mo.tStore8_v1 v r) h) := by kernel_rfl
  exact ⟨_, by rw [e]; exact settle_Q _ _ _, by rw [p]; exact settlepre_Q _ _ _⟩
theorem put_8 {T s al dv t h v T' s' al' : Int} {en ra en' ra' : Bool} (hk : RTok T dv) (ht : 0 ≤ t) (hst : Mo.tStore8_v1 v (RG T s al dv en ra) = RG T' s' al' dv en' ra') : ∃ t' a, 0 ≤ t' ∧ Mo.pStore8_v2 v (Q t (RG T s al dv en ra) h) = Q t' (RG T' s' al' dv en' ra') (hiB a ra') ∧ ∀ spent, 0 ≤ spent → Mo.pStore8_pre v spent (Q t (RG T s al dv en ra) h) := by
  obtain ⟨t', a, h1, h2, h3⟩ := tick0 (s := s) (al := al) (h := h) (en := en) (ra := ra) hk ht
  obtain ⟨a2, h4, h5⟩ := store_8 t' v (hiB a ra) (RG T s al dv en ra)
  refine ⟨t', a2, h1, ?_, fun spent hs => ⟨⟨hs, Int.le_refl _⟩, h3, by rw [h2]; exact h5⟩⟩
  show Mo.dStore8_v1 v (Mo.dTick_v1 0 (Q t (RG T s al dv en ra) h)) = _
  rw [h2, h4, hst]; rfl
theorem sp_8 (spent : Int) : 0 ≤ Mo.pStore8_v1 spent := sat_nonneg (x := spent + 0) |> fun h => by
  have e : Mo.pStore8_v1 spent = sat (spent + 0) := by
    unfold Mo.pStore8_v1 sat; simp only [iE_eq]
  rw [e]; exact h
theorem store_12 (t v h : Int) (r : Mo.Rt) : ∃ a, Mo.dStore12_v1 v (Q t r h) = Q t (Mo.tStore12_v1 v r) (hiB a (Mo.tStore12_v1 v r).raised) ∧ Mo.dStore12_pre v (Q t r h) := by
  have e : Mo.dStore12_v1 v (Q t r h) = Mo.dSettle_v1 (Q t (Mo.tStore12_v1 v r) h) := by kernel_rfl
  have p : Mo.dStore12_pre v (Q t r h) = Mo.dSettle_pre (Q t (Mo.tStore12_v1 v r) h) := by kernel_rfl
  exact ⟨_, by rw [e]; exact settle_Q _ _ _, by rw [p]; exact settlepre_Q _ _ _⟩
theorem put_12 {T s al dv t h v T' s' al' : Int} {en ra en' ra' : Bool} (hk : RTok T dv) (ht : 0 ≤ t) (hst : Mo.tStore12_v1 v (RG T s al dv en ra) = RG T' s' al' dv en' ra') : ∃ t' a, 0 ≤ t' ∧ Mo.pStore12_v2 v (Q t (RG T s al dv en ra) h) = Q t' (RG T' s' al' dv en' ra') (hiB a ra') ∧ ∀ spent, 0 ≤ spent → Mo.pStore12_pre v spent (Q t (RG T s al dv en ra) h) := by
  obtain ⟨t', a, h1, h2, h3⟩ := tick0 (s := s) (al := al) (h := h) (en := en) (ra := ra) hk ht
  obtain ⟨a2, h4, h5⟩ := store_12 t' v (hiB a ra) (RG T s al dv en ra)
  refine ⟨t', a2, h1, ?_, fun spent hs => ⟨⟨hs, Int.le_refl _⟩, h3, by rw [h2]; exact h5⟩⟩
  show Mo.dStore12_v1 v (Mo.dTick_v1 0 (Q t (RG T s al dv en ra) h)) = _
  rw [h2, h4, hst]; rfl
theorem sp_12 (spent : Int) : 0 ≤ Mo.pStore12_v1 spent := sat_nonneg (x := spent + 0) |> fun h => by
  have e : Mo.pStore12_v1 spent = sat (spent + 0) := by
    unfold Mo.pStore12_v1 sat; simp only [iE_eq]
  rw [e]; exact h
theorem store_16 (t v h : Int) (r : Mo.Rt) : ∃ a, Mo.dStore16_v1 v (Q t r h) = Q t (Mo.tStore16_v1 v r) (hiB a (Mo.tStore16_v1 v r).raised) ∧ Mo.dStore16_pre v (Q t r h) := by
  have e : Mo.dStore16_v1 v (Q t r h) = Mo.dSettle_v1 (Q t (Mo.tStore16_v1 v r) h) := by kernel_rfl
  have p : Mo.dStore16_pre v (Q t r h) = Mo.dSettle_pre (Q t (Mo.tStore16_v1 v r) h) := by kernel_rfl
  exact ⟨_, by rw [e]; exact settle_Q _ _ _, by rw [p]; exact settlepre_Q _ _ _⟩
theorem put_16 {T s al dv t h v T' s' al' : Int} {en ra en' ra' : Bool} (hk : RTok T dv) (ht : 0 ≤ t) (hst : Mo.tStore16_v1 v (RG T s al dv en ra) = RG T' s' al' dv en' ra') : ∃ t' a, 0 ≤ t' ∧ Mo.pStore16_v2 v (Q t (RG T s al dv en ra) h) = Q t' (RG T' s' al' dv en' ra') (hiB a ra') ∧ ∀ spent, 0 ≤ spent → Mo.pStore16_pre v spent (Q t (RG T s al dv en ra) h) := by
  obtain ⟨t', a, h1, h2, h3⟩ := tick0 (s := s) (al := al) (h := h) (en := en) (ra := ra) hk ht
  obtain ⟨a2, h4, h5⟩ := store_16 t' v (hiB a ra) (RG T s al dv en ra)
  refine ⟨t', a2, h1, ?_, fun spent hs => ⟨⟨hs, Int.le_refl _⟩, h3, by rw [h2]; exact h5⟩⟩
  show Mo.dStore16_v1 v (Mo.dTick_v1 0 (Q t (RG T s al dv en ra) h)) = _
  rw [h2, h4, hst]; rfl
theorem sp_16 (spent : Int) : 0 ≤ Mo.pStore16_v1 spent := sat_nonneg (x := spent + 0) |> fun h => by
  have e : Mo.pStore16_v1 spent = sat (spent + 0) := by
    unfold Mo.pStore16_v1 sat; simp only [iE_eq]
  rw [e]; exact h
theorem store_20 (t v h : Int) (r : Mo.Rt) : ∃ a, Mo.dStore20_v1 v (Q t r h) = Q t (Mo.tStore20_v1 v r) (hiB a (Mo.tStore20_v1 v r).raised) ∧ Mo.dStore20_pre v (Q t r h) := by
  have e : Mo.dStore20_v1 v (Q t r h) = Mo.dSettle_v1 (Q t (Mo.tStore20_v1 v r) h) := by kernel_rfl
  have p : Mo.dStore20_pre v (Q t r h) = Mo.dSettle_pre (Q t (Mo.tStore20_v1 v r) h) := by kernel_rfl
  exact ⟨_, by rw [e]; exact settle_Q _ _ _, by rw [p]; exact settlepre_Q _ _ _⟩
theorem put_20 {T s al dv t h v T' s' al' : Int} {en ra en' ra' : Bool} (hk : RTok T dv) (ht : 0 ≤ t) (hst : Mo.tStore20_v1 v (RG T s al dv en ra) = RG T' s' al' dv en' ra') : ∃ t' a, 0 ≤ t' ∧ Mo.pStore20_v2 v (Q t (RG T s al dv en ra) h) = Q t' (RG T' s' al' dv en' ra') (hiB a ra') ∧ ∀ spent, 0 ≤ spent → Mo.pStore20_pre v spent (Q t (RG T s al dv en ra) h) := by
  obtain ⟨t', a, h1, h2, h3⟩ := tick0 (s := s) (al := al) (h := h) (en := en) (ra := ra) hk ht
  obtain ⟨a2, h4, h5⟩ := store_20 t' v (hiB a ra) (RG T s al dv en ra)
  refine ⟨t', a2, h1, ?_, fun spent hs => ⟨⟨hs, Int.le_refl _⟩, h3, by rw [h2]; exact h5⟩⟩
  show Mo.dStore20_v1 v (Mo.dTick_v1 0 (Q t (RG T s al dv en ra) h)) = _
  rw [h2, h4, hst]; rfl
theorem sp_20 (spent : Int) : 0 ≤ Mo.pStore20_v1 spent := sat_nonneg (x := spent + 0) |> fun h => by
  have e : Mo.pStore20_v1 spent = sat (spent + 0) := by
    unfold Mo.pStore20_v1 sat; simp only [iE_eq]
  rw [e]; exact h
theorem store_24 (t v h : Int) (r : Mo.Rt) : ∃ a, Mo.dStore24_v1 v (Q t r h) = Q t (Mo.tStore24_v1 v r) (hiB a (Mo.tStore24_v1 v r).raised) ∧ Mo.dStore24_pre v (Q t r h) := by
  have e : Mo.dStore24_v1 v (Q t r h) = Mo.dSettle_v1 (Q t (Mo.tStore24_v1 v r) h) := by kernel_rfl
  have p : Mo.dStore24_pre v (Q t r h) = Mo.dSettle_pre (Q t (Mo.tStore24_v1 v r) h) := by kernel_rfl
  exact ⟨_, by rw [e]; exact settle_Q _ _ _, by rw [p]; exact settlepre_Q _ _ _⟩
theorem put_24 {T s al dv t h v T' s' al' : Int} {en ra en' ra' : Bool} (hk : RTok T dv) (ht : 0 ≤ t) (hst : Mo.tStore24_v1 v (RG T s al dv en ra) = RG T' s' al' dv en' ra') : ∃ t' a, 0 ≤ t' ∧ Mo.pStore24_v2 v (Q t (RG T s al dv en ra) h) = Q t' (RG T' s' al' dv en' ra') (hiB a ra') ∧ ∀ spent, 0 ≤ spent → Mo.pStore24_pre v spent (Q t (RG T s al dv en ra) h) := by
  obtain ⟨t', a, h1, h2, h3⟩ := tick0 (s := s) (al := al) (h := h) (en := en) (ra := ra) hk ht
  obtain ⟨a2, h4, h5⟩ := store_24 t' v (hiB a ra) (RG T s al dv en ra)
  refine ⟨t', a2, h1, ?_, fun spent hs => ⟨⟨hs, Int.le_refl _⟩, h3, by rw [h2]; exact h5⟩⟩
  show Mo.dStore24_v1 v (Mo.dTick_v1 0 (Q t (RG T s al dv en ra) h)) = _
  rw [h2, h4, hst]; rfl
theorem sp_24 (spent : Int) : 0 ≤ Mo.pStore24_v1 spent := sat_nonneg (x := spent + 0) |> fun h => by
  have e : Mo.pStore24_v1 spent = sat (spent + 0) := by
    unfold Mo.pStore24_v1 sat; simp only [iE_eq]
  rw [e]; exact h
theorem store_28 (t v h : Int) (r : Mo.Rt) : ∃ a, Mo.dStore28_v1 v (Q t r h) = Q t (Mo.tStore28_v1 v r) (hiB a (Mo.tStore28_v1 v r).raised) ∧ Mo.dStore28_pre v (Q t r h) := by
  have e : Mo.dStore28_v1 v (Q t r h) = Mo.dSettle_v1 (Q t (Mo.tStore28_v1 v r) h) := by kernel_rfl
  have p : Mo.dStore28_pre v (Q t r h) = Mo.dSettle_pre (Q t (Mo.tStore28_v1 v r) h) := by kernel_rfl
  exact ⟨_, by rw [e]; exact settle_Q _ _ _, by rw [p]; exact settlepre_Q _ _ _⟩
theorem put_28 {T s al dv t h v T' s' al' : Int} {en ra en' ra' : Bool} (hk : RTok T dv) (ht : 0 ≤ t) (hst : Mo.tStore28_v1 v (RG T s al dv en ra) = RG T' s' al' dv en' ra') : ∃ t' a, 0 ≤ t' ∧ Mo.pStore28_v2 v (Q t (RG T s al dv en ra) h) = Q t' (RG T' s' al' dv en' ra') (hiB a ra') ∧ ∀ spent, 0 ≤ spent → Mo.pStore28_pre v spent (Q t (RG T s al dv en ra) h) := by
  obtain ⟨t', a, h1, h2, h3⟩ := tick0 (s := s) (al := al) (h := h) (en := en) (ra := ra) hk ht
  obtain ⟨a2, h4, h5⟩ := store_28 t' v (hiB a ra) (RG T s al dv en ra)
  refine ⟨t', a2, h1, ?_, fun spent hs => ⟨⟨hs, Int.le_refl _⟩, h3, by rw [h2]; exact h5⟩⟩
  show Mo.dStore28_v1 v (Mo.dTick_v1 0 (Q t (RG T s al dv en ra) h)) = _
  rw [h2, h4, hst]; rfl
theorem sp_28 (spent : Int) : 0 ≤ Mo.pStore28_v1 spent := sat_nonneg (x := spent + 0) |> fun h => by
  have e : Mo.pStore28_v1 spent = sat (spent + 0) := by
    unfold Mo.pStore28_v1 sat; simp only [iE_eq]
  rw [e]; exact h
theorem sl_0 (spent : Int) : 0 ≤ Mo.pLoad0_v1 spent := sat_nonneg (x := spent + 0) |> fun h => by
  have e : Mo.pLoad0_v1 spent = sat (spent + 0) := by
    unfold Mo.pLoad0_v1 sat; simp only [iE_eq]
  rw [e]; exact h
theorem sl_4 (spent : Int) : 0 ≤ Mo.pLoad4_v1 spent := sat_nonneg (x := spent + 0) |> fun h => by
  have e : Mo.pLoad4_v1 spent = sat (spent + 0) := by
    unfold Mo.pLoad4_v1 sat; simp only [iE_eq]
  rw [e]; exact h
theorem sl_28 (spent : Int) : 0 ≤ Mo.pLoad28_v1 spent := sat_nonneg (x := spent + 0) |> fun h => by
  have e : Mo.pLoad28_v1 spent = sat (spent + 0) := by
    unfold Mo.pLoad28_v1 sat; simp only [iE_eq]
  rw [e]; exact h
end Go.SX.Y.Pl
