/- Quiet boards: no watchdog, no timer, nothing armed; plain laws of what lifted functions come to. -/
import Derived.Test.YtbkegflipglioaaGreatArH
import Derived.KernelRfl
set_option maxRecDepth 20000
namespace Go.SX.Y.Pl
open Go.SX Go.SX.Y
theorem adw_eq (x y : Int) : adw x y = (x + y) % 4294967296 := rfl
theorem adq_eq (x y : Int) : adq x y = (x + y) % 18446744073709551616 := rfl
theorem sbq_eq (x y : Int) : sbq x y = (x - y) % 18446744073709551616 := rfl
theorem mlq_eq (x y : Int) : mlq x y = (x * y) % 18446744073709551616 := rfl
theorem cvw_eq (x y : Int) : cvw x y = x % 4294967296 := rfl
theorem cvq_eq (x y : Int) : cvq x y = x % 18446744073709551616 := rfl
theorem rmq_eq (x y : Int) (h : 0 ≤ x) : rmq x y = x % y := Int.tmod_eq_emod_of_nonneg h
theorem rmw_eq (x y : Int) (h : 0 ≤ x) : rmw x y = x % y := Int.tmod_eq_emod_of_nonneg h
theorem quq_eq (x y : Int) (h : 0 ≤ x) : quq x y = (x / y) % 18446744073709551616 := by
  show (x.tdiv y) % 18446744073709551616 = _
  rw [Int.tdiv_eq_ediv_of_nonneg h]
theorem iE_eq (x y : Int) : (iE x y = true) = (x = y) := by simp [iE, stdB]
theorem iN_eq (x y : Int) : (iN x y = true) = (x ≠ y) := by simp [iN, stdB]
theorem iL_eq (x y : Int) : (iL x y = true) = (x < y) := by simp [iL, stdB]
theorem iM_eq (x y : Int) : (iM x y = true) = (x ≤ y) := by simp [iM, stdB]
def N64 : Int := 18446744073709551615
noncomputable def K0 (t : Int) : Mo.Cl := ⟨t, 18446744073709551615, 0, 18446744073709551615, 0, 18446744073709551615, 0, 18446744073709551615, 0, 18446744073709551615, 0, 18446744073709551615, 0, 18446744073709551615, 0, 18446744073709551615, 0, 1⟩
noncomputable def W0 : Mo.Wd := ⟨false, false, false, 0, 0, 0, 0⟩
noncomputable def R0 : Mo.Rs := ⟨1, 0, 0, 1, false⟩
noncomputable def C0 : Mo.Cnt := ⟨0, 0, 0, 0, 0⟩
/-- A quiet board: the time, the clock, the lines. -/
noncomputable def Q (t : Int) (r : Mo.Rt) (h : Int) : Mo.Bd := ⟨K0 t, W0, r, R0, ⟨h, 0⟩, C0⟩
def hiB : Bool → Bool → Int
  | true, true => 65537
  | true, false => 1
  | false, true => 65536
  | false, false => 0
theorem wire_Q (t : Int) (r : Mo.Rt) (h : Int) : Mo.dWire_v1 (Q t r h) = Q t r (hiB (iM 18446744073709551615 t) r.raised) := by
  obtain ⟨a, b, c, d, e, f, g⟩ := r
  have e1 : Mo.kLine_v1 0 (Mo.Bd.k (Q t ⟨a, b, c, d, e, f, g⟩ h)) = iM 18446744073709551615 t := by kernel_rfl
  unfold Mo.dWire_v1
  rw [e1]
  cases iM 18446744073709551615 t <;> cases f <;> (refine Eq.trans ?_ rfl; kernel_rfl)
theorem settle_Q (t : Int) (r : Mo.Rt) (h : Int) : Mo.dSettle_v1 (Q t r h) = Q t r (hiB (iM 18446744073709551615 t) r.raised) := wire_Q t r h
def sat (x : Int) : Int := if x / 18446744073709551616 = 0 then x % 18446744073709551616 else 18446744073709551615
theorem kTick_Q (t n : Int) : Mo.kTick_v1 n (K0 t) = K0 (sat (t + n)) := by
  unfold Mo.kTick_v1 sat
  simp only [iE_eq]
  split <;> rename_i h
  · have h' : (t + n) / 18446744073709551616 = 0 := h
    rw [if_pos h']; rfl
  · have h' : ¬ (t + n) / 18446744073709551616 = 0 := h
    rw [if_neg h']; rfl
theorem tick_Q (t n : Int) (r : Mo.Rt) (h : Int) : Mo.dTick_v1 n (Q t r h) = Q (sat (t + n)) (Mo.tTick_v1 n r) (hiB (iM 18446744073709551615 (sat (t + n))) (Mo.tTick_v1 n r).raised) := by
  have : Mo.dTick_v1 n (Q t r h) = Mo.dSettle_v1 ⟨Mo.kTick_v1 n (K0 t), W0, Mo.tTick_v1 n r, R0, ⟨h, 0⟩, C0⟩ := by kernel_rfl
  rw [this, kTick_Q]
  exact settle_Q _ _ _
theorem wirepre_Q (t : Int) (r : Mo.Rt) (h : Int) : Mo.dWire_pre (Q t r h) := by
  obtain ⟨a, b, c, d, e, f, g⟩ := r
  have e1 : Mo.kLine_v1 0 (Mo.Bd.k (Q t ⟨a, b, c, d, e, f, g⟩ h)) = iM 18446744073709551615 t := by kernel_rfl
  have p1 : Mo.bPut1_pre 0 = True := by kernel_rfl
  have p2 : Mo.bPut1_pre 16 = True := by kernel_rfl
  have p3 : Mo.bPut1_pre 24 = True := by kernel_rfl
  have p4 : Mo.kLine_pre 0 (Mo.Bd.k (Q t ⟨a, b, c, d, e, f, g⟩ h)) = True := by kernel_rfl
  have p5 : Mo.kSoft_pre 0 (Mo.Bd.k (Q t ⟨a, b, c, d, e, f, g⟩ h)) = True := by kernel_rfl
  have p6 : Mo.nLines_pre (Mo.Bd.c (Q t ⟨a, b, c, d, e, f, g⟩ h)) = True := by kernel_rfl
  unfold Mo.dWire_pre
  simp only [e1, p1, p2, p3, p4, p5, p6, true_and, and_true, ite_self]
theorem settlepre_Q (t : Int) (r : Mo.Rt) (h : Int) : Mo.dSettle_pre (Q t r h) := by
  have p1 : (iN (Mo.Wd.fault (Mo.Bd.w (Q t r h))) 0 = true) = False := by rw [iN_eq]; simp [Q, W0]
  have p2 : (Mo.rAsked_v1 (Mo.Bd.r (Q t r h)) = true) = False := by
    have : Mo.rAsked_v1 (Mo.Bd.r (Q t r h)) = false := by kernel_rfl
    rw [this]; simp
  unfold Mo.dSettle_pre
  simp only [p1, p2, if_false]
  exact wirepre_Q t r h
theorem tickpre_Q {t n : Int} {r : Mo.Rt} {h : Int} (h0 : 0 ≤ t) (h1 : 0 ≤ n) (hr : Mo.tTick_pre n r) : Mo.dTick_pre n (Q t r h) := by
  have p : Mo.dTick_pre n (Q t r h) = ((Mo.kTick_pre n (K0 t)) ∧ (True ∧ (Mo.tTick_pre n r ∧ Mo.dSettle_pre ⟨Mo.kTick_v1 n (K0 t), W0, Mo.tTick_v1 n r, R0, ⟨h, 0⟩, C0⟩))) := by kernel_rfl
  rw [p, kTick_Q]
  exact ⟨⟨h0, h1⟩, trivial, hr, settlepre_Q _ _ _⟩
theorem sat_nonneg {x : Int} : 0 ≤ sat x := by
  unfold sat
  split
  · exact Int.emod_nonneg _ (by decide)
  · decide
/-! The clock, its alarm off: T ticks from 0 on. -/
noncomputable def RT (T s al dv : Int) (ra : Bool) : Mo.Rt := ⟨T / dv, al, T % dv, s, false, ra, dv⟩
/-- What is asked of it. -/
structure RTok (T dv : Int) : Prop where
  lo : 0 ≤ T
  hi : T / dv < 18446744073709551616
  d0 : 0 < dv
  d1 : dv < 4294967296
theorem rest_eq {T n dv : Int} (hT : 0 ≤ T) (hn : 0 ≤ n) (hd : 0 < dv) : (T + n) / dv = T / dv + (n / dv + (T % dv + n % dv) / dv) ∧ (T + n) % dv = (T % dv + n % dv) % dv := by
  have h1 := Int.mul_ediv_add_emod T dv
  have h2 := Int.mul_ediv_add_emod n dv
  have e : T + n = (T % dv + n % dv) + dv * (T / dv + n / dv) := by
    rw [Int.mul_add]; omega
  constructor
  · rw [e, Int.add_mul_ediv_left _ _ (by omega)]; omega
  · rw [e, Int.add_mul_emod_self_left]
theorem tTick_RT {T n s al dv : Int} {ra : Bool} (hk : RTok T dv) (hn : 0 ≤ n) (hk2 : RTok (T + n) dv) (hn2 : n < 18446744073709551616) : Mo.tTick_v1 n (RT T s al dv ra) = RT (T + n) s al dv ra ∧ Mo.tTick_pre n (RT T s al dv ra) := by
  obtain ⟨q1, q2⟩ := rest_eq hk.lo hn hk.d0
  have a0 : 0 ≤ n / dv := Int.ediv_nonneg hn (by have := hk.d0; omega)
  have a1 : 0 ≤ T % dv := Int.emod_nonneg _ (by have := hk.d0; omega)
  have a2 : T % dv < dv := Int.emod_lt_of_pos _ hk.d0
  have a3 : 0 ≤ n % dv := Int.emod_nonneg _ (by have := hk.d0; omega)
  have a4 : n % dv < dv := Int.emod_lt_of_pos _ hk.d0
  have a5 : 0 ≤ (T % dv + n % dv) / dv := Int.ediv_nonneg (by omega) (by have := hk.d0; omega)
  have a6 : 0 ≤ T / dv := Int.ediv_nonneg hk.lo (by have := hk.d0; omega)
  have a7 : 0 ≤ (T % dv + n % dv) % dv := Int.emod_nonneg _ (by have := hk.d0; omega)
  have a8 : (T % dv + n % dv) % dv < dv := Int.emod_lt_of_pos _ hk.d0
  have d0 := hk.d0
  have d1 := hk.d1
  have hi2 := hk2.hi
  rw [q1] at hi2
  have c1 : cvq dv 0 = dv := by rw [cvq_eq]; omega
  have c2 : cvq (T % dv) 0 = T % dv := by rw [cvq_eq]; omega
  have c3 : quq n dv = n / dv := by rw [quq_eq _ _ hn]; omega
  have c4 : rmq n dv = n % dv := rmq_eq _ _ hn
  have c5 : adq (T % dv) (n % dv) = T % dv + n % dv := by rw [adq_eq]; omega
  have c6 : quq (T % dv + n % dv) dv = (T % dv + n % dv) / dv := by rw [quq_eq _ _ (by omega)]; omega
  have c7 : adq (n / dv) ((T % dv + n % dv) / dv) = n / dv + (T % dv + n % dv) / dv := by rw [adq_eq]; omega
  have c8 : rmq (T % dv + n % dv) dv = (T % dv + n % dv) % dv := rmq_eq _ _ (by omega)
  have c9 : cvw ((T % dv + n % dv) % dv) 0 = (T % dv + n % dv) % dv := by rw [cvw_eq]; omega
  have p1 : (T / dv + (n / dv + (T % dv + n % dv) / dv)) / 18446744073709551616 = 0 := Int.ediv_eq_zero_of_lt (by omega) (by omega)
  have p2 : (T / dv + (n / dv + (T % dv + n % dv) / dv)) % 18446744073709551616 = T / dv + (n / dv + (T % dv + n % dv) / dv) := Int.emod_eq_of_lt (by omega) (by omega)
  constructor
  · simp only [Mo.tTick_v1, RT, c1, c2, c3, c4, c5, c6, c7, c8, c9, p1, p2, iE_eq, Bool.false_eq_true, if_false, if_true, q1, q2]
  · simp only [Mo.tTick_pre, RT, c1, c2, c3, c4, c5, c6, c7, iN_eq]
    rw [if_pos (by omega), if_pos (by omega), if_pos (by omega), if_pos (by omega)]
    exact ⟨⟨a6, by omega⟩, trivial⟩
end Go.SX.Y.Pl
