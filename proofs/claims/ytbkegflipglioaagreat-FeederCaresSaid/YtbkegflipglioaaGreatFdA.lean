/- FeederCares, plain part: boards of which the watchdog alone does something. -/
import Derived.Test.YtbkegflipglioaaGreatFcK
import Derived.KernelRfl
set_option maxRecDepth 20000
namespace Go.SX.Y.Fd
open Go.SX Go.SX.Y
theorem iE_eq (x y : Int) : (iE x y = true) = (x = y) := by simp [iE, stdB]
theorem iN_eq (x y : Int) : (iN x y = true) = (x ≠ y) := by simp [iN, stdB]
theorem iL_eq (x y : Int) : (iL x y = true) = (x < y) := by simp [iL, stdB]
theorem iM_eq (x y : Int) : (iM x y = true) = (x ≤ y) := by simp [iM, stdB]
noncomputable def K0 (t : Int) : Mo.Cl := ⟨t, 18446744073709551615, 0, 18446744073709551615, 0, 18446744073709551615, 0, 18446744073709551615, 0, 18446744073709551615, 0, 18446744073709551615, 0, 18446744073709551615, 0, 18446744073709551615, 0, 1⟩
noncomputable def Q (t : Int) (w : Mo.Wd) (r : Mo.Rt) (R : Mo.Rs) (l : Mo.Ln) : Mo.Bd := ⟨K0 t, w, r, R, l, ⟨0, 0, 0, 0, 0⟩⟩
def sat (x : Int) : Int := if x / 18446744073709551616 = 0 then x % 18446744073709551616 else 18446744073709551615
theorem sat_nonneg {x : Int} : 0 ≤ sat x := by
  unfold sat
  split
  · exact Int.emod_nonneg _ (by decide)
  · decide
theorem kTick_Q (t n : Int) : Mo.kTick_v1 n (K0 t) = K0 (sat (t + n)) := by
  unfold Mo.kTick_v1 sat
  simp only [iE_eq]
  split <;> rename_i h
  · have h' : (t + n) / 18446744073709551616 = 0 := h
    rw [if_pos h']; rfl
  · have h' : ¬ (t + n) / 18446744073709551616 = 0 := h
    rw [if_neg h']; rfl
structure Rok (r : Mo.Rt) : Prop where
  sec : 0 ≤ r.sec
  div : r.div = 10
theorem Rok.pre {r : Mo.Rt} (h : Rok r) (n : Int) : Mo.tTick_pre n r := by
  unfold Mo.tTick_pre
  rw [if_pos]
  · exact ⟨h.sec, Int.emod_nonneg _ (by decide)⟩
  · rw [iN_eq, h.div]; decide
theorem Rok.tick {r : Mo.Rt} (h : Rok r) (n : Int) : Rok (Mo.tTick_v1 n r) := by
  unfold Mo.tTick_v1
  repeat' split
  all_goals exact ⟨by first | exact Int.emod_nonneg _ (by decide) | exact (by decide : (0 : Int) ≤ 18446744073709551615), h.div⟩
theorem Rok.reset {r : Mo.Rt} (h : Rok r) : Rok (Mo.tReset_v1 r) := by
  unfold Mo.tReset_v1
  split
  · exact ⟨h.sec, h.div⟩
  · exact h
theorem p0 : Mo.bPut1_pre 0 = True := by kernel_rfl
theorem p1 : Mo.bPut1_pre 1 = True := by kernel_rfl
theorem p16 : Mo.bPut1_pre 16 = True := by kernel_rfl
theorem p24 : Mo.bPut1_pre 24 = True := by kernel_rfl
theorem wire_Q (t : Int) (w : Mo.Wd) (r : Mo.Rt) (R : Mo.Rs) (l : Mo.Ln) : ∃ l', Mo.dWire_v1 (Q t w r R l) = Q t w r R l' := by
  unfold Mo.dWire_v1
  split <;> split <;> split <;> exact ⟨_, rfl⟩
theorem wirep_Q (t : Int) (w : Mo.Wd) (r : Mo.Rt) (R : Mo.Rs) (l : Mo.Ln) : Mo.dWire_pre (Q t w r R l) := by
  have p4 : Mo.kLine_pre 0 (Mo.Bd.k (Q t w r R l)) = True := by kernel_rfl
  have p5 : Mo.kSoft_pre 0 (Mo.Bd.k (Q t w r R l)) = True := by kernel_rfl
  unfold Mo.dWire_pre Mo.nLines_pre
  simp only [p0, p16, p24, p4, p5, ite_self, and_true]
theorem n00 : (iN 0 0 = true) = False := by rw [iN_eq]; simp
theorem settle_Q {w : Mo.Wd} {R : Mo.Rs} (hw : w.fault = 0) (hR : Mo.rAsked_v1 R = false) (t : Int) (r : Mo.Rt) (l : Mo.Ln) (rs : List (List Int)) :
    Mo.dSettle_pre (Q t w r R l) rs ∧ Mo.dSettle_v1 (Q t w r R l) rs = rs ∧ ∃ l', Mo.dSettle_v2 (Q t w r R l) = Q t w r R l' := by
  have e1 : (Q t w r R l).w.fault = 0 := hw
  have e2 : Mo.rAsked_v1 (Q t w r R l).r = false := hR
  unfold Mo.dSettle_pre Mo.dSettle_v1 Mo.dSettle_v2
  simp only [e1, e2, n00, Bool.false_eq_true, if_false]
  exact ⟨wirep_Q t w r R l, trivial, wire_Q t w r R l⟩
def Inv (b : Mo.Bd) (w : Mo.Wd) : Prop := ∃ t r R l, b = Q t w r R l ∧ 0 ≤ t ∧ Rok r ∧ Mo.rAsked_v1 R = false
theorem Inv.w {b : Mo.Bd} {w : Mo.Wd} (h : Inv b w) : b.w = w := by obtain ⟨t, r, R, l, rfl, _⟩ := h; rfl
theorem c0 (n : Int) : Mo.cTick_v1 n ⟨0, 0, 0, 0, 0⟩ = ⟨0, 0, 0, 0, 0⟩ := by kernel_rfl
theorem c0p (n : Int) : Mo.nTick_pre n ⟨0, 0, 0, 0, 0⟩ = True := by kernel_rfl
/-- Ticks without a fault. -/
theorem tick_q {b : Mo.Bd} {w w' : Mo.Wd} {n : Int} (h : Inv b w) (hn : 0 ≤ n) (h1 : Mo.wTick_v1 n w = n) (h2 : Mo.wTick_v2 n w = w') (h3 : w'.fault = 0) (rs : List (List Int)) :
    Mo.dTick_pre n b rs ∧ Mo.dTick_v1 n b rs = rs ∧ Inv (Mo.dTick_v2 n b) w' := by
  obtain ⟨t, r, R, l, rfl, ht, hr, hR⟩ := h
  have e1 : (Q t w r R l).w = w := rfl
  have e2 : (Q t w r R l).k = K0 t := rfl
  have e3 : (Q t w r R l).t = r := rfl
  have e4 : (Q t w r R l).c = ⟨0, 0, 0, 0, 0⟩ := rfl
  have e5 : (Q t w r R l).r = R := rfl
  have e6 : (Q t w r R l).l = l := rfl
  have f0 : (iE w'.fault 0 = true) = True := by rw [iE_eq, h3]; simp
  unfold Mo.dTick_pre Mo.dTick_v1 Mo.dTick_v2 Mo.dTick_e1 Mo.dTick_e4
  simp only [e1, e2, e3, e4, e5, e6, h1, h2, f0, if_true, kTick_Q, c0, c0p, true_and]
  obtain ⟨s1, s2, l', s3⟩ := settle_Q h3 hR (sat (t + n)) (Mo.tTick_v1 n r) l rs
  exact ⟨⟨⟨ht, hn⟩, hr.pre n, s1⟩, s2, ⟨_, _, _, l', s3, sat_nonneg, hr.tick n, hR⟩⟩
theorem l17 (x : Int) : stdN NO.mul (lenR (apI [] [[x, 2]])) (16 + 1) = 17 := rfl
noncomputable def W0 : Mo.Wd := ⟨false, false, false, 0, 0, 0, 0⟩
/-- Ticks, of which the first ones end in a timeout. -/
theorem tick_f {b : Mo.Bd} {w w' : Mo.Wd} {n k : Int} (h : Inv b w) (hk : 0 ≤ k) (hkn : k ≤ n) (hn : n < 18446744073709551616) (h1 : Mo.wTick_v1 n w = k) (h2 : Mo.wTick_v2 n w = w') (h3 : w'.fault = 2) :
    Mo.dTick_pre n b [] ∧ ∃ T, Mo.dTick_v1 n b [] = [[T, 2]] := by
  obtain ⟨t, r, R, l, rfl, ht, hr, hR⟩ := h
  have e1 : (Q t w r R l).w = w := rfl
  have e2 : (Q t w r R l).k = K0 t := rfl
  have e3 : (Q t w r R l).t = r := rfl
  have e4 : (Q t w r R l).c = ⟨0, 0, 0, 0, 0⟩ := rfl
  have e5 : (Q t w r R l).r = R := rfl
  have e6 : (Q t w r R l).l = l := rfl
  have f0 : (iE 2 0 = true) = False := by rw [iE_eq]; simp
  have f1 : (iN 2 0 = true) = True := by rw [iN_eq]; simp
  have b1 : ({ k := K0 (sat (t + k)), w := w', t := Mo.tTick_v1 k r, r := R, l := l, c := ⟨0, 0, 0, 0, 0⟩ } : Mo.Bd) = Q (sat (t + k)) w' (Mo.tTick_v1 k r) R l := rfl
  have w0 : Mo.wReset_v1 = W0 := rfl
  have a2 : Mo.rAsked_v1 (Mo.rLatch_v2 2 R) = false := by
    have q1 : (iE 2 1 = true) = False := by rw [iE_eq]; simp
    have q2 : (iE 2 2 = true) = True := by rw [iE_eq]; simp
    unfold Mo.rLatch_v2
    simp only [q1, q2, if_true, if_false]
    unfold Mo.rAsked_v1
    split <;> split <;> rfl
  have g1 : Mo.rLatch_v1 2 = true := by kernel_rfl
  have r2 : Mo.dReset_v2 2 (Q (sat (t + k)) w' (Mo.tTick_v1 k r) R l) = Q (sat (t + k)) W0 (Mo.tReset_v1 (Mo.tTick_v1 k r)) (Mo.rLatch_v2 2 R) (Mo.lReset_v1 l) := by
    unfold Mo.dReset_v2
    rw [g1, if_neg (show ¬ stdQ QO.not true true = true by decide)]
    have : Mo.cReset_v1 ⟨0, 0, 0, 0, 0⟩ = ⟨0, 0, 0, 0, 0⟩ := by kernel_rfl
    show Mo.Bd.mk (Mo.kReset_v1 (K0 (sat (t + k)))) Mo.wReset_v1 (Mo.tReset_v1 (Mo.tTick_v1 k r)) (Mo.rLatch_v2 2 R) (Mo.lReset_v1 l) (Mo.cReset_v1 ⟨0, 0, 0, 0, 0⟩) = _
    rw [this]; rfl
  have r1 : Mo.dReset_v1 2 (Q (sat (t + k)) w' (Mo.tTick_v1 k r) R l) [] = [[sat (t + k), 2]] := by
    unfold Mo.dReset_v1
    rw [g1, if_neg (show ¬ stdQ QO.not true true = true by decide)]; rfl
  have rp : Mo.dReset_pre 2 (Q (sat (t + k)) w' (Mo.tTick_v1 k r) R l) [] := by
    unfold Mo.dReset_pre
    rw [g1, if_neg (show ¬ stdQ QO.not true true = true by decide), castI_eq, l17, if_pos (by rw [iM_eq]; decide)]
    trivial
  -- the board behind the reset
  obtain ⟨l1, v1⟩ := wire_Q (sat (t + k)) W0 (Mo.tReset_v1 (Mo.tTick_v1 k r)) (Mo.rLatch_v2 2 R) (Mo.lReset_v1 l)
  have se1 : Mo.dSettle_v2 (Q (sat (t + k)) w' (Mo.tTick_v1 k r) R l) = Q (sat (t + k)) W0 (Mo.tReset_v1 (Mo.tTick_v1 k r)) (Mo.rLatch_v2 2 R) l1 := by
    have x1 : (Q (sat (t + k)) w' (Mo.tTick_v1 k r) R l).w.fault = 2 := h3
    have x2 : Mo.rAsked_v1 (Q (sat (t + k)) W0 (Mo.tReset_v1 (Mo.tTick_v1 k r)) (Mo.rLatch_v2 2 R) (Mo.lReset_v1 l)).r = false := a2
    unfold Mo.dSettle_v2
    simp only [x1, f1, if_true, r2, x2, Bool.false_eq_true, if_false]
    exact v1
  have se2 : Mo.dSettle_v1 (Q (sat (t + k)) w' (Mo.tTick_v1 k r) R l) [] = [[sat (t + k), 2]] := by
    have x1 : (Q (sat (t + k)) w' (Mo.tTick_v1 k r) R l).w.fault = 2 := h3
    have x2 : Mo.rAsked_v1 (Q (sat (t + k)) W0 (Mo.tReset_v1 (Mo.tTick_v1 k r)) (Mo.rLatch_v2 2 R) (Mo.lReset_v1 l)).r = false := a2
    unfold Mo.dSettle_v1
    simp only [x1, f1, if_true, r2, x2, Bool.false_eq_true, if_false]
    exact r1
  have sep : Mo.dSettle_pre (Q (sat (t + k)) w' (Mo.tTick_v1 k r) R l) [] := by
    have x1 : (Q (sat (t + k)) w' (Mo.tTick_v1 k r) R l).w.fault = 2 := h3
    have x2 : Mo.rAsked_v1 (Q (sat (t + k)) W0 (Mo.tReset_v1 (Mo.tTick_v1 k r)) (Mo.rLatch_v2 2 R) (Mo.lReset_v1 l)).r = false := a2
    unfold Mo.dSettle_pre
    simp only [x1, f1, if_true, r2, x2, Bool.false_eq_true, if_false]
    exact ⟨rp, wirep_Q _ _ _ _ _⟩
  -- what is left
  have sb : sbq n k = n - k := by
    show (n - k) % 18446744073709551616 = _
    omega
  have u1 : Mo.wTick_v1 (n - k) W0 = n - k := by kernel_rfl
  have u2 : Mo.wTick_v2 (n - k) W0 = W0 := by kernel_rfl
  have hr2 : Rok (Mo.tReset_v1 (Mo.tTick_v1 k r)) := (hr.tick k).reset
  have E1 : Mo.dTick_e1 n (Q t w r R l) = Q (sat (t + k)) W0 (Mo.tReset_v1 (Mo.tTick_v1 k r)) (Mo.rLatch_v2 2 R) l1 := by
    unfold Mo.dTick_e1
    simp only [e1, e2, e3, e4, e5, e6, h1, h2, kTick_Q, c0]
    exact se1
  have E4 : Mo.dTick_e4 n (Q t w r R l) [] = [[sat (t + k), 2]] := by
    unfold Mo.dTick_e4
    simp only [e1, e2, e3, e4, e5, e6, h1, h2, kTick_Q, c0]
    exact se2
  have q1 : (Q (sat (t + k)) W0 (Mo.tReset_v1 (Mo.tTick_v1 k r)) (Mo.rLatch_v2 2 R) l1).w = W0 := rfl
  have q2 : (Q (sat (t + k)) W0 (Mo.tReset_v1 (Mo.tTick_v1 k r)) (Mo.rLatch_v2 2 R) l1).k = K0 (sat (t + k)) := rfl
  have q3 : (Q (sat (t + k)) W0 (Mo.tReset_v1 (Mo.tTick_v1 k r)) (Mo.rLatch_v2 2 R) l1).t = Mo.tReset_v1 (Mo.tTick_v1 k r) := rfl
  have q4 : (Q (sat (t + k)) W0 (Mo.tReset_v1 (Mo.tTick_v1 k r)) (Mo.rLatch_v2 2 R) l1).c = ⟨0, 0, 0, 0, 0⟩ := rfl
  have q5 : (Q (sat (t + k)) W0 (Mo.tReset_v1 (Mo.tTick_v1 k r)) (Mo.rLatch_v2 2 R) l1).r = Mo.rLatch_v2 2 R := rfl
  have q6 : (Q (sat (t + k)) W0 (Mo.tReset_v1 (Mo.tTick_v1 k r)) (Mo.rLatch_v2 2 R) l1).l = l1 := rfl
  have E2 : Mo.dTick_e2 n (Q t w r R l) = n - k := by
    unfold Mo.dTick_e2
    rw [E1, q1, e1, h1, sb, u1]
  have E3 : Mo.dTick_e3 n (Q t w r R l) = W0 := by
    unfold Mo.dTick_e3
    rw [E1, q1, e1, h1, sb, u2]
  have f2 : (iE (Mo.Wd.fault W0) 0 = true) = True := by rw [iE_eq]; simp [W0]
  have fl : w'.fault = 2 := h3
  obtain ⟨s1, s2, _⟩ := settle_Q (w := W0) rfl a2 (sat (sat (t + k) + (n - k))) (Mo.tTick_v1 (n - k) (Mo.tReset_v1 (Mo.tTick_v1 k r))) l1 [[sat (t + k), 2]]
  refine ⟨?_, sat (t + k), ?_⟩
  · unfold Mo.dTick_pre
    simp only [E1, E2, E3, E4, e1, e2, e3, e4, e5, e6, h1, h2, fl, f0, if_false, kTick_Q, c0, c0p, true_and, q1, q2, q3, q4, q5, q6, f2, if_true]
    exact ⟨⟨ht, hk⟩, hr.pre k, sep, ⟨sat_nonneg, by omega⟩, hr2.pre _, s1⟩
  · unfold Mo.dTick_v1 Mo.dTick_e6
    simp only [E1, E2, E3, E4, e1, h2, fl, f0, if_false, kTick_Q, c0, q1, q2, q3, q4, q5, q6]
    exact s2
end Go.SX.Y.Fd
