/- TickerFalls, plain part: boards with one timer, nothing else armed. -/
import Derived.Test.YtbkegflipglioaaGreatLpK
import Derived.KernelRfl
set_option maxRecDepth 20000
namespace Go.SX.Y.Tf
open Go.SX Go.SX.Y
theorem iE_eq (x y : Int) : (iE x y = true) = (x = y) := by simp [iE, stdB]
theorem iN_eq (x y : Int) : (iN x y = true) = (x ≠ y) := by simp [iN, stdB]
theorem iL_eq (x y : Int) : (iL x y = true) = (x < y) := by simp [iL, stdB]
theorem iM_eq (x y : Int) : (iM x y = true) = (x ≤ y) := by simp [iM, stdB]
noncomputable def K0 (t : Int) : Mo.Cl := ⟨t, 18446744073709551615, 0, 18446744073709551615, 0, 18446744073709551615, 0, 18446744073709551615, 0, 18446744073709551615, 0, 18446744073709551615, 0, 18446744073709551615, 0, 18446744073709551615, 0, 1⟩
noncomputable def W0 : Mo.Wd := ⟨false, false, false, 0, 0, 0, 0⟩
noncomputable def R0 : Mo.Rs := ⟨1, 0, 0, 1, false⟩
noncomputable def Q (t : Int) (r : Mo.Rt) (l : Mo.Ln) (c : Mo.Cnt) : Mo.Bd := ⟨K0 t, W0, r, R0, l, ⟨c⟩⟩
def sat (x : Int) : Int := if x / 18446744073709551616 = 0 then x % 18446744073709551616 else 18446744073709551615
theorem sat_nonneg {x : Int} : 0 ≤ sat x := by
  unfold sat
  split
  · exact Int.emod_nonneg _ (by decide)
  · decide
theorem kTick_Q (t n : Int) : Mo.kTick_v1 n (K0 t) = K0 (sat (t + n)) := by
  unfold Mo.kTick_v1 sat
  simp only [iE_eq]
  split <;> rename_i h
  · have h' : (t + n) / 18446744073709551616 = 0 := h
    rw [if_pos h']; rfl
  · have h' : ¬ (t + n) / 18446744073709551616 = 0 := h
    rw [if_neg h']; rfl
/-! The calendar: nothing but that it may tick. -/
structure Rok (r : Mo.Rt) : Prop where
  sec : 0 ≤ r.sec
  div : r.div = 10
theorem Rok.pre {r : Mo.Rt} (h : Rok r) (n : Int) : Mo.tTick_pre n r := by
  unfold Mo.tTick_pre
  rw [if_pos]
  · exact ⟨h.sec, Int.emod_nonneg _ (by decide)⟩
  · rw [iN_eq, h.div]; decide
theorem Rok.tick {r : Mo.Rt} (h : Rok r) (n : Int) : Rok (Mo.tTick_v1 n r) := by
  unfold Mo.tTick_v1
  repeat' split
  all_goals exact ⟨by first | exact Int.emod_nonneg _ (by decide) | exact (by decide : (0 : Int) ≤ 18446744073709551615), h.div⟩
/-! Counts of one. -/
theorem c01 : (iL 0 (castI 1) = true) = True := by rw [castI_eq, iL_eq]; simp
theorem c11 : (iL 1 (castI 1) = true) = False := by rw [castI_eq, iL_eq]; simp
theorem l0 : castI (lenR (List.nil : List (List Int))) = 0 := by rw [castI_eq]; rfl
theorem nTick_1 (k : Int) (c : Mo.Cnt) : Mo.nTick_f2 k 1 ⟨c⟩ = ⟨Mo.cTick_v1 k c⟩ := by
  simp only [Mo.nTick_f2, Mo.nTick_f2_0, Mo.RnTick_0_g1, c01, if_true, Mo.nTick_f2_1, Mo.RnTick_0_v1]
theorem nTickp_1 (k : Int) (c : Mo.Cnt) (h : Mo.cTick_pre k c) : Mo.nTick_p k 1 ⟨c⟩ := by
  simp only [Mo.nTick_p, Mo.nTick_p0, Mo.RnTick_0_pre, Mo.RnTick_0_g1, c01, if_true, Mo.nTick_p1, Mo.RnTick_1_pre, c11, if_false, and_true]
  exact h
theorem p0 : Mo.bPut1_pre 0 = True := by kernel_rfl
theorem p16 : Mo.bPut1_pre 16 = True := by kernel_rfl
theorem p24 : Mo.bPut1_pre 24 = True := by kernel_rfl
theorem nWLinep_1 (c : Mo.Cnt) : Mo.nWLine_p 1 ⟨c⟩ := by
  simp only [Mo.nWLine_p, Mo.nWLine_p0, Mo.RnWLine_0_pre, Mo.RnWLine_0_g1, c01, if_true, Mo.nWLine_p1, Mo.RnWLine_1_pre, c11, if_false, and_true, p0, ite_self]
/-! Wires change the lines alone. -/
theorem wire_Q (t : Int) (r : Mo.Rt) (l : Mo.Ln) (c : Mo.Cnt) : ∃ l', Mo.dWire_f18 1 (Q t r l c) 1 = Q t r l' c := by
  have one : ∀ hi, ∃ l', Mo.RdWire_1_v1 hi (Q t r l c) = Q t r l' c := by
    intro hi
    unfold Mo.RdWire_1_v1
    split
    · exact ⟨_, rfl⟩
    · exact ⟨_, rfl⟩
  have two : ∀ hi, ∃ l', Mo.RdWire_0_v2 hi (Q t r l c) = Q t r l' c := by
    intro hi
    unfold Mo.RdWire_0_v2
    split
    · exact ⟨_, rfl⟩
    · exact ⟨_, rfl⟩
  unfold Mo.dWire_f18 Mo.dWire_f18_0 Mo.dWire_f18_1
  split
  · exact one _
  · exact two _
theorem wirep_Q (t : Int) (r : Mo.Rt) (l : Mo.Ln) (c : Mo.Cnt) : Mo.dWire_p 1 (Q t r l c) 1 := by
  have p4 : Mo.kLine_pre 0 (Mo.Bd.k (Q t r l c)) = True := by kernel_rfl
  have p5 : Mo.kSoft_pre 0 (Mo.Bd.k (Q t r l c)) = True := by kernel_rfl
  have i1 : (iL 1 1 = true) = False := by rw [iL_eq]; simp
  have i0 : (iL 0 1 = true) = True := by rw [iL_eq]; simp
  unfold Mo.dWire_p Mo.dWire_pre Mo.dWire_p0 Mo.RdWire_0_pre Mo.dWire_p1 Mo.RdWire_1_pre
  simp only [i1, i0, if_true, if_false, p4, p5, p0, p16, p24, true_and, and_true, ite_self]
  exact nWLinep_1 c
theorem settle_Q (t : Int) (r : Mo.Rt) (l : Mo.Ln) (c : Mo.Cnt) : Mo.dSettle_pre 1 (Q t r l c) 1 [] ∧ Mo.dSettle_v1 (Q t r l c) 1 [] = [] ∧ ∃ l', Mo.dSettle_v2 1 (Q t r l c) 1 = Q t r l' c := by
  have q1 : (iN (Mo.Wd.fault (Mo.Bd.w (Q t r l c))) 0 = true) = False := by rw [iN_eq]; simp [Q, W0]
  have q2 : (Mo.rAsked_v1 (Mo.Bd.r (Q t r l c)) = true) = False := by
    have : Mo.rAsked_v1 (Mo.Bd.r (Q t r l c)) = false := by kernel_rfl
    rw [this]; simp
  unfold Mo.dSettle_pre Mo.dSettle_v1 Mo.dSettle_v2
  simp only [q1, q2, if_false]
  exact ⟨wirep_Q t r l c, trivial, wire_Q t r l c⟩
/-! Boards that may tick; their timer. -/
def Inv (b : Mo.Bd) (c : Mo.Cnt) : Prop := ∃ t r l, b = Q t r l c ∧ 0 ≤ t ∧ Rok r
theorem tick_Q {b : Mo.Bd} {c : Mo.Cnt} {n : Int} (h : Inv b c) (hn : 0 ≤ n) (hc : Mo.cTick_pre n c) : Mo.dTick_pre n 1 b 1 [] ∧ Mo.dTick_v1 n 1 b 1 [] = [] ∧ Inv (Mo.dTick_v2 n 1 b 1) (Mo.cTick_v1 n c) := by
  obtain ⟨t, r, l, rfl, ht, hr⟩ := h
  have w1 : Mo.wTick_v1 n W0 = n := by kernel_rfl
  have w2 : Mo.wTick_v2 n W0 = W0 := by kernel_rfl
  have f0 : (iE (Mo.Wd.fault W0) 0 = true) = True := by rw [iE_eq]; simp [W0]
  have e1 : (Q t r l c).w = W0 := rfl
  have e2 : (Q t r l c).k = K0 t := rfl
  have e3 : (Q t r l c).t = r := rfl
  have e4 : (Q t r l c).n = ⟨c⟩ := rfl
  have e5 : (Q t r l c).r = R0 := rfl
  have e6 : (Q t r l c).l = l := rfl
  unfold Mo.dTick_pre Mo.dTick_v1 Mo.dTick_v2 Mo.dTick_e1 Mo.dTick_e2
  simp only [e1, e2, e3, e4, e5, e6, w1, w2, f0, if_true, kTick_Q, nTick_1]
  obtain ⟨s1, s2, l', s3⟩ := settle_Q (sat (t + n)) (Mo.tTick_v1 n r) l (Mo.cTick_v1 n c)
  exact ⟨⟨⟨ht, hn⟩, nTickp_1 n c hc, hr.pre n, s1⟩, s2, ⟨_, _, l', s3, sat_nonneg, hr.tick n⟩⟩
end Go.SX.Y.Tf
