/- TickerRings, plain part: boards with two timers, of which the first stands still. -/
import Derived.Test.YtbkegflipglioaaGreatTrK
import Derived.KernelRfl
set_option maxRecDepth 20000
namespace Go.SX.Y.Tg
open Go.SX Go.SX.Y
theorem iE_eq (x y : Int) : (iE x y = true) = (x = y) := by simp [iE, stdB]
theorem iN_eq (x y : Int) : (iN x y = true) = (x ≠ y) := by simp [iN, stdB]
theorem iL_eq (x y : Int) : (iL x y = true) = (x < y) := by simp [iL, stdB]
theorem iM_eq (x y : Int) : (iM x y = true) = (x ≤ y) := by simp [iM, stdB]
noncomputable def K0 (t : Int) : Mo.Cl := ⟨t, 18446744073709551615, 0, 18446744073709551615, 0, 18446744073709551615, 0, 18446744073709551615, 0, 18446744073709551615, 0, 18446744073709551615, 0, 18446744073709551615, 0, 18446744073709551615, 0, 1⟩
noncomputable def W0 : Mo.Wd := ⟨false, false, false, 0, 0, 0, 0⟩
noncomputable def R0 : Mo.Rs := ⟨1, 0, 0, 1, false⟩
noncomputable def B (t : Int) (r : Mo.Rt) (l : Mo.Ln) (c : Mo.Cnt) : Mo.Bd := ⟨K0 t, W0, r, R0, l, ⟨0, 0, 0, 0, 0⟩, c⟩
def sat (x : Int) : Int := if x / 18446744073709551616 = 0 then x % 18446744073709551616 else 18446744073709551615
theorem sat_nonneg {x : Int} : 0 ≤ sat x := by
  unfold sat
  split
  · exact Int.emod_nonneg _ (by decide)
  · decide
theorem kTick_B (t n : Int) : Mo.kTick_v1 n (K0 t) = K0 (sat (t + n)) := by
  unfold Mo.kTick_v1 sat
  simp only [iE_eq]
  split <;> rename_i h
  · have h' : (t + n) / 18446744073709551616 = 0 := h
    rw [if_pos h']; rfl
  · have h' : ¬ (t + n) / 18446744073709551616 = 0 := h
    rw [if_neg h']; rfl
structure Rok (r : Mo.Rt) : Prop where
  sec : 0 ≤ r.sec
  div : r.div = 10
theorem Rok.pre {r : Mo.Rt} (h : Rok r) (n : Int) : Mo.tTick_pre n r := by
  unfold Mo.tTick_pre
  rw [if_pos]
  · exact ⟨h.sec, Int.emod_nonneg _ (by decide)⟩
  · rw [iN_eq, h.div]; decide
theorem Rok.tick {r : Mo.Rt} (h : Rok r) (n : Int) : Rok (Mo.tTick_v1 n r) := by
  unfold Mo.tTick_v1
  repeat' split
  all_goals exact ⟨by first | exact Int.emod_nonneg _ (by decide) | exact (by decide : (0 : Int) ≤ 18446744073709551615), h.div⟩
theorem p0 : Mo.bPut1_pre 0 = True := by kernel_rfl
theorem p1 : Mo.bPut1_pre 1 = True := by kernel_rfl
theorem p16 : Mo.bPut1_pre 16 = True := by kernel_rfl
theorem p24 : Mo.bPut1_pre 24 = True := by kernel_rfl
theorem l00 : Mo.cLine_v1 ⟨0, 0, 0, 0, 0⟩ = false := by kernel_rfl
theorem s00 (t : Int) : Mo.kSoft_v1 0 (K0 t) = false := by kernel_rfl
/-- A line that is high. -/
noncomputable def hi (l : Mo.Ln) : Bool := iE (srw (anw l.high 512) 9) 1
theorem wire_B (t : Int) (r : Mo.Rt) (l : Mo.Ln) (c : Mo.Cnt) : ∃ l', Mo.dWire_v1 (B t r l c) = B t r l' c ∧ hi l' = Mo.cLine_v1 c := by
  have e0 : Mo.Bd.c0 (B t r l c) = ⟨0, 0, 0, 0, 0⟩ := rfl
  have e1 : Mo.Bd.c1 (B t r l c) = c := rfl
  have e2 : Mo.Bd.k (B t r l c) = K0 t := rfl
  have e3 : Mo.Bd.t (B t r l c) = r := rfl
  have nt : stdQ QO.not false false = true := rfl
  have key : ∀ x, ∃ l', { B t r l c with l := Mo.lAll_v1 x l } = B t r l' c ∧ l'.high = x := fun x => ⟨_, rfl, rfl⟩
  unfold Mo.dWire_v1 Mo.nLines_v1
  simp only [e0, e1, e2, e3, l00, s00, nt, if_true, if_false, Bool.false_eq_true]
  have e4 : Mo.Bd.l (B t r l c) = l := rfl
  rw [e4]
  generalize Mo.kLine_v1 0 (K0 t) = x
  generalize Mo.cLine_v1 c = w
  generalize r.raised = z
  have fin : ∀ y, (iE (srw (anw y 512) 9) 1) = w → ∃ l', { B t r l c with l := Mo.lAll_v1 y l } = B t r l' c ∧ hi l' = w := fun y hy => by
    obtain ⟨l', h1, h2⟩ := key y
    exact ⟨l', h1, by unfold hi; rw [h2]; exact hy⟩
  cases x <;> cases z <;> cases w <;> (refine fin _ ?_; kernel_rfl)
theorem wirep_B (t : Int) (r : Mo.Rt) (l : Mo.Ln) (c : Mo.Cnt) : Mo.dWire_pre (B t r l c) := by
  have p4 : Mo.kLine_pre 0 (Mo.Bd.k (B t r l c)) = True := by kernel_rfl
  have p5 : Mo.kSoft_pre 0 (Mo.Bd.k (B t r l c)) = True := by kernel_rfl
  unfold Mo.dWire_pre Mo.nLines_pre
  simp only [p0, p1, p16, p24, p4, p5, ite_self, and_true]
theorem settle_B (t : Int) (r : Mo.Rt) (l : Mo.Ln) (c : Mo.Cnt) : Mo.dSettle_pre (B t r l c) ∧ ∃ l', Mo.dSettle_v1 (B t r l c) = B t r l' c ∧ hi l' = Mo.cLine_v1 c := by
  refine ⟨?_, wire_B t r l c⟩
  unfold Mo.dSettle_pre
  rw [if_neg (by rw [iN_eq]; simp [B, W0]), if_neg (by
    have : Mo.rAsked_v1 (Mo.Bd.r (B t r l c)) = false := by kernel_rfl
    rw [this]; simp)]
  exact wirep_B t r l c
def Inv (b : Mo.Bd) (c : Mo.Cnt) : Prop := ∃ t r l, b = B t r l c ∧ 0 ≤ t ∧ Rok r ∧ hi l = Mo.cLine_v1 c
theorem Inv.c1 {b : Mo.Bd} {c : Mo.Cnt} (h : Inv b c) : Mo.Bd.c1 b = c := by obtain ⟨t, r, l, rfl, _⟩ := h; rfl
theorem Inv.hi {b : Mo.Bd} {c : Mo.Cnt} (h : Inv b c) : iE (srw (anw (Mo.Ln.high (Mo.Bd.l b)) 512) 9) 1 = Mo.cLine_v1 c := by obtain ⟨t, r, l, rfl, _, _, h⟩ := h; exact h
theorem tick_B {b : Mo.Bd} {c : Mo.Cnt} {n : Int} (h : Inv b c) (hn : 0 ≤ n) (hc : Mo.cTick_pre n c) : Mo.dTick_pre n b ∧ Inv (Mo.dTick_v1 n b) (Mo.cTick_v1 n c) := by
  obtain ⟨t, r, l, rfl, ht, hr, _⟩ := h
  have w1 : Mo.wTick_v1 n W0 = n := by kernel_rfl
  have w2 : Mo.wTick_v2 n W0 = W0 := by kernel_rfl
  have f0 : (iE (Mo.Wd.fault W0) 0 = true) = True := by rw [iE_eq]; simp [W0]
  have e1 : (B t r l c).w = W0 := rfl
  have e2 : (B t r l c).k = K0 t := rfl
  have e3 : (B t r l c).t = r := rfl
  have e4 : (B t r l c).c1 = c := rfl
  have e5 : (B t r l c).r = R0 := rfl
  have e6 : (B t r l c).l = l := rfl
  have e7 : (B t r l c).c0 = ⟨0, 0, 0, 0, 0⟩ := rfl
  have z1 : Mo.cTick_v1 n ⟨0, 0, 0, 0, 0⟩ = ⟨0, 0, 0, 0, 0⟩ := by kernel_rfl
  have z2 : Mo.cTick_pre n ⟨0, 0, 0, 0, 0⟩ = True := by kernel_rfl
  unfold Mo.dTick_pre Mo.dTick_v1 Mo.dTick_e1 Mo.nTick_pre
  simp only [e1, e2, e3, e4, e5, e6, e7, w1, w2, f0, if_true, kTick_B, z1, z2, true_and]
  obtain ⟨s1, l', s3, s4⟩ := settle_B (sat (t + n)) (Mo.tTick_v1 n r) l (Mo.cTick_v1 n c)
  exact ⟨⟨⟨ht, hn⟩, hc, hr.pre n, s1⟩, ⟨_, _, l', s3, sat_nonneg, hr.tick n, s4⟩⟩
end Go.SX.Y.Tg
