/- FeederCares, plain part: the watchdog; accesses of the port. -/
import Derived.Test.YtbkegflipglioaaGreatFdA
set_option maxRecDepth 20000
namespace Go.SX.Y.Fd
open Go.SX Go.SX.Y
/-- A watchdog that is enabled. -/
def Y (lk : Bool) (sh al si : Int) (ar : Bool) : Mo.Wd := ⟨true, lk, ar, sh, al, si, 0⟩
/-- One that isn't. -/
def X (sh al : Int) : Mo.Wd := ⟨false, false, false, sh, al, 0, 0⟩
theorem af (x : Bool) : (stdQ QO.and (stdQ QO.eq true false) x = true) = False := by simp [stdQ]
theorem cvq_small {x : Int} (h0 : 0 ≤ x) (h1 : x < 18446744073709551616) : cvq x 0 = x := by
  show x % 18446744073709551616 = x
  omega
theorem cvw_small {x : Int} (h0 : 0 ≤ x) (h1 : x < 4294967296) : cvw x 0 = x := by
  show x % 4294967296 = x
  omega
theorem yTick {lk ar : Bool} {sh al si n : Int} (h0 : 0 ≤ si) (hn : 0 ≤ n) (h1 : si + n < al) (h2 : al < 4294967296) : Mo.wTick_v1 n (Y lk sh al si ar) = n ∧ Mo.wTick_v2 n (Y lk sh al si ar) = Y lk sh al (si + n) ar := by
  have e1 : (Y lk sh al si ar).en = true := rfl
  have e2 : (Y lk sh al si ar).fault = 0 := rfl
  have e3 : (Y lk sh al si ar).all = al := rfl
  have e4 : (Y lk sh al si ar).since = si := rfl
  have nt : (stdQ QO.not true true = true) = False := by simp [stdQ]
  have b1 : sbq al si = al - si := by
    show (al - si) % 18446744073709551616 = _
    omega
  have b2 : (iM (al - si) n = true) = False := by rw [iM_eq]; exact eq_false (by omega)
  have b3 : adq si n = si + n := by
    show (si + n) % 18446744073709551616 = _
    omega
  unfold Mo.wTick_v1 Mo.wTick_v2
  simp only [e1, e2, e3, e4, af, nt, n00, if_false, cvq_small (show 0 ≤ al by omega) (by omega), b1, b2, b3]
  exact ⟨trivial, rfl⟩
/-- A timeout. -/
theorem yFault {lk ar : Bool} {sh al si n : Int} (h0 : 0 ≤ si) (h1 : si < al) (h2 : al < 4294967296) (hn : al - si ≤ n) : Mo.wTick_v1 n (Y lk sh al si ar) = al - si ∧ (Mo.wTick_v2 n (Y lk sh al si ar)).fault = 2 := by
  have e1 : (Y lk sh al si ar).en = true := rfl
  have e2 : (Y lk sh al si ar).fault = 0 := rfl
  have e3 : (Y lk sh al si ar).all = al := rfl
  have e4 : (Y lk sh al si ar).since = si := rfl
  have nt : (stdQ QO.not true true = true) = False := by simp [stdQ]
  have b1 : sbq al si = al - si := by
    show (al - si) % 18446744073709551616 = _
    omega
  have b2 : (iM (al - si) n = true) = True := by rw [iM_eq]; exact eq_true hn
  unfold Mo.wTick_v1 Mo.wTick_v2
  simp only [e1, e2, e3, e4, af, nt, n00, if_false, cvq_small (show 0 ≤ al by omega) (by omega), b1, b2, if_true]
  exact ⟨trivial, trivial⟩
structure Z (w : Mo.Wd) : Prop where
  v1 : Mo.wTick_v1 0 w = 0
  v2 : Mo.wTick_v2 0 w = w
  f : w.fault = 0
theorem Z.y {lk ar : Bool} {sh al si : Int} (h0 : 0 ≤ si) (h1 : si < al) (h2 : al < 4294967296) : Z (Y lk sh al si ar) := by
  have h := yTick (lk := lk) (ar := ar) (sh := sh) h0 (Int.le_refl 0) (by omega) h2
  rw [Int.add_zero] at h
  exact ⟨h.1, h.2, rfl⟩
theorem Z.x {sh al : Int} : Z (X sh al) := by
  have e1 : (X sh al).en = false := rfl
  have e2 : (X sh al).fault = 0 := rfl
  have nt : (stdQ QO.not false false = true) = True := by simp [stdQ]
  refine ⟨?_, ?_, rfl⟩
  · unfold Mo.wTick_v1
    simp only [e1, e2, nt, n00, if_true, if_false, ite_self]
  · unfold Mo.wTick_v2
    simp only [e1, nt, if_true, ite_self]
theorem l0 : castI (lenR (List.nil : List (List Int))) = 0 := by rw [castI_eq]; rfl
theorem r0 : Mo.dResets_v1 [] = [] := by unfold Mo.dResets_v1; split <;> rfl
theorem dpre : Mo.pDown_pre [] := by
  unfold Mo.pDown_pre Mo.dResets_pre
  rw [l0, if_pos (by rw [iE_eq])]; trivial
theorem gap_nn (x : Int) : 0 ≤ Mo.pgap_v1 x := by
  unfold Mo.pgap_v1
  split
  · exact Int.emod_nonneg _ (by decide)
  · decide
structure T0 (b : Mo.Bd) (w : Mo.Wd) (spent : Int) : Prop where
  g : Mo.pgap_pre spent b []
  r : Mo.dTick_v1 0 b [] = []
  i : Inv (Mo.pgap_v2 b) w
theorem t0 {b : Mo.Bd} {w : Mo.Wd} {spent : Int} (h : Inv b w) (z : Z w) (hs : 0 ≤ spent) : T0 b w spent := by
  obtain ⟨a1, a2, a3⟩ := tick_q h (Int.le_refl 0) z.v1 z.v2 z.f []
  exact ⟨⟨⟨hs, Int.le_refl 0⟩, a1⟩, a2, a3⟩
structure Put (p : Prop) (b b' : Mo.Bd) (u : Mo.Bd → Mo.Bd) (w' : Mo.Wd) : Prop where
  p : p
  r : Mo.dSettle_v1 (u (Mo.pgap_v2 b)) [] = []
  t : Mo.dTick_v1 0 b [] = []
  i : Inv b' w'
theorem put {b : Mo.Bd} {w w' : Mo.Wd} {u : Mo.Bd → Mo.Bd} (h : Inv b w) (hu : ∀ t r R l, u (Q t w r R l) = Q t w' r R l) (hf : w'.fault = 0) :
    Mo.dSettle_pre (u b) [] ∧ Mo.dSettle_v1 (u b) [] = [] ∧ Inv (Mo.dSettle_v2 (u b)) w' := by
  obtain ⟨t, r, R, l, rfl, ht, hr, hR⟩ := h
  rw [hu]
  obtain ⟨s1, s2, l', s3⟩ := settle_Q hf hR t r l []
  exact ⟨s1, s2, t, r, R, l', s3, ht, hr, hR⟩
theorem put0 {b : Mo.Bd} {w w' : Mo.Wd} {v spent : Int} (h : Inv b w) (z : Z w) (hs : 0 ≤ spent) (hu : ∀ t r R l, Mo.uStore0_v1 v (Q t w r R l) = Q t w' r R l) (hf : w'.fault = 0) : Put (Mo.pStore0_pre v spent 0 b []) b (Mo.pStore0_v1 v b) (Mo.uStore0_v1 v) w' := by
  have t := t0 h z hs
  obtain ⟨s1, s2, s3⟩ := put t.i hu hf
  refine ⟨?_, s2, t.r, s3⟩
  unfold Mo.pStore0_pre
  simp only [r0, l0, t.r, s2, n00, if_false, and_true]
  exact ⟨dpre, t.g, dpre, s1, dpre⟩
theorem put4 {b : Mo.Bd} {w w' : Mo.Wd} {v spent : Int} (h : Inv b w) (z : Z w) (hs : 0 ≤ spent) (hu : ∀ t r R l, Mo.uStore4_v1 v (Q t w r R l) = Q t w' r R l) (hf : w'.fault = 0) : Put (Mo.pStore4_pre v spent 0 b []) b (Mo.pStore4_v1 v b) (Mo.uStore4_v1 v) w' := by
  have t := t0 h z hs
  obtain ⟨s1, s2, s3⟩ := put t.i hu hf
  refine ⟨?_, s2, t.r, s3⟩
  unfold Mo.pStore4_pre
  simp only [r0, l0, t.r, s2, n00, if_false, and_true]
  exact ⟨dpre, t.g, dpre, s1, dpre⟩
theorem put8 {b : Mo.Bd} {w w' : Mo.Wd} {v spent : Int} (h : Inv b w) (z : Z w) (hs : 0 ≤ spent) (hu : ∀ t r R l, Mo.uStore8_v1 v (Q t w r R l) = Q t w' r R l) (hf : w'.fault = 0) : Put (Mo.pStore8_pre v spent 0 b []) b (Mo.pStore8_v1 v b) (Mo.uStore8_v1 v) w' := by
  have t := t0 h z hs
  obtain ⟨s1, s2, s3⟩ := put t.i hu hf
  refine ⟨?_, s2, t.r, s3⟩
  unfold Mo.pStore8_pre
  simp only [r0, l0, t.r, s2, n00, if_false, and_true]
  exact ⟨dpre, t.g, dpre, s1, dpre⟩
theorem put12 {b : Mo.Bd} {w w' : Mo.Wd} {v spent : Int} (h : Inv b w) (z : Z w) (hs : 0 ≤ spent) (hu : ∀ t r R l, Mo.uStore12_v1 v (Q t w r R l) = Q t w' r R l) (hf : w'.fault = 0) : Put (Mo.pStore12_pre v spent 0 b []) b (Mo.pStore12_v1 v b) (Mo.uStore12_v1 v) w' := by
  have t := t0 h z hs
  obtain ⟨s1, s2, s3⟩ := put t.i hu hf
  refine ⟨?_, s2, t.r, s3⟩
  unfold Mo.pStore12_pre
  simp only [r0, l0, t.r, s2, n00, if_false, and_true]
  exact ⟨dpre, t.g, dpre, s1, dpre⟩
theorem lp (p : Prop) (hp : p = True) : p := by rw [hp]; trivial
theorem get0 {b : Mo.Bd} {w : Mo.Wd} {spent : Int} (h : Inv b w) (z : Z w) (hs : 0 ≤ spent) : Mo.pLoad0_pre spent 0 b [] ∧ Inv (Mo.pLoad0_v1 b) w := by
  have t := t0 h z hs
  refine ⟨?_, t.i⟩
  unfold Mo.pLoad0_pre
  simp only [r0, l0, t.r, n00, if_false]
  refine ⟨dpre, t.g, dpre, ?_, dpre⟩
  unfold Mo.dLoad0_pre Mo.uLoad0_pre
  simp only [p0, p1, ite_self, and_true]
theorem get4 {b : Mo.Bd} {w : Mo.Wd} {spent : Int} (h : Inv b w) (z : Z w) (hs : 0 ≤ spent) : Mo.pLoad4_pre spent 0 b [] ∧ Inv (Mo.pLoad4_v1 b) w := by
  have t := t0 h z hs
  refine ⟨?_, t.i⟩
  unfold Mo.pLoad4_pre
  simp only [r0, l0, t.r, n00, if_false]
  refine ⟨dpre, t.g, dpre, ?_, dpre⟩
  unfold Mo.dLoad4_pre Mo.uLoad4_pre
  simp only [p0, p1, ite_self, and_true]
theorem get8 {b : Mo.Bd} {w : Mo.Wd} {spent : Int} (h : Inv b w) (z : Z w) (hs : 0 ≤ spent) : Mo.pLoad8_pre spent 0 b [] ∧ Inv (Mo.pLoad8_v1 b) w := by
  have t := t0 h z hs
  refine ⟨?_, t.i⟩
  unfold Mo.pLoad8_pre
  simp only [r0, l0, t.r, n00, if_false]
  refine ⟨dpre, t.g, dpre, ?_, dpre⟩
  unfold Mo.dLoad8_pre Mo.uLoad8_pre
  simp only [p0, p1, ite_self, and_true]
theorem get16 {b : Mo.Bd} {w : Mo.Wd} {spent : Int} (h : Inv b w) (z : Z w) (hs : 0 ≤ spent) : Mo.pLoad16_pre spent 0 b [] ∧ Inv (Mo.pLoad16_v1 b) w := by
  have t := t0 h z hs
  refine ⟨?_, t.i⟩
  unfold Mo.pLoad16_pre
  simp only [r0, l0, t.r, n00, if_false]
  refine ⟨dpre, t.g, dpre, ?_, dpre⟩
  unfold Mo.dLoad16_pre Mo.uLoad16_pre
  simp only [p0, p1, ite_self, and_true]
/-! What stores do. -/
theorem s4 (v sh al t : Int) (r : Mo.Rt) (R : Mo.Rs) (l : Mo.Ln) : Mo.uStore4_v1 v (Q t (X sh al) r R l) = Q t (X v al) r R l := by kernel_rfl
theorem s8 (v sh al t : Int) (r : Mo.Rt) (R : Mo.Rs) (l : Mo.Ln) : Mo.uStore8_v1 v (Q t (X sh al) r R l) = Q t (X sh v) r R l := by kernel_rfl
def ctlv (lk : Bool) : Int := if lk then 3 else 1
theorem s0 (lk : Bool) {sh al : Int} (h : sh < al) (t : Int) (r : Mo.Rt) (R : Mo.Rs) (l : Mo.Ln) : Mo.uStore0_v1 (ctlv lk) (Q t (X sh al) r R l) = Q t (Y lk sh al 0 false) r R l := by
  have e : iL (Mo.Wd.shut (Mo.Bd.w (Q t (X sh al) r R l))) (Mo.Wd.all (Mo.Bd.w (Q t (X sh al) r R l))) = true := by rw [iL_eq]; exact h
  unfold Mo.uStore0_v1
  rw [e]
  cases lk <;> (refine Eq.trans ?_ rfl; kernel_rfl)
theorem s12a (lk : Bool) (sh al si t : Int) (r : Mo.Rt) (R : Mo.Rs) (l : Mo.Ln) : Mo.uStore12_v1 23130 (Q t (Y lk sh al si false) r R l) = Q t (Y lk sh al si true) r R l := by kernel_rfl
theorem s12b (lk : Bool) {sh al si : Int} (h : sh ≤ si) (h0 : 0 ≤ sh) (h2 : sh < 4294967296) (t : Int) (r : Mo.Rt) (R : Mo.Rs) (l : Mo.Ln) : Mo.uStore12_v1 42405 (Q t (Y lk sh al si true) r R l) = Q t (Y lk sh al 0 false) r R l := by
  have e : iL (Mo.Wd.since (Mo.Bd.w (Q t (Y lk sh al si true) r R l))) (cvq (Mo.Wd.shut (Mo.Bd.w (Q t (Y lk sh al si true) r R l))) 0) = false := by
    have : (cvq (Mo.Wd.shut (Mo.Bd.w (Q t (Y lk sh al si true) r R l))) 0) = sh := cvq_small (x := sh) h0 (by omega)
    rw [this]
    have : ¬ iL si sh = true := by rw [iL_eq]; omega
    exact Bool.eq_false_iff.mpr this
  unfold Mo.uStore12_v1
  rw [e]
  refine Eq.trans ?_ rfl; kernel_rfl
theorem v0 (lk : Bool) (sh al si t : Int) (r : Mo.Rt) (R : Mo.Rs) (l : Mo.Ln) : Mo.uLoad0_v1 (Q t (Y lk sh al si false) r R l) = ctlv lk := by
  cases lk <;> (refine Eq.trans ?_ rfl; kernel_rfl)
end Go.SX.Y.Fd
