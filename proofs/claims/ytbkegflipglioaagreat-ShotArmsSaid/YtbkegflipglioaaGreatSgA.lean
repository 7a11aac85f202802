/- ShotArms, plain part: boards of which the comparators and the time alone do something. -/
import Derived.Test.YtbkegflipglioaaGreatSaK
import Derived.KernelRfl
set_option maxRecDepth 20000
namespace Go.SX.Y.Sg
open Go.SX Go.SX.Y
theorem iE_eq (x y : Int) : (iE x y = true) = (x = y) := by simp [iE, stdB]
theorem iN_eq (x y : Int) : (iN x y = true) = (x ≠ y) := by simp [iN, stdB]
theorem iL_eq (x y : Int) : (iL x y = true) = (x < y) := by simp [iL, stdB]
theorem iM_eq (x y : Int) : (iM x y = true) = (x ≤ y) := by simp [iM, stdB]
theorem cvq_small {x : Int} (h0 : 0 ≤ x) (h1 : x < 18446744073709551616) : cvq x 0 = x := by
  show x % 18446744073709551616 = x
  omega
theorem cvw_eq (x y : Int) : cvw x y = x % 4294967296 := rfl
theorem srq32 (x : Int) (h : 0 ≤ x) : srq x 32 = x / 4294967296 := by
  show Int.fdiv x (2 ^ min (Int.toNat 32) 64) = _
  rw [Int.fdiv_eq_ediv_of_nonneg _ (by decide)]
  rfl
theorem slq32 (x : Int) : slq x 32 = (x * 4294967296) % 18446744073709551616 := rfl
theorem rrq_nat (a b : Nat) (ha : a < 4294967296) (hb : b < 4294967296) : rrq ((a : Int) * 4294967296) b = (a : Int) * 4294967296 + b := by
  have e1 : ((a : Int) * 4294967296) = ((a * 4294967296 : Nat) : Int) := by omega
  rw [e1]
  show ((BitVec.ofInt 64 ((a * 4294967296 : Nat) : Int) ||| BitVec.ofInt 64 (b : Int)).toNat : Int) % 18446744073709551616 = _
  rw [BitVec.toNat_or, BitVec.ofInt_natCast, BitVec.ofInt_natCast, BitVec.toNat_ofNat, BitVec.toNat_ofNat, Nat.mod_eq_of_lt (by omega), Nat.mod_eq_of_lt (by omega)]
  have h2 : a * 4294967296 ||| b = a * 4294967296 + b := by
    have := Nat.shiftLeft_add_eq_or_of_lt (b := b) (i := 32) (by omega) a
    rw [Nat.shiftLeft_eq] at this
    exact this.symm
  rw [h2]
  omega
theorem join_eq {v s : Int} (v0 : 0 ≤ v) (v1 : v < 4294967296) (s0 : 0 ≤ s) (s1 : s < 4294967296) : rrq (slq (cvq v 0) 32) (cvq s 0) = v * 4294967296 + s := by
  have h1 : cvq v 0 = v := by exact cvq_small (by omega) (by omega)
  have h2 : cvq s 0 = s := by exact cvq_small (by omega) (by omega)
  have h3 : slq v 32 = v * 4294967296 := by rw [slq32]; omega
  rw [h1, h2, h3]
  obtain ⟨a, rfl⟩ := Int.eq_ofNat_of_zero_le v0
  obtain ⟨b, rfl⟩ := Int.eq_ofNat_of_zero_le s0
  exact rrq_nat a b (by omega) (by omega)

def kk (h d i : Int) : Int := if i = h then d else 18446744073709551615
/-- A clint of n harts, of which that of h alone has a comparator. -/
def K (t n h d : Int) : Mo.Cl := ⟨t, kk h d 0, 0, kk h d 1, 0, kk h d 2, 0, kk h d 3, 0, kk h d 4, 0, kk h d 5, 0, kk h d 6, 0, kk h d 7, 0, n⟩
noncomputable def W0 : Mo.Wd := ⟨false, false, false, 0, 0, 0, 0⟩
noncomputable def R0 : Mo.Rs := ⟨1, 0, 0, 1, false⟩
noncomputable def B (t n h d : Int) (r : Mo.Rt) (l : Mo.Ln) : Mo.Bd := ⟨K t n h d, W0, r, R0, l, ⟨0, 0, 0, 0, 0⟩⟩
def sat (x : Int) : Int := if x / 18446744073709551616 = 0 then x % 18446744073709551616 else 18446744073709551615
theorem sat_nonneg {x : Int} : 0 ≤ sat x := by
  unfold sat
  split
  · exact Int.emod_nonneg _ (by decide)
  · decide
theorem kTick_K (t n h d k : Int) : Mo.kTick_v1 k (K t n h d) = K (sat (t + k)) n h d := by
  unfold Mo.kTick_v1 sat
  simp only [iE_eq]
  split <;> rename_i g
  · have g' : (t + k) / 18446744073709551616 = 0 := g
    rw [if_pos g']; rfl
  · have g' : ¬ (t + k) / 18446744073709551616 = 0 := g
    rw [if_neg g']; rfl
structure Rok (r : Mo.Rt) : Prop where
  sec : 0 ≤ r.sec
  div : r.div = 10
theorem Rok.pre {r : Mo.Rt} (h : Rok r) (n : Int) : Mo.tTick_pre n r := by
  unfold Mo.tTick_pre
  rw [if_pos]
  · exact ⟨h.sec, Int.emod_nonneg _ (by decide)⟩
  · rw [iN_eq, h.div]; decide
theorem Rok.tick {r : Mo.Rt} (h : Rok r) (n : Int) : Rok (Mo.tTick_v1 n r) := by
  unfold Mo.tTick_v1
  repeat' split
  all_goals exact ⟨by first | exact Int.emod_nonneg _ (by decide) | exact (by decide : (0 : Int) ≤ 18446744073709551615), h.div⟩
/-! Wires. -/
theorem kl0 (c : Mo.Cl) : Mo.kLine_pre 0 c = True := by
  unfold Mo.kLine_pre
  rw [if_pos (by rw [iM_eq]; decide), if_pos (c := iL 0 8 = true) (by rw [iL_eq]; decide), ite_self]
theorem ks0 (c : Mo.Cl) : Mo.kSoft_pre 0 c = True := by
  unfold Mo.kSoft_pre
  rw [if_pos (by rw [iM_eq]; decide), if_pos (c := iL 0 8 = true) (by rw [iL_eq]; decide), ite_self]
theorem pb0 : Mo.bPut1_pre 0 = True := by kernel_rfl
theorem pc0 : Mo.bPut1_pre 24 = True := by kernel_rfl
theorem kl1 (c : Mo.Cl) : Mo.kLine_pre 1 c = True := by
  unfold Mo.kLine_pre
  rw [if_pos (by rw [iM_eq]; decide), if_pos (c := iL 1 8 = true) (by rw [iL_eq]; decide), ite_self]
theorem ks1 (c : Mo.Cl) : Mo.kSoft_pre 1 c = True := by
  unfold Mo.kSoft_pre
  rw [if_pos (by rw [iM_eq]; decide), if_pos (c := iL 1 8 = true) (by rw [iL_eq]; decide), ite_self]
theorem pb1 : Mo.bPut1_pre 1 = True := by kernel_rfl
theorem pc1 : Mo.bPut1_pre 25 = True := by kernel_rfl
theorem kl2 (c : Mo.Cl) : Mo.kLine_pre 2 c = True := by
  unfold Mo.kLine_pre
  rw [if_pos (by rw [iM_eq]; decide), if_pos (c := iL 2 8 = true) (by rw [iL_eq]; decide), ite_self]
theorem ks2 (c : Mo.Cl) : Mo.kSoft_pre 2 c = True := by
  unfold Mo.kSoft_pre
  rw [if_pos (by rw [iM_eq]; decide), if_pos (c := iL 2 8 = true) (by rw [iL_eq]; decide), ite_self]
theorem pb2 : Mo.bPut1_pre 2 = True := by kernel_rfl
theorem pc2 : Mo.bPut1_pre 26 = True := by kernel_rfl
theorem kl3 (c : Mo.Cl) : Mo.kLine_pre 3 c = True := by
  unfold Mo.kLine_pre
  rw [if_pos (by rw [iM_eq]; decide), if_pos (c := iL 3 8 = true) (by rw [iL_eq]; decide), ite_self]
theorem ks3 (c : Mo.Cl) : Mo.kSoft_pre 3 c = True := by
  unfold Mo.kSoft_pre
  rw [if_pos (by rw [iM_eq]; decide), if_pos (c := iL 3 8 = true) (by rw [iL_eq]; decide), ite_self]
theorem pb3 : Mo.bPut1_pre 3 = True := by kernel_rfl
theorem pc3 : Mo.bPut1_pre 27 = True := by kernel_rfl
theorem kl4 (c : Mo.Cl) : Mo.kLine_pre 4 c = True := by
  unfold Mo.kLine_pre
  rw [if_pos (by rw [iM_eq]; decide), if_pos (c := iL 4 8 = true) (by rw [iL_eq]; decide), ite_self]
theorem ks4 (c : Mo.Cl) : Mo.kSoft_pre 4 c = True := by
  unfold Mo.kSoft_pre
  rw [if_pos (by rw [iM_eq]; decide), if_pos (c := iL 4 8 = true) (by rw [iL_eq]; decide), ite_self]
theorem pb4 : Mo.bPut1_pre 4 = True := by kernel_rfl
theorem pc4 : Mo.bPut1_pre 28 = True := by kernel_rfl
theorem kl5 (c : Mo.Cl) : Mo.kLine_pre 5 c = True := by
  unfold Mo.kLine_pre
  rw [if_pos (by rw [iM_eq]; decide), if_pos (c := iL 5 8 = true) (by rw [iL_eq]; decide), ite_self]
theorem ks5 (c : Mo.Cl) : Mo.kSoft_pre 5 c = True := by
  unfold Mo.kSoft_pre
  rw [if_pos (by rw [iM_eq]; decide), if_pos (c := iL 5 8 = true) (by rw [iL_eq]; decide), ite_self]
theorem pb5 : Mo.bPut1_pre 5 = True := by kernel_rfl
theorem pc5 : Mo.bPut1_pre 29 = True := by kernel_rfl
theorem kl6 (c : Mo.Cl) : Mo.kLine_pre 6 c = True := by
  unfold Mo.kLine_pre
  rw [if_pos (by rw [iM_eq]; decide), if_pos (c := iL 6 8 = true) (by rw [iL_eq]; decide), ite_self]
theorem ks6 (c : Mo.Cl) : Mo.kSoft_pre 6 c = True := by
  unfold Mo.kSoft_pre
  rw [if_pos (by rw [iM_eq]; decide), if_pos (c := iL 6 8 = true) (by rw [iL_eq]; decide), ite_self]
theorem pb6 : Mo.bPut1_pre 6 = True := by kernel_rfl
theorem pc6 : Mo.bPut1_pre 30 = True := by kernel_rfl
theorem kl7 (c : Mo.Cl) : Mo.kLine_pre 7 c = True := by
  unfold Mo.kLine_pre
  rw [if_pos (by rw [iM_eq]; decide), if_pos (c := iL 7 8 = true) (by rw [iL_eq]; decide), ite_self]
theorem ks7 (c : Mo.Cl) : Mo.kSoft_pre 7 c = True := by
  unfold Mo.kSoft_pre
  rw [if_pos (by rw [iM_eq]; decide), if_pos (c := iL 7 8 = true) (by rw [iL_eq]; decide), ite_self]
theorem pb7 : Mo.bPut1_pre 7 = True := by kernel_rfl
theorem pc7 : Mo.bPut1_pre 31 = True := by kernel_rfl
theorem nlp : Mo.nLines_pre ⟨0, 0, 0, 0, 0⟩ = True := by kernel_rfl
theorem out (b : Mo.Bd) (x y : Int) : ∃ l', (if b.t.raised = true then { b with l := Mo.lAll_v1 x b.l } else { b with l := Mo.lAll_v1 y b.l }) = { b with l := l' } := by
  split <;> exact ⟨_, rfl⟩
theorem w8 (b : Mo.Bd) (x : Int) : ∃ l', Mo.dWire_f16_8 x b = { b with l := l' } := out b _ _
theorem w7 (b : Mo.Bd) (x n : Int) : ∃ l', Mo.dWire_f16_7 x n b = { b with l := l' } := by
  unfold Mo.dWire_f16_7
  split
  · exact w8 b _
  · exact out b _ _
theorem w6 (b : Mo.Bd) (x n : Int) : ∃ l', Mo.dWire_f16_6 x n b = { b with l := l' } := by
  unfold Mo.dWire_f16_6
  split
  · exact w7 b _ _
  · exact out b _ _
theorem w5 (b : Mo.Bd) (x n : Int) : ∃ l', Mo.dWire_f16_5 x n b = { b with l := l' } := by
  unfold Mo.dWire_f16_5
  split
  · exact w6 b _ _
  · exact out b _ _
theorem w4 (b : Mo.Bd) (x n : Int) : ∃ l', Mo.dWire_f16_4 x n b = { b with l := l' } := by
  unfold Mo.dWire_f16_4
  split
  · exact w5 b _ _
  · exact out b _ _
theorem w3 (b : Mo.Bd) (x n : Int) : ∃ l', Mo.dWire_f16_3 x n b = { b with l := l' } := by
  unfold Mo.dWire_f16_3
  split
  · exact w4 b _ _
  · exact out b _ _
theorem w2 (b : Mo.Bd) (x n : Int) : ∃ l', Mo.dWire_f16_2 x n b = { b with l := l' } := by
  unfold Mo.dWire_f16_2
  split
  · exact w3 b _ _
  · exact out b _ _
theorem w1 (b : Mo.Bd) (x n : Int) : ∃ l', Mo.dWire_f16_1 x n b = { b with l := l' } := by
  unfold Mo.dWire_f16_1
  split
  · exact w2 b _ _
  · exact out b _ _
theorem w0 (b : Mo.Bd) (x n : Int) : ∃ l', Mo.dWire_f16_0 x n b = { b with l := l' } := by
  unfold Mo.dWire_f16_0
  split
  · exact w1 b _ _
  · exact out b _ _
theorem wire (n : Int) (b : Mo.Bd) : ∃ l', Mo.dWire_f16 n b = { b with l := l' } := w0 b _ _
theorem wirep (n t h d : Int) (r : Mo.Rt) (l : Mo.Ln) (hn : n ≤ 8) : Mo.dWire_p n (B t n h d r l) := by
  have i8 : (iL 8 n = true) = False := by rw [iL_eq]; exact eq_false (by omega)
  have p16 : Mo.bPut1_pre 16 = True := by kernel_rfl
  have e : (B t n h d r l).c = ⟨0, 0, 0, 0, 0⟩ := rfl
  unfold Mo.dWire_p Mo.dWire_pre Mo.dWire_p0 Mo.dWire_p1 Mo.dWire_p2 Mo.dWire_p3 Mo.dWire_p4 Mo.dWire_p5 Mo.dWire_p6 Mo.dWire_p7 Mo.dWire_p8
  unfold Mo.RdWire_0_pre Mo.RdWire_1_pre Mo.RdWire_2_pre Mo.RdWire_3_pre Mo.RdWire_4_pre Mo.RdWire_5_pre Mo.RdWire_6_pre Mo.RdWire_7_pre Mo.RdWire_8_pre
  simp only [e, nlp, i8, p16, if_false, ite_self, true_and, and_true, kl0, ks0, pb0, pc0, kl1, ks1, pb1, pc1, kl2, ks2, pb2, pc2, kl3, ks3, pb3, pc3, kl4, ks4, pb4, pc4, kl5, ks5, pb5, pc5, kl6, ks6, pb6, pc6, kl7, ks7, pb7, pc7]
theorem settle (n t h d : Int) (r : Mo.Rt) (l : Mo.Ln) (hn : n ≤ 8) : Mo.dSettle_pre n (B t n h d r l) ∧ ∃ l', Mo.dSettle_v1 n (B t n h d r l) = B t n h d r l' := by
  refine ⟨?_, wire n _⟩
  unfold Mo.dSettle_pre
  rw [if_neg (by rw [iN_eq]; simp [B, W0]), if_neg (by
    have : Mo.rAsked_v1 (Mo.Bd.r (B t n h d r l)) = false := by kernel_rfl
    rw [this]; simp)]
  exact wirep n t h d r l hn
def Inv (b : Mo.Bd) (n h d : Int) : Prop := ∃ t r l, b = B t n h d r l ∧ 0 ≤ t ∧ Rok r
theorem tick {b : Mo.Bd} {n h d k : Int} (hI : Inv b n h d) (hn : n ≤ 8) (hk : 0 ≤ k) : Mo.dTick_pre k n b ∧ Inv (Mo.dTick_v1 k n b) n h d := by
  obtain ⟨t, r, l, rfl, ht, hr⟩ := hI
  have w1 : Mo.wTick_v1 k W0 = k := by kernel_rfl
  have w2 : Mo.wTick_v2 k W0 = W0 := by kernel_rfl
  have f0 : (iE (Mo.Wd.fault W0) 0 = true) = True := by rw [iE_eq]; simp [W0]
  have e1 : (B t n h d r l).w = W0 := rfl
  have e2 : (B t n h d r l).k = K t n h d := rfl
  have e3 : (B t n h d r l).t = r := rfl
  have e4 : (B t n h d r l).c = ⟨0, 0, 0, 0, 0⟩ := rfl
  have e5 : (B t n h d r l).r = R0 := rfl
  have e6 : (B t n h d r l).l = l := rfl
  have z1 : Mo.cTick_v1 k ⟨0, 0, 0, 0, 0⟩ = ⟨0, 0, 0, 0, 0⟩ := by kernel_rfl
  have z2 : Mo.nTick_pre k ⟨0, 0, 0, 0, 0⟩ = True := by kernel_rfl
  unfold Mo.dTick_pre Mo.dTick_v1 Mo.dTick_e1
  simp only [e1, e2, e3, e4, e5, e6, w1, w2, f0, if_true, kTick_K, z1, z2, true_and]
  obtain ⟨s1, l', s2⟩ := settle n (sat (t + k)) h d (Mo.tTick_v1 k r) l hn
  exact ⟨⟨⟨ht, hk⟩, hr.pre k, s1⟩, _, _, l', s2, sat_nonneg, hr.tick k⟩
end Go.SX.Y.Sg
