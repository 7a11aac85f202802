/- ShotArms, plain part: what stores do; gaps. -/
import Derived.Test.YtbkegflipglioaaGreatSgA
set_option maxRecDepth 20000
namespace Go.SX.Y.Sg
open Go.SX Go.SX.Y
def lo (v k : Int) : Int := rrq (slq (cvq (cvw (srq k 32) 0) 0) 32) (cvq v 0)
def hi (v k : Int) : Int := rrq (slq (cvq v 0) 32) (cvq (cvw k 0) 0)
def a0 (h : Int) : Int := adw (cvw (adi 33570816 (sli h 3)) 0) 0
def a4 (h : Int) : Int := adw (cvw (adi 33570816 (sli h 3)) 0) 4
structure Sto (n h : Int) : Prop where
  s0 : ∀ t d v r l, Mo.uStore_v1 (a0 h) v (B t n h d r l) = B t n h (lo v d) r l
  s4 : ∀ t d v r l, Mo.uStore_v1 (a4 h) v (B t n h d r l) = B t n h (hi v d) r l
  e0 : ∀ t d, Mo.kStore_v1 (sbw (a0 h) 33554432) (K t n h d) = 0
  e4 : ∀ t d, Mo.kStore_v1 (sbw (a4 h) 33554432) (K t n h d) = 0
  p0 : ∀ t d r l, Mo.uStore_pre (a0 h) (B t n h d r l)
  p4 : ∀ t d r l, Mo.uStore_pre (a4 h) (B t n h d r l)
theorem sto {n h : Int} (h0 : 0 ≤ h) (h1 : h < n) (h2 : n ≤ 8) : Sto n h := by
  have hn : n = 1 ∨ n = 2 ∨ n = 3 ∨ n = 4 ∨ n = 5 ∨ n = 6 ∨ n = 7 ∨ n = 8 := by omega
  have hh : h = 0 ∨ h = 1 ∨ h = 2 ∨ h = 3 ∨ h = 4 ∨ h = 5 ∨ h = 6 ∨ h = 7 := by omega
  have np : (1 : Int) ≤ n ∧ n ≤ 8 := ⟨by omega, h2⟩
  rcases hn with rfl | rfl | rfl | rfl | rfl | rfl | rfl | rfl <;> rcases hh with rfl | rfl | rfl | rfl | rfl | rfl | rfl | rfl <;>
    first
    | (exfalso; omega)
    | exact ⟨fun t d v r l => by kernel_rfl, fun t d v r l => by kernel_rfl, fun t d => by kernel_rfl, fun t d => by kernel_rfl,
        fun t d r l => Eq.mpr (by kernel_rfl) (And.intro np trivial),
        fun t d r l => Eq.mpr (by kernel_rfl) (And.intro np trivial)⟩
theorem cmp {n h x : Int} (x0 : 0 ≤ x) (x1 : x < n) (h2 : n ≤ 8) (t d : Int) : Mo.kCompare_v1 x (K t n h d) = kk h d x ∧ Mo.kLine_v1 x (K t n h d) = iM (kk h d x) t ∧ Mo.kCompare_pre x (K t n h d) ∧ Mo.kLine_pre x (K t n h d) := by
  have hx : x = 0 ∨ x = 1 ∨ x = 2 ∨ x = 3 ∨ x = 4 ∨ x = 5 ∨ x = 6 ∨ x = 7 := by omega
  have c1 : iL x (Mo.Cl.n (K t n h d)) = true := by rw [iL_eq]; exact x1
  have c2 : (stdQ QO.not true true = true) = False := by simp [stdQ]
  have c3 : (iM 0 x = true) = True := by rw [iM_eq]; exact eq_true x0
  have c4 : (iL x 8 = true) = True := by rw [iL_eq]; exact eq_true (by omega)
  unfold Mo.kCompare_v1 Mo.kLine_v1 Mo.kCompare_pre Mo.kLine_pre
  simp only [c1, c2, c3, c4, if_true, if_false, and_true]
  rcases hx with rfl | rfl | rfl | rfl | rfl | rfl | rfl | rfl <;> exact ⟨by kernel_rfl, by kernel_rfl⟩
theorem fin {d D : Int} (d0 : 0 ≤ D) (d1 : D < 18446744073709551616) : lo (cvw D 0) (hi (cvw (srq D 32) 0) (lo 4294967295 d)) = D := by
  have e1 : cvw (srq D 32) 0 = D / 4294967296 := by
    rw [srq32 _ d0, cvw_eq]; omega
  have e2 : cvw D 0 = D % 4294967296 := rfl
  have lw : ∀ k : Int, 0 ≤ cvw k 0 ∧ cvw k 0 < 4294967296 := fun k => by
    rw [cvw_eq]; omega
  have e3 : hi (cvw (srq D 32) 0) (lo 4294967295 d) = D / 4294967296 * 4294967296 + cvw (lo 4294967295 d) 0 := by
    unfold hi
    rw [e1]
    exact join_eq (by omega) (by omega) (lw _).1 (lw _).2
  rw [e3, e2]
  unfold lo
  have q := lw (lo 4294967295 d)
  have e4 : srq (D / 4294967296 * 4294967296 + cvw (rrq (slq (cvq (cvw (srq d 32) 0) 0) 32) (cvq 4294967295 0)) 0) 32 = D / 4294967296 := by
    rw [srq32 _ (by unfold lo at q; omega)]; unfold lo at q; omega
  rw [e4]
  have e5 : cvw (D / 4294967296) 0 = D / 4294967296 := by rw [cvw_eq]; omega
  rw [e5, join_eq (by omega) (by omega) (by omega) (by omega)]
  omega
/-! Gaps. -/
theorem gap {b : Mo.Bd} {n h d made spent : Int} {gs : List (List Int)} (hI : Inv b n h d) (hn : n ≤ 8) (hm : 0 ≤ made) (hs : 0 ≤ spent) : Mo.pgap_pre made spent n gs b ∧ 0 ≤ Mo.pgap_v1 made spent gs ∧ Inv (Mo.pgap_v2 made n gs b) n h d := by
  have hv : 0 ≤ Mo.pgap_v1 made spent gs := by
    unfold Mo.pgap_v1
    repeat' split
    all_goals first | exact Int.emod_nonneg _ (by decide) | decide
  refine ⟨?_, hv, ?_⟩
  · unfold Mo.pgap_pre
    by_cases c : iL 0 (castI (lenR gs)) = true
    · have c' : (0 : Int) < castI (lenR gs) := by rw [iL_eq] at c; exact c
      have rm : rmi made (castI (lenR gs)) = made % castI (lenR gs) := Int.tmod_eq_emod_of_nonneg hm
      have nn : (0 : Int) ≤ cvq (elI gs (Int.toNat (rmi made (castI (lenR gs)))) 0) 0 := Int.emod_nonneg _ (by decide)
      rw [if_pos c, if_pos (by rw [iN_eq]; omega), if_pos (by rw [iM_eq, rm]; exact Int.emod_nonneg _ (by omega)), if_pos (by rw [iL_eq, rm]; exact Int.emod_lt_of_pos _ c')]
      exact ⟨⟨hs, nn⟩, (tick hI hn nn).1⟩
    · rw [if_neg c]
      exact ⟨⟨hs, Int.le_refl 0⟩, (tick hI hn (Int.le_refl 0)).1⟩
  · unfold Mo.pgap_v2
    split
    · exact (tick hI hn (Int.emod_nonneg _ (by decide))).2
    · exact (tick hI hn (Int.le_refl 0)).2
theorem put {b : Mo.Bd} {n h d d' a v made spent : Int} {gs : List (List Int)} (hI : Inv b n h d) (hn : n ≤ 8) (hm : 0 ≤ made) (hs : 0 ≤ spent)
    (h1 : ∀ t r l, Mo.uStore_v1 a v (B t n h d r l) = B t n h d' r l) (h2 : ∀ t r l, Mo.uStore_pre a (B t n h d r l)) (h3 : ∀ t, Mo.kStore_v1 (sbw a 33554432) (K t n h d) = 0) :
    Mo.pStore_pre a v made spent n gs b ∧ Inv (Mo.pStore_v1 a v made n gs b) n h d' ∧ 0 ≤ Mo.pgap_v1 made spent gs ∧ Mo.kStore_v1 (sbw a 33554432) (Mo.Bd.k (Mo.pgap_v2 made n gs b)) = 0 := by
  obtain ⟨g1, g2, t, r, l, g3, ht, hr⟩ := gap (gs := gs) hI hn hm hs
  obtain ⟨s1, l', s2⟩ := settle n t h d' r l hn
  unfold Mo.pStore_pre Mo.pStore_v1 Mo.dStore_pre Mo.dStore_v1
  rw [g3, h1, s2]
  exact ⟨⟨g1, h2 t r l, s1⟩, ⟨_, _, _, rfl, ht, hr⟩, g2, h3 t⟩
end Go.SX.Y.Sg
