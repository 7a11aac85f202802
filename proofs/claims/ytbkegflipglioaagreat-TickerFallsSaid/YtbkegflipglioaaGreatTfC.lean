/- TickerFalls, plain part: accesses of the port to the timer. -/
import Derived.Test.YtbkegflipglioaaGreatTfB
set_option maxRecDepth 20000
namespace Go.SX.Y.Tf
open Go.SX Go.SX.Y
theorem wrap64 {x : Int} (h0 : 0 ≤ x) (h1 : x < 9223372036854775808) : IntKind.i64.wrap x = x := by
  obtain ⟨n, rfl⟩ := Int.eq_ofNat_of_zero_le h0
  exact wrap_fit .i64 n (by simp only [maxN]; omega)
theorem adi_small {x y : Int} (h0 : 0 ≤ x + y) (h1 : x + y < 9223372036854775808) : adi x y = x + y := wrap64 h0 h1
/-! The bus. -/
theorem uS_0 (v t : Int) (r : Mo.Rt) (l : Mo.Ln) (c : Mo.Cnt) : Mo.uStore_v2 268500992 v (Q t r l c) 1 = Q t r l { c with ld := v } := by
  refine Eq.trans (b := { Q t r l c with n := Mo.nStore_v2 (sbw 268500992 268500992) v 1 ⟨c⟩ }) (by kernel_rfl) ?_
  unfold Mo.nStore_v2
  rw [castI_eq]
  kernel_rfl
theorem uS_12 (v t : Int) (r : Mo.Rt) (l : Mo.Ln) (c : Mo.Cnt) : Mo.uStore_v2 268501004 v (Q t r l c) 1 = Q t r l { c with st := nnw c.st (anw v 1) } := by
  refine Eq.trans (b := { Q t r l c with n := Mo.nStore_v2 (sbw 268501004 268500992) v 1 ⟨c⟩ }) (by kernel_rfl) ?_
  unfold Mo.nStore_v2
  rw [castI_eq]
  kernel_rfl
noncomputable def ctl (v : Int) (c : Mo.Cnt) : Mo.Cnt := if (iN (anw (anw v 65287) 1) 0 = true) then (if (stdQ QO.not (iN (anw c.ct 1) 0) (iN (anw c.ct 1) 0)) = true then { c with va := c.ld, ct := (anw v 65287), ph := 0 } else { c with ct := (anw v 65287), ph := 0 }) else { c with ct := (anw v 65287), ph := 0 }
theorem uS_8 (v t : Int) (r : Mo.Rt) (l : Mo.Ln) (c : Mo.Cnt) : Mo.uStore_v2 268501000 v (Q t r l c) 1 = Q t r l (ctl v c) := by
  refine Eq.trans (b := { Q t r l c with n := Mo.nStore_v2 (sbw 268501000 268500992) v 1 ⟨c⟩ }) (by kernel_rfl) ?_
  unfold Mo.nStore_v2
  rw [castI_eq]
  kernel_rfl
theorem uSe_0 (t : Int) (r : Mo.Rt) (l : Mo.Ln) (c : Mo.Cnt) : Mo.uStore_v1 268500992 (Q t r l c) 1 = 0 := by
  refine Eq.trans (b := Mo.nStore_v1 (sbw 268500992 268500992) 1) (by kernel_rfl) ?_
  unfold Mo.nStore_v1
  rw [castI_eq]
  kernel_rfl
theorem uSe_12 (t : Int) (r : Mo.Rt) (l : Mo.Ln) (c : Mo.Cnt) : Mo.uStore_v1 268501004 (Q t r l c) 1 = 0 := by
  refine Eq.trans (b := Mo.nStore_v1 (sbw 268501004 268500992) 1) (by kernel_rfl) ?_
  unfold Mo.nStore_v1
  rw [castI_eq]
  kernel_rfl
theorem uSe_8 (t : Int) (r : Mo.Rt) (l : Mo.Ln) (c : Mo.Cnt) : Mo.uStore_v1 268501000 (Q t r l c) 1 = 0 := by
  refine Eq.trans (b := Mo.nStore_v1 (sbw 268501000 268500992) 1) (by kernel_rfl) ?_
  unfold Mo.nStore_v1
  rw [castI_eq]
  kernel_rfl
theorem uL_4 (t : Int) (r : Mo.Rt) (l : Mo.Ln) (c : Mo.Cnt) : Mo.uLoad_v1 268500996 (Q t r l c) 1 = c.va := by
  refine Eq.trans (b := (if ((iN (Mo.nLoad_v2 (sbw 268500996 268500992) 1) 0) = true) then 0 else (Mo.nLoad_v1 (sbw 268500996 268500992) 1 ⟨c⟩))) (by kernel_rfl) ?_
  unfold Mo.nLoad_v2 Mo.nLoad_v1
  rw [castI_eq]
  kernel_rfl
theorem uLe_4 (t : Int) (r : Mo.Rt) (l : Mo.Ln) (c : Mo.Cnt) : Mo.uLoad_v2 268500996 (Q t r l c) 1 = 0 := by
  refine Eq.trans (b := (if ((iN (Mo.nLoad_v2 (sbw 268500996 268500992) 1) 0) = true) then (Mo.nLoad_v2 (sbw 268500996 268500992) 1) else 0)) (by kernel_rfl) ?_
  unfold Mo.nLoad_v2
  rw [castI_eq]
  kernel_rfl
theorem t01 : (iL 0 (castI 1) = true) := by rw [c01]; trivial
theorem nl (p : Prop) (x y : Int) (h : y ≤ x) : (iL x y = true) = False := by rw [iL_eq]; exact eq_false (by omega)
theorem nSp (k : Int) (h : (if ((iN (rmw k 4) 0) = true) then True else (if ((iM 1 (cvi (srw k 5) 0)) = true) then True else (if ((iM 16 (srw (anw k 31) 0)) = true) then True else (if ((iM 0 (cvi (srw k 5) 0)) = true) then (if ((iL (cvi (srw k 5) 0) 1) = true) then (((iL 0 1) = true) ∧ ((iL 0 1) = true)) else False) else False)))) = (((iL 0 1) = true) ∧ ((iL 0 1) = true))) : Mo.nStore_pre k 1 := by
  unfold Mo.nStore_pre
  rw [castI_eq]
  refine Eq.mpr h ?_
  rw [iL_eq]; decide
theorem uSp_0 (t : Int) (r : Mo.Rt) (l : Mo.Ln) (c : Mo.Cnt) : Mo.uStore_pre 268500992 (Q t r l c) 1 := Eq.mpr (β := Mo.nStore_pre 0 1) (by kernel_rfl) (nSp 0 (by kernel_rfl))
theorem uSp_8 (t : Int) (r : Mo.Rt) (l : Mo.Ln) (c : Mo.Cnt) : Mo.uStore_pre 268501000 (Q t r l c) 1 := Eq.mpr (β := Mo.nStore_pre 8 1) (by kernel_rfl) (nSp 8 (by kernel_rfl))
theorem uSp_12 (t : Int) (r : Mo.Rt) (l : Mo.Ln) (c : Mo.Cnt) : Mo.uStore_pre 268501004 (Q t r l c) 1 := Eq.mpr (β := Mo.nStore_pre 12 1) (by kernel_rfl) (nSp 12 (by kernel_rfl))
theorem uLp_4 (t : Int) (r : Mo.Rt) (l : Mo.Ln) (c : Mo.Cnt) : Mo.uLoad_pre 268500996 (Q t r l c) 1 := by
  refine Eq.mpr (β := Mo.nLoad_pre 4 1) (by kernel_rfl) ?_
  unfold Mo.nLoad_pre
  rw [castI_eq]
  refine Eq.mpr (β := ((iL 0 1 = true) ∧ (True ∧ (iL 0 1 = true)))) (by kernel_rfl) ?_
  rw [iL_eq]; decide
/-! Accesses behind no gap. -/
structure Z (c : Mo.Cnt) : Prop where
  eq : Mo.cTick_v1 0 c = c
  pre : Mo.cTick_pre 0 c
theorem Z.run {ld sc va st ph : Int} {ag : Bool} (h0 : 0 ≤ sc) (h1 : sc < 256) (hp : 0 ≤ ph) (hs : ph ≤ sc) : Z (C ld sc ag va st ph) := by
  have h := tick_lo (ld := ld) (va := va) (st := st) (ag := ag) h0 h1 (Int.le_refl 0) hp (by omega)
  rw [Int.add_zero] at h
  exact ⟨h.1, h.2⟩
theorem Z.off {c : Mo.Cnt} (h : anw c.ct 1 = 0) : Z c := ⟨(tick_off h 0).1, (tick_off h 0).2⟩
theorem d0 : castI (lenR (Mo.dResets_v1 [])) = 0 := by
  have : Mo.dResets_v1 [] = [] := by unfold Mo.dResets_v1; split <;> rfl
  rw [this, l0]
theorem n00 : (iN 0 0 = true) = False := by rw [iN_eq]; simp
theorem dpre : Mo.pDown_pre [] := by
  unfold Mo.pDown_pre Mo.dResets_pre
  rw [l0, if_pos (by rw [iE_eq])]; trivial
theorem gap_nn (x : Int) : 0 ≤ Mo.pgap_v1 x := by
  have e : Mo.pgap_v1 x = sat (x + 0) := by unfold Mo.pgap_v1 sat; simp only [iE_eq]
  rw [e]; exact sat_nonneg
structure Acc0 (b : Mo.Bd) (spent : Int) : Prop where
  g : Mo.pgap_pre spent 1 [] b 1 []
  r : Mo.dTick_v1 0 1 b 1 [] = []
theorem acc0 {b : Mo.Bd} {c : Mo.Cnt} {spent : Int} (h : Inv b c) (z : Z c) (hs : 0 ≤ spent) : Acc0 b spent ∧ Inv (Mo.pgap_v2 1 b 1) c := by
  obtain ⟨t1, t2, t3⟩ := tick_Q h (Int.le_refl 0) z.pre
  rw [z.eq] at t3
  refine ⟨⟨?_, t2⟩, t3⟩
  unfold Mo.pgap_pre
  rw [l0, if_neg (by rw [iL_eq]; simp)]
  exact ⟨⟨hs, Int.le_refl 0⟩, t1⟩
theorem load4 {b : Mo.Bd} {c : Mo.Cnt} {spent : Int} (h : Inv b c) (z : Z c) (hs : 0 ≤ spent) :
    Mo.pLoad_v1 268500996 0 1 b 1 [] = c.va ∧ Mo.pLoad_v2 268500996 0 1 b 1 [] = 0 ∧ Mo.pLoad_v5 0 1 b 1 [] = [] ∧ Inv (Mo.pLoad_v6 0 1 b 1 []) c ∧ 0 ≤ Mo.pLoad_v4 spent 0 [] ∧ Mo.pLoad_pre 268500996 spent 0 1 [] b 1 [] := by
  obtain ⟨a, i⟩ := acc0 h z hs
  unfold Mo.pLoad_v1 Mo.pLoad_v2 Mo.pLoad_v5 Mo.pLoad_v6 Mo.pLoad_v4 Mo.pLoad_pre Mo.dLoad_pre
  simp only [Mo.pgap_e2, Mo.pLoad_e1, d0, n00, if_false, a.r]
  have a1 := a.g
  generalize Mo.pgap_v2 1 b 1 = b' at i ⊢
  obtain ⟨t, r, l, rfl, ht, hr⟩ := i
  exact ⟨uL_4 t r l c, uLe_4 t r l c, trivial, ⟨t, r, l, rfl, ht, hr⟩, gap_nn _, dpre, a1, dpre, uLp_4 t r l c, dpre⟩
theorem store {b : Mo.Bd} {c c' : Mo.Cnt} {spent a v : Int} (h : Inv b c) (z : Z c) (hs : 0 ≤ spent)
    (h1 : ∀ t r l, Mo.uStore_v1 a (Q t r l c) 1 = 0) (h2 : ∀ t r l, Mo.uStore_v2 a v (Q t r l c) 1 = Q t r l c') (h3 : ∀ t r l, Mo.uStore_pre a (Q t r l c) 1) :
    Mo.pStore_v1 a v 0 1 b 1 [] = 0 ∧ Mo.pStore_v4 a v 0 1 b 1 [] = [] ∧ Inv (Mo.pStore_v5 a v 0 1 b 1 []) c' ∧ 0 ≤ Mo.pStore_v3 spent 0 [] ∧ Mo.pStore_pre a v spent 0 1 [] b 1 [] := by
  obtain ⟨x, i⟩ := acc0 h z hs
  unfold Mo.pStore_v1 Mo.pStore_v4 Mo.pStore_v5 Mo.pStore_v3 Mo.pStore_pre Mo.dStore_pre
  simp only [Mo.pgap_e2, Mo.pStore_e1, Mo.pStore_e2, Mo.dStore_v1, Mo.dStore_e1, Mo.dStore_e2, Mo.dStore_e3, d0, n00, if_false, x.r]
  have a1 := x.g
  generalize Mo.pgap_v2 1 b 1 = b' at i ⊢
  obtain ⟨t, r, l, rfl, ht, hr⟩ := i
  obtain ⟨s1, s2, l', s3⟩ := settle_Q t r l c'
  simp only [h2, h1, s2, s3, d0, n00, if_false]
  exact ⟨trivial, trivial, ⟨t, r, l', rfl, ht, hr⟩, gap_nn _, dpre, a1, dpre, ⟨h3 t r l, s1⟩, dpre⟩
end Go.SX.Y.Tf
