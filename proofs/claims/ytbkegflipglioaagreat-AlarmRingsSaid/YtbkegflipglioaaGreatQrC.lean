/- The law AlarmRings, in plain numbers. -/
import Derived.Test.YtbkegflipglioaaGreatQrB
import Derived.Test.YtbkegflipglioaaGreatArK
set_option maxRecDepth 20000
namespace Go.SX.Y.Pl
open Go.SX Go.SX.Y
theorem lohi {x : Int} (h0 : 0 ≤ x) (h1 : x < 18446744073709551616) : rrq (slq (cvq (cvw (srq x 32) 0) 0) 32) (cvq (cvw x 0) 0) = (x / 4294967296) * 4294967296 + x % 4294967296 := by
  rw [srq32 _ h0]
  have e1 : cvw (x / 4294967296) 0 = x / 4294967296 := by rw [cvw_eq]; omega
  have e2 : cvw x 0 = x % 4294967296 := cvw_eq _ _
  rw [e1, e2, join_eq (by omega) (by omega) (by omega) (by omega)]
theorem secG (t h T s al dv : Int) (en ra : Bool) : Mo.Rt.sec (Mo.Bd.t (Q t (RG T s al dv en ra) h)) = T / dv := rfl
theorem highG (t h : Int) (r : Mo.Rt) : Mo.Ln.high (Mo.Bd.l (Q t r h)) = h := rfl
theorem tG (t h : Int) (r : Mo.Rt) : Mo.Bd.t (Q t r h) = r := rfl
theorem secs0 {T s al dv t h : Int} {en ra : Bool} (hk : RTok T dv) (ht : 0 ≤ t) : ∃ t' a, 0 ≤ t' ∧ Mo.aSec_v1 (Q t (RG T s al dv en ra) h) = T / dv ∧ Mo.aSec_v4 (Q t (RG T s al dv en ra) h) = Q t' (RG T s al dv en ra) (hiB a ra) ∧ (∀ spent, 0 ≤ spent → Mo.aSec_pre spent (Q t (RG T s al dv en ra) h) ∧ 0 ≤ Mo.aSec_v3 spent (Q t (RG T s al dv en ra) h)) := by
  obtain ⟨t1, a1, k1, e1, p1⟩ := tick0 (s := s) (al := al) (h := h) (en := en) (ra := ra) hk ht
  obtain ⟨t2, a2, k2, e2, p2⟩ := tick0 (s := s) (al := al) (h := hiB a1 ra) (en := en) (ra := ra) hk k1
  obtain ⟨t3, a3, k3, e3, p3⟩ := tick0 (s := s) (al := al) (h := hiB a2 ra) (en := en) (ra := ra) hk k2
  have f1 : Mo.pLoad4_v2 (Q t (RG T s al dv en ra) h) = _ := e1
  have f2 : Mo.pLoad0_v2 (Q t1 (RG T s al dv en ra) (hiB a1 ra)) = _ := e2
  have f3 : Mo.pLoad4_v2 (Q t2 (RG T s al dv en ra) (hiB a2 ra)) = _ := e3
  have x0 : 0 ≤ T / dv := Int.ediv_nonneg hk.lo (Int.le_of_lt hk.d0)
  refine ⟨t3, a3, k3, ?_, ?_, fun spent hs => ⟨?_, ?_⟩⟩
  · unfold Mo.aSec_v1
    simp only [f1, f2, e1, e2, e3, secG, iE_eq, if_true]
    rw [lohi x0 hk.hi]; omega
  · unfold Mo.aSec_v4
    simp only [f1, f2, f3, e1, e3, secG, iE_eq, if_true]
  · unfold Mo.aSec_pre
    simp only [f1, f2, e1, e3, secG, iE_eq, if_true, and_true]
    exact ⟨⟨⟨hs, Int.le_refl _⟩, p1⟩, ⟨⟨sl_4 _, Int.le_refl _⟩, p2⟩, ⟨⟨sl_0 _, Int.le_refl _⟩, p3⟩⟩
  · unfold Mo.aSec_v3
    simp only [f1, f2, e1, e3, secG, iE_eq, if_true]
    exact sl_4 _
theorem b0 (D : Int) : ∃ h, Mo.dWire_v1 (Mo.Bd.mk (Mo.kReset_v1 (Mo.Cl.mk 0 0 0 0 0 0 0 0 0 0 0 0 0 0 0 0 0 1)) (Mo.Wd.mk false false false 0 0 0 0) (Mo.Rt.mk 0 0 0 0 false false D) (Mo.Rs.mk 1 0 0 1 false) (Mo.Ln.mk 0 0) (Mo.Cnt.mk 0 0 0 0 0)) = Q 0 (RG 0 0 0 D false false) h ∧ Mo.dNew_pre D := by
  have e : (Mo.Bd.mk (Mo.kReset_v1 (Mo.Cl.mk 0 0 0 0 0 0 0 0 0 0 0 0 0 0 0 0 0 1)) (Mo.Wd.mk false false false 0 0 0 0) (Mo.Rt.mk 0 0 0 0 false false D) (Mo.Rs.mk 1 0 0 1 false) (Mo.Ln.mk 0 0) (Mo.Cnt.mk 0 0 0 0 0)) = Q 0 (RG 0 0 0 D false false) 0 := by
    unfold RG
    rw [Int.zero_ediv, Int.zero_emod]
    rfl
  refine ⟨_, by rw [e]; exact wire_Q _ _ _, ?_⟩
  unfold Mo.dNew_pre
  split
  · trivial
  · rw [e]; exact wirepre_Q _ _ _
/-- What is armed. -/
theorem arm {T s D t h A : Int} (hk : RTok T D) (ht : 0 ≤ t) (a0 : 0 ≤ A) (a1 : A < 1099511627776) : ∃ t' a, 0 ≤ t' ∧ Mo.aArm_v1 A (Q t (RG T s 0 D false false) h) = Q t' (RG T s A D true (decide (A ≤ T / D))) (hiB a (decide (A ≤ T / D))) ∧ ∀ spent, 0 ≤ spent → Mo.aArm_pre A spent (Q t (RG T s 0 D false false) h) := by
  obtain ⟨t1, x1, k1, e1, p1⟩ := put_24 (s := s) (al := 0) (h := h) (v := 0) (en := false) (ra := false) hk ht (st24a T s 0 D false false)
  obtain ⟨t2, x2, k2, e2, p2⟩ := put_16 (s := s) (al := 0) (h := hiB x1 false) (v := cvw A 0) (en := false) (ra := false) hk k1 (st16 T s 0 D (cvw A 0) false)
  have z0 : rrq (slq (cvq (cvw (srq 0 32) 0) 0) 32) (cvq (cvw A 0) 0) = A % 4294967296 := by
    have w : cvw A 0 = A % 4294967296 := cvw_eq _ _
    have w0 : cvw (srq 0 32) 0 = 0 := by kernel_rfl
    rw [w0, w, join_eq (by omega) (by omega) (by omega) (by omega)]; omega
  rw [z0] at e2
  obtain ⟨t3, x3, k3, e3, p3⟩ := put_20 (s := s) (al := A % 4294967296) (h := hiB x2 false) (v := cvw (srq A 32) 0) (en := false) (ra := false) hk k2 (st20 T s (A % 4294967296) D (cvw (srq A 32) 0) false)
  have z1 : rrq (slq (cvq (cvw (srq A 32) 0) 0) 32) (cvq (cvw (A % 4294967296) 0) 0) = A := by
    have w : cvw (A % 4294967296) 0 = A % 4294967296 := by rw [cvw_eq]; omega
    have w2 : cvw (srq A 32) 0 = A / 4294967296 := by rw [srq32 _ a0, cvw_eq]; omega
    rw [w, w2, join_eq (by omega) (by omega) (by omega) (by omega)]; omega
  rw [z1] at e3
  obtain ⟨t4, x4, k4, e4, p4⟩ := put_24 (s := s) (al := A) (h := hiB x3 false) (v := 1) (en := false) (ra := false) hk k3 (st24b T s A D false)
  rw [Bool.false_or] at e4
  refine ⟨t4, x4, k4, by unfold Mo.aArm_v1; rw [e1, e2, e3, e4], fun spent hs => ?_⟩
  unfold Mo.aArm_pre
  rw [e1, e2, e3]
  exact ⟨p1 _ hs, p2 _ (sp_24 _), p3 _ (sp_16 _), p4 _ (sp_20 _)⟩
/-- What is taken, where it rings; and where it doesn't. -/
theorem takeY {T s D t h A : Int} (hk : RTok T D) (ht : 0 ≤ t) (g : A ≤ T / D) : ∃ t' a, 0 ≤ t' ∧ Mo.aTake_v1 (Q t (RG T s A D true true) h) = true ∧ Mo.aTake_v4 (Q t (RG T s A D true true) h) = Q t' (RG T s A D true false) (hiB a false) ∧ ∀ spent, 0 ≤ spent → Mo.aTake_pre spent (Q t (RG T s A D true true) h) ∧ 0 ≤ Mo.aTake_v3 spent (Q t (RG T s A D true true) h) := by
  obtain ⟨t1, x1, k1, e1, p1⟩ := tick0 (s := s) (al := A) (h := h) (en := true) (ra := true) hk ht
  have f1 : Mo.pLoad28_v2 (Q t (RG T s A D true true) h) = _ := e1
  obtain ⟨t2, x2, k2, e2, p2⟩ := put_28 (s := s) (al := A) (h := hiB x1 true) (v := 1) (en := true) (ra := true) hk k1 (st28a g)
  have n1 : (iN (Mo.tLoad28_v1 (RG T s A D true true)) 1 = true) = False := by rw [iN_eq, ld28]; simp
  refine ⟨t2, x2, k2, ?_, ?_, fun spent hs => ⟨?_, ?_⟩⟩
  · unfold Mo.aTake_v1; simp only [e1, tG, n1, if_false]
  · unfold Mo.aTake_v4; simp only [e1, tG, n1, if_false, f1, e2]
  · unfold Mo.aTake_pre; simp only [e1, tG, n1, if_false, f1]
    exact ⟨⟨⟨hs, Int.le_refl _⟩, p1⟩, p2 _ (sl_28 _)⟩
  · unfold Mo.aTake_v3; simp only [e1, tG, n1, if_false]
    exact sp_28 _
theorem takeN {T s D t h A : Int} {en : Bool} (hk : RTok T D) (ht : 0 ≤ t) : ∃ t' a, 0 ≤ t' ∧ Mo.aTake_v1 (Q t (RG T s A D en false) h) = false ∧ Mo.aTake_v4 (Q t (RG T s A D en false) h) = Q t' (RG T s A D en false) (hiB a false) ∧ ∀ spent, 0 ≤ spent → Mo.aTake_pre spent (Q t (RG T s A D en false) h) ∧ 0 ≤ Mo.aTake_v3 spent (Q t (RG T s A D en false) h) := by
  obtain ⟨t1, x1, k1, e1, p1⟩ := tick0 (s := s) (al := A) (h := h) (en := en) (ra := false) hk ht
  have f1 : Mo.pLoad28_v2 (Q t (RG T s A D en false) h) = _ := e1
  have n1 : (iN (Mo.tLoad28_v1 (RG T s A D en false)) 1 = true) = True := by rw [iN_eq, ld28]; simp
  refine ⟨t1, x1, k1, ?_, ?_, fun spent hs => ⟨?_, ?_⟩⟩
  · unfold Mo.aTake_v1; simp only [e1, tG, n1, if_true]
  · unfold Mo.aTake_v4; simp only [e1, tG, n1, if_true, f1]
  · unfold Mo.aTake_pre; simp only [e1, tG, n1, if_true]
    exact ⟨⟨⟨hs, Int.le_refl _⟩, p1⟩, trivial⟩
  · unfold Mo.aTake_v3; simp only [e1, tG, n1, if_true]
    exact sl_28 _
theorem off {T s D t h A : Int} {en : Bool} (hk : RTok T D) (ht : 0 ≤ t) : ∀ spent, 0 ≤ spent → Mo.aOff_pre spent (Q t (RG T s A D en false) h) := by
  intro spent hs
  obtain ⟨t1, x1, k1, e1, p1⟩ := put_24 (s := s) (al := A) (h := h) (v := 0) (en := en) (ra := false) hk ht (st24a T s A D en false)
  obtain ⟨t2, x2, k2, e2, p2⟩ := put_28 (s := s) (al := A) (h := hiB x1 false) (v := 1) (en := false) (ra := false) hk k1 (st28b T s A D false)
  unfold Mo.aOff_pre
  rw [e1]
  exact ⟨p1 _ hs, p2 _ (sp_24 _)⟩
end Go.SX.Y.Pl
