/- ShotArms, plain part: the law. -/
import Derived.Test.YtbkegflipglioaaGreatSgB
set_option maxRecDepth 20000
namespace Go.SX.Y.Sg
open Go.SX Go.SX.Y
theorem wrap64 {x : Int} (h0 : 0 ≤ x) (h1 : x < 9223372036854775808) : IntKind.i64.wrap x = x := by
  obtain ⟨n, rfl⟩ := Int.eq_ofNat_of_zero_le h0
  exact wrap_fit .i64 n (by simp only [maxN]; omega)
theorem adi_small {x y : Int} (h0 : 0 ≤ x + y) (h1 : x + y < 9223372036854775808) : adi x y = x + y := wrap64 h0 h1
theorem n00 : (iN 0 0 = true) = False := by rw [iN_eq]; simp
theorem same (x : Int) : (iE x x = true) = True := by rw [iE_eq]; simp
theorem nsame (x : Int) : (iN x x = true) = False := by rw [iN_eq]; simp
theorem kkh (h d : Int) : kk h d h = d := if_pos rfl
structure Arm (n h made spent D : Int) (gs : List (List Int)) (b : Mo.Bd) : Prop where
  p : Mo.sArm_pre D h made spent n gs b
  v1 : Mo.sArm_v1 D h made n gs b = 0
  v2 : Mo.sArm_v2 D h made n gs b = D
  v3 : Mo.sArm_v3 h made n gs b = made + 3
  v4 : 0 ≤ Mo.sArm_v4 h made spent n gs b
  v5 : Inv (Mo.sArm_v5 D h made n gs b) n h D
theorem arm {n h d D made spent : Int} {gs : List (List Int)} {b : Mo.Bd} (h0 : 0 ≤ h) (h1 : h < n) (h2 : n ≤ 8) (hI : Inv b n h d) (hm : 0 ≤ made) (hm2 : made < 1000) (hs : 0 ≤ spent) (d0 : 0 ≤ D) (d1 : D < 18446744073709551616) : Arm n h made spent D gs b := by
  have S := sto h0 h1 h2
  have m1 : adi made 1 = made + 1 := adi_small (by omega) (by omega)
  have m2 : adi (adi made 1) 1 = made + 2 := by rw [m1, adi_small (by omega) (by omega)]; omega
  have m3 : adi (adi (adi made 1) 1) 1 = made + 3 := by rw [m2, adi_small (by omega) (by omega)]; omega
  obtain ⟨p1, p2, p3, p4⟩ := put (gs := gs) (a := a0 h) (v := 4294967295) (d' := lo 4294967295 d) hI h2 hm hs (fun t r l => S.s0 t d _ r l) (fun t r l => S.p0 t d r l) (fun t => S.e0 t d)
  obtain ⟨q1, q2, q3, q4⟩ := put (gs := gs) (made := adi made 1) (spent := Mo.pgap_v1 made spent gs) (a := a4 h) (v := cvw (srq D 32) 0) (d' := hi (cvw (srq D 32) 0) (lo 4294967295 d)) p2 h2 (by omega) p3 (fun t r l => S.s4 t _ _ r l) (fun t r l => S.p4 t _ r l) (fun t => S.e4 t _)
  obtain ⟨r1, r2, r3, r4⟩ := put (gs := gs) (made := adi (adi made 1) 1) (spent := Mo.pgap_v1 (adi made 1) (Mo.pgap_v1 made spent gs) gs) (a := a0 h) (v := cvw D 0) (d' := D) q2 h2 (by omega) q3 (fun t r l => (S.s0 t _ _ r l).trans (by rw [fin d0 d1])) (fun t r l => S.p0 t _ r l) (fun t => S.e0 t _)
  have E3 : Mo.sArm_e3 h made n gs b = 0 := p4
  have E8 : Mo.sArm_e8 h made n gs b = 0 := q4
  have E6 : Mo.sArm_e6 D h made n gs b = 0 := r4
  have E2 : 0 ≤ Mo.sArm_e2 made spent gs := r3
  refine ⟨?_, ?_, ?_, ?_, ?_, ?_⟩
  · unfold Mo.sArm_pre
    simp only [E3, E8, n00, if_false]
    exact ⟨p1, q1, r1⟩
  · unfold Mo.sArm_v1
    simp only [E3, E8, E6, n00, if_false]
  · unfold Mo.sArm_v2
    simp only [E3, E8, E6, n00, same, if_false, if_true]
  · unfold Mo.sArm_v3
    simp only [E3, E8, n00, if_false, m3]
  · unfold Mo.sArm_v4
    simp only [E3, E8, n00, if_false]
    exact E2
  · unfold Mo.sArm_v5
    simp only [E3, E8, n00, if_false]
    exact r2
theorem pm (x y : Int) : Mo.pMade_v1 x y = x := by
  unfold Mo.pMade_v1
  split
  · rename_i g
    cases g1 : iE x 0
    · rw [g1] at g; simp [stdQ] at g
    · rw [iE_eq] at g1; exact g1.symm
  · rfl
theorem eqN {c d : Bool} (h : c = d) : (stdQ QO.not (stdQ QO.eq c d) (stdQ QO.eq c d) = true) = False := by
  subst h
  cases c <;> simp [stdQ]
theorem inner {n h d i made spent armed : Int} {ga xs gs : List (List Int)} {b : Mo.Bd} (K : S → List Ob → Prop) (h2 : n ≤ 8) (hI : Inv b n h d)
    (hL : shotArms_L0 n h (adi i 1) ga xs made spent h armed n 10 gs b K) :
    ∀ (m : Nat) (x : Int), n - x ≤ m → 0 ≤ x → shotArms_L1 n h i x ga xs made spent h armed n 10 gs b K := by
  have hI' := hI
  obtain ⟨t, r, l, rfl, _⟩ := hI'
  intro m
  induction m with
  | zero =>
    intro x hm hx
    refine RshotArms_1_step n h i x ga xs made spent h armed n 10 gs _ K ?_
    have c : (iL x n = true) = False := by rw [iL_eq]; exact eq_false (by omega)
    unfold RshotArms_1_T Mo.RshotArms_1_pre Mo.RshotArms_1_g1 Mo.RshotArms_1_g2
    simp only [c, if_false, Bool.false_eq_true]
    exact ⟨trivial, hL⟩
  | succ m ih =>
    intro x hm hx
    refine RshotArms_1_step n h i x ga xs made spent h armed n 10 gs _ K ?_
    by_cases hlt : x < n
    · have c : (iL x n = true) = True := by rw [iL_eq]; exact eq_true hlt
      obtain ⟨c1, c2, c3, c4⟩ := cmp (h := h) hx hlt h2 t d
      have g : Mo.RshotArms_1_g1 n h x (B t n h d r l) = false := by
        unfold Mo.RshotArms_1_g1
        rw [if_pos (by rw [c]; trivial)]
        by_cases hxh : iN x h = true
        · have hne : x ≠ h := by rw [iN_eq] at hxh; exact hxh
          have e : Mo.kCompare_v1 x (Mo.Bd.k (B t n h d r l)) = 18446744073709551615 := c1.trans (if_neg hne)
          rw [if_pos hxh, e, if_neg (by rw [nsame]; exact fun f => f)]
        · rw [if_neg hxh]
      unfold RshotArms_1_T
      rw [g]
      unfold Mo.RshotArms_1_pre Mo.RshotArms_1_g2
      simp only [c, if_true, Bool.false_eq_true, if_false]
      refine ⟨?_, ?_⟩
      · split
        · exact c3
        · trivial
      · rw [adi_small (by omega) (by omega)]
        exact ih (x + 1) (by omega) (by omega)
    · have c : (iL x n = true) = False := by rw [iL_eq]; exact eq_false hlt
      unfold RshotArms_1_T Mo.RshotArms_1_pre Mo.RshotArms_1_g1 Mo.RshotArms_1_g2
      simp only [c, if_false, Bool.false_eq_true]
      exact ⟨trivial, hL⟩
theorem loop {n h : Int} {ga xs gs : List (List Int)} (K : S → List Ob → Prop) (hK : K (.bv true) [.nwin [.i .u32] ga, .nwin [.i .u64] xs]) (hx : ∀ k, 0 ≤ elI xs k 0 ∧ elI xs k 0 < 18446744073709551616) (h0 : 0 ≤ h) (h1 : h < n) (h2 : n ≤ 8) :
    ∀ (m : Nat) (i : Int) (b : Mo.Bd) (d made spent armed : Int), 20 - i ≤ m → 0 ≤ i → i ≤ 20 → 0 ≤ made → made ≤ 3 * i → 0 ≤ spent → Inv b n h d → shotArms_L0 n h i ga xs made spent h armed n 10 gs b K := by
  have out : ∀ (i : Int) (b : Mo.Bd) (d made spent armed : Int), ¬ (i < castI (lenR xs) ∧ i < 20) → i ≤ 20 → 0 ≤ made → made ≤ 3 * i → 0 ≤ spent → Inv b n h d → shotArms_L0 n h i ga xs made spent h armed n 10 gs b K := by
    intro i b d made spent armed hi hi2 hm hm2 hs hI
    refine RshotArms_0_step n h i ga xs made spent h armed n 10 gs b K ?_
    have A := arm (D := 18446744073709551615) (gs := gs) h0 h1 h2 hI hm (by omega) hs (by decide) (by decide)
    obtain ⟨t, r, l, e, _⟩ := A.v5
    obtain ⟨c1, c2, c3, c4⟩ := cmp (h := h) h0 h1 h2 t 18446744073709551615
    have k1 : Mo.kCompare_v1 h (Mo.Bd.k (B t n h 18446744073709551615 r l)) = 18446744073709551615 := c1.trans (kkh _ _)
    have k3 : Mo.dCompare_pre h (B t n h 18446744073709551615 r l) := c3
    have tr : iE 18446744073709551615 18446744073709551615 = true := by rw [iE_eq]
    unfold RshotArms_0_T Mo.RshotArms_0_pre Mo.RshotArms_0_g1 Mo.RshotArms_0_v1
    by_cases c1 : iL i (castI (lenR xs)) = true
    · have c2 : ¬ iL i 20 = true := fun c2 => hi ⟨by rw [iL_eq] at c1; exact c1, by rw [iL_eq] at c2; exact c2⟩
      simp only [if_pos c1, if_neg c2, A.v1, A.v2, e, k1, same, if_true, tr]
      exact ⟨⟨A.p, k3⟩, hK⟩
    · simp only [if_neg c1, A.v1, A.v2, e, k1, same, if_true, tr]
      exact ⟨⟨A.p, k3⟩, hK⟩
  intro m
  induction m with
  | zero => intro i b d made spent armed hm0 hi hi2 hm hm2 hs hI; exact out i b d made spent armed (by omega) hi2 hm hm2 hs hI
  | succ m ih =>
    intro i b d made spent armed hm0 hi hi2 hm hm2 hs hI
    by_cases hlt : i < castI (lenR xs) ∧ i < 20
    · refine RshotArms_0_step n h i ga xs made spent h armed n 10 gs b K ?_
      have c1 : (iL i (castI (lenR xs)) = true) = True := by rw [iL_eq]; exact eq_true hlt.1
      have c2 : (iL i 20 = true) = True := by rw [iL_eq]; exact eq_true hlt.2
      have c3 : (iM 0 i = true) = True := by rw [iM_eq]; exact eq_true hi
      have A := arm (D := elI xs (Int.toNat i) 0) (gs := gs) h0 h1 h2 hI hm (by omega) hs (hx _).1 (hx _).2
      have I5 := A.v5
      have ip : shotArms_L1 n h i 0 ga xs (Mo.sArm_v3 h made n gs b) (Mo.sArm_v4 h made spent n gs b) h (Mo.sArm_v2 (elI xs (Int.toNat i) 0) h made n gs b) n 10 gs (Mo.sArm_v5 (elI xs (Int.toNat i) 0) h made n gs b) K := by
        refine inner K h2 I5 ?_ 8 0 (by omega) (Int.le_refl 0)
        rw [adi_small (by omega) (by omega)]
        exact ih (i + 1) _ _ _ _ _ (by omega) (by omega) (by omega) (by rw [A.v3]; omega) (by rw [A.v3]; omega) A.v4 I5
      obtain ⟨t, r, l, e, _⟩ := I5
      obtain ⟨k1, k2, k3, k4⟩ := cmp (h := h) h0 h1 h2 t (elI xs (Int.toNat i) 0)
      rw [kkh] at k1 k2
      have K1 : Mo.kCompare_v1 h (Mo.Bd.k (B t n h (elI xs (Int.toNat i) 0) r l)) = elI xs (Int.toNat i) 0 := k1
      have K2 : Mo.kLine_v1 h (Mo.Bd.k (B t n h (elI xs (Int.toNat i) 0) r l)) = iM (elI xs (Int.toNat i) 0) (Mo.Cl.time (Mo.Bd.k (B t n h (elI xs (Int.toNat i) 0) r l))) := k2
      have a3 : adi made 3 = made + 3 := adi_small (by omega) (by omega)
      unfold RshotArms_0_T Mo.RshotArms_0_pre Mo.RshotArms_0_g1
      rw [e] at ip ⊢
      simp only [c1, c2, c3, if_true, A.v1, A.v2, A.v3, pm, a3, n00, nsame, K1, K2, eqN rfl, if_false, Bool.false_eq_true]
      refine ⟨⟨A.p, k3, k4⟩, ?_⟩
      have v2 : Mo.RshotArms_0_v2 i xs made h n gs b = B t n h (elI xs (Int.toNat i) 0) r l := e
      rw [v2]
      rw [A.v2, A.v3] at ip
      exact ip
    · exact out i b d made spent armed hlt hi2 hm hm2 hs hI
theorem shotArms_all2 (K : S → List Ob → Prop) (ga xs : List (List Int)) (hK : K (.bv true) [.nwin [.i .u32] ga, .nwin [.i .u64] xs]) (hx : ∀ k, 0 ≤ elI xs k 0 ∧ elI xs k 0 < 18446744073709551616) (harts hart : Int) : shotArms_T harts hart ga xs K := by
  have hn0 : cvi (rmq (cvq harts 0) 8) 0 = (harts % 18446744073709551616) % 8 := by
    have e : rmq (cvq harts 0) 8 = (harts % 18446744073709551616) % 8 := by
      show Int.tmod (harts % 18446744073709551616) 8 = _
      exact Int.tmod_eq_emod_of_nonneg (Int.emod_nonneg _ (by decide))
    rw [e]; exact wrap64 (by omega) (by omega)
  have hn : adi 1 (cvi (rmq (cvq harts 0) 8) 0) = 1 + (harts % 18446744073709551616) % 8 := by
    rw [hn0]; exact adi_small (by omega) (by omega)
  have n1 : 1 ≤ 1 + (harts % 18446744073709551616) % 8 := by omega
  have n2 : 1 + (harts % 18446744073709551616) % 8 ≤ 8 := by omega
  unfold shotArms_T Mo.shotArms_pre Mo.shotArms_g1 Mo.shotArms_v1
  rw [hn]
  generalize 1 + (harts % 18446744073709551616) % 8 = n at *
  have cn : cvq n 0 = n := cvq_small (by omega) (by omega)
  rw [cn]
  have hh : cvi (rmq (cvq hart 0) n) 0 = (hart % 18446744073709551616) % n := by
    have m0 : 0 ≤ (hart % 18446744073709551616) % n := Int.emod_nonneg _ (by omega)
    have m1 : (hart % 18446744073709551616) % n < n := Int.emod_lt_of_pos _ (by omega)
    have e : rmq (cvq hart 0) n = (hart % 18446744073709551616) % n := by
      show Int.tmod (hart % 18446744073709551616) n = _
      exact Int.tmod_eq_emod_of_nonneg (Int.emod_nonneg _ (by decide))
    rw [e]; exact wrap64 m0 (by omega)
  rw [hh]
  have m0 : 0 ≤ (hart % 18446744073709551616) % n := Int.emod_nonneg _ (by omega)
  have m1 : (hart % 18446744073709551616) % n < n := Int.emod_lt_of_pos _ (by omega)
  generalize (hart % 18446744073709551616) % n = h at *
  have nz : (iN n 0 = true) = True := by rw [iN_eq]; exact eq_true (by omega)
  have g1 : (Mo.dNew_g1 n = true) = False := by
    unfold Mo.dNew_g1
    rw [if_neg (by rw [iL_eq]; omega), if_neg (by rw [iL_eq]; omega)]; simp
  have ln : castI (lenR ga) = (lenR ga : Int) := castI_eq _
  have mi : mii (lenR ga : Int) 64 = min (lenR ga : Int) 64 := by
    show (if (64 : Int) < (lenR ga : Int) then 64 else (lenR ga : Int)) = _
    split <;> omega
  have q1 : (iM 0 (min (lenR ga : Int) 64) = true) = True := by rw [iM_eq]; exact eq_true (by omega)
  have q2 : (iM (min (lenR ga : Int) 64) (lenR ga : Int) = true) = True := by rw [iM_eq]; exact eq_true (by omega)
  have tn : castI (Int.toNat (min (lenR ga : Int) 64)) = min (lenR ga : Int) 64 := by rw [castI_eq]; omega
  have q3 : (iL 64 (min (lenR ga : Int) 64) = true) = False := by rw [iL_eq]; exact eq_false (by omega)
  have tl : lenR (takeR (Int.toNat (min (lenR ga : Int) 64)) ga) ≤ 64 := by
    unfold lenR takeR
    rw [List.length_take]; omega
  have q4 : (iM (castI (stdN NO.mul (lenR (takeR (Int.toNat (min (lenR ga : Int) 64)) ga)) (4 + 1))) 140737488355328 = true) = True := by
    rw [castI_eq, iM_eq]
    have : stdN NO.mul (lenR (takeR (Int.toNat (min (lenR ga : Int) 64)) ga)) (4 + 1) = lenR (takeR (Int.toNat (min (lenR ga : Int) 64)) ga) * 5 := rfl
    rw [this]
    exact eq_true (by omega)
  have q5 : (iL h 0 = true) = False := by rw [iL_eq]; exact eq_false (by omega)
  have q6 : (iM n h = true) = False := by rw [iM_eq]; exact eq_false (by omega)
  have eb : Mo.Bd.mk (Mo.kReset_v1 (Mo.Cl.mk 0 0 0 0 0 0 0 0 0 0 0 0 0 0 0 0 0 n)) (Mo.Wd.mk false false false 0 0 0 0) (Mo.Rt.mk 0 0 0 0 false false 10) (Mo.Rs.mk 1 0 0 1 false) (Mo.Ln.mk 0 0) (Mo.Cnt.mk 0 0 0 0 0) = B 0 n h 18446744073709551615 ⟨0, 0, 0, 0, false, false, 10⟩ ⟨0, 0⟩ := by
    have kk1 : ∀ i, kk h 18446744073709551615 i = 18446744073709551615 := fun i => by unfold kk; split <;> rfl
    unfold B Sg.K
    simp only [kk1]
    rfl
  have dp : Mo.dNew_pre n := by
    unfold Mo.dNew_pre
    rw [if_neg (by rw [iL_eq]; omega), if_neg (by rw [iL_eq]; omega), eb]
    exact wirep n 0 h _ _ _ n2
  have hI : Inv (Mo.dNew_e1 n) n h 18446744073709551615 := by
    unfold Mo.dNew_e1
    rw [eb]
    obtain ⟨l', e⟩ := wire n (B 0 n h 18446744073709551615 ⟨0, 0, 0, 0, false, false, 10⟩ ⟨0, 0⟩)
    exact ⟨0, _, l', e, Int.le_refl 0, ⟨Int.le_refl 0, rfl⟩⟩
  simp only [nz, g1, mi, ln, q1, q2, tn, q3, q4, q5, q6, if_true, if_false, Bool.false_eq_true]
  exact ⟨⟨dp, trivial⟩, loop K hK hx m0 m1 n2 20 0 _ _ _ _ _ (by omega) (Int.le_refl 0) (by omega) (Int.le_refl 0) (by omega) (Int.le_refl 0) hI⟩
end Go.SX.Y.Sg
