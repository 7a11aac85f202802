/- The law AlarmSets, in plain numbers. -/
import Derived.Test.YtbkegflipglioaaGreatQsB
import Derived.Test.YtbkegflipglioaaGreatAsK
set_option maxRecDepth 20000
namespace Go.SX.Y.Pl
open Go.SX Go.SX.Y
theorem rmi1 (x : Int) : rmi x 1 = 0 := Int.tmod_one x
theorem gapOk (made : Int) {p : Prop} (h : p) : (if iM 0 (rmi made 1) = true then if iL (rmi made 1) 1 = true then p else False else False) := by
  rw [rmi1, if_pos (by kernel_rfl), if_pos (by kernel_rfl)]; exact h
theorem pl0 (spent g : Int) : 0 ≤ Mo.pLoadG0_v1 spent g := sat_nonneg (x := spent + cvq g 0) |> fun h => by
  have e : Mo.pLoadG0_v1 spent g = sat (spent + cvq g 0) := by
    unfold Mo.pLoadG0_v1 sat; simp only [iE_eq]
  rw [e]; exact h
theorem pl4 (spent g : Int) : 0 ≤ Mo.pLoadG4_v1 spent g := sat_nonneg (x := spent + cvq g 0) |> fun h => by
  have e : Mo.pLoadG4_v1 spent g = sat (spent + cvq g 0) := by
    unfold Mo.pLoadG4_v1 sat; simp only [iE_eq]
  rw [e]; exact h
theorem ps8 (spent g : Int) : 0 ≤ Mo.pStoreG8_v1 spent g := sat_nonneg (x := spent + cvq g 0) |> fun h => by
  have e : Mo.pStoreG8_v1 spent g = sat (spent + cvq g 0) := by
    unfold Mo.pStoreG8_v1 sat; simp only [iE_eq]
  rw [e]; exact h
theorem ps12 (spent g : Int) : 0 ≤ Mo.pStoreG12_v1 spent g := sat_nonneg (x := spent + cvq g 0) |> fun h => by
  have e : Mo.pStoreG12_v1 spent g = sat (spent + cvq g 0) := by
    unfold Mo.pStoreG12_v1 sat; simp only [iE_eq]
  rw [e]; exact h
/-- A load behind a gap: the clock goes on. -/
theorem ld (T T' s al dv t h g : Int) (ra : Bool) (hT' : T' = T + g) (ht : 0 ≤ t) (hg : 0 ≤ g) (hg2 : g < 100) (hk : RTok T dv) (hk2 : RTok T' dv) :
    ∃ t' h', 0 ≤ t' ∧ Mo.dTick_v1 (cvq g 0) (Q t (RT T s al dv ra) h) = Q t' (RT T' s al dv ra) h' ∧ Mo.pLoadG0_v2 g (Q t (RT T s al dv ra) h) = Q t' (RT T' s al dv ra) h' ∧ Mo.pLoadG4_v2 g (Q t (RT T s al dv ra) h) = Q t' (RT T' s al dv ra) h' ∧ Mo.dTick_pre (cvq g 0) (Q t (RT T s al dv ra) h) := by
  subst hT'
  have e : cvq g 0 = g := by rw [cvq_eq]; omega
  obtain ⟨h', e1, e2⟩ := tickRT (s := s) (al := al) (t := t) (h := h) (ra := ra) hk hg hk2 (by omega)
  refine ⟨_, h', sat_nonneg, by rw [e]; exact e1, ?_, ?_, by rw [e]; exact e2 ht⟩
  · show Mo.dTick_v1 (cvq g 0) (Q t (RT T s al dv ra) h) = _
    rw [e]; exact e1
  · show Mo.dTick_v1 (cvq g 0) (Q t (RT T s al dv ra) h) = _
    rw [e]; exact e1
theorem lohi {x : Int} (h0 : 0 ≤ x) (h1 : x < 18446744073709551616) : rrq (slq (cvq (cvw (srq x 32) 0) 0) 32) (cvq (cvw x 0) 0) = (x / 4294967296) * 4294967296 + x % 4294967296 := by
  rw [srq32 _ h0]
  have e1 : cvw (x / 4294967296) 0 = x / 4294967296 := by rw [cvw_eq]; omega
  have e2 : cvw x 0 = x % 4294967296 := cvw_eq _ _
  rw [e1, e2, join_eq (by omega) (by omega) (by omega) (by omega)]
theorem hilo2 {x y : Int} (h0 : 0 ≤ x) (h1 : x < 18446744073709551616) : rrq (slq (cvq (cvw (srq x 32) 0) 0) 32) (cvq (cvw y 0) 0) = (x / 4294967296) * 4294967296 + y % 4294967296 := by
  rw [srq32 _ h0]
  have e1 : cvw (x / 4294967296) 0 = x / 4294967296 := by rw [cvw_eq]; omega
  have e2 : cvw y 0 = y % 4294967296 := cvw_eq _ _
  rw [e1, e2, join_eq (by omega) (by omega) (by omega) (by omega)]
theorem hieq {x y : Int} (h0 : 0 ≤ x) (h1 : x < 18446744073709551616) (k0 : 0 ≤ y) (k1 : y < 18446744073709551616) : (iE (cvw (srq x 32) 0) (cvw (srq y 32) 0) = true) = (x / 4294967296 = y / 4294967296) := by
  rw [iE_eq, srq32 _ h0, srq32 _ k0, cvw_eq, cvw_eq]
  have e1 : x / 4294967296 % 4294967296 = x / 4294967296 := by omega
  have e2 : y / 4294967296 % 4294967296 = y / 4294967296 := by omega
  rw [e1, e2]
theorem secs {T s al dv t h g made spent : Int} {ra : Bool} (ht : 0 ≤ t) (hs : 0 ≤ spent) (hg : 0 ≤ g) (hg2 : g < 100) (hT : 0 ≤ T) (hd : 0 < dv) (hd2 : dv < 4294967296) (hhi : T / dv < 4503599627370496) :
    Mo.aSecG_pre made spent g (Q t (RT T s al dv ra) h) ∧ T / dv ≤ Mo.aSecG_v1 g (Q t (RT T s al dv ra) h) ∧ Mo.aSecG_v1 g (Q t (RT T s al dv ra) h) ≤ (Mo.aSecG_v4 g (Q t (RT T s al dv ra) h)).t.sec := by
  have hq : ∀ k : Int, 0 ≤ k → k ≤ 700 → 0 ≤ (T + k) / dv ∧ (T + k) / dv ≤ T / dv + 700 := by
    intro k k0 k1
    refine ⟨Int.ediv_nonneg (by omega) (by omega), ?_⟩
    have : (T + k) / dv ≤ (T + 700 * dv) / dv := Int.ediv_le_ediv hd (by
      have : 700 * 1 ≤ 700 * dv := Int.mul_le_mul_of_nonneg_left (by omega) (by omega)
      omega)
    rw [Int.add_mul_ediv_right _ _ (by omega)] at this
    exact this
  have ok : ∀ k : Int, 0 ≤ k → k ≤ 700 → RTok (T + k) dv := fun k k0 k1 => ⟨by omega, by have := (hq k k0 k1).2; omega, hd, hd2⟩
  have ok0 : RTok T dv := by have := ok 0 (by omega) (by omega); rwa [Int.add_zero] at this
  have mono : ∀ a b : Int, a ≤ b → (T + a) / dv ≤ (T + b) / dv := fun a b hab => Int.ediv_le_ediv hd (by omega)
  obtain ⟨t1, h1, ht1, a1, b1, d1', c1⟩ := ld T (T + g) s al dv t h g ra rfl ht hg hg2 ok0 (ok g hg (by omega))
  obtain ⟨t2, h2, ht2, a2, b2, d2', c2⟩ := ld (T + g) (T + 2 * g) s al dv t1 h1 g ra (by omega) ht1 hg hg2 (ok _ (by omega) (by omega)) (ok _ (by omega) (by omega))
  obtain ⟨t3, h3, ht3, a3, b3, d3', c3⟩ := ld (T + 2 * g) (T + 3 * g) s al dv t2 h2 g ra (by omega) ht2 hg hg2 (ok _ (by omega) (by omega)) (ok _ (by omega) (by omega))
  obtain ⟨t4, h4, ht4, a4, b4, d4', c4⟩ := ld (T + 3 * g) (T + 4 * g) s al dv t3 h3 g ra (by omega) ht3 hg hg2 (ok _ (by omega) (by omega)) (ok _ (by omega) (by omega))
  obtain ⟨t5, h5, ht5, a5, b5, d5', c5⟩ := ld (T + 4 * g) (T + 5 * g) s al dv t4 h4 g ra (by omega) ht4 hg hg2 (ok _ (by omega) (by omega)) (ok _ (by omega) (by omega))
  have s1 := hq g hg (by omega)
  have s2 := hq (2 * g) (by omega) (by omega)
  have s3 := hq (3 * g) (by omega) (by omega)
  have s4 := hq (4 * g) (by omega) (by omega)
  have s5 := hq (5 * g) (by omega) (by omega)
  have m1 := mono 0 g (by omega)
  have m2 := mono g (2 * g) (by omega)
  have m3 := mono (2 * g) (3 * g) (by omega)
  have m4 := mono (3 * g) (4 * g) (by omega)
  have m5 := mono (4 * g) (5 * g) (by omega)
  rw [Int.add_zero] at m1
  have sec3 : (Mo.Bd.t (Q t3 (RT (T + 3 * g) s al dv ra) h3)).sec = (T + 3 * g) / dv := rfl
  have sec5 : (Mo.Bd.t (Q t5 (RT (T + 5 * g) s al dv ra) h5)).sec = (T + 5 * g) / dv := rfl
  have E1 := hieq (x := (T + 3 * g) / dv) (y := (T + g) / dv) s3.1 (by omega) s1.1 (by omega)
  have E2 := hieq (x := (T + 5 * g) / dv) (y := (T + 3 * g) / dv) s5.1 (by omega) s3.1 (by omega)
  have J1 := hilo2 (x := (T + g) / dv) (y := (T + 2 * g) / dv) s1.1 (by omega)
  have J2 := hilo2 (x := (T + 3 * g) / dv) (y := (T + 4 * g) / dv) s3.1 (by omega)
  refine ⟨?_, ?_⟩
  · unfold Mo.aSecG_pre Mo.pLoadG0_pre Mo.pLoadG4_pre
    simp only [a1, b1, d1', a2, b2, d2', a3, b3, d3', a4, b4, d4', a5, b5, d5', secQ]
    have e0 : (0 : Int) ≤ cvq g 0 := by rw [cvq_eq]; omega
    refine ⟨gapOk _ ⟨⟨hs, e0⟩, c1⟩, gapOk _ ⟨⟨pl4 _ _, e0⟩, c2⟩, gapOk _ ⟨⟨pl0 _ _, e0⟩, c3⟩, ?_⟩
    simp only [E1, E2]
    split
    · trivial
    · refine ⟨gapOk _ ⟨⟨pl4 _ _, e0⟩, c4⟩, gapOk _ ⟨⟨pl0 _ _, e0⟩, c5⟩, ?_⟩
      rw [if_pos (by omega)]
      trivial
  · unfold Mo.aSecG_v1 Mo.aSecG_v4
    simp only [a1, b1, d1', a2, b2, d2', a3, b3, d3', a4, b4, d4', a5, b5, d5', secQ, E1, E2, J1, J2]
    split
    · simp only [secQ]; omega
    · rw [if_pos (by omega), if_pos (by omega)]; simp only [secQ]; omega
theorem b0 (D : Int) (hD : 0 < D) : ∃ h, Mo.dWire_v1 (Mo.Bd.mk (Mo.kReset_v1 (Mo.Cl.mk 0 0 0 0 0 0 0 0 0 0 0 0 0 0 0 0 0 1)) (Mo.Wd.mk false false false 0 0 0 0) (Mo.Rt.mk 0 0 0 0 false false D) (Mo.Rs.mk 1 0 0 1 false) (Mo.Ln.mk 0 0) (Mo.Cnt.mk 0 0 0 0 0)) = Q 0 (RT 0 0 0 D false) h ∧ Mo.dNew_pre D := by
  have e : (Mo.Bd.mk (Mo.kReset_v1 (Mo.Cl.mk 0 0 0 0 0 0 0 0 0 0 0 0 0 0 0 0 0 1)) (Mo.Wd.mk false false false 0 0 0 0) (Mo.Rt.mk 0 0 0 0 false false D) (Mo.Rs.mk 1 0 0 1 false) (Mo.Ln.mk 0 0) (Mo.Cnt.mk 0 0 0 0 0)) = Q 0 (RT 0 0 0 D false) 0 := by
    unfold RT
    rw [Int.zero_ediv, Int.zero_emod]
    rfl
  refine ⟨_, by rw [e]; exact wire_Q _ _ _, ?_⟩
  unfold Mo.dNew_pre
  split
  · trivial
  · rw [e]; exact wirepre_Q _ _ _
theorem alarmSets_all (div sec ticks gap : Int) (h0 : 0 ≤ div) (h1 : 0 ≤ sec) (h2 : 0 ≤ ticks) (h3 : 0 ≤ gap) : Mo.alarmSets_pre div sec ticks gap ∧ Mo.alarmSets_v1 div sec ticks gap = true := by
  have eD : adw 1 (rmw div 1000) = 1 + div % 1000 := by rw [rmw_eq _ _ h0, adw_eq]; omega
  have eS : rmq sec 1125899906842624 = sec % 1125899906842624 := rmq_eq _ _ h1
  have eN : rmq ticks 1099511627776 = ticks % 1099511627776 := rmq_eq _ _ h2
  have eg : rmw gap 100 = gap % 100 := rmw_eq _ _ h3
  unfold Mo.alarmSets_pre Mo.alarmSets_v1
  simp only [eD, eS, eN, eg]
  have d0 : 0 < 1 + div % 1000 := by omega
  have d1 : 1 + div % 1000 ≤ 1000 := by omega
  have s0 : 0 ≤ sec % 1125899906842624 := by omega
  have s1 : sec % 1125899906842624 < 1125899906842624 := by omega
  have n0 : 0 ≤ ticks % 1099511627776 := by omega
  have n1 : ticks % 1099511627776 < 1099511627776 := by omega
  have g0 : 0 ≤ gap % 100 := by omega
  have g1 : gap % 100 < 100 := by omega
  generalize 1 + div % 1000 = D at *
  generalize sec % 1125899906842624 = X at *
  generalize ticks % 1099511627776 = n at *
  generalize gap % 100 = g at *
  obtain ⟨hh, e0, p0⟩ := b0 D d0
  simp only [e0]
  have k0 : RTok 0 D := ⟨Int.le_refl _, by rw [Int.zero_ediv]; decide, d0, by omega⟩
  have dle : ∀ k : Int, 0 ≤ k → k / D ≤ k := fun k hk => by
    have := Int.ediv_le_self D hk
    exact this
  have kk : ∀ k : Int, 0 ≤ k → k ≤ 1000 → RTok k D := fun k a b => ⟨a, by have := dle k a; omega, d0, by omega⟩
  obtain ⟨t1, h1', ht1, a1, b1, d1', c1⟩ := ld 0 g 0 0 D 0 hh g false (by omega) (Int.le_refl _) g0 g1 k0 (kk g g0 (by omega))
  have w1 : cvw X 0 = X % 4294967296 := cvw_eq _ _
  have w2 : cvw (srq X 32) 0 = X / 4294967296 := by rw [srq32 _ s0, cvw_eq]; omega
  have q1 : Mo.pStoreG8_v2 (cvw X 0) g (Q 0 (RT 0 0 0 D false) hh) = Q t1 (RT g (X % 4294967296) 0 D false) (hiB (iM 18446744073709551615 t1) false) := by
    show Mo.dStore8_v1 (cvw X 0) (Mo.dTick_v1 (cvq g 0) (Q 0 (RT 0 0 0 D false) hh)) = _
    rw [a1, store_8, st8, w1]; rfl
  obtain ⟨t2, h2', ht2, a2, b2, d2', c2⟩ := ld g (2 * g) (X % 4294967296) 0 D t1 (hiB (iM 18446744073709551615 t1) false) g false (by omega) ht1 g0 g1 (kk g g0 (by omega)) (kk _ (by omega) (by omega))
  have q2 : Mo.pStoreG12_v2 (cvw (srq X 32) 0) g (Q t1 (RT g (X % 4294967296) 0 D false) (hiB (iM 18446744073709551615 t1) false)) = Q t2 (RT (X * D) (X % 4294967296) 0 D false) (hiB (iM 18446744073709551615 t2) false) := by
    show Mo.dStore12_v1 (cvw (srq X 32) 0) (Mo.dTick_v1 (cvq g 0) (Q t1 (RT g (X % 4294967296) 0 D false) (hiB (iM 18446744073709551615 t1) false))) = _
    rw [a2, store_12, w2, st12 d0 (by omega) (by omega) (by omega) (by omega)]
    rw [show X / 4294967296 * 4294967296 + X % 4294967296 = X by omega]; rfl
  have q : Mo.aSetG_v1 X g (Q 0 (RT 0 0 0 D false) hh) = Q t2 (RT (X * D) (X % 4294967296) 0 D false) (hiB (iM 18446744073709551615 t2) false) := by
    unfold Mo.aSetG_v1
    rw [q1, q2]
  have pq : Mo.aSetG_pre X 0 0 g (Q 0 (RT 0 0 0 D false) hh) := by
    unfold Mo.aSetG_pre Mo.pStoreG8_pre Mo.pStoreG12_pre
    have e0 : (0 : Int) ≤ cvq g 0 := by rw [cvq_eq]; omega
    refine ⟨gapOk _ ⟨⟨Int.le_refl _, e0⟩, c1, ?_⟩, gapOk _ ⟨⟨ps8 _ _, e0⟩, ?_, ?_⟩⟩
    · rw [a1]; exact storepre_8 _ _ _ _ _ _ _ _ _ rfl
    · rw [q1]; exact c2
    · rw [q1, a2]; exact storepre_12 _ _ _ _ _ _ _ _ _ rfl
  have xd : X * D / D = X := Int.mul_ediv_cancel _ (by omega)
  have xd0 : 0 ≤ X * D := Int.mul_nonneg s0 (by omega)
  have xn : (X * D + n) / D = X + n / D := by rw [Int.add_comm, Int.add_mul_ediv_right _ _ (by omega), Int.add_comm]
  have nd := dle n n0
  have nd0 : 0 ≤ n / D := Int.ediv_nonneg n0 (by omega)
  obtain ⟨h3', a3, c3⟩ := tickRT (T := X * D) (n := n) (s := X % 4294967296) (al := 0) (dv := D) (t := t2) (h := hiB (iM 18446744073709551615 t2) false) (ra := false) ⟨xd0, by omega, d0, by omega⟩ n0 ⟨by omega, by omega, d0, by omega⟩ (by omega)
  obtain ⟨z1, z2, z3⟩ := secs (T := X * D + n) (s := X % 4294967296) (al := 0) (dv := D) (t := sat (t2 + n)) (h := h3') (g := g) (made := adi (adi 0 1) 1) (spent := Mo.pStoreG12_v1 (Mo.pStoreG8_v1 0 g) g) (ra := false) sat_nonneg (ps12 _ _) g0 g1 (by omega) d0 (by omega) (by omega)
  have g1' : (Mo.dNew_g1 D = true) = False := by
    unfold Mo.dNew_g1
    rw [if_neg (by rw [iE_eq]; omega)]; simp
  have cD : cvq D 0 = D := by rw [cvq_eq]; omega
  have eq1 : adq X (quq n D) = X + n / D := by rw [quq_eq _ _ n0, adq_eq]; omega
  have secr : (Mo.Bd.t (Q (sat (t2 + n)) (RT (X * D + n) (X % 4294967296) 0 D false) h3')).sec = X + n / D := xn
  simp only [g1', if_false, q, a3, cD, eq1, secr, iN_eq]
  rw [xn] at z2
  refine ⟨⟨p0, pq, c3 ht2, z1, ?_⟩, ?_⟩
  · rw [if_pos (by omega)]; trivial
  · rw [if_pos (by rw [iE_eq]), if_pos (by rw [iM_eq]; exact z2)]
    exact (iM_eq _ _).mpr z3
end Go.SX.Y.Pl
