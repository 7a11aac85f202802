/- The law AlarmRings, in plain numbers: all of it. -/
import Derived.Test.YtbkegflipglioaaGreatQrC
set_option maxRecDepth 20000
namespace Go.SX.Y.Pl
open Go.SX Go.SX.Y
theorem notB (x : Bool) : (stdQ QO.not x x = true) = (x = false) := by cases x <;> simp [stdQ]
theorem alarmRings_all (div start sec more : Int) (h0 : 0 ≤ div) (h1 : 0 ≤ start) (h2 : 0 ≤ sec) (h3 : 0 ≤ more) : Mo.alarmRings_pre div start sec more ∧ Mo.alarmRings_v1 div start sec more = true := by
  have eD : adw 1 (rmw div 1000000) = 1 + div % 1000000 := by rw [rmw_eq _ _ h0, adw_eq]; omega
  have eS : rmq start 1099511627776 = start % 1099511627776 := rmq_eq _ _ h1
  have eA : rmq sec 1099511627776 = sec % 1099511627776 := rmq_eq _ _ h2
  have eM : rmq more 1000000 = more % 1000000 := rmq_eq _ _ h3
  unfold Mo.alarmRings_pre Mo.alarmRings_v1
  simp only [eD, eS, eA, eM]
  have d0 : 0 < 1 + div % 1000000 := by omega
  have d1 : 1 + div % 1000000 ≤ 1000000 := by omega
  have s0 : 0 ≤ start % 1099511627776 := by omega
  have s1 : start % 1099511627776 < 1099511627776 := by omega
  have a0 : 0 ≤ sec % 1099511627776 := by omega
  have a1 : sec % 1099511627776 < 1099511627776 := by omega
  have m0 : 0 ≤ more % 1000000 := by omega
  have m1 : more % 1000000 < 1000000 := by omega
  generalize 1 + div % 1000000 = D at *
  generalize start % 1099511627776 = X at *
  generalize sec % 1099511627776 = A at *
  generalize more % 1000000 = M at *
  obtain ⟨hh, e0, p0⟩ := b0 D
  simp only [e0]
  have ok : ∀ k : Int, 0 ≤ k → k / D < 4503599627370496 → RTok k D := fun k a b => ⟨a, by omega, d0, by omega⟩
  have k0 : RTok 0 D := ok 0 (Int.le_refl _) (by rw [Int.zero_ediv]; decide)
  have w1 : cvw X 0 = X % 4294967296 := cvw_eq _ _
  have w2 : cvw (srq X 32) 0 = X / 4294967296 := by rw [srq32 _ s0, cvw_eq]; omega
  -- the seconds are set
  obtain ⟨t1, x1, k1, e1, p1⟩ := put_8 (s := 0) (al := 0) (h := hh) (v := cvw X 0) (en := false) (ra := false) k0 (Int.le_refl 0) (st8 0 0 0 D (cvw X 0) false)
  have st := st12 (T := 0) (s := cvw X 0) (al := 0) (dv := D) (v := cvw (srq X 32) 0) (ra := false) d0 (by omega) (by omega) (by omega) (by omega)
  rw [show (cvw (srq X 32) 0) * 4294967296 + cvw X 0 = X by omega] at st
  obtain ⟨t2, x2, k2, e2, p2⟩ := put_12 (s := cvw X 0) (al := 0) (h := hiB x1 false) (v := cvw (srq X 32) 0) (en := false) (ra := false) k0 k1 st
  have eSet : Mo.aSet_v1 X (Q 0 (RG 0 0 0 D false false) hh) = Q t2 (RG (X * D) (cvw X 0) 0 D false false) (hiB x2 false) := by
    unfold Mo.aSet_v1; rw [e1, e2]
  have pSet : Mo.aSet_pre X 0 (Q 0 (RG 0 0 0 D false false) hh) := by
    unfold Mo.aSet_pre; rw [e1]; exact ⟨p1 _ (Int.le_refl _), p2 _ (sp_8 _)⟩
  have xd : X * D / D = X := Int.mul_ediv_cancel _ (by omega)
  have xd0 : 0 ≤ X * D := Int.mul_nonneg s0 (by omega)
  have kX : RTok (X * D) D := ok _ xd0 (by omega)
  obtain ⟨t3, x3, k3, e3, e4, p3⟩ := secs0 (s := cvw X 0) (al := 0) (h := hiB x2 false) (en := false) (ra := false) kX k2
  obtain ⟨p3a, p3b⟩ := p3 (Mo.pStore12_v1 (Mo.pStore8_v1 0)) (sp_12 _)
  obtain ⟨t4, x4, k4, e5, p4⟩ := arm (s := cvw X 0) (h := hiB x3 false) kX k3 a0 a1
  rw [xd] at e3 e5
  have gD : (Mo.dNew_g1 D = true) = False := by
    unfold Mo.dNew_g1
    rw [if_neg (by rw [iE_eq]; omega)]; simp
  have cD : cvq D 0 = D := by rw [cvq_eq]; omega
  have nX : (iN X X = true) = False := by rw [iN_eq]; simp
  simp only [gD, if_false, eSet, e3, e4, e5, nX, cD]
  have sp4 := p4 _ p3b
  -- what is so behind: it rings
  have fin : ∀ (T t : Int) (x : Bool), RTok T D → RTok (T + M) D → 0 ≤ t → A ≤ T / D → ∀ spent, 0 ≤ spent →
      ∃ t' y, 0 ≤ t' ∧ Mo.aTake_v1 (Q t (RG T (cvw X 0) A D true true) (hiB x true)) = true ∧ Mo.aTake_pre spent (Q t (RG T (cvw X 0) A D true true) (hiB x true)) ∧ 0 ≤ Mo.aTake_v3 spent (Q t (RG T (cvw X 0) A D true true) (hiB x true)) ∧
        Mo.dTick_pre M (Mo.aTake_v4 (Q t (RG T (cvw X 0) A D true true) (hiB x true))) ∧ Mo.dTick_v1 M (Mo.aTake_v4 (Q t (RG T (cvw X 0) A D true true) (hiB x true))) = Q t' (RG (T + M) (cvw X 0) A D true false) (hiB y false) := by
    intro T t x hk hk2 ht g spent hs
    obtain ⟨u1, y1, q1, b1, b2, b3⟩ := takeY (s := cvw X 0) (h := hiB x true) hk ht g
    obtain ⟨u2, y2, q2, c1, c2⟩ := tickRG (s := cvw X 0) (al := A) (h := hiB y1 false) (en := true) (ra := false) hk m0 hk2 (by omega) q1
    have e : up true A (T / D) ((T + M) / D) = false := by unfold up; simp [g]
    rw [e, Bool.or_false] at c1
    exact ⟨u2, y2, q2, b1, (b3 _ hs).1, (b3 _ hs).2, by rw [b2]; exact c2, by rw [b2]; exact c1⟩
  have fin2 : ∀ (T t : Int) (y : Bool), RTok T D → 0 ≤ t → ∃ t' z, 0 ≤ t' ∧ Mo.aTake_v1 (Q t (RG T (cvw X 0) A D true false) (hiB y false)) = false ∧ Mo.aTake_v4 (Q t (RG T (cvw X 0) A D true false) (hiB y false)) = Q t' (RG T (cvw X 0) A D true false) (hiB z false) ∧ ∀ spent, 0 ≤ spent → Mo.aTake_pre spent (Q t (RG T (cvw X 0) A D true false) (hiB y false)) ∧ 0 ≤ Mo.aTake_v3 spent (Q t (RG T (cvw X 0) A D true false) (hiB y false)) :=
    fun T t y hk ht => takeN (s := cvw X 0) (h := hiB y false) hk ht
  by_cases g : X < A
  · have dec : decide (A ≤ X) = false := by simp; omega
    have gl : (iL X A = true) = True := by rw [iL_eq]; simp [g]
    have q1 : 1 ≤ (A - X) * D := by
      have : 1 * 1 ≤ (A - X) * D := Int.mul_le_mul (by omega) (by omega) (by omega) (by omega)
      omega
    have q2 : (A - X) * D ≤ 1099511627776 * 1000000 := Int.mul_le_mul (by omega) (by omega) (by omega) (by omega)
    have q3 : (A - X) * D = A * D - X * D := Int.sub_mul _ _ _
    have n1 : sbq (mlq (sbq A X) D) 1 = (A - X) * D - 1 := by
      have e1 : sbq A X = A - X := by rw [sbq_eq]; omega
      rw [e1, mlq_eq, sbq_eq]; omega
    have z1 : (X * D + ((A - X) * D - 1)) / D = A - 1 := by
      rw [show X * D + ((A - X) * D - 1) = (D - 1) + (A - 1) * D by rw [Int.sub_mul, Int.sub_mul]; omega]
      rw [Int.add_mul_ediv_right _ _ (by omega), Int.ediv_eq_zero_of_lt (by omega) (by omega)]; omega
    have z2 : (X * D + ((A - X) * D - 1) + 1) / D = A := by
      rw [show X * D + ((A - X) * D - 1) + 1 = A * D by omega]
      exact Int.mul_ediv_cancel _ (by omega)
    have z3 : (X * D + ((A - X) * D - 1) + 1 + M) / D ≤ A + 1000000 := by
      have : (X * D + ((A - X) * D - 1) + 1 + M) / D ≤ (A * D + 1000000 * D) / D := Int.ediv_le_ediv d0 (by
        have : 1000000 * 1 ≤ 1000000 * D := Int.mul_le_mul_of_nonneg_left (by omega) (by omega)
        omega)
      rw [← Int.add_mul, Int.mul_ediv_cancel _ (by omega)] at this
      exact this
    have r1 : RTok (X * D + ((A - X) * D - 1)) D := ok _ (by omega) (by omega)
    have r2 : RTok (X * D + ((A - X) * D - 1) + 1) D := ok _ (by omega) (by omega)
    have r3 : RTok (X * D + ((A - X) * D - 1) + 1 + M) D := ok _ (by omega) (by omega)
    obtain ⟨u1, y1, h1', c1, c2⟩ := tickRG (T := X * D) (n := (A - X) * D - 1) (s := cvw X 0) (al := A) (h := hiB x4 false) (en := true) (ra := false) kX (by omega) r1 (by omega) k4
    have v1 : up true A (X * D / D) ((X * D + ((A - X) * D - 1)) / D) = false := by unfold up; rw [z1, xd]; simp; omega
    rw [v1, Bool.or_false] at c1
    obtain ⟨u2, y2, h2', c3, c4⟩ := tickRG (T := X * D + ((A - X) * D - 1)) (n := 1) (s := cvw X 0) (al := A) (h := hiB y1 false) (en := true) (ra := false) r1 (by omega) r2 (by omega) h1'
    have v2 : up true A ((X * D + ((A - X) * D - 1)) / D) ((X * D + ((A - X) * D - 1) + 1) / D) = true := by unfold up; rw [z1, z2]; simp; omega
    rw [v2, Bool.or_true] at c3
    obtain ⟨u3, y3, h3', f1, f2, f3, f4, f5⟩ := fin _ u2 y2 r2 r3 h2' (by omega) _ (sp_24 (Mo.pStore20_v1 (Mo.pStore16_v1 (Mo.pStore24_v1 (Mo.aSec_v3 (Mo.pStore12_v1 (Mo.pStore8_v1 0)) (Q t2 (RG (X * D) (cvw X 0) 0 D false false) (hiB x2 false)))))))
    obtain ⟨u4, y4, h4', l1, l2, l3⟩ := fin2 _ u3 y3 r3 h3'
    simp only [dec, gl, if_true, n1, c1, c3, highG, pend, Bool.false_eq_true, if_false, notB, f1, f5, l1, l2, reduceCtorEq]
    exact ⟨⟨p0, pSet, p3a, sp4, c2, c4, f2, f4, (l3 _ f3).1, off r3 h4' _ (l3 _ f3).2⟩, trivial⟩
  · have dec : decide (A ≤ X) = true := by simp; omega
    have gl : (iL X A = true) = False := by rw [iL_eq]; simp; omega
    have z3 : (X * D + M) / D ≤ X + 1000000 := by
      have : (X * D + M) / D ≤ (X * D + 1000000 * D) / D := Int.ediv_le_ediv d0 (by
        have : 1000000 * 1 ≤ 1000000 * D := Int.mul_le_mul_of_nonneg_left (by omega) (by omega)
        omega)
      rw [← Int.add_mul, Int.mul_ediv_cancel _ (by omega)] at this
      exact this
    have r3 : RTok (X * D + M) D := ok _ (by omega) (by omega)
    obtain ⟨u3, y3, h3', f1, f2, f3, f4, f5⟩ := fin _ t4 x4 kX r3 k4 (by omega) _ (sp_24 (Mo.pStore20_v1 (Mo.pStore16_v1 (Mo.pStore24_v1 (Mo.aSec_v3 (Mo.pStore12_v1 (Mo.pStore8_v1 0)) (Q t2 (RG (X * D) (cvw X 0) 0 D false false) (hiB x2 false)))))))
    obtain ⟨u4, y4, h4', l1, l2, l3⟩ := fin2 _ u3 y3 r3 h3'
    simp only [dec, gl, if_true, highG, pend, Bool.false_eq_true, if_false, notB, f1, f5, l1, l2, reduceCtorEq]
    exact ⟨⟨p0, pSet, p3a, sp4, f2, f4, (l3 _ f3).1, off r3 h4' _ (l3 _ f3).2⟩, trivial⟩
end Go.SX.Y.Pl
