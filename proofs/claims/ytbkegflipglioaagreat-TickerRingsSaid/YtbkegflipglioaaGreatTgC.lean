/- TickerRings, plain part: accesses; the law. -/
import Derived.Test.YtbkegflipglioaaGreatTgB
set_option maxRecDepth 20000
namespace Go.SX.Y.Tg
open Go.SX Go.SX.Y
theorem wrap64 {x : Int} (h0 : 0 ≤ x) (h1 : x < 9223372036854775808) : IntKind.i64.wrap x = x := by
  obtain ⟨n, rfl⟩ := Int.eq_ofNat_of_zero_le h0
  exact wrap_fit .i64 n (by simp only [maxN]; omega)
theorem adi_small {x y : Int} (h0 : 0 ≤ x + y) (h1 : x + y < 9223372036854775808) : adi x y = x + y := wrap64 h0 h1
structure Z (c : Mo.Cnt) : Prop where
  eq : Mo.cTick_v1 0 c = c
  pre : Mo.cTick_pre 0 c
theorem Z.run {ld sc va st ph : Int} {ag : Bool} (h0 : 0 ≤ sc) (h1 : sc < 256) (hp : 0 ≤ ph) (hs : ph ≤ sc) : Z (C ld sc ag va st ph) := by
  have h := tick_lo (ld := ld) (va := va) (st := st) (ag := ag) h0 h1 (Int.le_refl 0) hp (by omega)
  rw [Int.add_zero] at h
  exact ⟨h.1, h.2⟩
theorem Z.off {c : Mo.Cnt} (h : anw c.ct 1 = 0) : Z c := ⟨(tick_off h 0).1, (tick_off h 0).2⟩
theorem O_off {ld sc st : Int} {ag : Bool} (h0 : 0 ≤ sc) (h1 : sc < 256) : anw (O ld sc ag st).ct 1 = 0 := (cw sc ag h0 h1).f4
theorem gap_nn (x : Int) : 0 ≤ (if ((iE ((x + 0) / 18446744073709551616) 0) = true) then ((x + 0) % 18446744073709551616) else 18446744073709551615) := by
  split
  · exact Int.emod_nonneg _ (by decide)
  · decide
theorem tick0 {b : Mo.Bd} {c : Mo.Cnt} (h : Inv b c) (z : Z c) : Mo.dTick_pre 0 b ∧ Inv (Mo.dTick_v1 0 b) c := by
  have := tick_B h (Int.le_refl 0) z.pre
  rw [z.eq] at this
  exact this
theorem put {b : Mo.Bd} {c c' : Mo.Cnt} (h : Inv b c) {u : Mo.Bd → Mo.Bd} (hu : ∀ t r l, u (B t r l c) = B t r l c') : Mo.dSettle_pre (u b) ∧ Inv (Mo.dSettle_v1 (u b)) c' := by
  obtain ⟨t, r, l, rfl, ht, hr, _⟩ := h
  rw [hu]
  obtain ⟨s1, l', s2, s3⟩ := settle_B t r l c'
  exact ⟨s1, t, r, l', s2, ht, hr, s3⟩
theorem put8 {b : Mo.Bd} {c c' : Mo.Cnt} {v spent : Int} (h : Inv b c) (z : Z c) (hs : 0 ≤ spent) (hu : ∀ t r l, Mo.uStore8_v1 v (B t r l c) = B t r l c') : Mo.pStore8_pre v spent b ∧ Inv (Mo.pStore8_v2 v b) c' := by
  obtain ⟨t1, t2⟩ := tick0 h z
  obtain ⟨s1, s2⟩ := put (u := Mo.uStore8_v1 v) t2 hu
  exact ⟨⟨⟨hs, Int.le_refl 0⟩, t1, s1⟩, s2⟩
theorem put0 {b : Mo.Bd} {c c' : Mo.Cnt} {v spent : Int} (h : Inv b c) (z : Z c) (hs : 0 ≤ spent) (hu : ∀ t r l, Mo.uStore0_v1 v (B t r l c) = B t r l c') : Mo.pStore0_pre v spent b ∧ Inv (Mo.pStore0_v2 v b) c' := by
  obtain ⟨t1, t2⟩ := tick0 h z
  obtain ⟨s1, s2⟩ := put (u := Mo.uStore0_v1 v) t2 hu
  exact ⟨⟨⟨hs, Int.le_refl 0⟩, t1, s1⟩, s2⟩
theorem put12 {b : Mo.Bd} {c c' : Mo.Cnt} {v spent : Int} (h : Inv b c) (z : Z c) (hs : 0 ≤ spent) (hu : ∀ t r l, Mo.uStore12_v1 v (B t r l c) = B t r l c') : Mo.pStore12_pre v spent b ∧ Inv (Mo.pStore12_v2 v b) c' := by
  obtain ⟨t1, t2⟩ := tick0 h z
  obtain ⟨s1, s2⟩ := put (u := Mo.uStore12_v1 v) t2 hu
  exact ⟨⟨⟨hs, Int.le_refl 0⟩, t1, s1⟩, s2⟩
theorem z0 (x : Int) : Z ⟨x, 0, 0, 0, 0⟩ := Z.off (by kernel_rfl)
theorem start {b : Mo.Bd} {ld sc spent : Int} {ag : Bool} (h : Inv b ⟨0, 0, 0, 0, 0⟩) (hs : 0 ≤ spent) (h0 : 0 ≤ sc) (h1 : sc < 256) :
    Inv (Mo.tStart_v4 ld sc ag b) (C ld sc ag ld 0 0) ∧ 0 ≤ Mo.tStart_v3 sc spent ∧ Mo.tStart_pre ld sc ag spent b := by
  have w := cv sc h0 h1
  obtain ⟨a1, a2⟩ := put8 (v := 0) (c' := ⟨0, 0, 0, 0, 0⟩) h (z0 0) hs fun t r l => by kernel_rfl
  obtain ⟨b1, b2⟩ := put0 (v := ld) (c' := ⟨ld, 0, 0, 0, 0⟩) a2 (z0 0) (gap_nn spent) fun t r l => by kernel_rfl
  obtain ⟨c1, c2⟩ := put12 (v := 1) (c' := ⟨ld, 0, 0, 0, 0⟩) b2 (z0 ld) (gap_nn _) fun t r l => by kernel_rfl
  have on : ∀ ag t r l, Mo.uStore8_v1 (ctw sc ag) (B t r l ⟨ld, 0, 0, 0, 0⟩) = B t r l (C ld sc ag ld 0 0) := fun ag t r l => by
    have v := cw sc ag h0 h1
    unfold Mo.uStore8_v1
    rw [v.f5, v.f1, if_pos (show iN 1 0 = true by kernel_rfl)]
    exact if_pos (by kernel_rfl)
  have l255 : (iL 255 sc = true) = False := by rw [iL_eq]; exact eq_false (by omega)
  unfold Mo.tStart_v4 Mo.tStart_pre Mo.tStart_v3 Mo.tStart_e1 Mo.tStart_e2
  simp only [l255, if_false, w.g1, w.g2]
  have D := fun ag => put8 (spent := Mo.pStore12_v1 (Mo.pStore0_v1 (Mo.pStore8_v1 spent))) c2 (z0 ld) (gap_nn _) (on ag)
  cases ag
  · simp only [Bool.false_eq_true, if_false]
    exact ⟨(D false).2, gap_nn _, a1, b1, c1, (D false).1⟩
  · simp only [if_true]
    have q : Mo.bPut1_pre 1 := by rw [p1]; trivial
    exact ⟨(D true).2, gap_nn _, q, a1, b1, c1, (D true).1⟩
/-! The loop. -/
def goes (ag : Bool) (ld : Int) : Bool := ag && iL 0 ld
def J (b : Mo.Bd) (ld sc : Int) (ag : Bool) (j : Int) : Prop := (Inv b (C ld sc ag ld 0 0) ∧ (j = 0 ∨ goes ag ld = true)) ∨ (Inv b (O ld sc ag 0) ∧ 1 ≤ j ∧ goes ag ld = false)
theorem eqN {c d : Bool} (h : c = d) : (stdQ QO.not (stdQ QO.eq c d) (stdQ QO.eq c d) = true) = False := by
  subst h
  cases c <;> simp [stdQ]
/-- What a taken status leaves. -/
theorem take {b : Mo.Bd} {c c' : Mo.Cnt} {spent : Int} (h : Inv b c) (z : Z c) (hs : 0 ≤ spent) (h1 : c.st = 1) (hu : ∀ t r l, Mo.uStore12_v1 1 (B t r l c) = B t r l c') :
    Mo.tTake_v1 b = true ∧ Mo.tTake_pre spent b ∧ Inv (Mo.tTake_v4 b) c' ∧ 0 ≤ Mo.tTake_v3 spent b := by
  obtain ⟨t1, t2⟩ := tick0 h z
  have e : (iN (Mo.Cnt.st (Mo.Bd.c1 (Mo.dTick_v1 0 b))) 1 = true) = False := by rw [t2.c1, h1, iN_eq]; simp
  obtain ⟨s1, s2⟩ := put12 (v := 1) (spent := Mo.pLoad12_v1 spent) t2 z (gap_nn _) hu
  unfold Mo.tTake_v1 Mo.tTake_pre Mo.tTake_v4 Mo.tTake_v3
  simp only [e, if_false]
  exact ⟨trivial, ⟨⟨⟨hs, Int.le_refl 0⟩, t1⟩, s1⟩, s2, gap_nn _⟩
theorem take0 {b : Mo.Bd} {c : Mo.Cnt} {spent : Int} (h : Inv b c) (z : Z c) (hs : 0 ≤ spent) (h1 : c.st = 0) :
    Mo.tTake_v1 b = false ∧ Mo.tTake_pre spent b ∧ Inv (Mo.tTake_v4 b) c ∧ 0 ≤ Mo.tTake_v3 spent b := by
  obtain ⟨t1, t2⟩ := tick0 h z
  have e : (iN (Mo.Cnt.st (Mo.Bd.c1 (Mo.dTick_v1 0 b))) 1 = true) = True := by rw [t2.c1, h1, iN_eq]; simp
  unfold Mo.tTake_v1 Mo.tTake_pre Mo.tTake_v4 Mo.tTake_v3
  simp only [e, if_true]
  exact ⟨trivial, ⟨⟨⟨hs, Int.le_refl 0⟩, t1⟩, trivial⟩, t2, gap_nn _⟩
/-- A round. -/
theorem round {ld sc j spent : Int} {ag : Bool} {b : Mo.Bd} (h0 : 0 ≤ sc) (h1 : sc < 256) (hl : 0 ≤ ld) (hl2 : ld < 4294967296) (hs : 0 ≤ spent) (hj : 0 ≤ j) (h : J b ld sc ag j) :
    ∃ c1 c2 c3, Inv (Mo.dTick_v1 (max ld 1 * (sc + 1) - 1) b) c1 ∧ Mo.dTick_pre (max ld 1 * (sc + 1) - 1) b ∧ Mo.cLine_v1 c1 = false ∧
      Inv (Mo.dTick_v1 1 (Mo.dTick_v1 (max ld 1 * (sc + 1) - 1) b)) c2 ∧ Mo.dTick_pre 1 (Mo.dTick_v1 (max ld 1 * (sc + 1) - 1) b) ∧ Mo.cLine_v1 c2 = (iE j 0 || goes ag ld) ∧
      Mo.tTake_v1 (Mo.dTick_v1 1 (Mo.dTick_v1 (max ld 1 * (sc + 1) - 1) b)) = (iE j 0 || goes ag ld) ∧ Mo.tTake_pre spent (Mo.dTick_v1 1 (Mo.dTick_v1 (max ld 1 * (sc + 1) - 1) b)) ∧
      Inv (Mo.tTake_v4 (Mo.dTick_v1 1 (Mo.dTick_v1 (max ld 1 * (sc + 1) - 1) b))) c3 ∧ 0 ≤ Mo.tTake_v3 spent (Mo.dTick_v1 1 (Mo.dTick_v1 (max ld 1 * (sc + 1) - 1) b)) ∧ Z c3 ∧ Mo.cLine_v1 c3 = false ∧ iE (anw c3.ct 1) 1 = goes ag ld ∧
      ((c3 = C ld sc ag ld 0 0 ∧ goes ag ld = true) ∨ (c3 = O ld sc ag 0 ∧ goes ag ld = false)) := by
  have pq : 1 * (sc + 1) ≤ max ld 1 * (sc + 1) := Int.mul_le_mul_of_nonneg_right (by omega) (by omega)
  have n0 : 0 ≤ max ld 1 * (sc + 1) - 1 := by omega
  have i00 : iN 0 0 = false := by kernel_rfl
  have i10 : iN 1 0 = true := by kernel_rfl
  rcases h with ⟨hi, hj2⟩ | ⟨hi, hj2, hg⟩
  · obtain ⟨m1, m2⟩ := tick_most (st := 0) (ag := ag) h0 h1 hl hl2
    obtain ⟨t1, t2⟩ := tick_B hi n0 m2
    rw [m1] at t2
    obtain ⟨q1, q2⟩ := tick_last (ld := ld) (st := 0) (va := min ld 1) (ag := ag) h0 h1 hl hl2 (by omega) (by omega)
    obtain ⟨u1, u2⟩ := tick_B t2 (by decide) q2
    rw [q1] at u2
    have je : (iE j 0 || goes ag ld) = true := by
      rcases hj2 with rfl | h
      · rfl
      · rw [h, Bool.or_true]
    rw [je]
    by_cases hg : goes ag ld = true
    · have hg' : (ag && iL 0 ld) = true := hg
      rw [if_pos hg'] at u2
      obtain ⟨x1, x2, x3, x4⟩ := take (c' := C ld sc ag ld 0 0) u2 (Z.run h0 h1 (Int.le_refl 0) h0) hs rfl fun t r l => by kernel_rfl
      refine ⟨_, _, _, t2, t1, (line_C h0 h1).trans i00, u2, u1, (line_C h0 h1).trans i10, x1, x2, x3, x4, Z.run h0 h1 (Int.le_refl 0) h0, (line_C h0 h1).trans i00, ?_, Or.inl ⟨rfl, hg⟩⟩
      rw [hg]
      show iE (anw (ctw sc ag) 1) 1 = true
      rw [(cw sc ag h0 h1).f1]; kernel_rfl
    · have hg' : goes ag ld = false := by cases h : goes ag ld <;> simp_all
      have hg2 : ¬ (ag && iL 0 ld) = true := hg
      rw [if_neg hg2] at u2
      obtain ⟨x1, x2, x3, x4⟩ := take (c' := O ld sc ag 0) u2 (Z.off (O_off h0 h1)) hs rfl fun t r l => by kernel_rfl
      refine ⟨_, _, _, t2, t1, (line_C h0 h1).trans i00, u2, u1, (line_O h0 h1).trans i10, x1, x2, x3, x4, Z.off (O_off h0 h1), (line_O h0 h1).trans i00, ?_, Or.inr ⟨rfl, hg'⟩⟩
      rw [hg', O_off h0 h1]; kernel_rfl
  · have je : (iE j 0 || goes ag ld) = false := by
      rw [hg, Bool.or_false]
      cases h : iE j 0
      · rfl
      · rw [iE_eq] at h; omega
    have off : anw (O ld sc ag 0).ct 1 = 0 := O_off h0 h1
    obtain ⟨t1, t2⟩ := tick_B hi n0 (tick_off off _).2
    rw [(tick_off off _).1] at t2
    obtain ⟨u1, u2⟩ := tick_B t2 (by decide) (tick_off off 1).2
    rw [(tick_off off _).1] at u2
    obtain ⟨x1, x2, x3, x4⟩ := take0 (spent := spent) u2 (Z.off off) hs rfl
    refine ⟨_, _, _, t2, t1, (line_O h0 h1).trans i00, u2, u1, ?_, ?_, x2, x3, x4, Z.off off, (line_O h0 h1).trans i00, ?_, Or.inr ⟨rfl, hg⟩⟩
    · rw [je]; exact (line_O h0 h1).trans i00
    · rw [je]; exact x1
    · rw [hg, off]; kernel_rfl
theorem loop {ld sc rounds : Int} {ag : Bool} (K : S → List Ob → Prop) (hK : K (.bv true) []) (h0 : 0 ≤ sc) (h1 : sc < 256) (hl : 0 ≤ ld) (hl2 : ld < 4294967296) :
    ∀ (m : Nat) (j : Int) (b : Mo.Bd) (made spent : Int), 10 - j ≤ m → 0 ≤ j → 0 ≤ spent → J b ld sc ag j → tickRings_L0 ld sc ag rounds (max ld 1 * (sc + 1)) j 10 b made spent K := by
  have hN : cvi (rmq (cvq rounds 0) 10) 0 < 10 := by
    have e : rmq (cvq rounds 0) 10 = (rounds % 18446744073709551616) % 10 := by
      show Int.tmod (rounds % 18446744073709551616) 10 = _
      exact Int.tmod_eq_emod_of_nonneg (Int.emod_nonneg _ (by decide))
    have e2 : cvi (rmq (cvq rounds 0) 10) 0 = (rounds % 18446744073709551616) % 10 := by rw [e]; exact wrap64 (by omega) (by omega)
    rw [e2]; omega
  have out : ∀ (j : Int) (b : Mo.Bd) (made spent : Int), ¬ j ≤ cvi (rmq (cvq rounds 0) 10) 0 → 0 ≤ spent → J b ld sc ag j → tickRings_L0 ld sc ag rounds (max ld 1 * (sc + 1)) j 10 b made spent K := by
    intro j b made spent hj hs hJ
    refine RtickRings_0_step ld sc ag rounds _ j 10 b made spent K ?_
    have lt : (iM j (cvi (rmq (cvq rounds 0) 10) 0) = true) = False := by rw [iM_eq]; exact eq_false hj
    unfold RtickRings_0_T Mo.RtickRings_0_pre Mo.RtickRings_0_g1 Mo.RtickRings_0_v1
    simp only [lt, if_false, if_true]
    refine ⟨?_, hK⟩
    unfold Mo.tStop_pre
    have stp : ∀ c, Inv b c → Z c → ∃ c', (∀ t r l, Mo.uStore8_v1 0 (B t r l c) = B t r l c') ∧ Z c' := fun c _ _ => ⟨⟨c.ld, c.va, 0, c.st, 0⟩, fun t r l => by kernel_rfl, Z.off (by kernel_rfl)⟩
    have go : ∀ c, Inv b c → Z c → Mo.pStore8_pre 0 spent b ∧ Mo.pStore12_pre 1 (Mo.pStore8_v1 spent) (Mo.pStore8_v2 0 b) := fun c hi z => by
      obtain ⟨c', hu, z'⟩ := stp c hi z
      obtain ⟨a1, a2⟩ := put8 (spent := spent) hi z hs hu
      obtain ⟨b1, _⟩ := put12 (v := 1) (c' := { c' with st := nnw c'.st (anw 1 1) }) (spent := Mo.pStore8_v1 spent) a2 z' (gap_nn _) fun t r l => by kernel_rfl
      exact ⟨a1, b1⟩
    rcases hJ with ⟨hi, _⟩ | ⟨hi, _⟩
    · exact go _ hi (Z.run h0 h1 (Int.le_refl 0) h0)
    · exact go _ hi (Z.off (O_off h0 h1))
  intro m
  induction m with
  | zero => intro j b made spent hm hj hs hJ; exact out j b made spent (by omega) hs hJ
  | succ m ih =>
    intro j b made spent hm hj hs hJ
    by_cases hlt : j ≤ cvi (rmq (cvq rounds 0) 10) 0
    · refine RtickRings_0_step ld sc ag rounds _ j 10 b made spent K ?_
      have lt : (iM j (cvi (rmq (cvq rounds 0) 10) 0) = true) = True := by rw [iM_eq]; exact eq_true hlt
      obtain ⟨c1, c2, c3, a1, a2, a3, b1, b2, b3, d1, d2, d3, d4, z3, d5, d6, d7⟩ := round h0 h1 hl hl2 hs hj hJ
      have pq : 1 * (sc + 1) ≤ max ld 1 * (sc + 1) := Int.mul_le_mul_of_nonneg_right (by omega) (by omega)
      have pu : max ld 1 * (sc + 1) ≤ max ld 1 * 256 := Int.mul_le_mul_of_nonneg_left (by omega) (by omega)
      have sb : sbq (max ld 1 * (sc + 1)) 1 = max ld 1 * (sc + 1) - 1 := by
        show (max ld 1 * (sc + 1) - 1) % 18446744073709551616 = _
        omega
      generalize hP : max ld 1 * (sc + 1) = P at *
      obtain ⟨t1, t2⟩ := tick0 d3 z3
      have E1 : Inv (Mo.RtickRings_0_e1 P b) c3 := by unfold Mo.RtickRings_0_e1; rw [sb]; exact t2
      have E2 : Inv (Mo.RtickRings_0_e2 P b) c3 := by unfold Mo.RtickRings_0_e2; rw [sb]; exact t2
      have L1 := a1.hi.trans a3
      have L2 := b1.hi.trans b3
      have L3 := E1.hi.trans d5
      have R : iE (anw (Mo.Cnt.ct (Mo.Bd.c1 (Mo.RtickRings_0_e2 P b))) 1) 1 = goes ag ld := by rw [E2.c1]; exact d6
      have g : Mo.RtickRings_0_g1 ld ag rounds P j b = false := by
        unfold Mo.RtickRings_0_g1
        simp only [lt, if_true, sb, L1, L2, L3, d1, R, Bool.false_eq_true, if_false]
        unfold goes
        generalize iL 0 ld = y
        generalize iE j 0 = x
        cases ag <;> cases x <;> cases y <;> rfl
      unfold RtickRings_0_T
      rw [g]
      simp only [Bool.false_eq_true, if_false]
      refine ⟨?_, ?_⟩
      · unfold Mo.RtickRings_0_pre
        simp only [lt, if_true, sb]
        exact ⟨a2, b2, d2, ⟨d4, Int.le_refl 0⟩, t1⟩
      · rw [adi_small (by omega) (by omega)]
        refine ih (j + 1) _ _ _ (by omega) (by omega) (gap_nn _) ?_
        have E : Inv (Mo.RtickRings_0_v2 P b) c3 := E1
        rcases d7 with ⟨rfl, q⟩ | ⟨rfl, q⟩
        · exact Or.inl ⟨E, Or.inr q⟩
        · exact Or.inr ⟨E, by omega, q⟩
    · exact out j b made spent hlt hs hJ
theorem tickRings_all2 (K : S → List Ob → Prop) (hK : K (.bv true) []) (ld sc : Int) (ag : Bool) (rounds : Int) (hl : 0 ≤ ld) (hl2 : ld < 4294967296) (hs : 0 ≤ sc) : tickRings_T ld sc ag rounds K := by
  have es : rmw sc 256 = sc % 256 := Int.tmod_eq_emod_of_nonneg hs
  have s1 : 0 ≤ sc % 256 := by omega
  have s2 : sc % 256 < 256 := by omega
  unfold tickRings_T Mo.tickRings_pre Mo.tickRings_g1 Mo.tickRings_v1
  rw [es]
  generalize sc % 256 = s at *
  have w := cv s s1 s2
  have es2 : rmw s 256 = s := (Int.tmod_eq_emod_of_nonneg s1).trans (Int.emod_eq_of_lt s1 s2)
  have as1 : adw s 1 = s + 1 := by
    show (s + 1) % 4294967296 = _
    omega
  have aq1 : adq s 1 = s + 1 := by
    show (s + 1) % 18446744073709551616 = _
    omega
  have mx : maw ld 1 = max ld 1 := by
    show (if (1 : Int) > ld then 1 else ld) = _
    split <;> omega
  have pq : 1 * (s + 1) ≤ max ld 1 * (s + 1) := Int.mul_le_mul_of_nonneg_right (by omega) (by omega)
  have pu : max ld 1 * (s + 1) ≤ max ld 1 * 256 := Int.mul_le_mul_of_nonneg_left (by omega) (by omega)
  have per : mlq (cvq (maw ld 1) 0) (adq (cvq (srw (anw s 255) 0) 0) 1) = max ld 1 * (s + 1) := by
    rw [w.g3, cvq_small s1 (by omega), aq1, mx, cvq_small (by omega) (by omega)]
    show (max ld 1 * (s + 1)) % 18446744073709551616 = _
    generalize max ld 1 * (s + 1) = P at *
    omega
  have g4 : adw 5 (mlw s 256) = ctw s false := by have := w.g4; rw [es2] at this; exact this
  have nw : ∀ x, (iN x x = true) = False := fun x => by rw [iN_eq]; simp
  obtain ⟨l, e1, e2⟩ := wire_B 0 ⟨0, 0, 0, 0, false, false, 10⟩ ⟨0, 0⟩ ⟨0, 0, 0, 0, 0⟩
  have hi : Inv (Mo.dNew_e1 10) ⟨0, 0, 0, 0, 0⟩ := ⟨_, _, l, e1, Int.le_refl 0, ⟨Int.le_refl 0, rfl⟩, e2⟩
  have dp : Mo.dNew_pre 10 := by
    unfold Mo.dNew_pre
    rw [if_neg (by rw [iE_eq]; decide)]; exact wirep_B _ _ _ _
  obtain ⟨a1, a2, a3⟩ := start (ld := ld) (sc := s) (ag := ag) (spent := 0) hi (Int.le_refl 0) s1 s2
  have st0 : Mo.tStart_v1 s = 0 := by
    unfold Mo.tStart_v1
    rw [if_neg (by rw [iL_eq]; omega)]
  have c1 : cvq (s + 1) 0 = s + 1 := cvq_small (by omega) (by omega)
  have cl : cvq ld 0 = ld := cvq_small hl (by omega)
  have b1 : Mo.bPut1_pre 1 := by rw [p1]; trivial
  have ref1 : ld = 0 → mlq 1 (s + 1) = max ld 1 * (s + 1) := fun h => by
    have : max ld 1 = 1 := by omega
    rw [this]
    show (1 * (s + 1)) % 18446744073709551616 = _
    omega
  have ref2 : ¬ ld = 0 → mlq ld (s + 1) = max ld 1 * (s + 1) := fun h => by
    have : max ld 1 = ld := by omega
    rw [this] at pu pq ⊢
    show (ld * (s + 1)) % 18446744073709551616 = _
    generalize ld * (s + 1) = P at *
    omega
  have nz : (iE (max ld 1 * (s + 1)) 0 = true) = False := by rw [iE_eq]; exact eq_false (by omega)
  simp only [st0, per, es2, as1, c1, cl, w.g1, w.g2, g4, w.g5, nw, if_false, nz]
  have J0 : J (Mo.tStart_v4 ld s ag (Mo.dNew_e1 10)) ld s ag 0 := Or.inl ⟨a1, Or.inl rfl⟩
  have L := loop (rounds := rounds) (ag := ag) K hK s1 s2 hl hl2 10 0 (Mo.tStart_v4 ld s ag (Mo.dNew_e1 10)) (Mo.tStart_v2 s 0) (Mo.tStart_v3 s 0) (by omega) (Int.le_refl 0) a2 J0
  by_cases hz : ld = 0
  · have z : (iE ld 0 = true) = True := by rw [iE_eq]; exact eq_true hz
    rw [ref1 hz]
    simp only [z, if_true, nw, if_false, nz, ite_self, Bool.false_eq_true]
    exact ⟨⟨dp, a3, by cases ag <;> simp [p1]⟩, L⟩
  · have z : (iE ld 0 = true) = False := by rw [iE_eq]; exact eq_false hz
    rw [ref2 hz]
    simp only [z, if_false, nw, nz, ite_self, Bool.false_eq_true]
    exact ⟨⟨dp, a3, by cases ag <;> simp [p1]⟩, L⟩
end Go.SX.Y.Tg
