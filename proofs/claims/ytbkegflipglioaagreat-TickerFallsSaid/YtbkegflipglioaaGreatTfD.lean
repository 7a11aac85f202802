/- TickerFalls, plain part: Start; the law's loop. -/
import Derived.Test.YtbkegflipglioaaGreatTfC
set_option maxRecDepth 20000
namespace Go.SX.Y.Tf
open Go.SX Go.SX.Y
theorem A0 : adw (cvw (adi 268500992 (mli 0 32)) 0) 0 = 268500992 := by kernel_rfl
theorem A4 : adw (cvw (adi 268500992 (mli 0 32)) 0) 4 = 268500996 := by kernel_rfl
theorem A8 : adw (cvw (adi 268500992 (mli 0 32)) 0) 8 = 268501000 := by kernel_rfl
theorem A12 : adw (cvw (adi 268500992 (mli 0 32)) 0) 12 = 268501004 := by kernel_rfl
noncomputable def cw2 (sc : Int) : Int := rrw (nnw 5 65280) (anw (slw sc 8) 65280)
noncomputable def chk2 (sc : Int) : Bool := (cw2 sc == ctw sc false) && (Mo.bPut1_v1 (cw2 sc) 1 == ctw sc true)
theorem chkB_ok : ((List.range 256).all fun k => chk2 (Int.ofNat k)) = true := by kernel_rfl
theorem cwd (sc : Int) (h0 : 0 ≤ sc) (h1 : sc < 256) : cw2 sc = ctw sc false ∧ Mo.bPut1_v1 (cw2 sc) 1 = ctw sc true := by
  have h := chkB_ok
  rw [List.all_eq_true] at h
  have h2 := h sc.toNat (by rw [List.mem_range]; omega)
  rw [show Int.ofNat sc.toNat = sc from Int.toNat_of_nonneg h0] at h2
  unfold chk2 at h2
  simpa only [Bool.and_eq_true, beq_iff_eq] using h2
theorem ctl_on {sc : Int} {ag : Bool} (ld : Int) (h0 : 0 ≤ sc) (h1 : sc < 256) : ctl (ctw sc ag) ⟨ld, 0, 0, 0, 0⟩ = C ld sc ag ld 0 0 := by
  have w := cw sc ag h0 h1
  unfold ctl
  rw [w.f5, w.f1, if_pos (show iN 1 0 = true by kernel_rfl)]
  exact if_pos (by kernel_rfl)
theorem start {b : Mo.Bd} {ld sc spent : Int} {ag : Bool} (h : Inv b ⟨0, 0, 0, 0, 0⟩) (hs : 0 ≤ spent) (h0 : 0 ≤ sc) (h1 : sc < 256) :
    Mo.tStart_v1 ld sc ag 0 0 1 b 1 [] = 0 ∧ Mo.tStart_v4 ld sc ag 0 0 1 b 1 [] = [] ∧ Inv (Mo.tStart_v5 ld sc ag 0 0 1 b 1 []) (C ld sc ag ld 0 0) ∧ 0 ≤ Mo.tStart_v3 ld sc 0 spent 0 1 b 1 [] ∧ Mo.tStart_pre ld sc ag 0 spent 0 1 [] b 1 [] := by
  have z0 : ∀ x, Z ⟨x, 0, 0, 0, 0⟩ := fun x => Z.off (by kernel_rfl)
  obtain ⟨a1, a2, a3, a4, a5⟩ := store (a := 268501000) (v := 0) (c' := ⟨0, 0, 0, 0, 0⟩) h (z0 0) hs (fun t r l => uSe_8 t r l _) (fun t r l => (uS_8 0 t r l _).trans (congrArg (Q t r l) (by kernel_rfl))) (fun t r l => uSp_8 t r l _)
  have E1 : Mo.tStart_e1 0 0 1 b 1 [] = 0 := by unfold Mo.tStart_e1; rw [A8]; exact a1
  have E2 : Mo.tStart_e2 0 0 1 b 1 [] = [] := by unfold Mo.tStart_e2; rw [A8]; exact a2
  have E5 : Inv (Mo.tStart_e5 0 0 1 b 1 []) ⟨0, 0, 0, 0, 0⟩ := by unfold Mo.tStart_e5; rw [A8]; exact a3
  obtain ⟨b1, b2, b3, b4, b5⟩ := store (a := 268500992) (v := ld) (c' := ⟨ld, 0, 0, 0, 0⟩) E5 (z0 0) a4 (fun t r l => uSe_0 t r l _) (fun t r l => uS_0 ld t r l _) (fun t r l => uSp_0 t r l _)
  have E6 : Mo.tStart_e6 ld 0 0 1 b 1 [] = 0 := by unfold Mo.tStart_e6; rw [A0, E2]; exact b1
  have E7 : Mo.tStart_e7 ld 0 0 1 b 1 [] = [] := by unfold Mo.tStart_e7; rw [A0, E2]; exact b2
  have E10 : Inv (Mo.tStart_e10 ld 0 0 1 b 1 []) ⟨ld, 0, 0, 0, 0⟩ := by unfold Mo.tStart_e10; rw [A0, E2]; exact b3
  obtain ⟨c1, c2, c3, c4, c5⟩ := store (a := 268501004) (v := 1) (c' := ⟨ld, 0, 0, 0, 0⟩) E10 (z0 ld) b4 (fun t r l => uSe_12 t r l _) (fun t r l => (uS_12 1 t r l _).trans (congrArg (Q t r l) (by kernel_rfl))) (fun t r l => uSp_12 t r l _)
  have E11 : Mo.tStart_e11 ld 0 0 1 b 1 [] = 0 := by unfold Mo.tStart_e11; rw [A12, E7]; exact c1
  have E12 : Mo.tStart_e12 ld 0 0 1 b 1 [] = [] := by unfold Mo.tStart_e12; rw [A12, E7]; exact c2
  have E15 : Inv (Mo.tStart_e15 ld 0 0 1 b 1 []) ⟨ld, 0, 0, 0, 0⟩ := by unfold Mo.tStart_e15; rw [A12, E7]; exact c3
  obtain ⟨w1, w2⟩ := cwd sc h0 h1
  have S := fun ag => store (a := 268501000) (v := ctw sc ag) (c' := C ld sc ag ld 0 0) E15 (z0 ld) c4 (fun t r l => uSe_8 t r l _) (fun t r l => (uS_8 _ t r l _).trans (congrArg (Q t r l) (ctl_on ld h0 h1))) (fun t r l => uSp_8 t r l _)
  have l255 : (iL 255 sc = true) = False := by rw [iL_eq]; exact eq_false (by omega)
  have w1' : rrw (nnw 5 65280) (anw (slw sc 8) 65280) = ctw sc false := w1
  have w2' : Mo.bPut1_v1 (ctw sc false) 1 = ctw sc true := by rw [← w1]; exact w2
  have q1 : Mo.bPut1_pre 1 = True := by kernel_rfl
  have e4 : Mo.tStart_e4 0 spent 0 1 b 1 [] = Mo.pStore_v3 (Mo.pStore_v3 spent 0 []) 0 [] := by unfold Mo.tStart_e4; rw [E2]
  have e9 : Mo.tStart_e9 ld 0 spent 0 1 b 1 [] = Mo.pStore_v3 (Mo.pStore_v3 (Mo.pStore_v3 spent 0 []) 0 []) 0 [] := by unfold Mo.tStart_e9; rw [E7, e4]
  have e14 : Mo.tStart_e14 ld 0 spent 0 1 b 1 [] = Mo.pStore_v3 (Mo.pStore_v3 (Mo.pStore_v3 (Mo.pStore_v3 spent 0 []) 0 []) 0 []) 0 [] := by unfold Mo.tStart_e14; rw [E12, e9]
  unfold Mo.tStart_v1 Mo.tStart_v4 Mo.tStart_v5 Mo.tStart_v3 Mo.tStart_pre
  simp only [l255, E1, E6, E11, n00, if_false, Mo.tStart_e16, Mo.tStart_e17, Mo.tStart_e18, Mo.tStart_e19, Mo.tStart_e20, Mo.tStart_e21, A8, A0, A12, E2, E7, E12, w1', w2', e4, e9, e14, q1, true_and]
  cases ag
  · obtain ⟨d1, d2, d3, d4, d5⟩ := S false
    simp only [Bool.false_eq_true, if_false]
    exact ⟨d1, d2, d3, d4, a5, b5, c5, d5⟩
  · obtain ⟨d1, d2, d3, d4, d5⟩ := S true
    simp only [if_true]
    exact ⟨d1, d2, d3, d4, a5, b5, c5, d5⟩
/-! The loop. -/
def J (b : Mo.Bd) (ld sc : Int) (ag : Bool) (want : Int) : Prop := ∃ c, Inv b c ∧ ((∃ st, c = C ld sc ag want st 0 ∧ 1 ≤ want ∧ want < 100) ∨ (anw c.ct 1 = 0 ∧ c.va = 0 ∧ want = 0))
theorem nextC {ld sc st want : Int} {ag : Bool} (h0 : 0 ≤ sc) (h1 : sc < 256) (hl : 1 ≤ ld) (hl2 : ld < 100) (hw : 1 ≤ want) (hw2 : want < 100) :
    ∃ c, Mo.cTick_v1 1 (C ld sc ag want st sc) = c ∧ ((∃ st, c = C ld sc ag (Mo.RtickFalls_0_v2 ld ag want) st 0 ∧ 1 ≤ Mo.RtickFalls_0_v2 ld ag want ∧ Mo.RtickFalls_0_v2 ld ag want < 100) ∨ (anw c.ct 1 = 0 ∧ c.va = 0 ∧ Mo.RtickFalls_0_v2 ld ag want = 0)) := by
  have h := (tick_hi (ld := ld) (st := st) (ag := ag) h0 h1 hw hw2 hl hl2).1
  refine ⟨_, h, ?_⟩
  unfold Mo.RtickFalls_0_v2
  simp only [iL_eq, iE_eq]
  have sb : sbw want 1 = want - 1 := by
    show (want - 1) % 4294967296 = _
    omega
  by_cases hh : 1 < want
  · rw [if_pos hh, if_pos hh, sb]
    exact Or.inl ⟨st, rfl, by omega, by omega⟩
  · have : want = 1 := by omega
    subst this
    rw [if_neg hh, if_neg hh, if_pos rfl]
    cases ag
    · exact Or.inr ⟨(cw sc false h0 h1).f4, rfl, rfl⟩
    · exact Or.inl ⟨1, rfl, hl, hl2⟩
theorem loop {ld sc steps : Int} {ag : Bool} (K : S → List Ob → Prop) (hK : K (.bv true) []) (h0 : 0 ≤ sc) (h1 : sc < 256) (hl : 1 ≤ ld) (hl2 : ld < 100) :
    ∀ (m : Nat) (j want : Int) (b : Mo.Bd) (made spent : Int), 60 - j ≤ m → 0 ≤ j → 0 ≤ spent → J b ld sc ag want → tickFalls_L0 ld sc ag steps want j 1 1 10 0 b 1 [] made spent 0 [] K := by
  have hN : cvi (rmq (cvq steps 0) 60) 0 < 60 := by
    have e : rmq (cvq steps 0) 60 = (steps % 18446744073709551616) % 60 := by
      show Int.tmod (steps % 18446744073709551616) 60 = _
      exact Int.tmod_eq_emod_of_nonneg (Int.emod_nonneg _ (by decide))
    have e2 : cvi (rmq (cvq steps 0) 60) 0 = (steps % 18446744073709551616) % 60 := by rw [e]; exact wrap64 (by omega) (by omega)
    rw [e2]; omega
  intro m
  induction m with
  | zero =>
    intro j want b made spent hm hj hs hJ
    refine RtickFalls_0_step ld sc ag steps want j 1 1 10 0 b 1 [] made spent 0 [] K ?_
    obtain ⟨c, hi, hc⟩ := hJ
    have z : Z c := by
      rcases hc with ⟨st, rfl, _, _⟩ | ⟨q1, _, _⟩
      · exact Z.run h0 h1 (Int.le_refl 0) h0
      · exact Z.off q1
    have va : c.va = want := by
      rcases hc with ⟨st, rfl, _, _⟩ | ⟨_, q2, q3⟩
      · rfl
      · omega
    obtain ⟨a1, a2, a3, a4, a5, a6⟩ := load4 hi z hs
    have lt : (iL j (cvi (rmq (cvq steps 0) 60) 0) = true) = False := by rw [iL_eq]; exact eq_false (by omega)
    unfold RtickFalls_0_T Mo.RtickFalls_0_pre Mo.RtickFalls_0_g1 Mo.RtickFalls_0_v1 Mo.tValue_pre
    simp only [lt, if_false, if_true, A4, a1, a2, va, iE_eq]
    refine ⟨a6, ?_⟩
    have e : iE 0 0 = true := by rw [iE_eq]
    rw [e]; exact hK
  | succ m ih =>
    intro j want b made spent hm hj hs hJ
    refine RtickFalls_0_step ld sc ag steps want j 1 1 10 0 b 1 [] made spent 0 [] K ?_
    obtain ⟨c, hi, hc⟩ := hJ
    have z : Z c := by
      rcases hc with ⟨st, rfl, _, _⟩ | ⟨q1, _, _⟩
      · exact Z.run h0 h1 (Int.le_refl 0) h0
      · exact Z.off q1
    have va : c.va = want := by
      rcases hc with ⟨st, rfl, _, _⟩ | ⟨_, q2, q3⟩
      · rfl
      · omega
    obtain ⟨a1, a2, a3, a4, a5, a6⟩ := load4 hi z hs
    by_cases hlt : j < cvi (rmq (cvq steps 0) 60) 0
    · have lt : (iL j (cvi (rmq (cvq steps 0) 60) 0) = true) = True := by rw [iL_eq]; exact eq_true hlt
      -- the steps' ticks
      have cs : cvq sc 0 = sc := cvq_small h0 (by omega)
      have T1 : ∃ c', Mo.cTick_v1 sc c = c' ∧ Mo.cTick_pre sc c ∧ Z c' ∧ c'.va = want ∧ ∃ c2, Mo.cTick_v1 1 c' = c2 ∧ Mo.cTick_pre 1 c' ∧ ((∃ st, c2 = C ld sc ag (Mo.RtickFalls_0_v2 ld ag want) st 0 ∧ 1 ≤ Mo.RtickFalls_0_v2 ld ag want ∧ Mo.RtickFalls_0_v2 ld ag want < 100) ∨ (anw c2.ct 1 = 0 ∧ c2.va = 0 ∧ Mo.RtickFalls_0_v2 ld ag want = 0)) := by
        rcases hc with ⟨st, rfl, w1, w2⟩ | ⟨q1, q2, q3⟩
        · have h := tick_lo (ld := ld) (va := want) (st := st) (ag := ag) h0 h1 h0 (Int.le_refl 0) (by omega)
          rw [Int.zero_add] at h
          obtain ⟨c2, n1, n2⟩ := nextC (st := st) (ag := ag) h0 h1 hl hl2 w1 w2
          exact ⟨_, h.1, h.2, Z.run h0 h1 h0 (Int.le_refl _), rfl, c2, n1, (tick_hi h0 h1 w1 w2 hl hl2).2, n2⟩
        · have v0 : Mo.RtickFalls_0_v2 ld ag want = 0 := by
            unfold Mo.RtickFalls_0_v2
            simp only [iL_eq, iE_eq]
            rw [if_neg (by omega), if_neg (by omega)]
          exact ⟨c, (tick_off q1 sc).1, (tick_off q1 sc).2, Z.off q1, va, c, (tick_off q1 1).1, (tick_off q1 1).2, Or.inr ⟨q1, q2, v0⟩⟩
      obtain ⟨c', t1, t2, t3, t4, c2, t5, t6, t7⟩ := T1
      have E1 : Mo.RtickFalls_0_e1 1 b 1 [] 0 = [] := a3
      have I2 : Inv (Mo.RtickFalls_0_e2 1 b 1 [] 0) c := a4
      obtain ⟨b1, b2, b3⟩ := tick_Q (n := sc) I2 h0 t2
      rw [t1] at b3
      have E4 : Mo.RtickFalls_0_e4 sc 1 b 1 [] 0 = [] := by unfold Mo.RtickFalls_0_e4; rw [cs, E1]; exact b2
      have I3 : Inv (Mo.RtickFalls_0_e3 sc 1 b 1 [] 0) c' := by unfold Mo.RtickFalls_0_e3; rw [cs]; exact b3
      obtain ⟨d1, d2, d3, d4, d5, d6⟩ := load4 I3 t3 a5
      have E7 : Mo.RtickFalls_0_e7 sc 1 b 1 [] 0 = [] := by unfold Mo.RtickFalls_0_e7; rw [E4]; exact d3
      have I8 : Inv (Mo.RtickFalls_0_e8 sc 1 b 1 [] 0) c' := by unfold Mo.RtickFalls_0_e8; rw [E4]; exact d4
      obtain ⟨f1, f2, f3⟩ := tick_Q (n := 1) I8 (by decide) t6
      rw [t5] at f3
      have E10 : Mo.RtickFalls_0_e10 sc 1 b 1 [] 0 = [] := by unfold Mo.RtickFalls_0_e10; rw [E7]; exact f2
      have E6 : Mo.RtickFalls_0_e6 sc 1 b 1 [] spent 0 = Mo.pLoad_v4 (Mo.pLoad_v4 spent 0 []) 0 [] := by unfold Mo.RtickFalls_0_e6; rw [E4]
      have nw : (iN want want = true) = False := by rw [iN_eq]; simp
      unfold RtickFalls_0_T Mo.RtickFalls_0_pre Mo.RtickFalls_0_g1 Mo.tValue_pre
      simp only [lt, if_true, A4, a1, a2, va, d1, t4, nw, n00, if_false, E1, E4, E7, E10, E6, cs]
      refine ⟨⟨a6, b1, d6, f1⟩, ?_⟩
      simp only [Bool.false_eq_true, if_false]
      rw [adi_small (by omega) (by omega)]
      exact ih (j + 1) _ _ _ _ (by omega) (by omega) d5 ⟨c2, f3, t7⟩
    · have lt : (iL j (cvi (rmq (cvq steps 0) 60) 0) = true) = False := by rw [iL_eq]; exact eq_false hlt
      unfold RtickFalls_0_T Mo.RtickFalls_0_pre Mo.RtickFalls_0_g1 Mo.RtickFalls_0_v1 Mo.tValue_pre
      simp only [lt, if_false, if_true, A4, a1, a2, va, iE_eq]
      refine ⟨a6, ?_⟩
      have e : iE 0 0 = true := by rw [iE_eq]
      rw [e]; exact hK
theorem tickFalls_all2 (K : S → List Ob → Prop) (hK : K (.bv true) []) (ld sc : Int) (ag : Bool) (steps : Int) (hl : 0 ≤ ld) (hs : 0 ≤ sc) : tickFalls_T ld sc ag steps K := by
  have el : adw 1 (rmw ld 50) = 1 + ld % 50 := by
    have : rmw ld 50 = ld % 50 := Int.tmod_eq_emod_of_nonneg hl
    rw [this]
    show (1 + ld % 50) % 4294967296 = _
    omega
  have es : rmw sc 256 = sc % 256 := Int.tmod_eq_emod_of_nonneg hs
  have l1 : 1 ≤ 1 + ld % 50 := by omega
  have l2 : 1 + ld % 50 < 100 := by omega
  have s1 : 0 ≤ sc % 256 := by omega
  have s2 : sc % 256 < 256 := by omega
  unfold tickFalls_T Mo.tickFalls_pre Mo.tickFalls_g1 Mo.tickFalls_v1 Mo.tickFalls_e1 Mo.tickFalls_e2
  rw [el, es]
  generalize 1 + ld % 50 = L at *
  generalize sc % 256 = s at *
  have nb : Mo.Bd.mk (Mo.dNew_v1) (Mo.dNew_v2) (Mo.dNew_v3 10) (Mo.dNew_v4) (Mo.dNew_v5) (Mo.Bk.mk (Mo.Cnt.mk 0 0 0 0 0)) = Q 0 ⟨0, 0, 0, 0, false, false, 10⟩ ⟨0, 0⟩ ⟨0, 0, 0, 0, 0⟩ := by kernel_rfl
  have seen : adi 0 (sbi (castI (lenR (Mo.dResets_v1 List.nil))) 0) = 0 := by rw [d0]; kernel_rfl
  have n1 : Nat.succ 0 = 1 := rfl
  have i1 : Int.toNat 1 = 1 := rfl
  rw [seen, nb, n1, i1]
  have hi : Inv (Q 0 ⟨0, 0, 0, 0, false, false, 10⟩ ⟨0, 0⟩ ⟨0, 0, 0, 0, 0⟩) ⟨0, 0, 0, 0, 0⟩ := ⟨_, _, _, rfl, Int.le_refl 0, ⟨Int.le_refl 0, rfl⟩⟩
  obtain ⟨a1, a2, a3, a4, a5⟩ := start (ld := L) (sc := s) (ag := ag) (spent := 0) hi (Int.le_refl 0) s1 s2
  have g1 : Mo.pNewN_g1 [] = false := by
    unfold Mo.pNewN_g1
    rw [l0, if_neg (by rw [iL_eq]; decide)]
  have dp : Mo.dNew_pre 10 := by
    unfold Mo.dNew_pre
    rw [if_neg (by rw [iE_eq]; decide)]; exact t01
  have pp : Mo.pNewN_pre [] [] := by
    unfold Mo.pNewN_pre
    rw [l0, if_neg (by rw [iL_eq]; decide)]
    have : castI (stdN NO.mul (lenR (List.nil : List (List Int))) (4 + 1)) = 0 := by rw [castI_eq]; rfl
    rw [this, if_pos (by rw [iM_eq]; decide)]
    unfold Mo.pBoot_pre
    exact dpre
  simp only [a1, a2, g1, n00, if_false, Bool.false_eq_true]
  exact ⟨⟨dp, trivial, pp, a5, trivial⟩, loop K hK s1 s2 l1 l2 60 0 L _ _ _ (by omega) (Int.le_refl 0) a4 ⟨_, a3, Or.inl ⟨0, rfl, l1, l2⟩⟩⟩
end Go.SX.Y.Tf
