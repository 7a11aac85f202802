/- FeederCares, plain part: the law. -/
import Derived.Test.YtbkegflipglioaaGreatFdB
set_option maxRecDepth 20000
namespace Go.SX.Y.Fd
open Go.SX Go.SX.Y
theorem wrap64 {x : Int} (h0 : 0 ≤ x) (h1 : x < 9223372036854775808) : IntKind.i64.wrap x = x := by
  obtain ⟨n, rfl⟩ := Int.eq_ofNat_of_zero_le h0
  exact wrap_fit .i64 n (by simp only [maxN]; omega)
theorem adi_small {x y : Int} (h0 : 0 ≤ x + y) (h1 : x + y < 9223372036854775808) : adi x y = x + y := wrap64 h0 h1
theorem same (x : Int) : (iE x x = true) = True := by rw [iE_eq]; simp
theorem nsame (x : Int) : (stdQ QO.not (iE x x) (iE x x) = true) = False := by
  have : iE x x = true := by rw [iE_eq]
  rw [this]; simp [stdQ]
theorem start {b : Mo.Bd} {sh al spent : Int} {lk : Bool} (h : Inv b (X 0 0)) (hs : 0 ≤ spent) (h0 : 0 ≤ sh) (h1 : sh < al) (h2 : al < 4294967296) :
    Mo.fStart_pre sh al lk spent 0 b [] ∧ Mo.fStart_v1 sh al lk b [] = [] ∧ Inv (Mo.fStart_v2 sh al lk b) (Y lk sh al 0 false) := by
  have A := put4 (v := sh) (w' := X sh 0) (spent := spent) h Z.x hs (fun t r R l => s4 sh 0 0 t r R l) rfl
  have e1 : Mo.fStart_e1 sh b [] = [] := by unfold Mo.fStart_e1; rw [A.t]; exact A.r
  have B := put8 (v := al) (w' := X sh al) (spent := Mo.pgap_v1 spent) A.i Z.x (gap_nn _) (fun t r R l => s8 al sh 0 t r R l) rfl
  have e7 : Mo.fStart_e7 sh al b [] = [] := by unfold Mo.fStart_e7; rw [e1, B.t]; exact B.r
  have C := fun lk => put0 (v := ctlv lk) (w' := Y lk sh al 0 false) (spent := Mo.pgap_v1 (Mo.pgap_v1 spent)) B.i Z.x (gap_nn _) (fun t r R l => s0 lk h1 t r R l) rfl
  have e8 : Mo.fStart_e8 sh al b [] = [] := by unfold Mo.fStart_e8; rw [e7]; exact (C true).t
  have z : ∀ lk, Z (Y lk sh al 0 false) := fun lk => Z.y (Int.le_refl 0) (by omega) h2
  have D := fun lk => get4 (spent := Mo.pgap_v1 (Mo.pgap_v1 (Mo.pgap_v1 spent))) (C lk).i (z lk) (gap_nn _)
  have Dt := fun lk => t0 (spent := spent) (C lk).i (z lk) hs
  have E := fun lk => get8 (spent := Mo.pgap_v1 (Mo.pgap_v1 (Mo.pgap_v1 (Mo.pgap_v1 spent)))) (D lk).2 (z lk) (gap_nn _)
  have Et := fun lk => t0 (spent := spent) (D lk).2 (z lk) hs
  have F := fun lk => get0 (spent := Mo.pgap_v1 (Mo.pgap_v1 (Mo.pgap_v1 (Mo.pgap_v1 (Mo.pgap_v1 spent))))) (E lk).2 (z lk) (gap_nn _)
  have Ft := fun lk => t0 (spent := spent) (E lk).2 (z lk) hs
  have x2 : Mo.dSettle_v1 (Mo.fStart_e2 sh al b) [] = [] := (C false).r
  have x3 : Mo.dSettle_v1 (Mo.fStart_e3 sh al b) [] = [] := (C true).r
  have e4 : Mo.fStart_e4 sh al b = Mo.pLoad4_v1 (Mo.pStore0_v1 (ctlv false) (Mo.pStore8_v1 al (Mo.pStore4_v1 sh b))) := rfl
  have e5 : Mo.fStart_e5 sh al b = Mo.pLoad4_v1 (Mo.pStore0_v1 (ctlv true) (Mo.pStore8_v1 al (Mo.pStore4_v1 sh b))) := rfl
  have c1 : Mo.pStore0_v1 1 (Mo.pStore8_v1 al (Mo.pStore4_v1 sh b)) = Mo.pStore0_v1 (ctlv false) (Mo.pStore8_v1 al (Mo.pStore4_v1 sh b)) := rfl
  have c3 : Mo.pStore0_v1 3 (Mo.pStore8_v1 al (Mo.pStore4_v1 sh b)) = Mo.pStore0_v1 (ctlv true) (Mo.pStore8_v1 al (Mo.pStore4_v1 sh b)) := rfl
  have e9 : Mo.fStart_e9 sh al b [] = [] := by unfold Mo.fStart_e9; rw [e8, x2, c1]; exact (Dt false).r
  have e11 : Mo.fStart_e11 sh al b [] = [] := by unfold Mo.fStart_e11; rw [e8, x3, c3]; exact (Dt true).r
  have e12 : Mo.fStart_e12 sh al b [] = [] := by unfold Mo.fStart_e12; rw [e11, e5]; exact (Et true).r
  have e10 : Mo.fStart_e10 sh al b [] = [] := by unfold Mo.fStart_e10; rw [e9, e4, (Et false).r]; exact (Ft false).r
  have e13 : Mo.fStart_e13 sh al b [] = [] := by unfold Mo.fStart_e13; rw [e12, e5]; exact (Ft true).r
  have la : (iM al sh = true) = False := by rw [iM_eq]; exact eq_false (by omega)
  have val : ∀ (lk : Bool) (b : Mo.Bd), Inv b (Y lk sh al 0 false) → Mo.uLoad0_v1 b = ctlv lk := fun lk b hb => by
    obtain ⟨t, r, R, l, rfl, _⟩ := hb; exact v0 lk sh al 0 t r R l
  have k1 : ctlv false = 1 := rfl
  have k3 : ctlv true = 3 := rfl
  cases lk
  · unfold Mo.fStart_pre Mo.fStart_v1 Mo.fStart_v2
    have w1 : Mo.Wd.shut (Mo.Bd.w (Mo.pgap_v2 (Mo.pStore0_v1 (ctlv false) (Mo.pStore8_v1 al (Mo.pStore4_v1 sh b))))) = sh := by rw [(Dt false).i.w]; rfl
    have w2 : Mo.Wd.all (Mo.Bd.w (Mo.pgap_v2 (Mo.pLoad4_v1 (Mo.pStore0_v1 (ctlv false) (Mo.pStore8_v1 al (Mo.pStore4_v1 sh b)))))) = al := by rw [(Et false).i.w]; rfl
    have w3 : Mo.uLoad0_v1 (Mo.pgap_v2 (Mo.pLoad8_v1 (Mo.pLoad4_v1 (Mo.pStore0_v1 (ctlv false) (Mo.pStore8_v1 al (Mo.pStore4_v1 sh b)))))) = 1 := val false _ (Ft false).i
    simp only [Bool.false_eq_true, if_false, la, e1, e7, e8, x2, e4, e9, e10, c1, w1, w2, w3, same, nsame, if_true, (Et false).r, and_true]
    exact ⟨⟨A.p, B.p, (C false).p, (D false).1, (E false).1, (F false).1⟩, trivial, (F false).2⟩
  · unfold Mo.fStart_pre Mo.fStart_v1 Mo.fStart_v2
    have w1 : Mo.Wd.shut (Mo.Bd.w (Mo.pgap_v2 (Mo.pStore0_v1 (ctlv true) (Mo.pStore8_v1 al (Mo.pStore4_v1 sh b))))) = sh := by rw [(Dt true).i.w]; rfl
    have w2 : Mo.Wd.all (Mo.Bd.w (Mo.pgap_v2 (Mo.pLoad4_v1 (Mo.pStore0_v1 (ctlv true) (Mo.pStore8_v1 al (Mo.pStore4_v1 sh b)))))) = al := by rw [(Et true).i.w]; rfl
    have w3 : Mo.uLoad0_v1 (Mo.pgap_v2 (Mo.pLoad8_v1 (Mo.pLoad4_v1 (Mo.pStore0_v1 (ctlv true) (Mo.pStore8_v1 al (Mo.pStore4_v1 sh b)))))) = 3 := val true _ (Ft true).i
    simp only [if_true, if_false, la, e1, e7, e8, x3, e5, e11, e12, e13, c3, w1, w2, w3, same, nsame, and_true]
    exact ⟨⟨A.p, B.p, (C true).p, (D true).1, (E true).1, (F true).1⟩, trivial, (F true).2⟩
/-- Care. -/
theorem care {b : Mo.Bd} {sh al si spent : Int} {lk : Bool} (h : Inv b (Y lk sh al si false)) (hs : 0 ≤ spent) (h0 : 0 ≤ sh) (h1 : sh < al) (h2 : al < 4294967296) (h3 : 0 ≤ si) (h4 : si < al) :
    Mo.fCare_pre sh al true spent 0 b [] ∧ Mo.fCare_v1 sh al true b = iM sh si ∧ 0 ≤ Mo.fCare_v3 sh al true spent b ∧ Mo.fCare_v4 sh al true b [] = [] ∧
      Inv (Mo.fCare_v5 sh al true b) (Y lk sh al (if sh ≤ si then 0 else si) false) := by
  have z := Z.y (lk := lk) (sh := sh) (ar := false) h3 h4 h2
  have t := t0 h z hs
  have g := get16 h z hs
  have win : (stdQ QO.and (iE sh 0) (stdQ QO.and (iE al 0) (stdQ QO.eq true false)) = true) = False := by
    cases iE sh 0 <;> cases iE al 0 <;> simp [stdQ]
  have sw : cvw (Mo.Wd.since (Mo.Bd.w (Mo.pgap_v2 b))) 0 = si := by rw [t.i.w]; exact cvw_small (x := si) h3 (by omega)
  unfold Mo.fCare_pre Mo.fCare_v1 Mo.fCare_v3 Mo.fCare_v4 Mo.fCare_v5
  simp only [win, if_false, sw, iL_eq, t.r]
  by_cases hh : si < sh
  · have hn : ¬ sh ≤ si := by omega
    have e : iM sh si = false := by
      cases q : iM sh si
      · rfl
      · rw [iM_eq] at q; omega
    rw [if_pos hh, if_pos hh, if_pos hh, if_pos hh, if_pos hh, if_neg hn, e]
    exact ⟨⟨g.1, trivial⟩, rfl, gap_nn _, rfl, g.2⟩
  · have hn : sh ≤ si := by omega
    have e : iM sh si = true := by rw [iM_eq]; exact hn
    rw [if_neg hh, if_neg hh, if_neg hh, if_neg hh, if_neg hh, if_pos hn, e]
    have A := put12 (v := 23130) (w' := Y lk sh al si true) (spent := Mo.pgap_v1 spent) g.2 z (gap_nn _) (fun t r R l => s12a lk sh al si t r R l) rfl
    have z2 := Z.y (lk := lk) (sh := sh) (ar := true) h3 h4 h2
    have e1 : Mo.fCare_e1 b [] = [] := by unfold Mo.fCare_e1; rw [t.r, A.t]; exact A.r
    have B := put12 (v := 42405) (w' := Y lk sh al 0 false) (spent := Mo.pgap_v1 (Mo.pgap_v1 spent)) A.i z2 (gap_nn _) (fun t r R l => s12b lk hn h0 (by omega) t r R l) rfl
    rw [e1, B.t]
    exact ⟨⟨g.1, A.p, B.p⟩, rfl, gap_nn _, B.r, B.i⟩
theorem eqN {c d : Bool} (h : c = d) : (stdQ QO.not (stdQ QO.eq c d) (stdQ QO.eq c d) = true) = False := by
  subst h
  cases c <;> simp [stdQ]
theorem dres : Mo.dResets_pre [] := dpre
theorem l1 (T : Int) : castI (lenR [[T, 2]]) = 1 := by rw [castI_eq]; rfl
theorem r1 (T : Int) : Mo.dResets_v1 [[T, 2]] = [[T, 2]] := by
  unfold Mo.dResets_v1
  rw [l1, if_neg (by rw [iE_eq]; decide)]
theorem r1p (T : Int) : Mo.dResets_pre [[T, 2]] := by
  have e : stdN NO.mul (lenR [[T, 2]]) (16 + 1) = 17 := rfl
  unfold Mo.dResets_pre
  rw [l1, if_neg (by rw [iE_eq]; decide), castI_eq, e, if_pos (by rw [iM_eq]; decide)]
  trivial
/-- Behind the loop. -/
theorem fin {b : Mo.Bd} {sh al si spent idle : Int} {lk : Bool} (h : Inv b (Y lk sh al si false)) (hs : 0 ≤ spent) (h2 : al < 4294967296) (h3 : 0 ≤ si) (h4 : si < al) (hi : 0 ≤ idle) :
    Mo.fSince_pre spent 0 b [] ∧ Mo.dTick_pre (sbq (sbq (cvq al 0) (cvq (cvw (Mo.Wd.since (Mo.Bd.w (Mo.pgap_v2 b))) 0) 0)) 1) (Mo.fSince_v1 b) (Mo.dTick_v1 0 b []) ∧ Mo.RfeedCares_0_e7 al b [] = [] ∧
      Mo.dTick_pre (adq 1 (rmq idle 1000)) (Mo.RfeedCares_0_e5 al b) [] ∧ ∃ T, Mo.RfeedCares_0_e8 al idle b [] = [[T, 2]] := by
  have z := Z.y (lk := lk) (sh := sh) (ar := false) h3 h4 h2
  have t := t0 h z hs
  have g := get16 h z hs
  have sw : cvw (Mo.Wd.since (Mo.Bd.w (Mo.pgap_v2 b))) 0 = si := by rw [t.i.w]; exact cvw_small (x := si) h3 (by omega)
  have n1 : sbq (sbq (cvq al 0) (cvq si 0)) 1 = al - si - 1 := by
    rw [cvq_small (show 0 ≤ al by omega) (by omega), cvq_small h3 (by omega)]
    show ((al - si) % 18446744073709551616 - 1) % 18446744073709551616 = _
    omega
  have id : adq 1 (rmq idle 1000) = 1 + idle % 1000 := by
    have : rmq idle 1000 = idle % 1000 := Int.tmod_eq_emod_of_nonneg hi
    rw [this]
    show (1 + idle % 1000) % 18446744073709551616 = _
    omega
  obtain ⟨y1, y2⟩ := yTick (lk := lk) (ar := false) (sh := sh) (al := al) (si := si) (n := al - si - 1) h3 (by omega) (by omega) h2
  obtain ⟨a1, a2, a3⟩ := tick_q g.2 (by omega) y1 y2 rfl []
  have e7 : Mo.RfeedCares_0_e7 al b [] = [] := by unfold Mo.RfeedCares_0_e7; rw [sw, n1, t.r]; exact a2
  have i5 : Inv (Mo.RfeedCares_0_e5 al b) (Y lk sh al (si + (al - si - 1)) false) := by unfold Mo.RfeedCares_0_e5; rw [sw, n1]; exact a3
  obtain ⟨f1, f2⟩ := yFault (lk := lk) (ar := false) (sh := sh) (al := al) (si := si + (al - si - 1)) (n := 1 + idle % 1000) (by omega) (by omega) h2 (by omega)
  obtain ⟨q1, T, q2⟩ := tick_f i5 (k := al - (si + (al - si - 1))) (n := 1 + idle % 1000) (by omega) (by omega) (by omega) f1 rfl f2
  refine ⟨g.1, ?_, e7, ?_, T, ?_⟩
  · rw [sw, n1, t.r]; exact a1
  · rw [id]; exact q1
  · unfold Mo.RfeedCares_0_e8; rw [e7, id]; exact q2
theorem loop {cl T idle dv : Int} {lk : Bool} {xs : List (List Int)} (K : S → List Ob → Prop) (hK : K (.bv true) [.nwin [.i .u64] xs]) (hx : ∀ k, 0 ≤ elI xs k 0) (h0 : 0 ≤ cl) (h1 : cl < T) (h2 : T < 4294967296) (hi : 0 ≤ idle) :
    ∀ (m : Nat) (j : Int) (b : Mo.Bd) (made spent si : Int), 40 - j ≤ m → 0 ≤ j → 0 ≤ spent → 0 ≤ si → (si = 0 ∨ si < cl) → Inv b (Y lk cl T si false) →
      feedCares_L0 cl T idle j xs dv made spent 0 cl T true b [] K := by
  have out : ∀ (j : Int) (b : Mo.Bd) (made spent si : Int), ¬ (j < castI (lenR xs) ∧ j < 40) → 0 ≤ spent → 0 ≤ si → (si = 0 ∨ si < cl) → Inv b (Y lk cl T si false) →
      feedCares_L0 cl T idle j xs dv made spent 0 cl T true b [] K := by
    intro j b made spent si hj hs hs2 hs3 hI
    refine RfeedCares_0_step cl T idle j xs dv made spent 0 cl T true b [] K ?_
    obtain ⟨a1, a2, a3, a4, tm, a5⟩ := fin (idle := idle) hI hs h2 hs2 (by omega) hi
    have nn : (iL 0 1 = true) = True := by rw [iL_eq]; simp
    have el : elI [[tm, 2]] (Int.toNat 0) (Nat.succ 0) = 2 := rfl
    have n10 : iN 1 0 = true := by kernel_rfl
    have n11 : (iE 1 1 = true) = True := same 1
    have pd : Mo.pDown_pre [[tm, 2]] := r1p tm
    unfold RfeedCares_0_T Mo.RfeedCares_0_pre Mo.RfeedCares_0_g1 Mo.RfeedCares_0_v1
    by_cases c1 : iL j (castI (lenR xs)) = true
    · have c2 : ¬ iL j 40 = true := fun c2 => hj ⟨by rw [iL_eq] at c1; exact c1, by rw [iL_eq] at c2; exact c2⟩
      simp only [if_pos c1, if_neg c2, a3, a5, r0, l0, n00, if_false, l1, r1, nn, if_true, el, same, n11, n10]
      exact ⟨⟨a1, a2, dres, a4, r1p tm, pd⟩, hK⟩
    · simp only [if_neg c1, a3, a5, r0, l0, n00, if_false, l1, r1, nn, if_true, el, same, n11, n10]
      exact ⟨⟨a1, a2, dres, a4, r1p tm, pd⟩, hK⟩
  intro m
  induction m with
  | zero => intro j b made spent si hm hj hs hs2 hs3 hI; exact out j b made spent si (by omega) hs hs2 hs3 hI
  | succ m ih =>
    intro j b made spent si hm hj hs hs2 hs3 hI
    by_cases hlt : j < castI (lenR xs) ∧ j < 40
    · refine RfeedCares_0_step cl T idle j xs dv made spent 0 cl T true b [] K ?_
      have c1 : (iL j (castI (lenR xs)) = true) = True := by rw [iL_eq]; exact eq_true hlt.1
      have c2 : (iL j 40 = true) = True := by rw [iL_eq]; exact eq_true hlt.2
      have c3 : (iM 0 j = true) = True := by rw [iM_eq]; exact eq_true hj
      have df : cvq (sbw T cl) 0 = T - cl := by
        have : sbw T cl = T - cl := by
          show (T - cl) % 4294967296 = _
          omega
        rw [this]; exact cvq_small (by omega) (by omega)
      have c4 : (iN (T - cl) 0 = true) = True := by rw [iN_eq]; exact eq_true (by omega)
      have rm : rmq (elI xs (Int.toNat j) 0) (T - cl) = elI xs (Int.toNat j) 0 % (T - cl) := Int.tmod_eq_emod_of_nonneg (hx _)
      have d0 : 0 ≤ elI xs (Int.toNat j) 0 % (T - cl) := Int.emod_nonneg _ (by omega)
      have d1 : elI xs (Int.toNat j) 0 % (T - cl) < T - cl := Int.emod_lt_of_pos _ (by omega)
      generalize hd : elI xs (Int.toNat j) 0 % (T - cl) = d at *
      obtain ⟨y1, y2⟩ := yTick (lk := lk) (ar := false) (sh := cl) (al := T) (si := si) (n := d) hs2 d0 (by omega) h2
      obtain ⟨a1, a2, a3⟩ := tick_q hI d0 y1 y2 rfl []
      have e2 : Mo.RfeedCares_0_e2 cl T j xs b [] = [] := by unfold Mo.RfeedCares_0_e2; rw [df, rm]; exact a2
      have i1 : Inv (Mo.RfeedCares_0_e1 cl T j xs b) (Y lk cl T (si + d) false) := by unfold Mo.RfeedCares_0_e1; rw [df, rm]; exact a3
      have z := Z.y (lk := lk) (sh := cl) (al := T) (si := si + d) (ar := false) (by omega) (by omega) h2
      have t := t0 i1 z hs
      have g := get16 i1 z hs
      have e4 : Mo.RfeedCares_0_e4 cl T j xs b [] = [] := by unfold Mo.RfeedCares_0_e4; rw [e2]; exact t.r
      obtain ⟨k1, k2, k3, k4, k5⟩ := care (spent := Mo.pgap_v1 spent) g.2 (gap_nn _) h0 h1 h2 (by omega) (by omega)
      have sw : cvw (Mo.Wd.since (Mo.Bd.w (Mo.pgap_v2 (Mo.RfeedCares_0_e1 cl T j xs b)))) 0 = si + d := by rw [t.i.w]; exact cvw_small (x := si + d) (by omega) (by omega)
      have e6 : Mo.RfeedCares_0_e6 cl T j xs cl T true b [] = [] := by unfold Mo.RfeedCares_0_e6; rw [e4]; exact k4
      have fs : Mo.fSince_v1 (Mo.RfeedCares_0_e1 cl T j xs b) = Mo.pLoad16_v1 (Mo.RfeedCares_0_e1 cl T j xs b) := rfl
      unfold RfeedCares_0_T Mo.RfeedCares_0_pre Mo.RfeedCares_0_g1
      simp only [c1, c2, c3, c4, if_true, df, rm, e2, e4, e6, fs, k2, sw, eqN rfl, if_false, r0, l0, n00, Bool.false_eq_true]
      refine ⟨⟨a1, g.1, k1, dres⟩, ?_⟩
      rw [adi_small (by omega) (by omega)]
      refine ih (j + 1) _ _ _ (if cl ≤ si + d then 0 else si + d) (by omega) (by omega) k3 (by split <;> omega) (by split <;> omega) ?_
      exact k5
    · exact out j b made spent si hlt hs hs2 hs3 hI
theorem feedCares_all2 (K : S → List Ob → Prop) (xs : List (List Int)) (hK : K (.bv true) [.nwin [.i .u64] xs]) (hx : ∀ k, 0 ≤ elI xs k 0) (cl T : Int) (lk : Bool) (idle : Int) (h0 : 0 ≤ cl) (h1 : 0 ≤ T) (hi : 0 ≤ idle) : feedCares_T cl T lk idle xs K := by
  have eT : adw 2 (rmw T 100000) = 2 + T % 100000 := by
    have : rmw T 100000 = T % 100000 := Int.tmod_eq_emod_of_nonneg h1
    rw [this]
    show (2 + T % 100000) % 4294967296 = _
    omega
  have t1 : 2 ≤ 2 + T % 100000 := by omega
  have t2 : 2 + T % 100000 < 4294967296 := by omega
  unfold feedCares_T Mo.feedCares_pre Mo.feedCares_v1 Mo.feedCares_e2 Mo.feedCares_e3
  rw [eT]
  generalize 2 + T % 100000 = A at *
  have sb : sbw A 1 = A - 1 := by
    show (A - 1) % 4294967296 = _
    omega
  have ec : rmw cl (A - 1) = cl % (A - 1) := Int.tmod_eq_emod_of_nonneg h0
  have m0 : 0 ≤ cl % (A - 1) := Int.emod_nonneg _ (by omega)
  have m1 : cl % (A - 1) < A - 1 := Int.emod_lt_of_pos _ (by omega)
  rw [sb, ec]
  generalize cl % (A - 1) = C at *
  have nz : (iN (A - 1) 0 = true) = True := by rw [iN_eq]; exact eq_true (by omega)
  have seen : adi 0 (sbi (castI (lenR (Mo.dResets_v1 List.nil))) 0) = 0 := by rw [r0, l0]; kernel_rfl
  have nb : ∃ l, Mo.Bd.mk (Mo.kReset_v1 (Mo.Cl.mk 0 0 0 0 0 0 0 0 0 0 0 0 0 0 0 0 0 1)) (Mo.dNew_v1) (Mo.dNew_v2 10) (Mo.dNew_v3) Mo.feedCares_e1 (Mo.dNew_v4) = Q 0 (X 0 0) ⟨0, 0, 0, 0, false, false, 10⟩ ⟨1, 0, 0, 1, false⟩ l := ⟨_, rfl⟩
  obtain ⟨l, nb⟩ := nb
  rw [seen, nb]
  have hI : Inv (Q 0 (X 0 0) ⟨0, 0, 0, 0, false, false, 10⟩ ⟨1, 0, 0, 1, false⟩ l) (X 0 0) := ⟨_, _, _, l, rfl, Int.le_refl 0, ⟨Int.le_refl 0, rfl⟩, by kernel_rfl⟩
  obtain ⟨a1, a2, a3⟩ := start (lk := lk) (spent := 0) hI (Int.le_refl 0) m0 (show C < A by omega) t2
  have dp : Mo.dNew_pre 10 := by
    have q1 : Mo.nLines_pre (Mo.Cnt.mk 0 0 0 0 0) = True := by kernel_rfl
    have q2 : Mo.kLine_pre 0 (Mo.kReset_v1 (Mo.Cl.mk 0 0 0 0 0 0 0 0 0 0 0 0 0 0 0 0 0 1)) = True := by kernel_rfl
    have q3 : Mo.kSoft_pre 0 (Mo.kReset_v1 (Mo.Cl.mk 0 0 0 0 0 0 0 0 0 0 0 0 0 0 0 0 0 1)) = True := by kernel_rfl
    unfold Mo.dNew_pre
    rw [if_neg (by rw [iE_eq]; decide), q1, q2, q3]; exact ⟨trivial, trivial, trivial⟩
  simp only [nz, if_true, a2]
  exact ⟨⟨dp, dres, a1⟩, loop K hK hx m0 (by omega) t2 hi 40 0 _ _ _ 0 (by omega) (Int.le_refl 0) (gap_nn _) (Int.le_refl 0) (Or.inl rfl) a3⟩
end Go.SX.Y.Fd
