/- TickerRings, plain part: the timer. -/
import Derived.Test.YtbkegflipglioaaGreatTgA
set_option maxRecDepth 20000
namespace Go.SX.Y.Tg
open Go.SX Go.SX.Y
def ctw (sc : Int) (ag : Bool) : Int := 5 + sc * 256 + (if ag then 2 else 0)
noncomputable def cw2 (sc : Int) : Int := rrw (nnw 5 65280) (anw (slw sc 8) 65280)
noncomputable def chk1 (sc : Int) (ag : Bool) : Bool := (anw (ctw sc ag) 1 == 1) && (srw (anw (ctw sc ag) 65280) 8 == sc) && (iN (anw (ctw sc ag) 2) 0 == ag) && (anw (nnw (ctw sc ag) 1) 1 == 0) && (anw (ctw sc ag) 65287 == ctw sc ag) && iN (anw (ctw sc ag) 4) 0 && iN (anw (nnw (ctw sc ag) 1) 4) 0
noncomputable def chk2 (sc : Int) : Bool := (cw2 sc == ctw sc false) && (Mo.bPut1_v1 (cw2 sc) 1 == ctw sc true) && (srw (anw sc 255) 0 == sc) && (adw 5 (mlw (rmw sc 256) 256) == ctw sc false) && (adw (adw 5 (mlw (rmw sc 256) 256)) 2 == ctw sc true)
noncomputable def chkA : Bool := (List.range 256).all fun k => chk1 (Int.ofNat k) true && chk1 (Int.ofNat k) false && chk2 (Int.ofNat k)
theorem chkA_ok : chkA = true := by kernel_rfl
structure Cw (sc : Int) (ag : Bool) : Prop where
  f1 : anw (ctw sc ag) 1 = 1
  f2 : srw (anw (ctw sc ag) 65280) 8 = sc
  f3 : iN (anw (ctw sc ag) 2) 0 = ag
  f4 : anw (nnw (ctw sc ag) 1) 1 = 0
  f5 : anw (ctw sc ag) 65287 = ctw sc ag
  f6 : iN (anw (ctw sc ag) 4) 0 = true
  f7 : iN (anw (nnw (ctw sc ag) 1) 4) 0 = true
structure Cv (sc : Int) : Prop where
  g1 : rrw (nnw 5 65280) (anw (slw sc 8) 65280) = ctw sc false
  g2 : Mo.bPut1_v1 (ctw sc false) 1 = ctw sc true
  g3 : srw (anw sc 255) 0 = sc
  g4 : adw 5 (mlw (rmw sc 256) 256) = ctw sc false
  g5 : adw (ctw sc false) 2 = ctw sc true
theorem chkS (sc : Int) (h0 : 0 ≤ sc) (h1 : sc < 256) : chk1 sc true = true ∧ chk1 sc false = true ∧ chk2 sc = true := by
  have h := chkA_ok
  unfold chkA at h
  rw [List.all_eq_true] at h
  have h2 := h sc.toNat (by rw [List.mem_range]; omega)
  rw [show Int.ofNat sc.toNat = sc from Int.toNat_of_nonneg h0, Bool.and_eq_true, Bool.and_eq_true] at h2
  exact ⟨h2.1.1, h2.1.2, h2.2⟩
theorem cw (sc : Int) (ag : Bool) (h0 : 0 ≤ sc) (h1 : sc < 256) : Cw sc ag := by
  obtain ⟨a, b, _⟩ := chkS sc h0 h1
  have h3 : chk1 sc ag = true := by cases ag <;> assumption
  unfold chk1 at h3
  simp only [Bool.and_eq_true, beq_iff_eq] at h3
  exact ⟨h3.1.1.1.1.1.1, h3.1.1.1.1.1.2, h3.1.1.1.1.2, h3.1.1.1.2, h3.1.1.2, h3.1.2, h3.2⟩
theorem cv (sc : Int) (h0 : 0 ≤ sc) (h1 : sc < 256) : Cv sc := by
  obtain ⟨_, _, h3⟩ := chkS sc h0 h1
  unfold chk2 at h3
  simp only [Bool.and_eq_true, beq_iff_eq] at h3
  obtain ⟨⟨⟨⟨a, b⟩, c⟩, d⟩, e⟩ := h3
  exact ⟨a, by rw [← a]; exact b, c, d, by rw [← d]; exact e⟩
/-- A timer that runs; one that has stopped. -/
def C (ld sc : Int) (ag : Bool) (va st ph : Int) : Mo.Cnt := ⟨ld, va, ctw sc ag, st, ph⟩
noncomputable def O (ld sc : Int) (ag : Bool) (st : Int) : Mo.Cnt := ⟨ld, 0, nnw (ctw sc ag) 1, st, 0⟩
theorem line_C {ld sc va st ph : Int} {ag : Bool} (h0 : 0 ≤ sc) (h1 : sc < 256) : Mo.cLine_v1 (C ld sc ag va st ph) = iN st 0 := by
  unfold Mo.cLine_v1
  exact if_pos (cw sc ag h0 h1).f6
theorem line_O {ld sc st : Int} {ag : Bool} (h0 : 0 ≤ sc) (h1 : sc < 256) : Mo.cLine_v1 (O ld sc ag st) = iN st 0 := by
  unfold Mo.cLine_v1
  exact if_pos (cw sc ag h0 h1).f7
theorem not_iN (x y : Int) : stdQ QO.not (iN x y) (iN x y) = iE x y := by
  by_cases h : x = y <;> simp [stdQ, iN, iE, stdB, h, bne]
theorem cvq_small {x : Int} (h0 : 0 ≤ x) (h1 : x < 18446744073709551616) : cvq x 0 = x := by
  show x % 18446744073709551616 = x
  omega
theorem cvw_small {x : Int} (h0 : 0 ≤ x) (h1 : x < 4294967296) : cvw x 0 = x := by
  show x % 4294967296 = x
  omega
theorem tick_lo {ld sc va st ph n : Int} {ag : Bool} (h0 : 0 ≤ sc) (h1 : sc < 256) (hn : 0 ≤ n) (hp : 0 ≤ ph) (hs : ph + n ≤ sc) : Mo.cTick_v1 n (C ld sc ag va st ph) = C ld sc ag va st (ph + n) ∧ Mo.cTick_pre n (C ld sc ag va st ph) := by
  have w := cw sc ag h0 h1
  have e1 : (C ld sc ag va st ph).ct = ctw sc ag := rfl
  have e2 : (C ld sc ag va st ph).ph = ph := rfl
  have a1 : (iE 1 0 = true) = False := by rw [iE_eq]; simp
  have a2 : sbq (adq sc 1) ph = sc + 1 - ph := by
    show ((sc + 1) % 18446744073709551616 - ph) % 18446744073709551616 = _
    omega
  have a3 : (iL n (sc + 1 - ph) = true) = True := by rw [iL_eq]; simp; omega
  have a4 : adw ph n = ph + n := by
    show (ph + n) % 4294967296 = _
    omega
  unfold Mo.cTick_v1 Mo.cTick_pre
  simp only [e1, e2, not_iN, w.f1, w.f2, a1, if_false, cvq_small h0 (by omega), cvq_small hp (by omega), a2, a3, if_true, cvw_small hn (by omega), a4]
  exact ⟨rfl, trivial⟩
/-- All ticks of a period but the last one. -/
theorem tick_most {ld sc st : Int} {ag : Bool} (h0 : 0 ≤ sc) (h1 : sc < 256) (hl : 0 ≤ ld) (hl2 : ld < 4294967296) :
    Mo.cTick_v1 (max ld 1 * (sc + 1) - 1) (C ld sc ag ld st 0) = C ld sc ag (min ld 1) st sc ∧ Mo.cTick_pre (max ld 1 * (sc + 1) - 1) (C ld sc ag ld st 0) := by
  by_cases hm : ld ≤ 1
  · have e : max ld 1 = 1 := by omega
    have e' : min ld 1 = ld := by omega
    rw [e, e']
    have h := tick_lo (ld := ld) (va := ld) (st := st) (ag := ag) (n := sc) h0 h1 h0 (Int.le_refl 0) (by omega)
    rw [Int.zero_add] at h
    rw [show (1 : Int) * (sc + 1) - 1 = sc by omega]
    exact h
  · have e : max ld 1 = ld := by omega
    have e' : min ld 1 = 1 := by omega
    rw [e, e']
    have w := cw sc ag h0 h1
    have up : ld * (sc + 1) ≤ ld * 256 := Int.mul_le_mul_of_nonneg_left (by omega) hl
    have lo : 2 * (sc + 1) ≤ ld * (sc + 1) := Int.mul_le_mul_of_nonneg_right (by omega) (by omega)
    have sp : ld * (sc + 1) - 1 - (sc + 1) = sc + (ld - 2) * (sc + 1) := by rw [Int.sub_mul]; omega
    have dv : (ld * (sc + 1) - 1 - (sc + 1)) / (sc + 1) = ld - 2 := by
      rw [sp, Int.add_mul_ediv_right _ _ (by omega), Int.ediv_eq_zero_of_lt h0 (by omega), Int.zero_add]
    have md : (ld * (sc + 1) - 1 - (sc + 1)) % (sc + 1) = sc := by
      rw [sp, Int.add_mul_emod_self_right]
      exact Int.emod_eq_of_lt h0 (by omega)
    generalize hP : ld * (sc + 1) = P at *
    have e1 : (C ld sc ag ld st 0).ct = ctw sc ag := rfl
    have e2 : (C ld sc ag ld st 0).ph = 0 := rfl
    have e3 : (C ld sc ag ld st 0).va = ld := rfl
    have a1 : (iE 1 0 = true) = False := by rw [iE_eq]; simp
    have b1 : adq sc 1 = sc + 1 := by
      show (sc + 1) % 18446744073709551616 = _
      omega
    have b2 : sbq (sc + 1) 0 = sc + 1 := by
      show (sc + 1 - 0) % 18446744073709551616 = _
      omega
    have b3 : (iL (P - 1) (sc + 1) = true) = False := by rw [iL_eq]; exact eq_false (by omega)
    have b4 : sbq (P - 1) (sc + 1) = P - 1 - (sc + 1) := by
      show (P - 1 - (sc + 1)) % 18446744073709551616 = _
      omega
    have b5 : quq (P - 1 - (sc + 1)) (sc + 1) = ld - 2 := by
      show (Int.tdiv (P - 1 - (sc + 1)) (sc + 1)) % 18446744073709551616 = _
      rw [Int.tdiv_eq_ediv_of_nonneg (by omega), dv]
      omega
    have b6 : rmq (P - 1 - (sc + 1)) (sc + 1) = sc := by
      show Int.tmod (P - 1 - (sc + 1)) (sc + 1) = _
      rw [Int.tmod_eq_emod_of_nonneg (by omega), md]
    have b7 : adq (ld - 2) 1 = ld - 1 := by
      show (ld - 2 + 1) % 18446744073709551616 = _
      omega
    have b8 : maq 1 ld = ld := by
      show (if ld > (1 : Int) then ld else 1) = ld
      split <;> omega
    have b9 : (iL (ld - 1) ld = true) = True := by rw [iL_eq]; exact eq_true (by omega)
    have b10 : (iN (sc + 1) 0 = true) = True := by rw [iN_eq]; exact eq_true (by omega)
    have b11 : cvw (ld - 1) 0 = ld - 1 := cvw_small (by omega) (by omega)
    have b12 : sbw ld (ld - 1) = 1 := by
      show (ld - (ld - 1)) % 4294967296 = _
      omega
    have b13 : cvq 0 0 = 0 := by kernel_rfl
    have b14 : cvw sc 0 = sc := cvw_small h0 (by omega)
    unfold Mo.cTick_v1 Mo.cTick_pre
    simp only [e1, e2, e3, not_iN, w.f1, w.f2, a1, if_false, cvq_small h0 (by omega), cvq_small hl (by omega), b13, b1, b2, b3, b4, b5, b6, b7, b8, b9, b10, b11, b12, b14, if_true]
    exact ⟨rfl, trivial⟩
/-- The last one. -/
theorem tick_last {ld sc st va : Int} {ag : Bool} (h0 : 0 ≤ sc) (h1 : sc < 256) (hl : 0 ≤ ld) (hl2 : ld < 4294967296) (hv : 0 ≤ va) (hv2 : va ≤ 1) :
    Mo.cTick_v1 1 (C ld sc ag va st sc) = (if (ag && iL 0 ld) = true then C ld sc ag ld 1 0 else O ld sc ag 1) ∧ Mo.cTick_pre 1 (C ld sc ag va st sc) := by
  have w := cw sc ag h0 h1
  have e1 : (C ld sc ag va st sc).ct = ctw sc ag := rfl
  have e2 : (C ld sc ag va st sc).ph = sc := rfl
  have e3 : (C ld sc ag va st sc).va = va := rfl
  have e4 : (C ld sc ag va st sc).ld = ld := rfl
  have a1 : (iE 1 0 = true) = False := by rw [iE_eq]; simp
  have b1 : adq sc 1 = sc + 1 := by
    show (sc + 1) % 18446744073709551616 = _
    omega
  have b2 : sbq (sc + 1) sc = 1 := by
    show (sc + 1 - sc) % 18446744073709551616 = _
    omega
  have b3 : (iL 1 1 = true) = False := by rw [iL_eq]; simp
  have b4 : sbq 1 1 = 0 := by kernel_rfl
  have b5 : quq 0 (sc + 1) = 0 := by
    show (Int.tdiv 0 (sc + 1)) % 18446744073709551616 = 0
    rw [Int.zero_tdiv]; rfl
  have b6 : rmq 0 (sc + 1) = 0 := Int.zero_tmod _
  have b7 : adq 0 1 = 1 := by kernel_rfl
  have b8 : maq 1 va = 1 := by
    show (if va > (1 : Int) then va else 1) = 1
    split <;> omega
  have b10 : cvw 0 0 = 0 := by kernel_rfl
  have b11 : (iN (sc + 1) 0 = true) = True := by rw [iN_eq]; simp; omega
  have b15 : rmq 0 ld = 0 := Int.zero_tmod _
  have b16 : sbq ld 0 = ld := by
    show (ld - 0) % 18446744073709551616 = _
    omega
  have b17 : cvw ld 0 = ld := cvw_small hl hl2
  unfold Mo.cTick_v1 Mo.cTick_pre
  simp only [e1, e2, e3, e4, not_iN, w.f1, w.f2, w.f3, a1, if_false, cvq_small h0 (by omega), cvq_small hv (by omega), cvq_small hl (by omega), b1, b2, b3, b4, b5, b6, b7, b8, b10, b11, b15, b16, b17, if_true]
  cases ag
  · simp only [Bool.false_and, Bool.false_eq_true, if_false]
    exact ⟨rfl, trivial⟩
  · simp only [Bool.true_and, if_true]
    by_cases hh : iL 0 ld = true
    · have : iN ld 0 = true := by rw [iL_eq] at hh; rw [iN_eq]; omega
      rw [if_pos hh, if_pos hh, if_pos hh, if_pos this]
      exact ⟨rfl, trivial⟩
    · rw [if_neg hh, if_neg hh, if_neg hh]
      exact ⟨rfl, trivial⟩
theorem tick_off {c : Mo.Cnt} (h : anw c.ct 1 = 0) (n : Int) : Mo.cTick_v1 n c = c ∧ Mo.cTick_pre n c := by
  have a1 : (iE 0 0 = true) = True := by rw [iE_eq]; simp
  unfold Mo.cTick_v1 Mo.cTick_pre
  simp only [not_iN, h, a1, if_true]
  exact ⟨trivial, trivial⟩
end Go.SX.Y.Tg
