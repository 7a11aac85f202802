/- TickerFalls, plain part: the timer, and the port's accesses to it. -/
import Derived.Test.YtbkegflipglioaaGreatTfA
set_option maxRecDepth 20000
namespace Go.SX.Y.Tf
open Go.SX Go.SX.Y
/-! A timer's control word. -/
def ctw (sc : Int) (ag : Bool) : Int := 5 + sc * 256 + (if ag then 2 else 0)
def chk1 (sc : Int) (ag : Bool) : Bool := (anw (ctw sc ag) 1 == 1) && (srw (anw (ctw sc ag) 65280) 8 == sc) && (iN (anw (ctw sc ag) 2) 0 == ag) && (anw (nnw (ctw sc ag) 1) 1 == 0) && (anw (ctw sc ag) 65287 == ctw sc ag)
def chkA : Bool := (List.range 256).all fun k => chk1 (Int.ofNat k) true && chk1 (Int.ofNat k) false
theorem chkA_ok : chkA = true := by kernel_rfl
structure Cw (sc : Int) (ag : Bool) : Prop where
  f1 : anw (ctw sc ag) 1 = 1
  f2 : srw (anw (ctw sc ag) 65280) 8 = sc
  f3 : iN (anw (ctw sc ag) 2) 0 = ag
  f4 : anw (nnw (ctw sc ag) 1) 1 = 0
  f5 : anw (ctw sc ag) 65287 = ctw sc ag
theorem cw (sc : Int) (ag : Bool) (h0 : 0 ≤ sc) (h1 : sc < 256) : Cw sc ag := by
  have h := chkA_ok
  unfold chkA at h
  rw [List.all_eq_true] at h
  have h2 := h sc.toNat (by rw [List.mem_range]; omega)
  rw [show Int.ofNat sc.toNat = sc from Int.toNat_of_nonneg h0, Bool.and_eq_true] at h2
  have h3 : chk1 sc ag = true := by cases ag; exact h2.2; exact h2.1
  unfold chk1 at h3
  simp only [Bool.and_eq_true, beq_iff_eq] at h3
  exact ⟨h3.1.1.1.1, h3.1.1.1.2, h3.1.1.2, h3.1.2, h3.2⟩
/-- A timer that runs. -/
def C (ld sc : Int) (ag : Bool) (va st ph : Int) : Mo.Cnt := ⟨ld, va, ctw sc ag, st, ph⟩
theorem not_iN (x y : Int) : stdQ QO.not (iN x y) (iN x y) = iE x y := by
  by_cases h : x = y <;> simp [stdQ, iN, iE, stdB, h, bne]
theorem cvq_small {x : Int} (h0 : 0 ≤ x) (h1 : x < 18446744073709551616) : cvq x 0 = x := by
  show x % 18446744073709551616 = x
  omega
theorem cvw_small {x : Int} (h0 : 0 ≤ x) (h1 : x < 4294967296) : cvw x 0 = x := by
  show x % 4294967296 = x
  omega
theorem tick_lo {ld sc va st ph n : Int} {ag : Bool} (h0 : 0 ≤ sc) (h1 : sc < 256) (hn : 0 ≤ n) (hp : 0 ≤ ph) (hs : ph + n ≤ sc) : Mo.cTick_v1 n (C ld sc ag va st ph) = C ld sc ag va st (ph + n) ∧ Mo.cTick_pre n (C ld sc ag va st ph) := by
  have w := cw sc ag h0 h1
  have e1 : (C ld sc ag va st ph).ct = ctw sc ag := rfl
  have e2 : (C ld sc ag va st ph).ph = ph := rfl
  have a1 : (iE 1 0 = true) = False := by rw [iE_eq]; simp
  have a2 : sbq (adq sc 1) ph = sc + 1 - ph := by
    show ((sc + 1) % 18446744073709551616 - ph) % 18446744073709551616 = _
    omega
  have a3 : (iL n (sc + 1 - ph) = true) = True := by rw [iL_eq]; simp; omega
  have a4 : adw ph n = ph + n := by
    show (ph + n) % 4294967296 = _
    omega
  unfold Mo.cTick_v1 Mo.cTick_pre
  simp only [e1, e2, not_iN, w.f1, w.f2, a1, if_false, cvq_small h0 (by omega), cvq_small hp (by omega), a2, a3, if_true, cvw_small hn (by omega), a4]
  exact ⟨rfl, trivial⟩
theorem tick_hi {ld sc va st : Int} {ag : Bool} (h0 : 0 ≤ sc) (h1 : sc < 256) (hv : 1 ≤ va) (hv2 : va < 100) (hl : 1 ≤ ld) (hl2 : ld < 100) :
    Mo.cTick_v1 1 (C ld sc ag va st sc) = (if 1 < va then C ld sc ag (va - 1) st 0 else if ag = true then C ld sc ag ld 1 0 else ⟨ld, 0, nnw (ctw sc ag) 1, 1, 0⟩) ∧ Mo.cTick_pre 1 (C ld sc ag va st sc) := by
  have w := cw sc ag h0 h1
  have e1 : (C ld sc ag va st sc).ct = ctw sc ag := rfl
  have e2 : (C ld sc ag va st sc).ph = sc := rfl
  have e3 : (C ld sc ag va st sc).va = va := rfl
  have e4 : (C ld sc ag va st sc).ld = ld := rfl
  have e5 : (C ld sc ag va st sc).st = st := rfl
  have a1 : (iE 1 0 = true) = False := by rw [iE_eq]; simp
  have b1 : adq sc 1 = sc + 1 := by
    show (sc + 1) % 18446744073709551616 = _
    omega
  have b2 : sbq (sc + 1) sc = 1 := by
    show (sc + 1 - sc) % 18446744073709551616 = _
    omega
  have b3 : (iL 1 1 = true) = False := by rw [iL_eq]; simp
  have b4 : sbq 1 1 = 0 := by kernel_rfl
  have b5 : quq 0 (sc + 1) = 0 := by
    show (Int.tdiv 0 (sc + 1)) % 18446744073709551616 = 0
    rw [Int.zero_tdiv]; rfl
  have b6 : rmq 0 (sc + 1) = 0 := Int.zero_tmod _
  have b7 : adq 0 1 = 1 := by kernel_rfl
  have b8 : maq 1 va = va := by
    show (if va > (1 : Int) then va else 1) = va
    split <;> omega
  have b9 : cvw 1 0 = 1 := by kernel_rfl
  have b10 : cvw 0 0 = 0 := by kernel_rfl
  have b11 : (iN (sc + 1) 0 = true) = True := by rw [iN_eq]; simp; omega
  have b12 : (iL 0 ld = true) = True := by rw [iL_eq]; simp; omega
  have b13 : (iN ld 0 = true) = True := by rw [iN_eq]; simp; omega
  have b14 : ¬ 1 < va → sbq 1 va = 0 := fun h => by
    show (1 - va) % 18446744073709551616 = _
    omega
  have b15 : rmq 0 ld = 0 := Int.zero_tmod _
  have b16 : sbq ld 0 = ld := by
    show (ld - 0) % 18446744073709551616 = _
    omega
  have b17 : sbw va 1 = va - 1 := by
    show (va - 1) % 4294967296 = _
    omega
  unfold Mo.cTick_v1 Mo.cTick_pre
  simp only [e1, e2, e3, e4, e5, not_iN, w.f1, w.f2, w.f3, a1, if_false, cvq_small h0 (by omega), cvq_small (show 0 ≤ va by omega) (by omega), cvq_small (show 0 ≤ ld by omega) (by omega), b1, b2, b3, b4, b5, b6, b7, b8, b9, b10, b11, b12, b13, b17, if_true, ite_self, iL_eq 1 va]
  refine ⟨?_, trivial⟩
  by_cases hh : 1 < va
  · rw [if_pos hh, if_pos hh]; rfl
  · rw [if_neg hh, if_neg hh, b14 hh, b15, b16, cvw_small (by omega) (by omega)]
    cases ag <;> rfl
/-- One that doesn't. -/
theorem tick_off {c : Mo.Cnt} (h : anw c.ct 1 = 0) (n : Int) : Mo.cTick_v1 n c = c ∧ Mo.cTick_pre n c := by
  have a1 : (iE 0 0 = true) = True := by rw [iE_eq]; simp
  unfold Mo.cTick_v1 Mo.cTick_pre
  simp only [not_iN, h, a1, if_true]
  exact ⟨trivial, trivial⟩
end Go.SX.Y.Tf
