/- FeederKeys: the claims of a case. -/
import Derived.Test.YtegmfjgnhghheaaGreatSxFkA
import Derived.Test.YtegmfjgnhghheaaGreatSxFkP
set_option maxRecDepth 20000
namespace Go.SX.Y
set_option maxHeartbeats 4000000 in
theorem FkA_all (q0 q1 q2 : Int) (h0 : 0 ≤ q0) (h1 : 0 ≤ q1) (h2 : 0 ≤ q2) (hc : (q0 % (2 + q1 % 1000)) ≠ 0) (hw : (q0 % (2 + q1 % 1000)) ≤ (q2 % (2 + q1 % 1000))) : FkA q0 q1 q2 := by
  unfold FkA
  simp only [fA, fB, fQ, fTb, fk_T q1 h1, l0, l1, l10, lmax]
  have t0 : 2 ≤ 2 + q1 % 1000 := by omega
  have t1 : 2 + q1 % 1000 ≤ 1001 := by omega
  generalize 2 + q1 % 1000 = T at *
  simp only [rm32 q0 T h0]
  have c0 : 0 ≤ q0 % T := Int.emod_nonneg _ (by omega)
  have c1 : q0 % T < T := Int.emod_lt_of_pos _ (by omega)
  generalize q0 % T = C at *
  have eT : stdA .conv .u64 T 0 = T := by rw [cv64]; omega
  simp only [eT, rm64 q2 T h2]
  have w0 : 0 ≤ q2 % T := Int.emod_nonneg _ (by omega)
  have w1 : q2 % T < T := Int.emod_lt_of_pos _ (by omega)
  generalize q2 % T = W at *
  repeat' (first | refine And.intro ?_ ?_ | refine ite_intro ?_ ?_)
  all_goals first | rfl | (simp (disch := omega) only [add64, sub64, cv32, cv64, rm64, qu64, bEq, bNe, bLt, bLe, qAnd, qNot, Bool.not_eq_true', Bool.and_eq_false_imp, Bool.and_eq_true, Bool.not_eq_eq_eq_not, Bool.not_true, Bool.not_false, decide_eq_true_eq, decide_eq_false_iff_not] <;> omega) | omega
end Go.SX.Y
