/-
  For every list of causes and every word: the law RstcLast returns true, and its arguments read as they did. No conditions.
-/
import Derived.Test.YtdmdnijgjgjmkaaRows
import Derived.Test.YtdmdnijgjgjmkaaPost
import Derived.Test.YtdmdnijgjgjmkaaLaw09
import Derived.WalkKit
import Derived.ProofKit
import Derived.OpenShut
namespace Go.Proofs.Ytdmdnijgjgjmkaa.rstcLast
open Go.ChangeShapes Go.WideShapes Go.ChangeAt Go.RowKit

theorem own : ownKnob Try.prog.godebug = none := by kernel_rfl

set_option maxRecDepth 100000 in
theorem lifted (os : Os) (started : os.Started) (H : Type) (enc : TypeId × Value → H) :
    ReturnsInHanded {} Try.checked os 3 .any (Rows.rstcLastSpec.pre6 enc Try.prog Try.f3 Rows.rstcLastRow.domain false) (Rows.rstcLastSpec.post enc Try.prog Try.f3 false true false false) := by
  refine returnsInHanded_of_change (C := Try.checked) own started (by kernel_rfl) Try.func3
    (ChangeSpec.witness6 (enc := enc) (C := Try.checked) false ⟨#[], #[.slice none 0 0, .int .u32 0], []⟩ 8 (by kernel_rfl) (by kernel_rfl) (by kernel_rfl) (by kernel_rfl)) ?_
  intro W base args ds gs before hval0 hW _ _
  have hval : ∀ (j : Nat) t v, Try.f3.params[j]? = some t → args[j]? = some v → Value.okWide Try.prog W .any base t v := hval0
  have hW' := hW
  obtain ⟨p, q, hA0, hV, rfl, hfz, hnd⟩ := hW
  have hA : DataW.TrodAll enc Try.prog W 0 (fun _ => true) true Try.f3.params.toList args.toList ds p := hA0
  rw [Try.params3] at hA hval
  obtain ⟨v0, vs0, d0, ds0, p0, q0, hargs, rfl, rfl, h0, r0⟩ := trodAll_cons hA
  obtain ⟨v1, vs1, d1, ds1, p1, q1, rfl, rfl, rfl, h1, r1⟩ := trodAll_cons r0
  obtain ⟨rfl, rfl, rfl⟩ := trodAll_nil r1
  obtain rfl : args = #[v0, v1] := by cases args; simp_all
  obtain ⟨a, n, cap, zs, rfl, _, hc, hm, _, hs⟩ := arg_ints Try.underlying22 Try.underlying3 (by kernel_rfl) (hval 0 22 v0 rfl rfl) h0
  obtain ⟨a1, rfl, _, _, _⟩ := open_int Try.underlying23 (hval 1 23 v1 rfl rfl) h1
  have main : Calls Try.prog 3 #[.slice a n cap, .int .u32 a1] W fun e w' => e = .returned (.bool true) ∧ Upd [] W w' := by
    rcases hs with rfl | ⟨lb, lo, rfl, hlb, hcell⟩
    · exact l09_last0 a cap a1 W
    · exact l09_last lb lo n cap zs a1 W hlb hcell (by unfold maxLen at hm; omega)
  refine main.mono fun e W' ⟨he, hu⟩ => ?_
  subst he
  refine ⟨_, rfl, law_post hW' rfl (by kernel_rfl) (by kernel_rfl) ?_ (by kernel_rfl) Try.underlying4 hu.below⟩
  intro ds' hds'
  match ds', hds' with
  | [d1, d2], _ => rfl

theorem proved : Rows.RstcLastSaid :=
  OpenClaim.holds_of_wide 3 Try.f3 rfl rfl rfl rfl rfl rfl rfl ⟨rfl, rfl, rfl, rfl, rfl⟩ rfl rfl rfl rfl rfl (by kernel_rfl) Try.func3 (by kernel_rfl)
    (of_decide_eq_true (by kernel_rfl)) (by unfold Func.isWrapper; first | (rw [if_pos (by decide +kernel)]; kernel_rfl) | (rw [if_neg (by decide +kernel)]; exact ⟨rfl, rfl⟩))
    (fun os started H enc _ => lifted os started H enc)
#print axioms proved
end Go.Proofs.Ytdmdnijgjgjmkaa.rstcLast
