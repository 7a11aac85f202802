/-
  For every input: the law ShotArms returns true, and its arguments read as they did. No conditions.
-/
import Derived.Test.YtbkegflipglioaaGreatRows
import Derived.Test.YtbkegflipglioaaGreatPost
import Derived.Test.YtbkegflipglioaaGreatWkShotArms
import Derived.Test.YtbkegflipglioaaGreatRead
import Derived.WalkKit
import Derived.ProofKit
import Derived.OpenShut
namespace Go.Proofs.YtbkegflipglioaaGreat.shotArms
open Go.ChangeShapes Go.WideShapes Go.ChangeAt Go.RowKit

theorem own : ownKnob Tryz.prog.godebug = none := by kernel_rfl

set_option maxRecDepth 100000 in
theorem lifted (os : Os) (started : os.Started) (H : Type) (enc : TypeId × Value → H) :
    ReturnsInHanded {} Tryz.checked os 9 .any (Rows.shotArmsSpec.pre6 enc Tryz.prog Tryz.f9 Rows.shotArmsRow.domain false) (Rows.shotArmsSpec.post enc Tryz.prog Tryz.f9 false true false false) := by
  refine returnsInHanded_of_change (C := Tryz.checked) own started (by kernel_rfl) Tryz.func9
    (ChangeSpec.witness6 (enc := enc) (C := Tryz.checked) false ⟨#[], #[.int .i64 0, .int .i64 0, .slice none 0 0, .slice none 0 0], []⟩ 8 (by kernel_rfl) (by kernel_rfl) (by kernel_rfl) (by kernel_rfl)) ?_
  intro W base args ds gs before hval0 hW _ _
  have hval : ∀ (j : Nat) t v, Tryz.f9.params[j]? = some t → args[j]? = some v → Value.okWide Tryz.prog W .any base t v := hval0
  have hW' := hW
  obtain ⟨p, q, hA0, hV, rfl, hfz, hnd⟩ := hW
  have hA : DataW.TrodAll enc Tryz.prog W 0 (fun _ => true) true Tryz.f9.params.toList args.toList ds p := hA0
  rw [Tryz.params9] at hA hval
  obtain ⟨v0, vs0, d0, ds0, p0, q0, hargs, rfl, rfl, h0, r0⟩ := trodAll_cons hA
  obtain ⟨v1, vs1, d1, ds1, p1, q1, rfl, rfl, rfl, h1, r1⟩ := trodAll_cons r0
  obtain ⟨v2, vs2, d2, ds2, p2, q2, rfl, rfl, rfl, h2, r2⟩ := trodAll_cons r1
  obtain ⟨v3, vs3, d3, ds3, p3, q3, rfl, rfl, rfl, h3, r3⟩ := trodAll_cons r2
  obtain ⟨rfl, rfl, rfl⟩ := trodAll_nil r3
  obtain rfl : args = #[v0, v1, v2, v3] := by cases args; simp_all
  obtain ⟨a0, rfl, _, _, w0⟩ := open_int Tryz.underlying3 (hval 0 3 v0 rfl rfl) h0
  obtain ⟨a1, rfl, _, _, w1⟩ := open_int Tryz.underlying3 (hval 1 3 v1 rfl rfl) h1
  obtain ⟨a2, n2, c2, rfl⟩ := okWide_slice Tryz.underlying75 (hval 2 75 v2 rfl rfl)
  obtain ⟨a', n', cap', z2, e0, hl2, hn, hc, hz2, hb2⟩ := rd_nats (B := 4294967296) Tryz.underlying75 Tryz.underlying22 (by kernel_rfl) (fun z => wf_u32) (rd_of h2 2)
  simp only [Value.cells] at e0
  obtain ⟨rfl, rfl, rfl⟩ : a2 = a' ∧ n2 = n' ∧ c2 = cap' := by simpa using e0
  obtain ⟨a3, n3, c3, rfl⟩ := okWide_slice Tryz.underlying67 (hval 3 67 v3 rfl rfl)
  obtain ⟨a', n', cap', z3, e0, hl3, hn, hc, hz3, hb3⟩ := rd_nats (B := 18446744073709551616) Tryz.underlying67 Tryz.underlying23 (by kernel_rfl) (fun z => wf_u64) (rd_of h3 2)
  simp only [Value.cells] at e0
  obtain ⟨rfl, rfl, rfl⟩ : a3 = a' ∧ n3 = n' ∧ c3 = cap' := by simpa using e0
  refine (Go.SX.Y.shotArms_walk a0 a1 a2 n2 c2 z2 a3 n3 c3 z3 (wf_i64 w0).1 (wf_i64 w0).2 (wf_i64 w1).1 (wf_i64 w1).2 W hl2 hz2 hb2 hl3 hz3 hb3).mono fun e W' ⟨he, hu⟩ => ?_
  subst he
  refine ⟨_, rfl, law_post hW' rfl (by kernel_rfl) (by kernel_rfl) ?_ (by kernel_rfl) Tryz.underlying4 hu⟩
  intro ds' hds'
  match ds', hds' with
  | [d1, d2, d3, d4], _ => rfl

theorem proved : Rows.ShotArmsSaid :=
  OpenClaim.holds_of_wide 9 Tryz.f9 rfl rfl rfl rfl rfl rfl rfl ⟨rfl, rfl, rfl, rfl, rfl⟩ rfl rfl rfl rfl rfl (by kernel_rfl) Tryz.func9 (by kernel_rfl)
    (of_decide_eq_true (by kernel_rfl)) (by unfold Func.isWrapper; first | (rw [if_pos (by decide +kernel)]; kernel_rfl) | (rw [if_neg (by decide +kernel)]; exact ⟨rfl, rfl⟩))
    (fun os started H enc _ => lifted os started H enc)
#print axioms proved
end Go.Proofs.YtbkegflipglioaaGreat.shotArms
