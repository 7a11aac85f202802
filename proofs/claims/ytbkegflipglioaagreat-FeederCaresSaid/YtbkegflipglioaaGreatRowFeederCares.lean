/-
  For every input: the law FeederCares returns true, and its arguments read as they did. No conditions.
-/
import Derived.Test.YtbkegflipglioaaGreatRows
import Derived.Test.YtbkegflipglioaaGreatPost
import Derived.Test.YtbkegflipglioaaGreatWkFeederCares
import Derived.Test.YtbkegflipglioaaGreatRead
import Derived.WalkKit
import Derived.ProofKit
import Derived.OpenShut
namespace Go.Proofs.YtbkegflipglioaaGreat.feederCares
open Go.ChangeShapes Go.WideShapes Go.ChangeAt Go.RowKit

theorem own : ownKnob Tryz.prog.godebug = none := by kernel_rfl

set_option maxRecDepth 100000 in
theorem lifted (os : Os) (started : os.Started) (H : Type) (enc : TypeId × Value → H) :
    ReturnsInHanded {} Tryz.checked os 8 .any (Rows.feederCaresSpec.pre6 enc Tryz.prog Tryz.f8 Rows.feederCaresRow.domain false) (Rows.feederCaresSpec.post enc Tryz.prog Tryz.f8 false true false false) := by
  refine returnsInHanded_of_change (C := Tryz.checked) own started (by kernel_rfl) Tryz.func8
    (ChangeSpec.witness6 (enc := enc) (C := Tryz.checked) false ⟨#[], #[.int .u32 0, .int .u32 0, .slice none 0 0, .bool false, .int .u64 0], []⟩ 8 (by kernel_rfl) (by kernel_rfl) (by kernel_rfl) (by kernel_rfl)) ?_
  intro W base args ds gs before hval0 hW _ _
  have hval : ∀ (j : Nat) t v, Tryz.f8.params[j]? = some t → args[j]? = some v → Value.okWide Tryz.prog W .any base t v := hval0
  have hW' := hW
  obtain ⟨p, q, hA0, hV, rfl, hfz, hnd⟩ := hW
  have hA : DataW.TrodAll enc Tryz.prog W 0 (fun _ => true) true Tryz.f8.params.toList args.toList ds p := hA0
  rw [Tryz.params8] at hA hval
  obtain ⟨v0, vs0, d0, ds0, p0, q0, hargs, rfl, rfl, h0, r0⟩ := trodAll_cons hA
  obtain ⟨v1, vs1, d1, ds1, p1, q1, rfl, rfl, rfl, h1, r1⟩ := trodAll_cons r0
  obtain ⟨v2, vs2, d2, ds2, p2, q2, rfl, rfl, rfl, h2, r2⟩ := trodAll_cons r1
  obtain ⟨v3, vs3, d3, ds3, p3, q3, rfl, rfl, rfl, h3, r3⟩ := trodAll_cons r2
  obtain ⟨v4, vs4, d4, ds4, p4, q4, rfl, rfl, rfl, h4, r4⟩ := trodAll_cons r3
  obtain ⟨rfl, rfl, rfl⟩ := trodAll_nil r4
  obtain rfl : args = #[v0, v1, v2, v3, v4] := by cases args; simp_all
  obtain ⟨a0, rfl, _, _, w0⟩ := open_int Tryz.underlying22 (hval 0 22 v0 rfl rfl) h0
  obtain ⟨a1, rfl, _, _, w1⟩ := open_int Tryz.underlying22 (hval 1 22 v1 rfl rfl) h1
  obtain ⟨a2, n2, c2, rfl⟩ := okWide_slice Tryz.underlying67 (hval 2 67 v2 rfl rfl)
  obtain ⟨a', n', cap', z2, e0, hl, hn, hc, hz, hb⟩ := rd_nats (B := 18446744073709551616) Tryz.underlying67 Tryz.underlying23 (by kernel_rfl) (fun z => wf_u64) (rd_of h2 2)
  simp only [Value.cells] at e0
  obtain ⟨rfl, rfl, rfl⟩ : a2 = a' ∧ n2 = n' ∧ c2 = cap' := by simpa using e0
  obtain ⟨a3, rfl, _, _⟩ := open_bool Tryz.underlying4 (hval 3 4 v3 rfl rfl) h3
  obtain ⟨a4, rfl, _, _, w4⟩ := open_int Tryz.underlying23 (hval 4 23 v4 rfl rfl) h4
  refine (Go.SX.Y.feederCares_walk a0 a1 a2 n2 c2 z2 a3 a4 (wf_u32 w0).1 (wf_u32 w0).2 (wf_u32 w1).1 (wf_u32 w1).2 (wf_u64 w4).1 (wf_u64 w4).2 W hl hz).mono fun e W' ⟨he, hu⟩ => ?_
  subst he
  refine ⟨_, rfl, law_post hW' rfl (by kernel_rfl) (by kernel_rfl) ?_ (by kernel_rfl) Tryz.underlying4 hu⟩
  intro ds' hds'
  match ds', hds' with
  | [d1, d2, d3, d4, d5], _ => rfl

theorem proved : Rows.FeederCaresSaid :=
  OpenClaim.holds_of_wide 8 Tryz.f8 rfl rfl rfl rfl rfl rfl rfl ⟨rfl, rfl, rfl, rfl, rfl⟩ rfl rfl rfl rfl rfl (by kernel_rfl) Tryz.func8 (by kernel_rfl)
    (of_decide_eq_true (by kernel_rfl)) (by unfold Func.isWrapper; first | (rw [if_pos (by decide +kernel)]; kernel_rfl) | (rw [if_neg (by decide +kernel)]; exact ⟨rfl, rfl⟩))
    (fun os started H enc _ => lifted os started H enc)
#print axioms proved
end Go.Proofs.YtbkegflipglioaaGreat.feederCares
