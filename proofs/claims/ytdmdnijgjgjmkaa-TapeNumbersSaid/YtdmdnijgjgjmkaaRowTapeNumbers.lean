/-
  For every list of numbers and every bytes: the law TapeNumbers returns true, and its arguments read as they did. No conditions.
-/
import Derived.Test.YtdmdnijgjgjmkaaRows
import Derived.Test.YtdmdnijgjgjmkaaRdVec
import Derived.Test.YtdmdnijgjgjmkaaLawNumbers
import Derived.WalkKit
import Derived.ProofKit
import Derived.OpenShut
namespace Go.Proofs.Ytdmdnijgjgjmkaa.tapeNumbers
open Go.ChangeShapes Go.WideShapes Go.ChangeAt Go.RowKit
theorem own : ownKnob Try.prog.godebug = none := by kernel_rfl

set_option maxRecDepth 100000 in
theorem lifted (os : Os) (started : os.Started) (H : Type) (enc : TypeId × Value → H) :
    ReturnsInHanded {} Try.checked os 6 .any (Rows.tapeNumbersSpec.pre6 enc Try.prog Try.f6 Rows.tapeNumbersRow.domain false) (Rows.tapeNumbersSpec.post enc Try.prog Try.f6 false true false false) := by
  refine returnsInHanded_of_change (C := Try.checked) own started (by kernel_rfl) Try.func6
    (ChangeSpec.witness6 (enc := enc) (C := Try.checked) false ⟨#[], #[.slice none 0 0, .slice none 0 0], []⟩ 8 (by kernel_rfl) (by kernel_rfl) (by kernel_rfl) (by kernel_rfl)) ?_
  intro W base args ds gs before hval0 hW _ _
  have hval : ∀ (j : Nat) t v, Try.f6.params[j]? = some t → args[j]? = some v → Value.okWide Try.prog W .any base t v := hval0
  have hW' := hW
  obtain ⟨p, q, hA0, hV, rfl, hfz, hnd⟩ := hW
  have hA : DataW.TrodAll enc Try.prog W 0 (fun _ => true) true Try.f6.params.toList args.toList ds p := hA0
  rw [Try.params6] at hA hval
  obtain ⟨v0, vs0, d0, ds0, p0, q0, hargs, rfl, rfl, h0, r0⟩ := trodAll_cons hA
  obtain ⟨v1, vs1, d1, ds1, p1, q1, hargs1, rfl, rfl, h1, r1⟩ := trodAll_cons r0
  obtain ⟨rfl, rfl, rfl⟩ := trodAll_nil r1
  obtain rfl : args = #[v0, v1] := by cases args; simp_all
  obtain ⟨a, n, cap, rfl⟩ := okWide_slice Try.underlying52 (hval 0 52 v0 rfl rfl)
  obtain ⟨b, k, cap2, rfl⟩ := okWide_slice Try.underlying53 (hval 1 53 v1 rfl rfl)
  have main : Calls Try.prog 6 #[.slice a n cap, .slice b k cap2] W fun e w' => e = .returned (.bool true) ∧ Upd [] W w' := by
    obtain ⟨a', n', cap', zs, e0, hl, hn, hc, hv, hz⟩ := rd_nats (B := 18446744073709551616) Try.underlying52 Try.underlying55 (by kernel_rfl) (fun z => wf_u64) (rd_of h0 2)
    obtain ⟨b', k', cap2', bs, e1, hl1, hn1, hc1, hv1, hz1⟩ := rd_nats (B := 256) Try.underlying53 Try.underlying5 (by kernel_rfl) (fun z => wf_u8) (rd_of h1 2)
    simp [Value.cells] at e0 e1
    obtain ⟨rfl, rfl, rfl⟩ := e0
    obtain ⟨rfl, rfl, rfl⟩ := e1
    refine l34_numbers a b n k cap cap2 (zs.take 20) (bs.take 20) W hn hn1 hc hc1 (by rw [List.length_take]; omega) (by rw [List.length_take]; omega) ?_ ?_ ?_ ?_
    · have := hv.pre (zs.take 20).length 20 (by rw [List.length_take]; omega)
      rwa [← List.map_take] at this
    · have := hv1.pre (bs.take 20).length 20 (by rw [List.length_take]; omega)
      rwa [← List.map_take] at this
    · intro x hx; exact ⟨by have := hz x (List.mem_of_mem_take hx); omega⟩
    · intro x hx; have := hz1 x (List.mem_of_mem_take hx); omega
  refine main.mono fun e W' ⟨he, hu⟩ => ?_
  subst he
  refine ⟨_, rfl, law_post hW' rfl (by kernel_rfl) (by kernel_rfl) ?_ (by kernel_rfl) Try.underlying4 hu.below⟩
  intro ds' hds'
  match ds', hds' with
  | [d1, d2], _ => rfl

theorem proved : Rows.TapeNumbersSaid :=
  OpenClaim.holds_of_wide 6 Try.f6 rfl rfl rfl rfl rfl rfl rfl ⟨rfl, rfl, rfl, rfl, rfl⟩ rfl rfl rfl rfl rfl (by kernel_rfl) Try.func6 (by kernel_rfl)
    (of_decide_eq_true (by kernel_rfl)) (by unfold Func.isWrapper; first | (rw [if_pos (by decide +kernel)]; kernel_rfl) | (rw [if_neg (by decide +kernel)]; exact ⟨rfl, rfl⟩))
    (fun os started H enc _ => lifted os started H enc)
#print axioms proved
end Go.Proofs.Ytdmdnijgjgjmkaa.tapeNumbers
