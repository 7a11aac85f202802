/-
  For every head, every list of operations, every place and every byte: the law TapeCuts returns true, and its arguments read as they did. No conditions.
-/
import Derived.Test.YtdmdnijgjgjmkaaRows
import Derived.Test.YtdmdnijgjgjmkaaRdOp
import Derived.Test.YtdmdnijgjgjmkaaLawCuts
import Derived.WalkKit
import Derived.ProofKit
import Derived.OpenShut
namespace Go.Proofs.Ytdmdnijgjgjmkaa.tapeCuts
open Go.ChangeShapes Go.WideShapes Go.ChangeAt Go.RowKit
theorem own : ownKnob Try.prog.godebug = none := by kernel_rfl

set_option maxRecDepth 100000 in
theorem lifted (os : Os) (started : os.Started) (H : Type) (enc : TypeId × Value → H) :
    ReturnsInHanded {} Try.checked os 9 .any (Rows.tapeCutsSpec.pre6 enc Try.prog Try.f9 Rows.tapeCutsRow.domain false) (Rows.tapeCutsSpec.post enc Try.prog Try.f9 false true false false) := by
  refine returnsInHanded_of_change (C := Try.checked) own started (by kernel_rfl) Try.func9
    (ChangeSpec.witness6 (enc := enc) (C := Try.checked) false ⟨#[], #[.agg #[.int .i64 0, .int .i64 0, .int .u32 0, .int .i64 0, .int .i64 0], .slice none 0 0, .int .i64 0, .int .u8 0], []⟩ 8 (by kernel_rfl) (by kernel_rfl) (by kernel_rfl) (by kernel_rfl)) ?_
  intro W base args ds gs before hval0 hW _ _
  have hval : ∀ (j : Nat) t v, Try.f9.params[j]? = some t → args[j]? = some v → Value.okWide Try.prog W .any base t v := hval0
  have hW' := hW
  obtain ⟨p, q, hA0, hV, rfl, hfz, hnd⟩ := hW
  have hA : DataW.TrodAll enc Try.prog W 0 (fun _ => true) true Try.f9.params.toList args.toList ds p := hA0
  rw [Try.params9] at hA hval
  obtain ⟨v0, vs0, d0, ds0, p0, q0, hargs, rfl, rfl, h0, r0⟩ := trodAll_cons hA
  obtain ⟨v1, vs1, d1, ds1, p1, q1, hargs1, rfl, rfl, h1, r1⟩ := trodAll_cons r0
  obtain ⟨v2, vs2, d2, ds2, p2, q2, hargs2, rfl, rfl, h2, r2⟩ := trodAll_cons r1
  obtain ⟨v3, vs3, d3, ds3, p3, q3, hargs3, rfl, rfl, h3, r3⟩ := trodAll_cons r2
  obtain ⟨rfl, rfl, rfl⟩ := trodAll_nil r3
  obtain rfl : args = #[v0, v1, v2, v3] := by cases args; simp_all
  obtain ⟨a, n, cap, rfl⟩ := okWide_slice Try.underlying65 (hval 1 65 v1 rfl rfl)
  obtain ⟨z2, rfl⟩ := okWide_int Try.underlying3 (hval 2 3 v2 rfl rfl)
  obtain ⟨z3, rfl⟩ := okWide_int Try.underlying5 (hval 3 5 v3 rfl rfl)
  have main : Calls Try.prog 9 #[v0, .slice a n cap, .int .i64 z2, .int .u8 z3] W fun e w' => e = .returned (.bool true) ∧ Upd [] W w' := by
    obtain ⟨h, eh, hd⟩ := head_of_rd (rd_of h0 2)
    obtain ⟨a', n', cap', l, e1, hl, hv, hok⟩ := ops_of_rd (rd_of h1 4)
    have e3 := rd_of h3 1
    unfold Rd at e3
    simp only [Try.underlying5] at e3
    obtain ⟨y, e3, hw3⟩ := e3
    simp [Value.cells] at e1 e3
    obtain ⟨rfl, rfl, rfl⟩ := e1
    subst e3
    have hb := wf_u8 hw3
    obtain ⟨m, rfl⟩ := Int.eq_ofNat_of_zero_le hb.1
    obtain rfl : v0 = .agg h.cells.toArray := by
      obtain ⟨cs, rfl, _⟩ := okWide_struct Try.underlying64 (hval 0 64 v0 rfl rfl)
      simp only [Value.cells] at eh
      rw [← eh]
    rw [← hl] at hv ⊢
    exact l34_cuts h l _ z2 m W hv hok hd (by omega)
  refine main.mono fun e W' ⟨he, hu⟩ => ?_
  subst he
  refine ⟨_, rfl, law_post hW' rfl (by kernel_rfl) (by kernel_rfl) ?_ (by kernel_rfl) Try.underlying4 hu.below⟩
  intro ds' hds'
  match ds', hds' with
  | [d1, d2, d3, d4], _ => rfl

theorem proved : Rows.TapeCutsSaid :=
  OpenClaim.holds_of_wide 9 Try.f9 rfl rfl rfl rfl rfl rfl rfl ⟨rfl, rfl, rfl, rfl, rfl⟩ rfl rfl rfl rfl rfl (by kernel_rfl) Try.func9 (by kernel_rfl)
    (of_decide_eq_true (by kernel_rfl)) (by unfold Func.isWrapper; first | (rw [if_pos (by decide +kernel)]; kernel_rfl) | (rw [if_neg (by decide +kernel)]; exact ⟨rfl, rfl⟩))
    (fun os started H enc _ => lifted os started H enc)
#print axioms proved
end Go.Proofs.Ytdmdnijgjgjmkaa.tapeCuts
