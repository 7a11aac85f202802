/-
  For every list of acts: the law RstcPlays returns true, and its argument reads as it did. No conditions.
-/
import Derived.Test.YtdmdnijgjgjmkaaRows
import Derived.Test.YtdmdnijgjgjmkaaRead
import Derived.Test.YtdmdnijgjgjmkaaLaw09c
import Derived.WalkKit
import Derived.ProofKit
import Derived.OpenShut
namespace Go.Proofs.Ytdmdnijgjgjmkaa.rstcPlays
open Go.ChangeShapes Go.WideShapes Go.ChangeAt Go.RowKit

set_option maxRecDepth 100000 in
theorem act_of {w : World} {cells : List Value} (h : Rd Try.prog w 2 40 cells) :
    ∃ z : Int × Int × Int × Int, cells = [.int .i64 z.1, .int .i64 z.2.1, .int .u32 z.2.2.1, .int .u32 z.2.2.2] ∧ (0 ≤ z.2.2.1 ∧ z.2.2.1 < 4294967296) ∧ (0 ≤ z.2.2.2 ∧ z.2.2.2 < 4294967296) := by
  have c4 : Try.prog.cellsOf 40 = 4 := by kernel_rfl
  have c1 : Try.prog.cellsOf 3 = 1 := by kernel_rfl
  have c1' : Try.prog.cellsOf 23 = 1 := by kernel_rfl
  unfold Rd at h
  simp only [Try.underlying40, c4] at h
  obtain ⟨hl, hf⟩ := h
  have h0 := hf 0 _ rfl
  have h1 := hf 1 _ rfl
  have h2 := hf 2 _ rfl
  have h3 := hf 3 _ rfl
  simp only [Rd, Try.underlying3, Try.underlying23, c1, c1'] at h0 h1 h2 h3
  obtain ⟨z0, e0, _⟩ := h0
  obtain ⟨z1, e1, _⟩ := h1
  obtain ⟨z2, e2, w2⟩ := h2
  obtain ⟨z3, e3, w3⟩ := h3
  refine ⟨(z0, z1, z2, z3), ?_, wf_u32 w2, wf_u32 w3⟩
  match cells, hl with
  | [a, b, c, d], _ =>
    simp [c1, c1'] at e0 e1 e2 e3
    rw [e0, e1, e2, e3]

theorem own : ownKnob Try.prog.godebug = none := by kernel_rfl

set_option maxRecDepth 100000 in
theorem lifted (os : Os) (started : os.Started) (H : Type) (enc : TypeId × Value → H) :
    ReturnsInHanded {} Try.checked os 4 .any (Rows.rstcPlaysSpec.pre6 enc Try.prog Try.f4 Rows.rstcPlaysRow.domain false) (Rows.rstcPlaysSpec.post enc Try.prog Try.f4 false true false false) := by
  refine returnsInHanded_of_change (C := Try.checked) own started (by kernel_rfl) Try.func4
    (ChangeSpec.witness6 (enc := enc) (C := Try.checked) false ⟨#[], #[.slice none 0 0], []⟩ 8 (by kernel_rfl) (by kernel_rfl) (by kernel_rfl) (by kernel_rfl)) ?_
  intro W base args ds gs before hval0 hW _ _
  have hval : ∀ (j : Nat) t v, Try.f4.params[j]? = some t → args[j]? = some v → Value.okWide Try.prog W .any base t v := hval0
  have hW' := hW
  obtain ⟨p, q, hA0, hV, rfl, hfz, hnd⟩ := hW
  have hA : DataW.TrodAll enc Try.prog W 0 (fun _ => true) true Try.f4.params.toList args.toList ds p := hA0
  rw [Try.params4] at hA hval
  obtain ⟨v0, vs0, d0, ds0, p0, q0, hargs, rfl, rfl, h0, r0⟩ := trodAll_cons hA
  obtain ⟨rfl, rfl, rfl⟩ := trodAll_nil r0
  obtain rfl : args = #[v0] := by cases args; simp_all
  obtain ⟨a, n, cap, rfl⟩ := okWide_slice Try.underlying34 (hval 0 34 v0 rfl rfl)
  have main : Calls Try.prog 4 #[.slice a n cap] W fun e w' => e = .returned (.bool true) ∧ Upd [] W w' := by
    have hr := rd_of h0 3
    unfold Rd at hr
    simp only [Try.underlying34] at hr
    obtain ⟨a', n', cap', he, hc, hm, hs⟩ := hr
    simp [Value.cells] at he
    obtain ⟨rfl, rfl, rfl⟩ := he
    have c4 : Try.prog.cellsOf 40 = 4 := by kernel_rfl
    simp only [c4] at hs
    rcases hs with rfl | h | ⟨lb, lo, rfl, hlb, hc⟩
    · exact l09_plays0 a cap W
    · omega
    · obtain ⟨f, hf⟩ := pick (Q := fun i (z : Int × Int × Int × Int) => W.cell? ⟨lb, lo + i * 4, none⟩ = some (.int .i64 z.1) ∧ W.cell? ⟨lb, lo + i * 4 + 1, none⟩ = some (.int .i64 z.2.1) ∧ W.cell? ⟨lb, lo + i * 4 + 2, none⟩ = some (.int .u32 z.2.2.1) ∧ W.cell? ⟨lb, lo + i * 4 + 3, none⟩ = some (.int .u32 z.2.2.2) ∧ (0 ≤ z.2.2.1 ∧ z.2.2.1 < 4294967296) ∧ (0 ≤ z.2.2.2 ∧ z.2.2.2 < 4294967296)) (fun i hi => by
        obtain ⟨cells, _, hcell, hrd⟩ := hc i hi
        obtain ⟨z, rfl, b1, b2⟩ := act_of hrd
        exact ⟨z, hcell 0 _ rfl, hcell 1 _ rfl, hcell 2 _ rfl, hcell 3 _ rfl, b1, b2⟩)
      exact l09_plays lb lo n cap (fun i => (f i).1) (fun i => (f i).2.1) (fun i => (f i).2.2.1) (fun i => (f i).2.2.2) W
        ⟨hlb, fun i hi => (hf i hi).1, fun i hi => (hf i hi).2.1, fun i hi => (hf i hi).2.2.1, fun i hi => (hf i hi).2.2.2.1, fun i hi => (hf i hi).2.2.2.2.1, fun i hi => (hf i hi).2.2.2.2.2⟩ (by unfold maxLen at hm; omega)
  refine main.mono fun e W' ⟨he, hu⟩ => ?_
  subst he
  refine ⟨_, rfl, law_post hW' rfl (by kernel_rfl) (by kernel_rfl) ?_ (by kernel_rfl) Try.underlying4 hu.below⟩
  intro ds' hds'
  match ds', hds' with
  | [d1], _ => rfl

theorem proved : Rows.RstcPlaysSaid :=
  OpenClaim.holds_of_wide 4 Try.f4 rfl rfl rfl rfl rfl rfl rfl ⟨rfl, rfl, rfl, rfl, rfl⟩ rfl rfl rfl rfl rfl (by kernel_rfl) Try.func4 (by kernel_rfl)
    (of_decide_eq_true (by kernel_rfl)) (by unfold Func.isWrapper; first | (rw [if_pos (by decide +kernel)]; kernel_rfl) | (rw [if_neg (by decide +kernel)]; exact ⟨rfl, rfl⟩))
    (fun os started H enc _ => lifted os started H enc)
#print axioms proved
end Go.Proofs.Ytdmdnijgjgjmkaa.rstcPlays
