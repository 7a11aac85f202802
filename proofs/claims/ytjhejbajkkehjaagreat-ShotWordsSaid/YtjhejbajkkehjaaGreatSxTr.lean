/- SX: a law's answer may be a truth that is not written out. -/
import Derived.Test.YtjhejbajkkehjaaGreatSxStop2
set_option maxRecDepth 20000
namespace Go.SX.Y
open Go.Proofs Go.RowKit
def isTr (s : S) (_ : List Ob) : Prop := match s with
  | .bl b => b = true
  | .bv b => b = true
  | _ => False
theorem tr_calls {f : FuncId} {args : List S} {ff : Nat → Option FI} (hF : FOk Tryz.prog ff) {stop : FuncId → List S → List Ob → (S → List Ob → Prop) → Prop} (hstop : ∀ f args h K, stop f args h K → CallSem noW Tryz.prog f args h K) {n : Nat} {fi : FI} (hf : ff f = some fi) {p : Prop}
    (h : (SX.runN (std noW) tt ff stop n).1 f args [] isTr = p) (hp : p) (vs : List Value) (hv : oks 0 (fun _ => ⟨0, 0, 0⟩) args vs) (w : World) :
    Calls Tryz.prog f vs.toArray w fun e w' => e = .returned (.bool true) ∧ Below w.heap.size w w' := by
  have hs := (runN_sound tok (by kernel_rfl) hF hstop n).1 f args [] isTr (Eq.mpr h hp)
  rcases hs w w [] _ vs (hok_empty w) hv with ⟨_, hc⟩ | ⟨v, w', h1, _⟩
  · refine hc.mono ?_
    rintro e w' ⟨v, rfl, s, h', ν', hs, _, _, hok, hv⟩
    cases s <;> simp only [isTr] at hs
    case bl b => subst hs; simp only [S.ok] at hv; subst hv; exact ⟨rfl, hok.upd.toBelow⟩
    case bv b => subst hs; simp only [S.ok] at hv; subst hv; exact ⟨rfl, hok.upd.toBelow⟩
  · obtain ⟨fn, c, _, _, _, _, _, h6⟩ := hF f fi hf
    rw [h6] at h1
    cases h1
end Go.SX.Y
