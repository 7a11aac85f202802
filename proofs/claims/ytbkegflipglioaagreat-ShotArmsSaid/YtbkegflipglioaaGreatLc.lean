/- A lifted law, called. -/
import Derived.Test.YtbkegflipglioaaGreatSxStop2
import Derived.Test.YtbkegflipglioaaGreatSX21
import Derived.KernelRfl
set_option maxRecDepth 20000
namespace Go.SX.Y.Lc
open Go.SX Go.SX.Y Go.RowKit Go.Proofs
/-- True, written out or not. -/
def yesK (s : S) (_ : List Ob) : Prop := match s with
  | .bl b => b = true
  | .bv b => b = true
  | _ => False
theorem lift_calls {f : FuncId} {args : List S} {fi : FI} (hf : ffB f = some fi) (hs : CallSem noW Tryz.prog f args [] yesK) (vs : List Value) (hv : oks 0 (fun _ => ⟨0, 0, 0, 0⟩) args vs) (w : World) :
    Calls Tryz.prog f vs.toArray w fun e w' => e = .returned (.bool true) ∧ Below w.heap.size w w' := by
  rcases hs w w [] _ vs (hok_empty w) hv with ⟨_, hc⟩ | ⟨v, w', h1, _⟩
  · refine hc.mono ?_
    rintro e w' ⟨v, rfl, s, h', ν', hs, _, _, hok, hv⟩
    cases s <;> simp only [yesK] at hs
    case bl b => subst hs; simp only [S.ok] at hv; subst hv; exact ⟨rfl, hok.upd.toBelow⟩
    case bv b => subst hs; simp only [S.ok] at hv; subst hv; exact ⟨rfl, hok.upd.toBelow⟩
  · obtain ⟨fn, c, _, _, _, _, _, h6⟩ := ffBok f fi hf
    rw [h6] at h1
    cases h1
end Go.SX.Y.Lc
