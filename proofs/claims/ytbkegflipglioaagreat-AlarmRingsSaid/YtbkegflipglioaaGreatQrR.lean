/- A lifted law's walk. -/
import Derived.Test.YtbkegflipglioaaGreatQrD
set_option maxRecDepth 20000
namespace Go.SX.Y.Pl
open Go.SX Go.SX.Y Go.RowKit Go.Proofs
/-- True, written out or not. -/
def yesK (s : S) (_ : List Ob) : Prop := match s with
  | .bl b => b = true
  | .bv b => b = true
  | _ => False
theorem lift_calls {f : FuncId} {args : List S} {fi : FI} (hf : ffB f = some fi) (hs : CallSem noW Tryz.prog f args [] yesK) (vs : List Value) (hv : oks 0 (fun _ => ⟨0, 0, 0⟩) args vs) (w : World) :
    Calls Tryz.prog f vs.toArray w fun e w' => e = .returned (.bool true) ∧ Below w.heap.size w w' := by
  rcases hs w w [] _ vs (hok_empty w) hv with ⟨_, hc⟩ | ⟨v, w', h1, _⟩
  · refine hc.mono ?_
    rintro e w' ⟨v, rfl, s, h', ν', hs, _, _, hok, hv⟩
    cases s <;> simp only [yesK] at hs
    case bl b => subst hs; simp only [S.ok] at hv; subst hv; exact ⟨rfl, hok.upd.toBelow⟩
    case bv b => subst hs; simp only [S.ok] at hv; subst hv; exact ⟨rfl, hok.upd.toBelow⟩
  · obtain ⟨fn, c, _, _, _, _, _, h6⟩ := ffBok f fi hf
    rw [h6] at h1
    cases h1
theorem alarmRings_walk (a0 a1 a2 a3 : Int) (h0 : 0 ≤ a0) (h1 : 0 ≤ a1) (h2 : 0 ≤ a2) (h3 : 0 ≤ a3) (w : World) : Calls Tryz.prog 3 #[.int .u32 a0, .int .u64 a1, .int .u64 a2, .int .u64 a3] w fun e w' => e = .returned (.bool true) ∧ Below w.heap.size w w' := by
  obtain ⟨p, q⟩ := alarmRings_all a0 a1 a2 a3 h0 h1 h2 h3
  exact lift_calls (fi := fi3) (by kernel_rfl) (alarmRings_sem a0 a1 a2 a3 yesK ⟨p, q⟩) [.int .u32 a0, .int .u64 a1, .int .u64 a2, .int .u64 a3] (oks_cons (by simp only [S.ok]) (oks_cons (by simp only [S.ok]) (oks_cons (by simp only [S.ok]) (oks_cons (by simp only [S.ok]) oks_nil)))) w
end Go.SX.Y.Pl
