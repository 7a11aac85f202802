/- SX: a law's run is a law's walk. -/
import Derived.Test.YtbkegflipglioaaGreatSX15
namespace Go.SX
open Go.RowKit
def noW : Addr → Nat → Nat → Option (List S) := fun _ _ _ => none
/-- What is asked of a law: it answers true. -/
def isTrue (s : S) (_ : List Ob) : Prop := s = .bl true
theorem hok_empty (w : World) : HOk noW w [] (fun _ => ⟨0, 0, 0⟩) [] w :=
  ⟨Upd.refl _ _, by intro i o h; simp at h, by intro i o h; simp at h, by intro i j o o' _ h; simp at h, by intro i cs h; simp at h, by intro a o n cs h; cases h⟩
theorem Upd.toBelow {a w : World} (h : Upd [] a w) : Below a.heap.size a w := ⟨h.os, h.tape, h.output, h.size, fun k hk => h.block k hk (by simp)⟩
theorem law_calls {P : Program} {f : FuncId} {args : List S} {ff : Nat → Option FI} (hF : FOk P ff) {fi : FI} (hf : ff f = some fi) (h : CallSem noW P f args [] isTrue) (vs : List Value) (hv : oks 0 (fun _ => ⟨0, 0, 0⟩) args vs) (w : World) :
    Calls P f vs.toArray w fun e w' => e = .returned (.bool true) ∧ Below w.heap.size w w' := by
  rcases h w w [] _ vs (hok_empty w) hv with ⟨_, hc⟩ | ⟨v, w', h1, _⟩
  · refine hc.mono ?_
    rintro e w' ⟨v, rfl, s, h', ν', hs, _, _, hok, hv⟩
    simp only [isTrue] at hs
    subst hs
    simp only [S.ok] at hv
    subst hv
    exact ⟨rfl, hok.upd.toBelow⟩
  · obtain ⟨fn, c, _, _, _, _, _, h6⟩ := hF f fi hf
    rw [h6] at h1
    cases h1
theorem run_calls {P : Program} {tt : Nat → Option TI} (hT : TOk P tt) (hm : P.follows .mixedOrders = true) {f : FuncId} {args : List S} {ff : Nat → Option FI} (hF : FOk P ff) {stop : FuncId → List S → List Ob → (S → List Ob → Prop) → Prop} (hstop : ∀ f args h K, stop f args h K → CallSem noW P f args h K) {n : Nat} {fi : FI} (hf : ff f = some fi)
    (h : (runN (std noW) tt ff stop n).1 f args [] isTrue) (vs : List Value) (hv : oks 0 (fun _ => ⟨0, 0, 0⟩) args vs) (w : World) :
    Calls P f vs.toArray w fun e w' => e = .returned (.bool true) ∧ Below w.heap.size w w' :=
  law_calls hF hf ((runN_sound hT hm hF hstop n).1 f args [] isTrue h) vs hv w
/-- Nothing is met by a contract. -/
def noStop (_ : FuncId) (_ : List S) (_ : List Ob) (_ : S → List Ob → Prop) : Prop := False
theorem noStop_ok {P : Program} : ∀ f args h K, noStop f args h K → CallSem noW P f args h K := fun _ _ _ _ h => h.elim
end Go.SX
