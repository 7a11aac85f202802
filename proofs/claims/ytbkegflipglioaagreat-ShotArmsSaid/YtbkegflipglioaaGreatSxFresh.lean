/- SX: a call that needs nothing of the memory; nested runs. -/
import Derived.Test.YtbkegflipglioaaGreatSxStop2
set_option maxRecDepth 20000
namespace Go.SX.Y
open Go.Proofs Go.RowKit
theorem fresh_sem {P : Program} {f : FuncId} {ff : Nat → Option FI} (hF : FOk P ff) {fi : FI} (hf : ff f = some fi) (hsem : CallSem noW P f [] [] isTrue) {h : List Ob} {K : S → List Ob → Prop} (hk : K (.bl true) h) : CallSem noW P f [] h K := by
  intro w w0 S0 ν vs H hv
  simp only [S.oks] at hv
  subst hv
  rcases hsem w w [] _ [] (hok_empty w) oks_nil with ⟨he, hc⟩ | ⟨v, w', h1, _⟩
  · refine Or.inl ⟨he, hc.mono ?_⟩
    rintro e w' ⟨v, rfl, s, h', ν', hs, _, _, hok, hv⟩
    simp only [isTrue] at hs
    subst hs
    simp only [S.ok] at hv
    subst hv
    exact ⟨_, rfl, .bl true, h, ν, hk, Nat.le_refl _, fun _ _ => rfl, H.step (S1 := []) hok.upd (by simp), by simp only [S.ok]⟩
  · obtain ⟨fn, c, _, _, _, _, _, h6⟩ := hF f fi hf
    rw [h6] at h1
    cases h1
theorem known_sem {f : FuncId} {n : Nat} {fi : FI} (hf : ffB f = some fi) (hr : (SX.runN (std noW) tt ffB stopB n).1 f [] [] isTrue = (S.bl true = S.bl true)) {h : List Ob} {K : S → List Ob → Prop} (hk : K (.bl true) h) : CallSem noW Tryz.prog f [] h K :=
  fresh_sem ffBok hf ((runN_sound tok (by kernel_rfl) ffBok stopB_ok n).1 f [] [] isTrue (Eq.mpr hr rfl)) hk
/-- Regions of no bus. -/
def nilR (h : List Ob) (K : S → List Ob → Prop) : Prop := (SX.runN (std noW) tt ffa noStop 8).1 140 [.nil] h K
theorem nilR_ok {h : List Ob} {K : S → List Ob → Prop} (hk : nilR h K) : CallSem noW Tryz.prog 140 [.nil] h K :=
  (runN_sound tok (by kernel_rfl) ffaok noStop_ok 8).1 _ _ _ _ hk
/-- What is met by a contract: a law's known example too. -/
def stopN (kn : Nat) (f : FuncId) (args : List S) (h : List Ob) (K : S → List Ob → Prop) : Prop := match Nat.beq f kn with
  | true => (match args with
    | [] => K (.bl true) h
    | _ => False)
  | false => (match Nat.beq f 140 with
    | true => (match args with
      | [.nil] => nilR h K
      | args => stopB f args h K)
    | false => stopB f args h K)
theorem stopN_ok {kn n : Nat} {fi : FI} (hf : ffB kn = some fi) (hr : (SX.runN (std noW) tt ffB stopB n).1 kn [] [] isTrue = (S.bl true = S.bl true)) : ∀ f args h K, stopN kn f args h K → CallSem noW Tryz.prog f args h K := by
  intro f args h K hk
  unfold stopN at hk
  split at hk
  · rename_i he
    have := Nat.eq_of_beq_eq_true he
    subst this
    split at hk
    · exact known_sem hf hr hk
    · exact hk.elim
  · split at hk
    · rename_i he
      have := Nat.eq_of_beq_eq_true he
      subst this
      split at hk
      · exact nilR_ok hk
      · exact stopB_ok _ _ _ _ hk
    · exact stopB_ok _ _ _ _ hk
/-- A law's walk, of a run that comes to p. -/
theorem run_calls2 {f : FuncId} {args : List S} {ff : Nat → Option FI} (hF : FOk Tryz.prog ff) {stop : FuncId → List S → List Ob → (S → List Ob → Prop) → Prop} (hstop : ∀ f args h K, stop f args h K → CallSem noW Tryz.prog f args h K) {n : Nat} {fi : FI} (hf : ff f = some fi) {p : Prop}
    (h : (SX.runN (std noW) tt ff stop n).1 f args [] isTrue = p) (hp : p) (vs : List Value) (hv : oks 0 (fun _ => ⟨0, 0, 0, 0⟩) args vs) (w : World) :
    Calls Tryz.prog f vs.toArray w fun e w' => e = .returned (.bool true) ∧ Below w.heap.size w w' :=
  run_calls tok (by kernel_rfl) hF hstop hf (Eq.mpr h hp) vs hv w
def ffN (kn : Nat) (n : Nat) : Option FI := cond (Nat.beq n kn) none (ffB n)
theorem ffNok (kn : Nat) : FOk Tryz.prog (ffN kn) := fun f fi hf => by
  unfold ffN at hf
  cases hc : Nat.beq f kn with
  | true => rw [hc] at hf; cases hf
  | false => rw [hc] at hf; exact ffBok f fi hf
end Go.SX.Y
