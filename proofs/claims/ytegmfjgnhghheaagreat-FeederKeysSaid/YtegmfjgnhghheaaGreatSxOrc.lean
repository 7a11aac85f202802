/- SX: a law's run under claims (an oracle at the memory's head); sums and differences that are not written out. -/
import Derived.Test.YtegmfjgnhghheaaGreatSxStop2
set_option maxRecDepth 20000
namespace Go.SX.Y
open Go.Proofs Go.RowKit
def isTr (s : S) (_ : List Ob) : Prop := match s with
  | .bl b => b = true
  | .bv b => b = true
  | _ => False
theorem hok_orc (w : World) (l : List Bool) : HOk noW w [] (fun _ => ⟨0, 0, 0⟩) [.orc l] w := by
  refine ⟨Upd.refl _ _, fun i o hi => ?_, fun i o hi ho => ?_, fun i j o o' hij hi hj ho ho' => ?_, fun i cs hi => ?_, by intro a o n cs h; cases h⟩
  · cases i with
    | zero => simp only [List.getElem?_cons_zero, Option.some.injEq] at hi; subst hi; trivial
    | succ i => simp at hi
  · cases i with
    | zero => simp only [List.getElem?_cons_zero, Option.some.injEq] at hi; subst hi; cases ho
    | succ i => simp at hi
  · cases i with
    | zero => simp only [List.getElem?_cons_zero, Option.some.injEq] at hi; subst hi; cases ho
    | succ i => simp at hi
  · cases i with
    | zero => simp at hi
    | succ i => simp at hi
theorem orc_calls {f : FuncId} {args : List S} {ff : Nat → Option FI} (hF : FOk Tryz.prog ff) {stop : FuncId → List S → List Ob → (S → List Ob → Prop) → Prop} (hstop : ∀ f args h K, stop f args h K → CallSem noW Tryz.prog f args h K) {n : Nat} {fi : FI} (hf : ff f = some fi) {l : List Bool} {p : Prop}
    (h : (SX.runN (std noW) tt ff stop n).1 f args [.orc l] isTr = p) (hp : p) (vs : List Value) (hv : oks 1 (fun _ => ⟨0, 0, 0⟩) args vs) (w : World) :
    Calls Tryz.prog f vs.toArray w fun e w' => e = .returned (.bool true) ∧ Below w.heap.size w w' := by
  have hs := (runN_sound tok (by kernel_rfl) hF hstop n).1 f args [.orc l] isTr (Eq.mpr h hp)
  rcases hs w w [] _ vs (hok_orc w l) hv with ⟨_, hc⟩ | ⟨v, w', h1, _⟩
  · refine hc.mono ?_
    rintro e w' ⟨v, rfl, s, h', ν', hs, _, _, hok, hv⟩
    cases s <;> simp only [isTr] at hs
    case bl b => subst hs; simp only [S.ok] at hv; subst hv; exact ⟨rfl, hok.upd.toBelow⟩
    case bv b => subst hs; simp only [S.ok] at hv; subst hv; exact ⟨rfl, hok.upd.toBelow⟩
  · obtain ⟨fn, c, _, _, _, _, _, h6⟩ := hF f fi hf
    rw [h6] at h1
    cases h1
/-- The sum of two words, claimed not to be negative. -/
def addV (h : List Ob) (x y : Int) (K : S → List Ob → Prop) : Prop := 0 ≤ x ∧ (0 ≤ y ∧ K (.tup [.iv .u64 ((x + y) % 18446744073709551616), .iv .u64 ((x + y) / 18446744073709551616)]) h)
theorem addV_ok {h : List Ob} {x y : Int} {K : S → List Ob → Prop} {a b c : S} (ha : ∀ m ν v, a.ok m ν v → v = .int .u64 x) (hb : ∀ m ν v, b.ok m ν v → v = .int .u64 y) (hc : ∀ m ν v, c.ok m ν v → v = .int .u64 0) (hk : addV h x y K) : CallSem noW Tryz.prog 86 [a, b, c] h K := by
  obtain ⟨h0, h1, hk⟩ := hk
  obtain ⟨x, rfl⟩ := Int.eq_ofNat_of_zero_le h0
  obtain ⟨y, rfl⟩ := Int.eq_ofNat_of_zero_le h1
  intro w w0 S0 ν vs H hv
  simp only [S.oks] at hv
  obtain ⟨_, _, rfl, g1, _, _, rfl, g2, _, _, rfl, g3, rfl⟩ := hv
  rw [ha _ _ _ g1, hb _ _ _ g2, hc _ _ _ g3]
  have h1 := Any7.bits_Add64 Tryz.lays25 x y 0 (by omega) w
  refine Or.inr ⟨_, w, h1, _, h, ν, hk, Nat.le_refl _, fun _ _ => rfl, H, ?_⟩
  simp only [S.ok]
  exact ⟨_, rfl, oks_cons (by simp only [S.ok]; first | rfl | (congr 1; done) | (congr 1; omega)) (oks_cons (by simp only [S.ok]; first | rfl | (congr 1; done) | (congr 1; omega)) oks_nil)⟩
def stopV (f : FuncId) (args : List S) (h : List Ob) (K : S → List Ob → Prop) : Prop := match Nat.beq f 86 with
  | true => (match args with
    | [.iv .u64 x, .iv .u64 y, .il .u64 c] => (match stdBF .eq c 0 with
      | true => addV h x y K
      | false => False)
    | [.il .u64 x, .iv .u64 y, .il .u64 c] => (match stdBF .eq c 0 with
      | true => addV h x y K
      | false => False)
    | [.iv .u64 x, .il .u64 y, .il .u64 c] => (match stdBF .eq c 0 with
      | true => addV h x y K
      | false => False)
    | args => stopB f args h K)
  | false => stopB f args h K
theorem stopV_ok : ∀ f args h K, stopV f args h K → CallSem noW Tryz.prog f args h K := by
  intro f args h K hk
  unfold stopV at hk
  split at hk
  case h_2 => exact stopB_ok _ _ _ _ hk
  rename_i hf
  have := Nat.eq_of_beq_eq_true hf
  subst this
  split at hk
  all_goals first
    | exact stopB_ok _ _ _ _ hk
    | (split at hk
       · rename_i hc
         rw [stdBF_eq] at hc
         have hc0 := (by simpa [stdB] using hc : _ = (0 : Int))
         subst hc0
         exact addV_ok (fun m ν v hv => by simpa only [S.ok] using hv) (fun m ν v hv => by simpa only [S.ok] using hv) (fun m ν v hv => by simpa only [S.ok] using hv) hk
       · exact hk.elim)
end Go.SX.Y
