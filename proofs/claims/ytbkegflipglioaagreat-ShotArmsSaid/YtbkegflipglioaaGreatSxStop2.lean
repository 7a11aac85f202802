/- SX: the two contracts as one 'stop'. -/
import Derived.Test.YtbkegflipglioaaGreatSxStop
set_option maxRecDepth 20000
namespace Go.SX.Y
open Go.Proofs Go.Proofs.YtbkegflipglioaaGreat Go.RowKit

def addS (h : List Ob) (x y c : Int) (K : S → List Ob → Prop) : Prop := match x, y, c with
  | .ofNat x, .ofNat y, .ofNat c => (match Nat.ble c 1 with
    | true => forceN ((x + y + c) % 18446744073709551616) fun s => forceN ((x + y + c) / 18446744073709551616) fun q => K (.tup [.il .u64 (.ofNat s), .il .u64 (.ofNat q)]) h
    | false => False)
  | _, _, _ => False
theorem add_sem {h : List Ob} {x y c : Int} {K : S → List Ob → Prop} (hk : addS h x y c K) : CallSem noW Tryz.prog 146 [.il .u64 x, .il .u64 y, .il .u64 c] h K := by
  unfold addS at hk
  split at hk
  case h_2 => exact hk.elim
  rename_i x y c
  split at hk
  case h_2 => exact hk.elim
  rename_i hc
  rw [forceN_eq, forceN_eq] at hk
  intro w w0 S0 ν vs H hv
  simp only [S.oks, S.ok] at hv
  obtain ⟨_, _, rfl, rfl, _, _, rfl, rfl, _, _, rfl, rfl, rfl⟩ := hv
  have h1 := Any7.bits_Add64 Tryz.lays25 x y c (Nat.le_of_ble_eq_true hc) w
  refine Or.inr ⟨_, w, h1, _, h, ν, hk, Nat.le_refl _, fun _ _ => rfl, H, ?_⟩
  simp only [S.ok]
  exact ⟨_, rfl, oks_cons (by simp only [S.ok]; rfl) (oks_cons (by simp only [S.ok]; rfl) oks_nil)⟩
/-- What is met by a contract. -/
def stopB (f : FuncId) (args : List S) (h : List Ob) (K : S → List Ob → Prop) : Prop := match Nat.beq f 140 with
  | true => (match args with
    | [.ptr id (.l 0)] => regS h id K
    | _ => False)
  | false => (match Nat.beq f 146 with
    | true => (match args with
      | [.il .u64 x, .il .u64 y, .il .u64 c] => addS h x y c K
      | _ => False)
    | false => False)
theorem stopB_ok : ∀ f args h K, stopB f args h K → CallSem noW Tryz.prog f args h K := by
  intro f args h K hk
  unfold stopB at hk
  split at hk
  · rename_i hf
    have := Nat.eq_of_beq_eq_true hf
    subst this
    split at hk
    · exact regions_sem hk
    · exact hk.elim
  · split at hk
    · rename_i hf
      have := Nat.eq_of_beq_eq_true hf
      subst this
      split at hk
      · exact add_sem hk
      · exact hk.elim
    · exact hk.elim
def ffB (n : Nat) : Option FI := cond (Nat.beq n 140) none (ffa n)
theorem ffBok : FOk Tryz.prog ffB := fun f fi hf => by
  unfold ffB at hf
  cases hc : Nat.beq f 140 with
  | true => rw [hc] at hf; cases hf
  | false => rw [hc] at hf; exact ffaok f fi hf
end Go.SX.Y
