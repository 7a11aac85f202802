/- SX: claims, and a law's known example by contract. -/
import Derived.Test.YtegmfjgnhghheaaGreatSxFresh
import Derived.Test.YtegmfjgnhghheaaGreatSxOrc
set_option maxRecDepth 20000
namespace Go.SX.Y
open Go.Proofs Go.RowKit
def stopK (kn : Nat) (f : FuncId) (args : List S) (h : List Ob) (K : S → List Ob → Prop) : Prop := match Nat.beq f kn with
  | true => (match args with
    | [] => K (.bl true) h
    | _ => False)
  | false => stopV f args h K
theorem stopK_ok {kn n : Nat} {fi : FI} (hf : ffB kn = some fi) (hr : (SX.runN (std noW) tt ffB stopB n).1 kn [] [] isTrue = (S.bl true = S.bl true)) : ∀ f args h K, stopK kn f args h K → CallSem noW Tryz.prog f args h K := by
  intro f args h K hk
  unfold stopK at hk
  split at hk
  · rename_i he
    have := Nat.eq_of_beq_eq_true he
    subst this
    split at hk
    · exact known_sem hf hr hk
    · exact hk.elim
  · exact stopV_ok _ _ _ _ hk
end Go.SX.Y
