/- What Go functions come to (lifted). -/
import Derived.Test.YtbkegflipglioaaGreatFcI
import Derived.Test.YtbkegflipglioaaGreatFcN
import Derived.Test.YtbkegflipglioaaGreatSxFresh
set_option maxRecDepth 20000
namespace Go.SX.Y
open Go.Proofs Go.RowKit
theorem known21_run : (SX.runN (std noW) tt ffB stopB 400).1 46 [] [] isTrue = (S.bl true = S.bl true) := by kernel_rfl
noncomputable def known21_con : Con := ⟨[], [], [], fun a K => match a with | ⟨[], [], [], [], []⟩ => K (.bl true) [] | _ => False⟩
theorem known21_ok : known21_con.ok noW Tryz.prog 46 := by
  intro a K h
  simp only [known21_con] at h
  split at h
  · exact known_sem (fi := fi46) (by kernel_rfl) known21_run h
  · exact h.elim
noncomputable def tabFcJ (n : Nat) : List Con := match Nat.beq n 46 with | true => [known21_con] | false => match Nat.beq n 11 with | true => [dNew_con] | false => tabFcI n
theorem tabFcJ_ok : ∀ f, ∀ c ∈ tabFcJ f, c.ok noW Tryz.prog f := by
  intro f c hc
  unfold tabFcJ at hc
  split at hc
  · rename_i hf; have := Nat.eq_of_beq_eq_true hf; subst this
    simp only [List.mem_cons, List.not_mem_nil, or_false] at hc
    subst hc; exact known21_ok
  split at hc
  · rename_i hf; have := Nat.eq_of_beq_eq_true hf; subst this
    simp only [List.mem_cons, List.not_mem_nil, or_false] at hc
    subst hc; exact dNew_ok
  exact tabFcI_ok f c hc
noncomputable def ffFcJ (n : Nat) : Option FI := match Nat.beq n 46 with | true => none | false => match Nat.beq n 11 with | true => none | false => ffFcI n
theorem ffFcJok : FOk Tryz.prog ffFcJ := fun f fi hf => by
  unfold ffFcJ at hf
  split at hf
  · cases hf
  split at hf
  · cases hf
  exact ffFcIok f fi hf
noncomputable def stopFcJ : CallT := stopC tabFcJ stopB
theorem stopFcJ_ok : ∀ f args h K, stopFcJ f args h K → CallSem noW Tryz.prog f args h K := stopC_ok tabFcJ_ok stopB_ok
end Go.SX.Y
