/- What Go functions come to (lifted). -/
import Derived.Test.YtbkegflipglioaaGreatArI
import Derived.Test.YtbkegflipglioaaGreatSxFresh
set_option maxRecDepth 20000
namespace Go.SX.Y
open Go.Proofs Go.RowKit
theorem known22_run : (SX.runN (std noW) tt ffB stopB 400).1 20 [] [] isTrue = (S.bl true = S.bl true) := by kernel_rfl
noncomputable def known22_con : Con := ⟨[], [], fun a K => match a with | ⟨[], [], [], []⟩ => K (.bl true) [] | _ => False⟩
theorem known22_ok : known22_con.ok noW Tryz.prog 20 := by
  intro a K h
  simp only [known22_con] at h
  split at h
  · exact known_sem (fi := fi20) (by kernel_rfl) known22_run h
  · exact h.elim
noncomputable def tabArJ (n : Nat) : List Con := match Nat.beq n 20 with | true => [known22_con] | false => tabArI n
theorem tabArJ_ok : ∀ f, ∀ c ∈ tabArJ f, c.ok noW Tryz.prog f := by
  intro f c hc
  unfold tabArJ at hc
  split at hc
  · rename_i hf; have := Nat.eq_of_beq_eq_true hf; subst this
    simp only [List.mem_cons, List.not_mem_nil, or_false] at hc
    subst hc; exact known22_ok
  exact tabArI_ok f c hc
noncomputable def ffArJ (n : Nat) : Option FI := match Nat.beq n 20 with | true => none | false => ffArI n
theorem ffArJok : FOk Tryz.prog ffArJ := fun f fi hf => by
  unfold ffArJ at hf
  split at hf
  · cases hf
  exact ffArIok f fi hf
noncomputable def stopArJ : CallT := stopC tabArJ stopB
theorem stopArJ_ok : ∀ f args h K, stopArJ f args h K → CallSem noW Tryz.prog f args h K := stopC_ok tabArJ_ok stopB_ok
end Go.SX.Y
