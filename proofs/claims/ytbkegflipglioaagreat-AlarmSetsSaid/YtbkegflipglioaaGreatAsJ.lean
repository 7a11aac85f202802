/- What Go functions come to (lifted). -/
import Derived.Test.YtbkegflipglioaaGreatAsI
import Derived.Test.YtbkegflipglioaaGreatSxFresh
set_option maxRecDepth 20000
namespace Go.SX.Y
open Go.Proofs Go.RowKit
theorem known22_run : (SX.runN (std noW) tt ffB stopB 400).1 20 [] [] isTrue = (S.bl true = S.bl true) := by kernel_rfl
noncomputable def known22_con : Con := ⟨[], [], fun a K => match a with | ⟨[], [], [], []⟩ => K (.bl true) [] | _ => False⟩
theorem known22_ok : known22_con.ok noW Tryz.prog 20 := by
  intro a K h
  simp only [known22_con] at h
  split at h
  · exact known_sem (fi := fi20) (by kernel_rfl) known22_run h
  · exact h.elim
noncomputable def tabAsJ (n : Nat) : List Con := match Nat.beq n 20 with | true => [known22_con] | false => tabAsI n
theorem tabAsJ_ok : ∀ f, ∀ c ∈ tabAsJ f, c.ok noW Tryz.prog f := by
  intro f c hc
  unfold tabAsJ at hc
  split at hc
  · rename_i hf; have := Nat.eq_of_beq_eq_true hf; subst this
    simp only [List.mem_cons, List.not_mem_nil, or_false] at hc
    subst hc; exact known22_ok
  exact tabAsI_ok f c hc
noncomputable def ffAsJ (n : Nat) : Option FI := match Nat.beq n 20 with | true => none | false => ffAsI n
theorem ffAsJok : FOk Tryz.prog ffAsJ := fun f fi hf => by
  unfold ffAsJ at hf
  split at hf
  · cases hf
  exact ffAsIok f fi hf
noncomputable def stopAsJ : CallT := stopC tabAsJ stopB
theorem stopAsJ_ok : ∀ f args h K, stopAsJ f args h K → CallSem noW Tryz.prog f args h K := stopC_ok tabAsJ_ok stopB_ok
end Go.SX.Y
