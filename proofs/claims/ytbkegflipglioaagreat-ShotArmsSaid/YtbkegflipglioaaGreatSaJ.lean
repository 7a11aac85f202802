/- What Go functions come to (lifted). -/
import Derived.Test.YtbkegflipglioaaGreatSaN
import Derived.Test.YtbkegflipglioaaGreatSxFresh
set_option maxRecDepth 20000
namespace Go.SX.Y
open Go.Proofs Go.RowKit
theorem known14_run : (SX.runN (std noW) tt ffB stopB 400).1 57 [] [] isTrue = (S.bl true = S.bl true) := by kernel_rfl
noncomputable def known14_con : Con := ⟨[], [], [], fun a K => match a with | ⟨[], [], [], [], []⟩ => K (.bl true) [] | _ => False⟩
theorem known14_ok : known14_con.ok noW Tryz.prog 57 := by
  intro a K h
  simp only [known14_con] at h
  split at h
  · exact known_sem (fi := fi57) (by kernel_rfl) known14_run h
  · exact h.elim
noncomputable def tabSaJ (n : Nat) : List Con := match Nat.beq n 57 with | true => [known14_con] | false => tabSaN n
theorem tabSaJ_ok : ∀ f, ∀ c ∈ tabSaJ f, c.ok noW Tryz.prog f := by
  intro f c hc
  unfold tabSaJ at hc
  split at hc
  · rename_i hf; have := Nat.eq_of_beq_eq_true hf; subst this
    simp only [List.mem_cons, List.not_mem_nil, or_false] at hc
    subst hc; exact known14_ok
  exact tabSaN_ok f c hc
noncomputable def ffSaJ (n : Nat) : Option FI := match Nat.beq n 57 with | true => none | false => ffSaN n
theorem ffSaJok : FOk Tryz.prog ffSaJ := fun f fi hf => by
  unfold ffSaJ at hf
  split at hf
  · cases hf
  exact ffSaNok f fi hf
noncomputable def stopSaJ : CallT := stopC tabSaJ stopB
theorem stopSaJ_ok : ∀ f args h K, stopSaJ f args h K → CallSem noW Tryz.prog f args h K := stopC_ok tabSaJ_ok stopB_ok
end Go.SX.Y
