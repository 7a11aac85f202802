/- What Go functions come to (lifted). -/
import Derived.Test.YtbkegflipglioaaGreatLpI
import Derived.Test.YtbkegflipglioaaGreatLpN
import Derived.Test.YtbkegflipglioaaGreatSxFresh
set_option maxRecDepth 20000
namespace Go.SX.Y
open Go.Proofs Go.RowKit
theorem known23_run : (SX.runN (std noW) tt ffB stopB 400).1 38 [] [] isTrue = (S.bl true = S.bl true) := by kernel_rfl
noncomputable def known23_con : Con := ⟨[], [], [], fun a K => match a with | ⟨[], [], [], [], []⟩ => K (.bl true) [] | _ => False⟩
theorem known23_ok : known23_con.ok noW Tryz.prog 38 := by
  intro a K h
  simp only [known23_con] at h
  split at h
  · exact known_sem (fi := fi38) (by kernel_rfl) known23_run h
  · exact h.elim
noncomputable def tabLpJ (n : Nat) : List Con := match Nat.beq n 38 with | true => [known23_con] | false => match Nat.beq n 11 with | true => [dNew_con] | false => tabLpI n
theorem tabLpJ_ok : ∀ f, ∀ c ∈ tabLpJ f, c.ok noW Tryz.prog f := by
  intro f c hc
  unfold tabLpJ at hc
  split at hc
  · rename_i hf; have := Nat.eq_of_beq_eq_true hf; subst this
    simp only [List.mem_cons, List.not_mem_nil, or_false] at hc
    subst hc; exact known23_ok
  split at hc
  · rename_i hf; have := Nat.eq_of_beq_eq_true hf; subst this
    simp only [List.mem_cons, List.not_mem_nil, or_false] at hc
    subst hc; exact dNew_ok
  exact tabLpI_ok f c hc
noncomputable def ffLpJ (n : Nat) : Option FI := match Nat.beq n 38 with | true => none | false => match Nat.beq n 11 with | true => none | false => ffLpI n
theorem ffLpJok : FOk Tryz.prog ffLpJ := fun f fi hf => by
  unfold ffLpJ at hf
  split at hf
  · cases hf
  split at hf
  · cases hf
  exact ffLpIok f fi hf
noncomputable def stopLpJ : CallT := stopC tabLpJ stopB
theorem stopLpJ_ok : ∀ f args h K, stopLpJ f args h K → CallSem noW Tryz.prog f args h K := stopC_ok tabLpJ_ok stopB_ok
end Go.SX.Y
