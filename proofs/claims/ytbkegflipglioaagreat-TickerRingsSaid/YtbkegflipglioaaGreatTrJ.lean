/- What Go functions come to (lifted). -/
import Derived.Test.YtbkegflipglioaaGreatTrI
import Derived.Test.YtbkegflipglioaaGreatSxFresh
set_option maxRecDepth 20000
namespace Go.SX.Y
open Go.Proofs Go.RowKit
theorem known23_run : (SX.runN (std noW) tt ffB stopB 400).1 38 [] [] isTrue = (S.bl true = S.bl true) := by kernel_rfl
noncomputable def known23_con : Con := ⟨[], [], [], fun a K => match a with | ⟨[], [], [], [], []⟩ => K (.bl true) [] | _ => False⟩
theorem known23_ok : known23_con.ok noW Tryz.prog 38 := by
  intro a K h
  simp only [known23_con] at h
  split at h
  · exact known_sem (fi := fi38) (by kernel_rfl) known23_run h
  · exact h.elim
noncomputable def tabTrJ (n : Nat) : List Con := match Nat.beq n 38 with | true => [known23_con] | false => tabTrI n
theorem tabTrJ_ok : ∀ f, ∀ c ∈ tabTrJ f, c.ok noW Tryz.prog f := by
  intro f c hc
  unfold tabTrJ at hc
  split at hc
  · rename_i hf; have := Nat.eq_of_beq_eq_true hf; subst this
    simp only [List.mem_cons, List.not_mem_nil, or_false] at hc
    subst hc; exact known23_ok
  exact tabTrI_ok f c hc
noncomputable def ffTrJ (n : Nat) : Option FI := match Nat.beq n 38 with | true => none | false => ffTrI n
theorem ffTrJok : FOk Tryz.prog ffTrJ := fun f fi hf => by
  unfold ffTrJ at hf
  split at hf
  · cases hf
  exact ffTrIok f fi hf
noncomputable def stopTrJ : CallT := stopC tabTrJ stopB
theorem stopTrJ_ok : ∀ f args h K, stopTrJ f args h K → CallSem noW Tryz.prog f args h K := stopC_ok tabTrJ_ok stopB_ok
end Go.SX.Y
