/- What Go functions come to (lifted). -/
import Derived.Test.YtbkegflipglioaaGreatSxStop2
import Derived.Test.YtbkegflipglioaaGreatSX21
set_option maxRecDepth 20000
namespace Go.SX.Y
open Go.Proofs Go.RowKit
def add64_con : Con := ⟨[.int .u64, .int .u64, .int .u64], [], [], fun a K => match a with | ⟨[x, y, c], [], [], [], []⟩ => (0 ≤ x ∧ 0 ≤ y) ∧ (c = 0 ∧ K (.tup [.iv .u64 ((x + y) % 18446744073709551616), .iv .u64 ((x + y) / 18446744073709551616)]) []) | _ => False⟩
theorem add64_ok : add64_con.ok noW Tryz.prog 146 := by
  intro a K h
  simp only [add64_con] at h
  split at h
  case h_2 => exact h.elim
  rename_i x y c
  obtain ⟨⟨h0, h1⟩, rfl, hk⟩ := h
  obtain ⟨x, rfl⟩ := Int.eq_ofNat_of_zero_le h0
  obtain ⟨y, rfl⟩ := Int.eq_ofNat_of_zero_le h1
  intro w w0 S0 ν vs H hv
  simp only [add64_con, instL, instT, S.oks, S.ok] at hv
  obtain ⟨_, _, rfl, rfl, _, _, rfl, rfl, _, _, rfl, rfl, rfl⟩ := hv
  have h1 := Any7.bits_Add64 Tryz.lays25 x y 0 (by omega) w
  refine Or.inr ⟨_, w, h1, _, [], ν, hk, Nat.le_refl _, fun _ _ => rfl, H, ?_⟩
  simp only [S.ok]
  exact ⟨_, rfl, oks_cons (by simp only [S.ok]; first | rfl | (congr 1; done) | (congr 1; omega)) (oks_cons (by simp only [S.ok]; first | rfl | (congr 1; done) | (congr 1; omega)) oks_nil)⟩
noncomputable def tabLfA (n : Nat) : List Con := match Nat.beq n 146 with | true => [add64_con] | false => []
theorem tabLfA_ok : ∀ f, ∀ c ∈ tabLfA f, c.ok noW Tryz.prog f := by
  intro f c hc
  unfold tabLfA at hc
  split at hc
  · rename_i hf; have := Nat.eq_of_beq_eq_true hf; subst this
    simp only [List.mem_cons, List.not_mem_nil, or_false] at hc
    subst hc; exact add64_ok
  simp at hc
noncomputable def ffLfA (n : Nat) : Option FI := match Nat.beq n 146 with | true => none | false => ffB n
theorem ffLfAok : FOk Tryz.prog ffLfA := fun f fi hf => by
  unfold ffLfA at hf
  split at hf
  · cases hf
  exact ffBok f fi hf
noncomputable def stopLfA : CallT := stopC tabLfA stopB
theorem stopLfA_ok : ∀ f args h K, stopLfA f args h K → CallSem noW Tryz.prog f args h K := stopC_ok tabLfA_ok stopB_ok
end Go.SX.Y
