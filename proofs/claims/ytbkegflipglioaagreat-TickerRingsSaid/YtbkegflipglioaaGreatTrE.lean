/- What Go functions come to (lifted). -/
import Derived.Test.YtbkegflipglioaaGreatTrD
set_option maxRecDepth 20000
namespace Go.SX.Y
open Go.Proofs Go.RowKit
noncomputable def Mo.dSettle_v1 (b : Mo.Bd) : Mo.Bd := (Mo.dWire_v1 b)
noncomputable def Mo.dSettle_pre (b : Mo.Bd) : Prop := (if ((iN (Mo.Wd.fault (Mo.Bd.w b)) 0) = true) then False else (if ((Mo.rAsked_v1 (Mo.Bd.r b)) = true) then False else (Mo.dWire_pre b)))
noncomputable def dSettle_tree (dv : Int) (b : Mo.Bd) (K : S → List Ob → Prop) : Prop := (True ∧ (if ((iN (Mo.Wd.fault (Mo.Bd.w b)) 0) = true) then False else (True ∧ (if ((Mo.rAsked_v1 (Mo.Bd.r b)) = true) then False else (((2 : Int) = 2) ∧ (((1 : Int) = 1) ∧ ((Mo.dWire_pre b) ∧ K (.tup []) (h_B1n dv (Mo.dWire_v1 b)))))))))
theorem dSettle_run (dv : Int) (b : Mo.Bd) (K : S → List Ob → Prop) : callX (std noW) tt ffTrD stopTrD (lpB noW Tryz.prog) noL 1 82 [.ptr 0 (.l 0)] (h_B1n dv b) (gcK 12 (ivK false K)) = dSettle_tree dv b K := by kernel_rfl
noncomputable def dSettle_T (dv : Int) (b : Mo.Bd) (K : S → List Ob → Prop) : Prop := Mo.dSettle_pre b ∧ K (.tup []) (h_B1n dv (Mo.dSettle_v1 b))
theorem dSettle_all (dv : Int) (b : Mo.Bd) (K : S → List Ob → Prop) (h : dSettle_T dv b K) : dSettle_tree dv b K := by
  unfold dSettle_T at h; obtain ⟨h0, h⟩ := h; unfold dSettle_tree
  try simp only [Mo.dSettle_v1] at h0 h
  try simp only [Mo.dSettle_pre] at h0 h
  repeat' (first | (refine ite_intro (fun c => ?_) (fun c => ?_) <;> first | simp only [if_pos c] at h0 h | simp only [if_neg c] at h0 h | skip) | with_reducible (replace h0 := (h0 : True ∧ _).2) | with_reducible (refine ⟨rfl, ?_⟩) | with_reducible (refine ⟨h0.1, ?_⟩; replace h0 := h0.2) | with_reducible (refine ⟨h0, ?_⟩) | (refine ⟨h0.1, ?_⟩; replace h0 := h0.2) | refine ⟨h0, ?_⟩ | refine ⟨rfl, ?_⟩ | refine ⟨trivial, ?_⟩ | refine ⟨by assumption, ?_⟩ | refine ⟨Eq.symm (by assumption), ?_⟩ | exact h | refine ⟨?_, ?_⟩ | exact h0.elim | trivial | contradiction | (simp only [if_true, if_false, Bool.false_eq_true] at h; exact h))
theorem dSettle_sem (dv : Int) (b : Mo.Bd) (K : S → List Ob → Prop) (h : dSettle_T dv b K) : CallSem noW Tryz.prog 82 [.ptr 0 (.l 0)] (h_B1n dv b) K := iv_call (callX_ok tok (by kernel_rfl) ffTrDok stopTrD_ok _ _ _ _ (Eq.mpr (dSettle_run dv b K) (dSettle_all dv b K h)))
noncomputable def dSettle_con : Con := ⟨[.ptr 0], t_B1n, [], fun a K => match a with | ⟨[dv], [], [], [cs_b_k, cs_b_w, cs_b_t, cs_b_r, cs_b_l, cs_b_c0, cs_b_c1], []⟩ => (match Mo.Cl.is cs_b_k with | true => (match Mo.Wd.is cs_b_w with | true => (match Mo.Rt.is cs_b_t with | true => (match Mo.Rs.is cs_b_r with | true => (match Mo.Ln.is cs_b_l with | true => (match Mo.Cnt.is cs_b_c0 with | true => (match Mo.Cnt.is cs_b_c1 with | true => dSettle_T dv (Mo.Bd.mk (Mo.Cl.of cs_b_k) (Mo.Wd.of cs_b_w) (Mo.Rt.of cs_b_t) (Mo.Rs.of cs_b_r) (Mo.Ln.of cs_b_l) (Mo.Cnt.of cs_b_c0) (Mo.Cnt.of cs_b_c1)) K | false => False) | false => False) | false => False) | false => False) | false => False) | false => False) | false => False) | _ => False⟩
theorem dSettle_ok : dSettle_con.ok noW Tryz.prog 82 := by
  intro a K h
  simp only [dSettle_con] at h
  split at h
  case h_2 => exact h.elim
  split at h
  case h_2 => exact h.elim
  rename_i is_b_k
  split at h
  case h_2 => exact h.elim
  rename_i is_b_w
  split at h
  case h_2 => exact h.elim
  rename_i is_b_t
  split at h
  case h_2 => exact h.elim
  rename_i is_b_r
  split at h
  case h_2 => exact h.elim
  rename_i is_b_l
  split at h
  case h_2 => exact h.elim
  rename_i is_b_c0
  split at h
  case h_2 => exact h.elim
  rename_i is_b_c1
  exact CallSem.objs (dSettle_sem _ _ K h) (fun _ _ _ h => h) ⟨WkO.same, WkO.cells (Mo.Cl.is_ok is_b_k), WkO.same, WkO.cells (Mo.Wd.is_ok is_b_w), WkO.cells (Mo.Rt.is_ok is_b_t), WkO.cells (Mo.Rs.is_ok is_b_r), WkO.cells (Mo.Ln.is_ok is_b_l), WkO.same, WkO.same, WkO.same, WkO.cells (Mo.Cnt.is_ok is_b_c0), WkO.cells (Mo.Cnt.is_ok is_b_c1), trivial⟩
noncomputable def tabTrE (n : Nat) : List Con := match Nat.beq n 82 with | true => [dSettle_con] | false => tabTrD n
theorem tabTrE_ok : ∀ f, ∀ c ∈ tabTrE f, c.ok noW Tryz.prog f := by
  intro f c hc
  unfold tabTrE at hc
  split at hc
  · rename_i hf; have := Nat.eq_of_beq_eq_true hf; subst this
    simp only [List.mem_cons, List.not_mem_nil, or_false] at hc
    subst hc; exact dSettle_ok
  exact tabTrD_ok f c hc
noncomputable def ffTrE (n : Nat) : Option FI := match Nat.beq n 82 with | true => none | false => ffTrD n
theorem ffTrEok : FOk Tryz.prog ffTrE := fun f fi hf => by
  unfold ffTrE at hf
  split at hf
  · cases hf
  exact ffTrDok f fi hf
noncomputable def stopTrE : CallT := stopC tabTrE stopB
theorem stopTrE_ok : ∀ f args h K, stopTrE f args h K → CallSem noW Tryz.prog f args h K := stopC_ok tabTrE_ok stopB_ok
end Go.SX.Y
