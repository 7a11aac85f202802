/- What Go functions come to (lifted). -/
import Derived.Test.YtbkegflipglioaaGreatTrB
set_option maxRecDepth 20000
namespace Go.SX.Y
open Go.Proofs Go.RowKit
noncomputable def h_N1 (c0 : Mo.Cnt) (c1 : Mo.Cnt) : List Ob := [.cells 188 [.sli 1 (.l 0) (.l 2) (.lit (.l 2)) false], .row 185 1 (.l 2) [.ptr 2 (.l 0), .ptr 3 (.l 0)], .cells 246 (Mo.Cnt.cells c0), .cells 246 (Mo.Cnt.cells c1)]
def t_N1 : List OTm := [.cells 188 [.same (.sli 1 (.l 0) (.l 2) (.lit (.l 2)) false)], .row 185 1 2 [.ptr 2, .ptr 3], .cellsV 246, .cellsV 246]
noncomputable def Mo.nTick_pre (n : Int) (c0 : Mo.Cnt) (c1 : Mo.Cnt) : Prop := ((Mo.cTick_pre n c0) ∧ (Mo.cTick_pre n c1))
noncomputable def nTick_tree (n : Int) (c0 : Mo.Cnt) (c1 : Mo.Cnt) (K : S → List Ob → Prop) : Prop := ((Mo.cTick_pre n c0) ∧ ((Mo.cTick_pre n c1) ∧ K (.tup []) (h_N1 (Mo.cTick_v1 n c0) (Mo.cTick_v1 n c1))))
theorem nTick_run (n : Int) (c0 : Mo.Cnt) (c1 : Mo.Cnt) (K : S → List Ob → Prop) : callX (std noW) tt ffTrB stopTrB (lpB noW Tryz.prog) noL 60 79 [.ptr 0 (.l 0), .iv .u64 n] (h_N1 c0 c1) (gcK 4 (ivK false K)) = nTick_tree n c0 c1 K := by kernel_rfl
noncomputable def nTick_T (n : Int) (c0 : Mo.Cnt) (c1 : Mo.Cnt) (K : S → List Ob → Prop) : Prop := Mo.nTick_pre n c0 c1 ∧ K (.tup []) (h_N1 (Mo.cTick_v1 n c0) (Mo.cTick_v1 n c1))
theorem nTick_all (n : Int) (c0 : Mo.Cnt) (c1 : Mo.Cnt) (K : S → List Ob → Prop) (h : nTick_T n c0 c1 K) : nTick_tree n c0 c1 K := by
  unfold nTick_T at h; obtain ⟨h0, h⟩ := h; unfold nTick_tree
  try simp only [Mo.nTick_pre] at h0 h
  repeat' first | exact h | refine ⟨rfl, ?_⟩ | (refine ⟨h0.1, ?_⟩; replace h0 := h0.2) | refine ⟨h0, ?_⟩ | exact h0.elim | (refine ite_intro (fun c => ?_) fun c => ?_) <;> first | simp only [if_pos c] at h0 h | simp only [if_neg c] at h0 h | skip
theorem nTick_sem (n : Int) (c0 : Mo.Cnt) (c1 : Mo.Cnt) (K : S → List Ob → Prop) (h : nTick_T n c0 c1 K) : CallSem noW Tryz.prog 79 [.ptr 0 (.l 0), .iv .u64 n] (h_N1 c0 c1) K := iv_call (callX_ok tok (by kernel_rfl) ffTrBok stopTrB_ok _ _ _ _ (Eq.mpr (nTick_run n c0 c1 K) (nTick_all n c0 c1 K h)))
noncomputable def nTick_con : Con := ⟨[.ptr 0, .int .u64], t_N1, [], fun a K => match a with | ⟨[n], [], [], [cs_c0, cs_c1], []⟩ => (match Mo.Cnt.is cs_c0 with | true => (match Mo.Cnt.is cs_c1 with | true => nTick_T n (Mo.Cnt.of cs_c0) (Mo.Cnt.of cs_c1) K | false => False) | false => False) | _ => False⟩
theorem nTick_ok : nTick_con.ok noW Tryz.prog 79 := by
  intro a K h
  simp only [nTick_con] at h
  split at h
  case h_2 => exact h.elim
  split at h
  case h_2 => exact h.elim
  rename_i is_c0
  split at h
  case h_2 => exact h.elim
  rename_i is_c1
  exact CallSem.objs (nTick_sem _ _ _ K h) (fun _ _ _ h => h) ⟨WkO.same, WkO.same, WkO.cells (Mo.Cnt.is_ok is_c0), WkO.cells (Mo.Cnt.is_ok is_c1), trivial⟩
noncomputable def Mo.nLines_v1 (c0 : Mo.Cnt) (c1 : Mo.Cnt) : Int := (if ((stdQ QO.not (Mo.cLine_v1 c0) (Mo.cLine_v1 c0)) = true) then (if ((stdQ QO.not (Mo.cLine_v1 c1) (Mo.cLine_v1 c1)) = true) then 0 else (Mo.bPut1_v1 0 1)) else (if ((stdQ QO.not (Mo.cLine_v1 c1) (Mo.cLine_v1 c1)) = true) then (Mo.bPut1_v1 0 0) else (Mo.bPut1_v1 (Mo.bPut1_v1 0 0) 1)))
noncomputable def Mo.nLines_pre (c0 : Mo.Cnt) (c1 : Mo.Cnt) : Prop := (if ((stdQ QO.not (Mo.cLine_v1 c0) (Mo.cLine_v1 c0)) = true) then (if ((stdQ QO.not (Mo.cLine_v1 c1) (Mo.cLine_v1 c1)) = true) then True else (Mo.bPut1_pre 1)) else ((Mo.bPut1_pre 0) ∧ (if ((stdQ QO.not (Mo.cLine_v1 c1) (Mo.cLine_v1 c1)) = true) then True else (Mo.bPut1_pre 1))))
noncomputable def nLines_tree (c0 : Mo.Cnt) (c1 : Mo.Cnt) (K : S → List Ob → Prop) : Prop := (True ∧ (if ((stdQ QO.not (Mo.cLine_v1 c0) (Mo.cLine_v1 c0)) = true) then (True ∧ (if ((stdQ QO.not (Mo.cLine_v1 c1) (Mo.cLine_v1 c1)) = true) then K (.iv .u32 0) (h_N1 c0 c1) else ((Mo.bPut1_pre 1) ∧ K (.iv .u32 (Mo.bPut1_v1 0 1)) (h_N1 c0 c1)))) else ((Mo.bPut1_pre 0) ∧ (True ∧ (if ((stdQ QO.not (Mo.cLine_v1 c1) (Mo.cLine_v1 c1)) = true) then K (.iv .u32 (Mo.bPut1_v1 0 0)) (h_N1 c0 c1) else ((Mo.bPut1_pre 1) ∧ K (.iv .u32 (Mo.bPut1_v1 (Mo.bPut1_v1 0 0) 1)) (h_N1 c0 c1)))))))
theorem nLines_run (c0 : Mo.Cnt) (c1 : Mo.Cnt) (K : S → List Ob → Prop) : callX (std noW) tt ffTrB stopTrB (lpB noW Tryz.prog) noL 60 142 [.ptr 0 (.l 0)] (h_N1 c0 c1) (gcK 4 (ivK true K)) = nLines_tree c0 c1 K := by kernel_rfl
noncomputable def nLines_T (c0 : Mo.Cnt) (c1 : Mo.Cnt) (K : S → List Ob → Prop) : Prop := Mo.nLines_pre c0 c1 ∧ K (.iv .u32 (Mo.nLines_v1 c0 c1)) (h_N1 c0 c1)
theorem nLines_all (c0 : Mo.Cnt) (c1 : Mo.Cnt) (K : S → List Ob → Prop) (h : nLines_T c0 c1 K) : nLines_tree c0 c1 K := by
  unfold nLines_T at h; obtain ⟨h0, h⟩ := h; unfold nLines_tree
  try simp only [Mo.nLines_v1] at h0 h
  try simp only [Mo.nLines_pre] at h0 h
  repeat' (first | (refine ite_intro (fun c => ?_) (fun c => ?_) <;> first | simp only [if_pos c] at h0 h | simp only [if_neg c] at h0 h | skip) | with_reducible (replace h0 := (h0 : True ∧ _).2) | with_reducible (refine ⟨rfl, ?_⟩) | with_reducible (refine ⟨h0.1, ?_⟩; replace h0 := h0.2) | with_reducible (refine ⟨h0, ?_⟩) | (refine ⟨h0.1, ?_⟩; replace h0 := h0.2) | refine ⟨h0, ?_⟩ | refine ⟨rfl, ?_⟩ | refine ⟨trivial, ?_⟩ | refine ⟨by assumption, ?_⟩ | refine ⟨Eq.symm (by assumption), ?_⟩ | exact h | refine ⟨?_, ?_⟩ | exact h0.elim | trivial | contradiction | (simp only [if_true, if_false, Bool.false_eq_true] at h; exact h))
theorem nLines_sem (c0 : Mo.Cnt) (c1 : Mo.Cnt) (K : S → List Ob → Prop) (h : nLines_T c0 c1 K) : CallSem noW Tryz.prog 142 [.ptr 0 (.l 0)] (h_N1 c0 c1) K := iv_call (callX_ok tok (by kernel_rfl) ffTrBok stopTrB_ok _ _ _ _ (Eq.mpr (nLines_run c0 c1 K) (nLines_all c0 c1 K h)))
noncomputable def nLines_con : Con := ⟨[.ptr 0], t_N1, [], fun a K => match a with | ⟨[], [], [], [cs_c0, cs_c1], []⟩ => (match Mo.Cnt.is cs_c0 with | true => (match Mo.Cnt.is cs_c1 with | true => nLines_T (Mo.Cnt.of cs_c0) (Mo.Cnt.of cs_c1) K | false => False) | false => False) | _ => False⟩
theorem nLines_ok : nLines_con.ok noW Tryz.prog 142 := by
  intro a K h
  simp only [nLines_con] at h
  split at h
  case h_2 => exact h.elim
  split at h
  case h_2 => exact h.elim
  rename_i is_c0
  split at h
  case h_2 => exact h.elim
  rename_i is_c1
  exact CallSem.objs (nLines_sem _ _ K h) (fun _ _ _ h => h) ⟨WkO.same, WkO.same, WkO.cells (Mo.Cnt.is_ok is_c0), WkO.cells (Mo.Cnt.is_ok is_c1), trivial⟩
noncomputable def tabTrC (n : Nat) : List Con := match Nat.beq n 79 with | true => [nTick_con] | false => match Nat.beq n 142 with | true => [nLines_con] | false => tabTrB n
theorem tabTrC_ok : ∀ f, ∀ c ∈ tabTrC f, c.ok noW Tryz.prog f := by
  intro f c hc
  unfold tabTrC at hc
  split at hc
  · rename_i hf; have := Nat.eq_of_beq_eq_true hf; subst this
    simp only [List.mem_cons, List.not_mem_nil, or_false] at hc
    subst hc; exact nTick_ok
  split at hc
  · rename_i hf; have := Nat.eq_of_beq_eq_true hf; subst this
    simp only [List.mem_cons, List.not_mem_nil, or_false] at hc
    subst hc; exact nLines_ok
  exact tabTrB_ok f c hc
noncomputable def ffTrC (n : Nat) : Option FI := match Nat.beq n 79 with | true => none | false => match Nat.beq n 142 with | true => none | false => ffTrB n
theorem ffTrCok : FOk Tryz.prog ffTrC := fun f fi hf => by
  unfold ffTrC at hf
  split at hf
  · cases hf
  split at hf
  · cases hf
  exact ffTrBok f fi hf
noncomputable def stopTrC : CallT := stopC tabTrC stopB
theorem stopTrC_ok : ∀ f args h K, stopTrC f args h K → CallSem noW Tryz.prog f args h K := stopC_ok tabTrC_ok stopB_ok
end Go.SX.Y
