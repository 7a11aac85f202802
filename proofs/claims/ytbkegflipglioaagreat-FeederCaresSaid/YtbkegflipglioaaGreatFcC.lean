/- What Go functions come to (lifted). -/
import Derived.Test.YtbkegflipglioaaGreatFcB
set_option maxRecDepth 20000
namespace Go.SX.Y
open Go.Proofs Go.RowKit
noncomputable def h_N1 (c : Mo.Cnt) : List Ob := [.cells 188 [.sli 1 (.l 0) (.l 1) (.lit (.l 1)) false], .row 185 1 (.l 1) [.ptr 2 (.l 0)], .cells 246 (Mo.Cnt.cells c)]
def t_N1 : List OTm := [.cells 188 [.same (.sli 1 (.l 0) (.l 1) (.lit (.l 1)) false)], .row 185 1 1 [.ptr 2], .cellsV 246]
noncomputable def Mo.nTick_pre (n : Int) (c : Mo.Cnt) : Prop := (Mo.cTick_pre n c)
noncomputable def nTick_tree (n : Int) (c : Mo.Cnt) (K : S → List Ob → Prop) : Prop := ((Mo.cTick_pre n c) ∧ K (.tup []) (h_N1 (Mo.cTick_v1 n c)))
theorem nTick_run (n : Int) (c : Mo.Cnt) (K : S → List Ob → Prop) : callX (std noW) tt ffFcB stopFcB (lpB noW Tryz.prog) noL 60 79 [.ptr 0 (.l 0), .iv .u64 n] (h_N1 c) (gcK 3 (ivK false K)) = nTick_tree n c K := by kernel_rfl
noncomputable def nTick_T (n : Int) (c : Mo.Cnt) (K : S → List Ob → Prop) : Prop := Mo.nTick_pre n c ∧ K (.tup []) (h_N1 (Mo.cTick_v1 n c))
theorem nTick_all (n : Int) (c : Mo.Cnt) (K : S → List Ob → Prop) (h : nTick_T n c K) : nTick_tree n c K := by
  unfold nTick_T at h; obtain ⟨h0, h⟩ := h; unfold nTick_tree
  try simp only [Mo.nTick_pre] at h0 h
  repeat' first | exact h | refine ⟨rfl, ?_⟩ | (refine ⟨h0.1, ?_⟩; replace h0 := h0.2) | refine ⟨h0, ?_⟩ | exact h0.elim | (refine ite_intro (fun c => ?_) fun c => ?_) <;> first | simp only [if_pos c] at h0 h | simp only [if_neg c] at h0 h | skip
theorem nTick_sem (n : Int) (c : Mo.Cnt) (K : S → List Ob → Prop) (h : nTick_T n c K) : CallSem noW Tryz.prog 79 [.ptr 0 (.l 0), .iv .u64 n] (h_N1 c) K := iv_call (callX_ok tok (by kernel_rfl) ffFcBok stopFcB_ok _ _ _ _ (Eq.mpr (nTick_run n c K) (nTick_all n c K h)))
noncomputable def nTick_con : Con := ⟨[.ptr 0, .int .u64], t_N1, [], fun a K => match a with | ⟨[n], [], [], [cs_c], []⟩ => (match Mo.Cnt.is cs_c with | true => nTick_T n (Mo.Cnt.of cs_c) K | false => False) | _ => False⟩
theorem nTick_ok : nTick_con.ok noW Tryz.prog 79 := by
  intro a K h
  simp only [nTick_con] at h
  split at h
  case h_2 => exact h.elim
  split at h
  case h_2 => exact h.elim
  rename_i is_c
  exact CallSem.objs (nTick_sem _ _ K h) (fun _ _ _ h => h) ⟨WkO.same, WkO.same, WkO.cells (Mo.Cnt.is_ok is_c), trivial⟩
noncomputable def Mo.nLines_v1 (c : Mo.Cnt) : Int := (if ((stdQ QO.not (Mo.cLine_v1 c) (Mo.cLine_v1 c)) = true) then 0 else (Mo.bPut1_v1 0 0))
noncomputable def Mo.nLines_pre (c : Mo.Cnt) : Prop := (if ((stdQ QO.not (Mo.cLine_v1 c) (Mo.cLine_v1 c)) = true) then True else (Mo.bPut1_pre 0))
noncomputable def nLines_tree (c : Mo.Cnt) (K : S → List Ob → Prop) : Prop := (True ∧ (if ((stdQ QO.not (Mo.cLine_v1 c) (Mo.cLine_v1 c)) = true) then K (.iv .u32 0) (h_N1 c) else ((Mo.bPut1_pre 0) ∧ K (.iv .u32 (Mo.bPut1_v1 0 0)) (h_N1 c))))
theorem nLines_run (c : Mo.Cnt) (K : S → List Ob → Prop) : callX (std noW) tt ffFcB stopFcB (lpB noW Tryz.prog) noL 60 142 [.ptr 0 (.l 0)] (h_N1 c) (gcK 3 (ivK true K)) = nLines_tree c K := by kernel_rfl
noncomputable def nLines_T (c : Mo.Cnt) (K : S → List Ob → Prop) : Prop := Mo.nLines_pre c ∧ K (.iv .u32 (Mo.nLines_v1 c)) (h_N1 c)
theorem nLines_all (c : Mo.Cnt) (K : S → List Ob → Prop) (h : nLines_T c K) : nLines_tree c K := by
  unfold nLines_T at h; obtain ⟨h0, h⟩ := h; unfold nLines_tree
  try simp only [Mo.nLines_v1] at h0 h
  try simp only [Mo.nLines_pre] at h0 h
  repeat' (first | (refine ite_intro (fun c => ?_) (fun c => ?_) <;> first | simp only [if_pos c] at h0 h | simp only [if_neg c] at h0 h | skip) | with_reducible (replace h0 := (h0 : True ∧ _).2) | with_reducible (refine ⟨rfl, ?_⟩) | with_reducible (refine ⟨h0.1, ?_⟩; replace h0 := h0.2) | with_reducible (refine ⟨h0, ?_⟩) | (refine ⟨h0.1, ?_⟩; replace h0 := h0.2) | refine ⟨h0, ?_⟩ | refine ⟨rfl, ?_⟩ | refine ⟨trivial, ?_⟩ | refine ⟨by assumption, ?_⟩ | refine ⟨Eq.symm (by assumption), ?_⟩ | exact h | refine ⟨?_, ?_⟩ | exact h0.elim | trivial | contradiction | (simp only [if_true, if_false, Bool.false_eq_true] at h; exact h))
theorem nLines_sem (c : Mo.Cnt) (K : S → List Ob → Prop) (h : nLines_T c K) : CallSem noW Tryz.prog 142 [.ptr 0 (.l 0)] (h_N1 c) K := iv_call (callX_ok tok (by kernel_rfl) ffFcBok stopFcB_ok _ _ _ _ (Eq.mpr (nLines_run c K) (nLines_all c K h)))
noncomputable def nLines_con : Con := ⟨[.ptr 0], t_N1, [], fun a K => match a with | ⟨[], [], [], [cs_c], []⟩ => (match Mo.Cnt.is cs_c with | true => nLines_T (Mo.Cnt.of cs_c) K | false => False) | _ => False⟩
theorem nLines_ok : nLines_con.ok noW Tryz.prog 142 := by
  intro a K h
  simp only [nLines_con] at h
  split at h
  case h_2 => exact h.elim
  split at h
  case h_2 => exact h.elim
  rename_i is_c
  exact CallSem.objs (nLines_sem _ K h) (fun _ _ _ h => h) ⟨WkO.same, WkO.same, WkO.cells (Mo.Cnt.is_ok is_c), trivial⟩
noncomputable def nReset_tree (c : Mo.Cnt) (K : S → List Ob → Prop) : Prop := (True ∧ K (.tup []) (h_N1 (Mo.cReset_v1 c)))
theorem nReset_run (c : Mo.Cnt) (K : S → List Ob → Prop) : callX (std noW) tt ffFcB stopFcB (lpB noW Tryz.prog) noL 60 219 [.ptr 0 (.l 0)] (h_N1 c) (gcK 3 (ivK false K)) = nReset_tree c K := by kernel_rfl
noncomputable def nReset_T (c : Mo.Cnt) (K : S → List Ob → Prop) : Prop := True ∧ K (.tup []) (h_N1 (Mo.cReset_v1 c))
theorem nReset_all (c : Mo.Cnt) (K : S → List Ob → Prop) (h : nReset_T c K) : nReset_tree c K := by
  unfold nReset_T at h; obtain ⟨h0, h⟩ := h; unfold nReset_tree
  repeat' first | exact h | refine ⟨rfl, ?_⟩ | (refine ⟨h0.1, ?_⟩; replace h0 := h0.2) | refine ⟨h0, ?_⟩ | exact h0.elim | (refine ite_intro (fun c => ?_) fun c => ?_) <;> first | simp only [if_pos c] at h0 h | simp only [if_neg c] at h0 h | skip
theorem nReset_sem (c : Mo.Cnt) (K : S → List Ob → Prop) (h : nReset_T c K) : CallSem noW Tryz.prog 219 [.ptr 0 (.l 0)] (h_N1 c) K := iv_call (callX_ok tok (by kernel_rfl) ffFcBok stopFcB_ok _ _ _ _ (Eq.mpr (nReset_run c K) (nReset_all c K h)))
noncomputable def nReset_con : Con := ⟨[.ptr 0], t_N1, [], fun a K => match a with | ⟨[], [], [], [cs_c], []⟩ => (match Mo.Cnt.is cs_c with | true => nReset_T (Mo.Cnt.of cs_c) K | false => False) | _ => False⟩
theorem nReset_ok : nReset_con.ok noW Tryz.prog 219 := by
  intro a K h
  simp only [nReset_con] at h
  split at h
  case h_2 => exact h.elim
  split at h
  case h_2 => exact h.elim
  rename_i is_c
  exact CallSem.objs (nReset_sem _ K h) (fun _ _ _ h => h) ⟨WkO.same, WkO.same, WkO.cells (Mo.Cnt.is_ok is_c), trivial⟩
noncomputable def tabFcC (n : Nat) : List Con := match Nat.beq n 79 with | true => [nTick_con] | false => match Nat.beq n 142 with | true => [nLines_con] | false => match Nat.beq n 219 with | true => [nReset_con] | false => tabFcB n
theorem tabFcC_ok : ∀ f, ∀ c ∈ tabFcC f, c.ok noW Tryz.prog f := by
  intro f c hc
  unfold tabFcC at hc
  split at hc
  · rename_i hf; have := Nat.eq_of_beq_eq_true hf; subst this
    simp only [List.mem_cons, List.not_mem_nil, or_false] at hc
    subst hc; exact nTick_ok
  split at hc
  · rename_i hf; have := Nat.eq_of_beq_eq_true hf; subst this
    simp only [List.mem_cons, List.not_mem_nil, or_false] at hc
    subst hc; exact nLines_ok
  split at hc
  · rename_i hf; have := Nat.eq_of_beq_eq_true hf; subst this
    simp only [List.mem_cons, List.not_mem_nil, or_false] at hc
    subst hc; exact nReset_ok
  exact tabFcB_ok f c hc
noncomputable def ffFcC (n : Nat) : Option FI := match Nat.beq n 79 with | true => none | false => match Nat.beq n 142 with | true => none | false => match Nat.beq n 219 with | true => none | false => ffFcB n
theorem ffFcCok : FOk Tryz.prog ffFcC := fun f fi hf => by
  unfold ffFcC at hf
  split at hf
  · cases hf
  split at hf
  · cases hf
  split at hf
  · cases hf
  exact ffFcBok f fi hf
noncomputable def stopFcC : CallT := stopC tabFcC stopB
theorem stopFcC_ok : ∀ f args h K, stopFcC f args h K → CallSem noW Tryz.prog f args h K := stopC_ok tabFcC_ok stopB_ok
end Go.SX.Y
