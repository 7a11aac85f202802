/- What Go functions come to (lifted). -/
import Derived.Test.YtbkegflipglioaaGreatTrE
set_option maxRecDepth 20000
namespace Go.SX.Y
open Go.Proofs Go.RowKit
noncomputable def Mo.dTick_e1 (n : Int) (b : Mo.Bd) : Mo.Bd := Mo.dSettle_v1 { b with k := (Mo.kTick_v1 (Mo.wTick_v1 n (Mo.Bd.w b)) (Mo.Bd.k b)), w := (Mo.wTick_v2 n (Mo.Bd.w b)), t := (Mo.tTick_v1 (Mo.wTick_v1 n (Mo.Bd.w b)) (Mo.Bd.t b)), c0 := (Mo.cTick_v1 (Mo.wTick_v1 n (Mo.Bd.w b)) (Mo.Bd.c0 b)), c1 := (Mo.cTick_v1 (Mo.wTick_v1 n (Mo.Bd.w b)) (Mo.Bd.c1 b)) }
noncomputable def Mo.dTick_v1 (n : Int) (b : Mo.Bd) : Mo.Bd := (Mo.dTick_e1 n b)
noncomputable def Mo.dTick_pre (n : Int) (b : Mo.Bd) : Prop := ((Mo.kTick_pre (Mo.wTick_v1 n (Mo.Bd.w b)) (Mo.Bd.k b)) ∧ ((Mo.nTick_pre (Mo.wTick_v1 n (Mo.Bd.w b)) (Mo.Bd.c0 b) (Mo.Bd.c1 b)) ∧ ((Mo.tTick_pre (Mo.wTick_v1 n (Mo.Bd.w b)) (Mo.Bd.t b)) ∧ (if ((iE (Mo.Wd.fault (Mo.wTick_v2 n (Mo.Bd.w b))) 0) = true) then (Mo.dSettle_pre { b with k := (Mo.kTick_v1 (Mo.wTick_v1 n (Mo.Bd.w b)) (Mo.Bd.k b)), w := (Mo.wTick_v2 n (Mo.Bd.w b)), t := (Mo.tTick_v1 (Mo.wTick_v1 n (Mo.Bd.w b)) (Mo.Bd.t b)), c0 := (Mo.cTick_v1 (Mo.wTick_v1 n (Mo.Bd.w b)) (Mo.Bd.c0 b)), c1 := (Mo.cTick_v1 (Mo.wTick_v1 n (Mo.Bd.w b)) (Mo.Bd.c1 b)) }) else ((Mo.dSettle_pre { b with k := (Mo.kTick_v1 (Mo.wTick_v1 n (Mo.Bd.w b)) (Mo.Bd.k b)), w := (Mo.wTick_v2 n (Mo.Bd.w b)), t := (Mo.tTick_v1 (Mo.wTick_v1 n (Mo.Bd.w b)) (Mo.Bd.t b)), c0 := (Mo.cTick_v1 (Mo.wTick_v1 n (Mo.Bd.w b)) (Mo.Bd.c0 b)), c1 := (Mo.cTick_v1 (Mo.wTick_v1 n (Mo.Bd.w b)) (Mo.Bd.c1 b)) }) ∧ False)))))
noncomputable def dTick_tree (n : Int) (dv : Int) (b : Mo.Bd) (K : S → List Ob → Prop) : Prop := (True ∧ ((Mo.kTick_pre (Mo.wTick_v1 n (Mo.Bd.w b)) (Mo.Bd.k b)) ∧ ((Mo.nTick_pre (Mo.wTick_v1 n (Mo.Bd.w b)) (Mo.Bd.c0 b) (Mo.Bd.c1 b)) ∧ ((Mo.tTick_pre (Mo.wTick_v1 n (Mo.Bd.w b)) (Mo.Bd.t b)) ∧ (True ∧ (if ((iE (Mo.Wd.fault (Mo.wTick_v2 n (Mo.Bd.w b))) 0) = true) then (((2 : Int) = 2) ∧ (((1 : Int) = 1) ∧ ((Mo.dSettle_pre { b with k := (Mo.kTick_v1 (Mo.wTick_v1 n (Mo.Bd.w b)) (Mo.Bd.k b)), w := (Mo.wTick_v2 n (Mo.Bd.w b)), t := (Mo.tTick_v1 (Mo.wTick_v1 n (Mo.Bd.w b)) (Mo.Bd.t b)), c0 := (Mo.cTick_v1 (Mo.wTick_v1 n (Mo.Bd.w b)) (Mo.Bd.c0 b)), c1 := (Mo.cTick_v1 (Mo.wTick_v1 n (Mo.Bd.w b)) (Mo.Bd.c1 b)) }) ∧ K (.tup []) (h_B1n dv (Mo.dTick_e1 n b))))) else (((2 : Int) = 2) ∧ (((1 : Int) = 1) ∧ ((Mo.dSettle_pre { b with k := (Mo.kTick_v1 (Mo.wTick_v1 n (Mo.Bd.w b)) (Mo.Bd.k b)), w := (Mo.wTick_v2 n (Mo.Bd.w b)), t := (Mo.tTick_v1 (Mo.wTick_v1 n (Mo.Bd.w b)) (Mo.Bd.t b)), c0 := (Mo.cTick_v1 (Mo.wTick_v1 n (Mo.Bd.w b)) (Mo.Bd.c0 b)), c1 := (Mo.cTick_v1 (Mo.wTick_v1 n (Mo.Bd.w b)) (Mo.Bd.c1 b)) }) ∧ False)))))))))
theorem dTick_run (n : Int) (dv : Int) (b : Mo.Bd) (K : S → List Ob → Prop) : callX (std noW) tt ffTrE stopTrE (lpB noW Tryz.prog) noL 2 17 [.ptr 0 (.l 0), .iv .u64 n] (h_B1n dv b) (gcK 12 (ivK false K)) = dTick_tree n dv b K := by kernel_rfl
noncomputable def dTick_T (n : Int) (dv : Int) (b : Mo.Bd) (K : S → List Ob → Prop) : Prop := Mo.dTick_pre n b ∧ K (.tup []) (h_B1n dv (Mo.dTick_v1 n b))
theorem dTick_all (n : Int) (dv : Int) (b : Mo.Bd) (K : S → List Ob → Prop) (h : dTick_T n dv b K) : dTick_tree n dv b K := by
  unfold dTick_T at h; obtain ⟨h0, h⟩ := h; unfold dTick_tree
  try simp only [Mo.dTick_v1] at h0 h
  try simp only [Mo.dTick_pre] at h0 h
  repeat' (first | (refine ite_intro (fun c => ?_) (fun c => ?_) <;> first | simp only [if_pos c] at h0 h | simp only [if_neg c] at h0 h | skip) | with_reducible (replace h0 := (h0 : True ∧ _).2) | with_reducible (refine ⟨rfl, ?_⟩) | with_reducible (refine ⟨h0.1, ?_⟩; replace h0 := h0.2) | with_reducible (refine ⟨h0, ?_⟩) | (refine ⟨h0.1, ?_⟩; replace h0 := h0.2) | refine ⟨h0, ?_⟩ | refine ⟨rfl, ?_⟩ | refine ⟨trivial, ?_⟩ | refine ⟨by assumption, ?_⟩ | refine ⟨Eq.symm (by assumption), ?_⟩ | exact h | refine ⟨?_, ?_⟩ | exact h0.elim | trivial | contradiction | (simp only [if_true, if_false, Bool.false_eq_true] at h; exact h))
theorem dTick_sem (n : Int) (dv : Int) (b : Mo.Bd) (K : S → List Ob → Prop) (h : dTick_T n dv b K) : CallSem noW Tryz.prog 17 [.ptr 0 (.l 0), .iv .u64 n] (h_B1n dv b) K := iv_call (callX_ok tok (by kernel_rfl) ffTrEok stopTrE_ok _ _ _ _ (Eq.mpr (dTick_run n dv b K) (dTick_all n dv b K h)))
noncomputable def dTick_con : Con := ⟨[.ptr 0, .int .u64], t_B1n, [], fun a K => match a with | ⟨[n, dv], [], [], [cs_b_k, cs_b_w, cs_b_t, cs_b_r, cs_b_l, cs_b_c0, cs_b_c1], []⟩ => (match Mo.Cl.is cs_b_k with | true => (match Mo.Wd.is cs_b_w with | true => (match Mo.Rt.is cs_b_t with | true => (match Mo.Rs.is cs_b_r with | true => (match Mo.Ln.is cs_b_l with | true => (match Mo.Cnt.is cs_b_c0 with | true => (match Mo.Cnt.is cs_b_c1 with | true => dTick_T n dv (Mo.Bd.mk (Mo.Cl.of cs_b_k) (Mo.Wd.of cs_b_w) (Mo.Rt.of cs_b_t) (Mo.Rs.of cs_b_r) (Mo.Ln.of cs_b_l) (Mo.Cnt.of cs_b_c0) (Mo.Cnt.of cs_b_c1)) K | false => False) | false => False) | false => False) | false => False) | false => False) | false => False) | false => False) | _ => False⟩
theorem dTick_ok : dTick_con.ok noW Tryz.prog 17 := by
  intro a K h
  simp only [dTick_con] at h
  split at h
  case h_2 => exact h.elim
  split at h
  case h_2 => exact h.elim
  rename_i is_b_k
  split at h
  case h_2 => exact h.elim
  rename_i is_b_w
  split at h
  case h_2 => exact h.elim
  rename_i is_b_t
  split at h
  case h_2 => exact h.elim
  rename_i is_b_r
  split at h
  case h_2 => exact h.elim
  rename_i is_b_l
  split at h
  case h_2 => exact h.elim
  rename_i is_b_c0
  split at h
  case h_2 => exact h.elim
  rename_i is_b_c1
  exact CallSem.objs (dTick_sem _ _ _ K h) (fun _ _ _ h => h) ⟨WkO.same, WkO.cells (Mo.Cl.is_ok is_b_k), WkO.same, WkO.cells (Mo.Wd.is_ok is_b_w), WkO.cells (Mo.Rt.is_ok is_b_t), WkO.cells (Mo.Rs.is_ok is_b_r), WkO.cells (Mo.Ln.is_ok is_b_l), WkO.same, WkO.same, WkO.same, WkO.cells (Mo.Cnt.is_ok is_b_c0), WkO.cells (Mo.Cnt.is_ok is_b_c1), trivial⟩
noncomputable def Mo.dStore0_v1 (v : Int) (b : Mo.Bd) : Mo.Bd := (Mo.dSettle_v1 (Mo.uStore0_v1 v b))
noncomputable def Mo.dStore0_pre (v : Int) (b : Mo.Bd) : Prop := (Mo.dSettle_pre (Mo.uStore0_v1 v b))
noncomputable def dStore0_tree (v : Int) (dv : Int) (b : Mo.Bd) (K : S → List Ob → Prop) : Prop := (True ∧ (((2 : Int) = 2) ∧ (((1 : Int) = 1) ∧ ((Mo.dSettle_pre (Mo.uStore0_v1 v b)) ∧ K (.il .i64 0) (h_B1n dv (Mo.dSettle_v1 (Mo.uStore0_v1 v b)))))))
theorem dStore0_run (v : Int) (dv : Int) (b : Mo.Bd) (K : S → List Ob → Prop) : callX (std noW) tt ffTrE stopTrE (lpB noW Tryz.prog) noL 6 25 [.ptr 0 (.l 0), .il .u32 268501024, .iv .u32 v] (h_B1n dv b) (gcK 12 (ivK false K)) = dStore0_tree v dv b K := by kernel_rfl
noncomputable def dStore0_T (v : Int) (dv : Int) (b : Mo.Bd) (K : S → List Ob → Prop) : Prop := Mo.dStore0_pre v b ∧ K (.il .i64 0) (h_B1n dv (Mo.dStore0_v1 v b))
theorem dStore0_all (v : Int) (dv : Int) (b : Mo.Bd) (K : S → List Ob → Prop) (h : dStore0_T v dv b K) : dStore0_tree v dv b K := by
  unfold dStore0_T at h; obtain ⟨h0, h⟩ := h; unfold dStore0_tree
  try simp only [Mo.dStore0_v1] at h0 h
  try simp only [Mo.dStore0_pre] at h0 h
  repeat' (first | (refine ite_intro (fun c => ?_) (fun c => ?_) <;> first | simp only [if_pos c] at h0 h | simp only [if_neg c] at h0 h | skip) | with_reducible (replace h0 := (h0 : True ∧ _).2) | with_reducible (refine ⟨rfl, ?_⟩) | with_reducible (refine ⟨h0.1, ?_⟩; replace h0 := h0.2) | with_reducible (refine ⟨h0, ?_⟩) | (refine ⟨h0.1, ?_⟩; replace h0 := h0.2) | refine ⟨h0, ?_⟩ | refine ⟨rfl, ?_⟩ | refine ⟨trivial, ?_⟩ | refine ⟨by assumption, ?_⟩ | refine ⟨Eq.symm (by assumption), ?_⟩ | exact h | refine ⟨?_, ?_⟩ | exact h0.elim | trivial | contradiction | (simp only [if_true, if_false, Bool.false_eq_true] at h; exact h))
theorem dStore0_sem (v : Int) (dv : Int) (b : Mo.Bd) (K : S → List Ob → Prop) (h : dStore0_T v dv b K) : CallSem noW Tryz.prog 25 [.ptr 0 (.l 0), .il .u32 268501024, .iv .u32 v] (h_B1n dv b) K := iv_call (callX_ok tok (by kernel_rfl) ffTrEok stopTrE_ok _ _ _ _ (Eq.mpr (dStore0_run v dv b K) (dStore0_all v dv b K h)))
noncomputable def dStore0_con : Con := ⟨[.ptr 0, .same (.il .u32 268501024), .int .u32], t_B1n, [], fun a K => match a with | ⟨[v, dv], [], [], [cs_b_k, cs_b_w, cs_b_t, cs_b_r, cs_b_l, cs_b_c0, cs_b_c1], []⟩ => (match Mo.Cl.is cs_b_k with | true => (match Mo.Wd.is cs_b_w with | true => (match Mo.Rt.is cs_b_t with | true => (match Mo.Rs.is cs_b_r with | true => (match Mo.Ln.is cs_b_l with | true => (match Mo.Cnt.is cs_b_c0 with | true => (match Mo.Cnt.is cs_b_c1 with | true => dStore0_T v dv (Mo.Bd.mk (Mo.Cl.of cs_b_k) (Mo.Wd.of cs_b_w) (Mo.Rt.of cs_b_t) (Mo.Rs.of cs_b_r) (Mo.Ln.of cs_b_l) (Mo.Cnt.of cs_b_c0) (Mo.Cnt.of cs_b_c1)) K | false => False) | false => False) | false => False) | false => False) | false => False) | false => False) | false => False) | _ => False⟩
theorem dStore0_ok : dStore0_con.ok noW Tryz.prog 25 := by
  intro a K h
  simp only [dStore0_con] at h
  split at h
  case h_2 => exact h.elim
  split at h
  case h_2 => exact h.elim
  rename_i is_b_k
  split at h
  case h_2 => exact h.elim
  rename_i is_b_w
  split at h
  case h_2 => exact h.elim
  rename_i is_b_t
  split at h
  case h_2 => exact h.elim
  rename_i is_b_r
  split at h
  case h_2 => exact h.elim
  rename_i is_b_l
  split at h
  case h_2 => exact h.elim
  rename_i is_b_c0
  split at h
  case h_2 => exact h.elim
  rename_i is_b_c1
  exact CallSem.objs (dStore0_sem _ _ _ K h) (fun _ _ _ h => h) ⟨WkO.same, WkO.cells (Mo.Cl.is_ok is_b_k), WkO.same, WkO.cells (Mo.Wd.is_ok is_b_w), WkO.cells (Mo.Rt.is_ok is_b_t), WkO.cells (Mo.Rs.is_ok is_b_r), WkO.cells (Mo.Ln.is_ok is_b_l), WkO.same, WkO.same, WkO.same, WkO.cells (Mo.Cnt.is_ok is_b_c0), WkO.cells (Mo.Cnt.is_ok is_b_c1), trivial⟩
noncomputable def Mo.dStore8_v1 (v : Int) (b : Mo.Bd) : Mo.Bd := (Mo.dSettle_v1 (Mo.uStore8_v1 v b))
noncomputable def Mo.dStore8_pre (v : Int) (b : Mo.Bd) : Prop := (Mo.dSettle_pre (Mo.uStore8_v1 v b))
noncomputable def dStore8_tree (v : Int) (dv : Int) (b : Mo.Bd) (K : S → List Ob → Prop) : Prop := (True ∧ (((2 : Int) = 2) ∧ (((1 : Int) = 1) ∧ ((Mo.dSettle_pre (Mo.uStore8_v1 v b)) ∧ K (.il .i64 0) (h_B1n dv (Mo.dSettle_v1 (Mo.uStore8_v1 v b)))))))
theorem dStore8_run (v : Int) (dv : Int) (b : Mo.Bd) (K : S → List Ob → Prop) : callX (std noW) tt ffTrE stopTrE (lpB noW Tryz.prog) noL 6 25 [.ptr 0 (.l 0), .il .u32 268501032, .iv .u32 v] (h_B1n dv b) (gcK 12 (ivK false K)) = dStore8_tree v dv b K := by kernel_rfl
noncomputable def dStore8_T (v : Int) (dv : Int) (b : Mo.Bd) (K : S → List Ob → Prop) : Prop := Mo.dStore8_pre v b ∧ K (.il .i64 0) (h_B1n dv (Mo.dStore8_v1 v b))
theorem dStore8_all (v : Int) (dv : Int) (b : Mo.Bd) (K : S → List Ob → Prop) (h : dStore8_T v dv b K) : dStore8_tree v dv b K := by
  unfold dStore8_T at h; obtain ⟨h0, h⟩ := h; unfold dStore8_tree
  try simp only [Mo.dStore8_v1] at h0 h
  try simp only [Mo.dStore8_pre] at h0 h
  repeat' (first | (refine ite_intro (fun c => ?_) (fun c => ?_) <;> first | simp only [if_pos c] at h0 h | simp only [if_neg c] at h0 h | skip) | with_reducible (replace h0 := (h0 : True ∧ _).2) | with_reducible (refine ⟨rfl, ?_⟩) | with_reducible (refine ⟨h0.1, ?_⟩; replace h0 := h0.2) | with_reducible (refine ⟨h0, ?_⟩) | (refine ⟨h0.1, ?_⟩; replace h0 := h0.2) | refine ⟨h0, ?_⟩ | refine ⟨rfl, ?_⟩ | refine ⟨trivial, ?_⟩ | refine ⟨by assumption, ?_⟩ | refine ⟨Eq.symm (by assumption), ?_⟩ | exact h | refine ⟨?_, ?_⟩ | exact h0.elim | trivial | contradiction | (simp only [if_true, if_false, Bool.false_eq_true] at h; exact h))
theorem dStore8_sem (v : Int) (dv : Int) (b : Mo.Bd) (K : S → List Ob → Prop) (h : dStore8_T v dv b K) : CallSem noW Tryz.prog 25 [.ptr 0 (.l 0), .il .u32 268501032, .iv .u32 v] (h_B1n dv b) K := iv_call (callX_ok tok (by kernel_rfl) ffTrEok stopTrE_ok _ _ _ _ (Eq.mpr (dStore8_run v dv b K) (dStore8_all v dv b K h)))
noncomputable def dStore8_con : Con := ⟨[.ptr 0, .same (.il .u32 268501032), .int .u32], t_B1n, [], fun a K => match a with | ⟨[v, dv], [], [], [cs_b_k, cs_b_w, cs_b_t, cs_b_r, cs_b_l, cs_b_c0, cs_b_c1], []⟩ => (match Mo.Cl.is cs_b_k with | true => (match Mo.Wd.is cs_b_w with | true => (match Mo.Rt.is cs_b_t with | true => (match Mo.Rs.is cs_b_r with | true => (match Mo.Ln.is cs_b_l with | true => (match Mo.Cnt.is cs_b_c0 with | true => (match Mo.Cnt.is cs_b_c1 with | true => dStore8_T v dv (Mo.Bd.mk (Mo.Cl.of cs_b_k) (Mo.Wd.of cs_b_w) (Mo.Rt.of cs_b_t) (Mo.Rs.of cs_b_r) (Mo.Ln.of cs_b_l) (Mo.Cnt.of cs_b_c0) (Mo.Cnt.of cs_b_c1)) K | false => False) | false => False) | false => False) | false => False) | false => False) | false => False) | false => False) | _ => False⟩
theorem dStore8_ok : dStore8_con.ok noW Tryz.prog 25 := by
  intro a K h
  simp only [dStore8_con] at h
  split at h
  case h_2 => exact h.elim
  split at h
  case h_2 => exact h.elim
  rename_i is_b_k
  split at h
  case h_2 => exact h.elim
  rename_i is_b_w
  split at h
  case h_2 => exact h.elim
  rename_i is_b_t
  split at h
  case h_2 => exact h.elim
  rename_i is_b_r
  split at h
  case h_2 => exact h.elim
  rename_i is_b_l
  split at h
  case h_2 => exact h.elim
  rename_i is_b_c0
  split at h
  case h_2 => exact h.elim
  rename_i is_b_c1
  exact CallSem.objs (dStore8_sem _ _ _ K h) (fun _ _ _ h => h) ⟨WkO.same, WkO.cells (Mo.Cl.is_ok is_b_k), WkO.same, WkO.cells (Mo.Wd.is_ok is_b_w), WkO.cells (Mo.Rt.is_ok is_b_t), WkO.cells (Mo.Rs.is_ok is_b_r), WkO.cells (Mo.Ln.is_ok is_b_l), WkO.same, WkO.same, WkO.same, WkO.cells (Mo.Cnt.is_ok is_b_c0), WkO.cells (Mo.Cnt.is_ok is_b_c1), trivial⟩
noncomputable def Mo.dStore12_v1 (v : Int) (b : Mo.Bd) : Mo.Bd := (Mo.dSettle_v1 (Mo.uStore12_v1 v b))
noncomputable def Mo.dStore12_pre (v : Int) (b : Mo.Bd) : Prop := (Mo.dSettle_pre (Mo.uStore12_v1 v b))
noncomputable def dStore12_tree (v : Int) (dv : Int) (b : Mo.Bd) (K : S → List Ob → Prop) : Prop := (True ∧ (((2 : Int) = 2) ∧ (((1 : Int) = 1) ∧ ((Mo.dSettle_pre (Mo.uStore12_v1 v b)) ∧ K (.il .i64 0) (h_B1n dv (Mo.dSettle_v1 (Mo.uStore12_v1 v b)))))))
theorem dStore12_run (v : Int) (dv : Int) (b : Mo.Bd) (K : S → List Ob → Prop) : callX (std noW) tt ffTrE stopTrE (lpB noW Tryz.prog) noL 6 25 [.ptr 0 (.l 0), .il .u32 268501036, .iv .u32 v] (h_B1n dv b) (gcK 12 (ivK false K)) = dStore12_tree v dv b K := by kernel_rfl
noncomputable def dStore12_T (v : Int) (dv : Int) (b : Mo.Bd) (K : S → List Ob → Prop) : Prop := Mo.dStore12_pre v b ∧ K (.il .i64 0) (h_B1n dv (Mo.dStore12_v1 v b))
theorem dStore12_all (v : Int) (dv : Int) (b : Mo.Bd) (K : S → List Ob → Prop) (h : dStore12_T v dv b K) : dStore12_tree v dv b K := by
  unfold dStore12_T at h; obtain ⟨h0, h⟩ := h; unfold dStore12_tree
  try simp only [Mo.dStore12_v1] at h0 h
  try simp only [Mo.dStore12_pre] at h0 h
  repeat' (first | (refine ite_intro (fun c => ?_) (fun c => ?_) <;> first | simp only [if_pos c] at h0 h | simp only [if_neg c] at h0 h | skip) | with_reducible (replace h0 := (h0 : True ∧ _).2) | with_reducible (refine ⟨rfl, ?_⟩) | with_reducible (refine ⟨h0.1, ?_⟩; replace h0 := h0.2) | with_reducible (refine ⟨h0, ?_⟩) | (refine ⟨h0.1, ?_⟩; replace h0 := h0.2) | refine ⟨h0, ?_⟩ | refine ⟨rfl, ?_⟩ | refine ⟨trivial, ?_⟩ | refine ⟨by assumption, ?_⟩ | refine ⟨Eq.symm (by assumption), ?_⟩ | exact h | refine ⟨?_, ?_⟩ | exact h0.elim | trivial | contradiction | (simp only [if_true, if_false, Bool.false_eq_true] at h; exact h))
theorem dStore12_sem (v : Int) (dv : Int) (b : Mo.Bd) (K : S → List Ob → Prop) (h : dStore12_T v dv b K) : CallSem noW Tryz.prog 25 [.ptr 0 (.l 0), .il .u32 268501036, .iv .u32 v] (h_B1n dv b) K := iv_call (callX_ok tok (by kernel_rfl) ffTrEok stopTrE_ok _ _ _ _ (Eq.mpr (dStore12_run v dv b K) (dStore12_all v dv b K h)))
noncomputable def dStore12_con : Con := ⟨[.ptr 0, .same (.il .u32 268501036), .int .u32], t_B1n, [], fun a K => match a with | ⟨[v, dv], [], [], [cs_b_k, cs_b_w, cs_b_t, cs_b_r, cs_b_l, cs_b_c0, cs_b_c1], []⟩ => (match Mo.Cl.is cs_b_k with | true => (match Mo.Wd.is cs_b_w with | true => (match Mo.Rt.is cs_b_t with | true => (match Mo.Rs.is cs_b_r with | true => (match Mo.Ln.is cs_b_l with | true => (match Mo.Cnt.is cs_b_c0 with | true => (match Mo.Cnt.is cs_b_c1 with | true => dStore12_T v dv (Mo.Bd.mk (Mo.Cl.of cs_b_k) (Mo.Wd.of cs_b_w) (Mo.Rt.of cs_b_t) (Mo.Rs.of cs_b_r) (Mo.Ln.of cs_b_l) (Mo.Cnt.of cs_b_c0) (Mo.Cnt.of cs_b_c1)) K | false => False) | false => False) | false => False) | false => False) | false => False) | false => False) | false => False) | _ => False⟩
theorem dStore12_ok : dStore12_con.ok noW Tryz.prog 25 := by
  intro a K h
  simp only [dStore12_con] at h
  split at h
  case h_2 => exact h.elim
  split at h
  case h_2 => exact h.elim
  rename_i is_b_k
  split at h
  case h_2 => exact h.elim
  rename_i is_b_w
  split at h
  case h_2 => exact h.elim
  rename_i is_b_t
  split at h
  case h_2 => exact h.elim
  rename_i is_b_r
  split at h
  case h_2 => exact h.elim
  rename_i is_b_l
  split at h
  case h_2 => exact h.elim
  rename_i is_b_c0
  split at h
  case h_2 => exact h.elim
  rename_i is_b_c1
  exact CallSem.objs (dStore12_sem _ _ _ K h) (fun _ _ _ h => h) ⟨WkO.same, WkO.cells (Mo.Cl.is_ok is_b_k), WkO.same, WkO.cells (Mo.Wd.is_ok is_b_w), WkO.cells (Mo.Rt.is_ok is_b_t), WkO.cells (Mo.Rs.is_ok is_b_r), WkO.cells (Mo.Ln.is_ok is_b_l), WkO.same, WkO.same, WkO.same, WkO.cells (Mo.Cnt.is_ok is_b_c0), WkO.cells (Mo.Cnt.is_ok is_b_c1), trivial⟩
noncomputable def dLoad8_tree (dv : Int) (b : Mo.Bd) (K : S → List Ob → Prop) : Prop := (True ∧ K (.tup [(.iv .u32 (Mo.Cnt.ct (Mo.Bd.c1 b))), (.il .i64 0)]) (h_B1n dv b))
theorem dLoad8_run (dv : Int) (b : Mo.Bd) (K : S → List Ob → Prop) : callX (std noW) tt ffTrE stopTrE (lpB noW Tryz.prog) noL 6 90 [.ptr 0 (.l 0), .il .u32 268501032] (h_B1n dv b) (gcK 12 (ivK false K)) = dLoad8_tree dv b K := by kernel_rfl
noncomputable def dLoad8_T (dv : Int) (b : Mo.Bd) (K : S → List Ob → Prop) : Prop := True ∧ K (.tup [(.iv .u32 (Mo.Cnt.ct (Mo.Bd.c1 b))), (.il .i64 0)]) (h_B1n dv b)
theorem dLoad8_all (dv : Int) (b : Mo.Bd) (K : S → List Ob → Prop) (h : dLoad8_T dv b K) : dLoad8_tree dv b K := by
  unfold dLoad8_T at h; obtain ⟨h0, h⟩ := h; unfold dLoad8_tree
  repeat' first | exact h | refine ⟨rfl, ?_⟩ | (refine ⟨h0.1, ?_⟩; replace h0 := h0.2) | refine ⟨h0, ?_⟩ | exact h0.elim | (refine ite_intro (fun c => ?_) fun c => ?_) <;> first | simp only [if_pos c] at h0 h | simp only [if_neg c] at h0 h | skip
theorem dLoad8_sem (dv : Int) (b : Mo.Bd) (K : S → List Ob → Prop) (h : dLoad8_T dv b K) : CallSem noW Tryz.prog 90 [.ptr 0 (.l 0), .il .u32 268501032] (h_B1n dv b) K := iv_call (callX_ok tok (by kernel_rfl) ffTrEok stopTrE_ok _ _ _ _ (Eq.mpr (dLoad8_run dv b K) (dLoad8_all dv b K h)))
noncomputable def dLoad8_con : Con := ⟨[.ptr 0, .same (.il .u32 268501032)], t_B1n, [], fun a K => match a with | ⟨[dv], [], [], [cs_b_k, cs_b_w, cs_b_t, cs_b_r, cs_b_l, cs_b_c0, cs_b_c1], []⟩ => (match Mo.Cl.is cs_b_k with | true => (match Mo.Wd.is cs_b_w with | true => (match Mo.Rt.is cs_b_t with | true => (match Mo.Rs.is cs_b_r with | true => (match Mo.Ln.is cs_b_l with | true => (match Mo.Cnt.is cs_b_c0 with | true => (match Mo.Cnt.is cs_b_c1 with | true => dLoad8_T dv (Mo.Bd.mk (Mo.Cl.of cs_b_k) (Mo.Wd.of cs_b_w) (Mo.Rt.of cs_b_t) (Mo.Rs.of cs_b_r) (Mo.Ln.of cs_b_l) (Mo.Cnt.of cs_b_c0) (Mo.Cnt.of cs_b_c1)) K | false => False) | false => False) | false => False) | false => False) | false => False) | false => False) | false => False) | _ => False⟩
theorem dLoad8_ok : dLoad8_con.ok noW Tryz.prog 90 := by
  intro a K h
  simp only [dLoad8_con] at h
  split at h
  case h_2 => exact h.elim
  split at h
  case h_2 => exact h.elim
  rename_i is_b_k
  split at h
  case h_2 => exact h.elim
  rename_i is_b_w
  split at h
  case h_2 => exact h.elim
  rename_i is_b_t
  split at h
  case h_2 => exact h.elim
  rename_i is_b_r
  split at h
  case h_2 => exact h.elim
  rename_i is_b_l
  split at h
  case h_2 => exact h.elim
  rename_i is_b_c0
  split at h
  case h_2 => exact h.elim
  rename_i is_b_c1
  exact CallSem.objs (dLoad8_sem _ _ K h) (fun _ _ _ h => h) ⟨WkO.same, WkO.cells (Mo.Cl.is_ok is_b_k), WkO.same, WkO.cells (Mo.Wd.is_ok is_b_w), WkO.cells (Mo.Rt.is_ok is_b_t), WkO.cells (Mo.Rs.is_ok is_b_r), WkO.cells (Mo.Ln.is_ok is_b_l), WkO.same, WkO.same, WkO.same, WkO.cells (Mo.Cnt.is_ok is_b_c0), WkO.cells (Mo.Cnt.is_ok is_b_c1), trivial⟩
noncomputable def dLoad12_tree (dv : Int) (b : Mo.Bd) (K : S → List Ob → Prop) : Prop := (True ∧ K (.tup [(.iv .u32 (Mo.Cnt.st (Mo.Bd.c1 b))), (.il .i64 0)]) (h_B1n dv b))
theorem dLoad12_run (dv : Int) (b : Mo.Bd) (K : S → List Ob → Prop) : callX (std noW) tt ffTrE stopTrE (lpB noW Tryz.prog) noL 6 90 [.ptr 0 (.l 0), .il .u32 268501036] (h_B1n dv b) (gcK 12 (ivK false K)) = dLoad12_tree dv b K := by kernel_rfl
noncomputable def dLoad12_T (dv : Int) (b : Mo.Bd) (K : S → List Ob → Prop) : Prop := True ∧ K (.tup [(.iv .u32 (Mo.Cnt.st (Mo.Bd.c1 b))), (.il .i64 0)]) (h_B1n dv b)
theorem dLoad12_all (dv : Int) (b : Mo.Bd) (K : S → List Ob → Prop) (h : dLoad12_T dv b K) : dLoad12_tree dv b K := by
  unfold dLoad12_T at h; obtain ⟨h0, h⟩ := h; unfold dLoad12_tree
  repeat' first | exact h | refine ⟨rfl, ?_⟩ | (refine ⟨h0.1, ?_⟩; replace h0 := h0.2) | refine ⟨h0, ?_⟩ | exact h0.elim | (refine ite_intro (fun c => ?_) fun c => ?_) <;> first | simp only [if_pos c] at h0 h | simp only [if_neg c] at h0 h | skip
theorem dLoad12_sem (dv : Int) (b : Mo.Bd) (K : S → List Ob → Prop) (h : dLoad12_T dv b K) : CallSem noW Tryz.prog 90 [.ptr 0 (.l 0), .il .u32 268501036] (h_B1n dv b) K := iv_call (callX_ok tok (by kernel_rfl) ffTrEok stopTrE_ok _ _ _ _ (Eq.mpr (dLoad12_run dv b K) (dLoad12_all dv b K h)))
noncomputable def dLoad12_con : Con := ⟨[.ptr 0, .same (.il .u32 268501036)], t_B1n, [], fun a K => match a with | ⟨[dv], [], [], [cs_b_k, cs_b_w, cs_b_t, cs_b_r, cs_b_l, cs_b_c0, cs_b_c1], []⟩ => (match Mo.Cl.is cs_b_k with | true => (match Mo.Wd.is cs_b_w with | true => (match Mo.Rt.is cs_b_t with | true => (match Mo.Rs.is cs_b_r with | true => (match Mo.Ln.is cs_b_l with | true => (match Mo.Cnt.is cs_b_c0 with | true => (match Mo.Cnt.is cs_b_c1 with | true => dLoad12_T dv (Mo.Bd.mk (Mo.Cl.of cs_b_k) (Mo.Wd.of cs_b_w) (Mo.Rt.of cs_b_t) (Mo.Rs.of cs_b_r) (Mo.Ln.of cs_b_l) (Mo.Cnt.of cs_b_c0) (Mo.Cnt.of cs_b_c1)) K | false => False) | false => False) | false => False) | false => False) | false => False) | false => False) | false => False) | _ => False⟩
theorem dLoad12_ok : dLoad12_con.ok noW Tryz.prog 90 := by
  intro a K h
  simp only [dLoad12_con] at h
  split at h
  case h_2 => exact h.elim
  split at h
  case h_2 => exact h.elim
  rename_i is_b_k
  split at h
  case h_2 => exact h.elim
  rename_i is_b_w
  split at h
  case h_2 => exact h.elim
  rename_i is_b_t
  split at h
  case h_2 => exact h.elim
  rename_i is_b_r
  split at h
  case h_2 => exact h.elim
  rename_i is_b_l
  split at h
  case h_2 => exact h.elim
  rename_i is_b_c0
  split at h
  case h_2 => exact h.elim
  rename_i is_b_c1
  exact CallSem.objs (dLoad12_sem _ _ K h) (fun _ _ _ h => h) ⟨WkO.same, WkO.cells (Mo.Cl.is_ok is_b_k), WkO.same, WkO.cells (Mo.Wd.is_ok is_b_w), WkO.cells (Mo.Rt.is_ok is_b_t), WkO.cells (Mo.Rs.is_ok is_b_r), WkO.cells (Mo.Ln.is_ok is_b_l), WkO.same, WkO.same, WkO.same, WkO.cells (Mo.Cnt.is_ok is_b_c0), WkO.cells (Mo.Cnt.is_ok is_b_c1), trivial⟩
noncomputable def dResets_tree (dv : Int) (b : Mo.Bd) (K : S → List Ob → Prop) : Prop := K (.raw (.slice none 0 0)) (h_B1n dv b)
theorem dResets_run (dv : Int) (b : Mo.Bd) (K : S → List Ob → Prop) : callX (std noW) tt ffTrE stopTrE (lpB noW Tryz.prog) noL 8 45 [.ptr 0 (.l 0)] (h_B1n dv b) (gcK 12 (ivK false K)) = dResets_tree dv b K := by kernel_rfl
noncomputable def dResets_T (dv : Int) (b : Mo.Bd) (K : S → List Ob → Prop) : Prop := True ∧ K (.raw (.slice none 0 0)) (h_B1n dv b)
theorem dResets_all (dv : Int) (b : Mo.Bd) (K : S → List Ob → Prop) (h : dResets_T dv b K) : dResets_tree dv b K := by
  unfold dResets_T at h; obtain ⟨h0, h⟩ := h; unfold dResets_tree
  repeat' first | exact h | (refine ite_intro (fun c => ?_) fun c => ?_) <;> first | simp only [if_pos c] at h0 h | simp only [if_neg c] at h0 h | skip
theorem dResets_sem (dv : Int) (b : Mo.Bd) (K : S → List Ob → Prop) (h : dResets_T dv b K) : CallSem noW Tryz.prog 45 [.ptr 0 (.l 0)] (h_B1n dv b) K := iv_call (callX_ok tok (by kernel_rfl) ffTrEok stopTrE_ok _ _ _ _ (Eq.mpr (dResets_run dv b K) (dResets_all dv b K h)))
noncomputable def dResets_con : Con := ⟨[.ptr 0], t_B1n, [], fun a K => match a with | ⟨[dv], [], [], [cs_b_k, cs_b_w, cs_b_t, cs_b_r, cs_b_l, cs_b_c0, cs_b_c1], []⟩ => (match Mo.Cl.is cs_b_k with | true => (match Mo.Wd.is cs_b_w with | true => (match Mo.Rt.is cs_b_t with | true => (match Mo.Rs.is cs_b_r with | true => (match Mo.Ln.is cs_b_l with | true => (match Mo.Cnt.is cs_b_c0 with | true => (match Mo.Cnt.is cs_b_c1 with | true => dResets_T dv (Mo.Bd.mk (Mo.Cl.of cs_b_k) (Mo.Wd.of cs_b_w) (Mo.Rt.of cs_b_t) (Mo.Rs.of cs_b_r) (Mo.Ln.of cs_b_l) (Mo.Cnt.of cs_b_c0) (Mo.Cnt.of cs_b_c1)) K | false => False) | false => False) | false => False) | false => False) | false => False) | false => False) | false => False) | _ => False⟩
theorem dResets_ok : dResets_con.ok noW Tryz.prog 45 := by
  intro a K h
  simp only [dResets_con] at h
  split at h
  case h_2 => exact h.elim
  split at h
  case h_2 => exact h.elim
  rename_i is_b_k
  split at h
  case h_2 => exact h.elim
  rename_i is_b_w
  split at h
  case h_2 => exact h.elim
  rename_i is_b_t
  split at h
  case h_2 => exact h.elim
  rename_i is_b_r
  split at h
  case h_2 => exact h.elim
  rename_i is_b_l
  split at h
  case h_2 => exact h.elim
  rename_i is_b_c0
  split at h
  case h_2 => exact h.elim
  rename_i is_b_c1
  exact CallSem.objs (dResets_sem _ _ K h) (fun _ _ _ h => h) ⟨WkO.same, WkO.cells (Mo.Cl.is_ok is_b_k), WkO.same, WkO.cells (Mo.Wd.is_ok is_b_w), WkO.cells (Mo.Rt.is_ok is_b_t), WkO.cells (Mo.Rs.is_ok is_b_r), WkO.cells (Mo.Ln.is_ok is_b_l), WkO.same, WkO.same, WkO.same, WkO.cells (Mo.Cnt.is_ok is_b_c0), WkO.cells (Mo.Cnt.is_ok is_b_c1), trivial⟩
noncomputable def dHigh_tree (dv : Int) (b : Mo.Bd) (K : S → List Ob → Prop) : Prop := (True ∧ K (.iv .u32 (Mo.Ln.high (Mo.Bd.l b))) (h_B1n dv b))
theorem dHigh_run (dv : Int) (b : Mo.Bd) (K : S → List Ob → Prop) : callX (std noW) tt ffTrE stopTrE (lpB noW Tryz.prog) noL 8 84 [.ptr 0 (.l 0)] (h_B1n dv b) (gcK 12 (ivK false K)) = dHigh_tree dv b K := by kernel_rfl
noncomputable def dHigh_T (dv : Int) (b : Mo.Bd) (K : S → List Ob → Prop) : Prop := True ∧ K (.iv .u32 (Mo.Ln.high (Mo.Bd.l b))) (h_B1n dv b)
theorem dHigh_all (dv : Int) (b : Mo.Bd) (K : S → List Ob → Prop) (h : dHigh_T dv b K) : dHigh_tree dv b K := by
  unfold dHigh_T at h; obtain ⟨h0, h⟩ := h; unfold dHigh_tree
  repeat' first | exact h | refine ⟨rfl, ?_⟩ | (refine ⟨h0.1, ?_⟩; replace h0 := h0.2) | refine ⟨h0, ?_⟩ | exact h0.elim | (refine ite_intro (fun c => ?_) fun c => ?_) <;> first | simp only [if_pos c] at h0 h | simp only [if_neg c] at h0 h | skip
theorem dHigh_sem (dv : Int) (b : Mo.Bd) (K : S → List Ob → Prop) (h : dHigh_T dv b K) : CallSem noW Tryz.prog 84 [.ptr 0 (.l 0)] (h_B1n dv b) K := iv_call (callX_ok tok (by kernel_rfl) ffTrEok stopTrE_ok _ _ _ _ (Eq.mpr (dHigh_run dv b K) (dHigh_all dv b K h)))
noncomputable def dHigh_con : Con := ⟨[.ptr 0], t_B1n, [], fun a K => match a with | ⟨[dv], [], [], [cs_b_k, cs_b_w, cs_b_t, cs_b_r, cs_b_l, cs_b_c0, cs_b_c1], []⟩ => (match Mo.Cl.is cs_b_k with | true => (match Mo.Wd.is cs_b_w with | true => (match Mo.Rt.is cs_b_t with | true => (match Mo.Rs.is cs_b_r with | true => (match Mo.Ln.is cs_b_l with | true => (match Mo.Cnt.is cs_b_c0 with | true => (match Mo.Cnt.is cs_b_c1 with | true => dHigh_T dv (Mo.Bd.mk (Mo.Cl.of cs_b_k) (Mo.Wd.of cs_b_w) (Mo.Rt.of cs_b_t) (Mo.Rs.of cs_b_r) (Mo.Ln.of cs_b_l) (Mo.Cnt.of cs_b_c0) (Mo.Cnt.of cs_b_c1)) K | false => False) | false => False) | false => False) | false => False) | false => False) | false => False) | false => False) | _ => False⟩
theorem dHigh_ok : dHigh_con.ok noW Tryz.prog 84 := by
  intro a K h
  simp only [dHigh_con] at h
  split at h
  case h_2 => exact h.elim
  split at h
  case h_2 => exact h.elim
  rename_i is_b_k
  split at h
  case h_2 => exact h.elim
  rename_i is_b_w
  split at h
  case h_2 => exact h.elim
  rename_i is_b_t
  split at h
  case h_2 => exact h.elim
  rename_i is_b_r
  split at h
  case h_2 => exact h.elim
  rename_i is_b_l
  split at h
  case h_2 => exact h.elim
  rename_i is_b_c0
  split at h
  case h_2 => exact h.elim
  rename_i is_b_c1
  exact CallSem.objs (dHigh_sem _ _ K h) (fun _ _ _ h => h) ⟨WkO.same, WkO.cells (Mo.Cl.is_ok is_b_k), WkO.same, WkO.cells (Mo.Wd.is_ok is_b_w), WkO.cells (Mo.Rt.is_ok is_b_t), WkO.cells (Mo.Rs.is_ok is_b_r), WkO.cells (Mo.Ln.is_ok is_b_l), WkO.same, WkO.same, WkO.same, WkO.cells (Mo.Cnt.is_ok is_b_c0), WkO.cells (Mo.Cnt.is_ok is_b_c1), trivial⟩
noncomputable def tabTrF (n : Nat) : List Con := match Nat.beq n 17 with | true => [dTick_con] | false => match Nat.beq n 25 with | true => [dStore0_con, dStore8_con, dStore12_con] | false => match Nat.beq n 90 with | true => [dLoad8_con, dLoad12_con] | false => match Nat.beq n 45 with | true => [dResets_con] | false => match Nat.beq n 84 with | true => [dHigh_con] | false => tabTrE n
theorem tabTrF_ok : ∀ f, ∀ c ∈ tabTrF f, c.ok noW Tryz.prog f := by
  intro f c hc
  unfold tabTrF at hc
  split at hc
  · rename_i hf; have := Nat.eq_of_beq_eq_true hf; subst this
    simp only [List.mem_cons, List.not_mem_nil, or_false] at hc
    subst hc; exact dTick_ok
  split at hc
  · rename_i hf; have := Nat.eq_of_beq_eq_true hf; subst this
    simp only [List.mem_cons, List.not_mem_nil, or_false] at hc
    rcases hc with rfl | rfl | rfl
    · exact dStore0_ok
    · exact dStore8_ok
    · exact dStore12_ok
  split at hc
  · rename_i hf; have := Nat.eq_of_beq_eq_true hf; subst this
    simp only [List.mem_cons, List.not_mem_nil, or_false] at hc
    rcases hc with rfl | rfl
    · exact dLoad8_ok
    · exact dLoad12_ok
  split at hc
  · rename_i hf; have := Nat.eq_of_beq_eq_true hf; subst this
    simp only [List.mem_cons, List.not_mem_nil, or_false] at hc
    subst hc; exact dResets_ok
  split at hc
  · rename_i hf; have := Nat.eq_of_beq_eq_true hf; subst this
    simp only [List.mem_cons, List.not_mem_nil, or_false] at hc
    subst hc; exact dHigh_ok
  exact tabTrE_ok f c hc
noncomputable def ffTrF (n : Nat) : Option FI := match Nat.beq n 17 with | true => none | false => match Nat.beq n 25 with | true => none | false => match Nat.beq n 90 with | true => none | false => match Nat.beq n 45 with | true => none | false => match Nat.beq n 84 with | true => none | false => ffTrE n
theorem ffTrFok : FOk Tryz.prog ffTrF := fun f fi hf => by
  unfold ffTrF at hf
  split at hf
  · cases hf
  split at hf
  · cases hf
  split at hf
  · cases hf
  split at hf
  · cases hf
  split at hf
  · cases hf
  exact ffTrEok f fi hf
noncomputable def stopTrF : CallT := stopC tabTrF stopB
theorem stopTrF_ok : ∀ f args h K, stopTrF f args h K → CallSem noW Tryz.prog f args h K := stopC_ok tabTrF_ok stopB_ok
end Go.SX.Y
