/- What Go functions come to (lifted). -/
import Derived.Test.YtbkegflipglioaaGreatArE
set_option maxRecDepth 20000
namespace Go.SX.Y
open Go.Proofs Go.RowKit
noncomputable def Mo.dTick_v1 (n : Int) (b : Mo.Bd) : Mo.Bd := (Mo.dSettle_v1 (Mo.Bd.mk (Mo.kTick_v1 (Mo.wTick_v1 n (Mo.Bd.w b)) (Mo.Bd.k b)) (Mo.wTick_v2 n (Mo.Bd.w b)) (Mo.tTick_v1 (Mo.wTick_v1 n (Mo.Bd.w b)) (Mo.Bd.t b)) (Mo.Bd.r b) (Mo.Bd.l b) (Mo.cTick_v1 (Mo.wTick_v1 n (Mo.Bd.w b)) (Mo.Bd.c b))))
noncomputable def Mo.dTick_pre (n : Int) (b : Mo.Bd) : Prop := ((Mo.kTick_pre (Mo.wTick_v1 n (Mo.Bd.w b)) (Mo.Bd.k b)) ∧ ((Mo.nTick_pre (Mo.wTick_v1 n (Mo.Bd.w b)) (Mo.Bd.c b)) ∧ ((Mo.tTick_pre (Mo.wTick_v1 n (Mo.Bd.w b)) (Mo.Bd.t b)) ∧ (if ((iE (Mo.Wd.fault (Mo.wTick_v2 n (Mo.Bd.w b))) 0) = true) then (Mo.dSettle_pre (Mo.Bd.mk (Mo.kTick_v1 (Mo.wTick_v1 n (Mo.Bd.w b)) (Mo.Bd.k b)) (Mo.wTick_v2 n (Mo.Bd.w b)) (Mo.tTick_v1 (Mo.wTick_v1 n (Mo.Bd.w b)) (Mo.Bd.t b)) (Mo.Bd.r b) (Mo.Bd.l b) (Mo.cTick_v1 (Mo.wTick_v1 n (Mo.Bd.w b)) (Mo.Bd.c b)))) else ((Mo.dSettle_pre (Mo.Bd.mk (Mo.kTick_v1 (Mo.wTick_v1 n (Mo.Bd.w b)) (Mo.Bd.k b)) (Mo.wTick_v2 n (Mo.Bd.w b)) (Mo.tTick_v1 (Mo.wTick_v1 n (Mo.Bd.w b)) (Mo.Bd.t b)) (Mo.Bd.r b) (Mo.Bd.l b) (Mo.cTick_v1 (Mo.wTick_v1 n (Mo.Bd.w b)) (Mo.Bd.c b)))) ∧ False)))))
noncomputable def dTick_tree (n : Int) (dv : Int) (b : Mo.Bd) (K : S → List Ob → Prop) : Prop := (True ∧ ((Mo.kTick_pre (Mo.wTick_v1 n (Mo.Bd.w b)) (Mo.Bd.k b)) ∧ ((Mo.nTick_pre (Mo.wTick_v1 n (Mo.Bd.w b)) (Mo.Bd.c b)) ∧ ((Mo.tTick_pre (Mo.wTick_v1 n (Mo.Bd.w b)) (Mo.Bd.t b)) ∧ (True ∧ (if ((iE (Mo.Wd.fault (Mo.wTick_v2 n (Mo.Bd.w b))) 0) = true) then (((1 : Int) = 1) ∧ (((1 : Int) = 1) ∧ ((Mo.dSettle_pre (Mo.Bd.mk (Mo.kTick_v1 (Mo.wTick_v1 n (Mo.Bd.w b)) (Mo.Bd.k b)) (Mo.wTick_v2 n (Mo.Bd.w b)) (Mo.tTick_v1 (Mo.wTick_v1 n (Mo.Bd.w b)) (Mo.Bd.t b)) (Mo.Bd.r b) (Mo.Bd.l b) (Mo.cTick_v1 (Mo.wTick_v1 n (Mo.Bd.w b)) (Mo.Bd.c b)))) ∧ K (.tup []) (h_B1n dv (Mo.dSettle_v1 (Mo.Bd.mk (Mo.kTick_v1 (Mo.wTick_v1 n (Mo.Bd.w b)) (Mo.Bd.k b)) (Mo.wTick_v2 n (Mo.Bd.w b)) (Mo.tTick_v1 (Mo.wTick_v1 n (Mo.Bd.w b)) (Mo.Bd.t b)) (Mo.Bd.r b) (Mo.Bd.l b) (Mo.cTick_v1 (Mo.wTick_v1 n (Mo.Bd.w b)) (Mo.Bd.c b)))))))) else (((1 : Int) = 1) ∧ (((1 : Int) = 1) ∧ ((Mo.dSettle_pre (Mo.Bd.mk (Mo.kTick_v1 (Mo.wTick_v1 n (Mo.Bd.w b)) (Mo.Bd.k b)) (Mo.wTick_v2 n (Mo.Bd.w b)) (Mo.tTick_v1 (Mo.wTick_v1 n (Mo.Bd.w b)) (Mo.Bd.t b)) (Mo.Bd.r b) (Mo.Bd.l b) (Mo.cTick_v1 (Mo.wTick_v1 n (Mo.Bd.w b)) (Mo.Bd.c b)))) ∧ False)))))))))
theorem dTick_run (n : Int) (dv : Int) (b : Mo.Bd) (K : S → List Ob → Prop) : callL (std noW) tt ffArE stopArE noL 2 17 [.ptr 0 (.l 0), .iv .u64 n] (h_B1n dv b) (gcK 11 (ivK false K)) = dTick_tree n dv b K := by kernel_rfl
noncomputable def dTick_T (n : Int) (dv : Int) (b : Mo.Bd) (K : S → List Ob → Prop) : Prop := Mo.dTick_pre n b ∧ K (.tup []) (h_B1n dv (Mo.dTick_v1 n b))
theorem dTick_all (n : Int) (dv : Int) (b : Mo.Bd) (K : S → List Ob → Prop) (h : dTick_T n dv b K) : dTick_tree n dv b K := by
  unfold dTick_T at h; obtain ⟨h0, h⟩ := h; unfold dTick_tree
  try simp only [Mo.dTick_v1] at h0 h
  try simp only [Mo.dTick_pre] at h0 h
  refine ⟨?_, ?_⟩
  trivial
  refine ⟨h0.1, ?_⟩; replace h0 := h0.2
  refine ⟨h0.1, ?_⟩; replace h0 := h0.2
  refine ⟨h0.1, ?_⟩; replace h0 := h0.2
  refine ⟨?_, ?_⟩
  trivial
  refine ite_intro (fun c0 => ?_) (fun c0 => ?_)
  try simp only [if_pos c0] at h0 h
  refine ⟨rfl, ?_⟩
  refine ⟨rfl, ?_⟩
  refine ⟨h0, ?_⟩
  first | exact h | contradiction | (simp only [if_true, if_false, Bool.false_eq_true] at h; exact h)
  try simp only [if_neg c0] at h0 h
  refine ⟨rfl, ?_⟩
  refine ⟨rfl, ?_⟩
  refine ⟨h0.1, ?_⟩; replace h0 := h0.2
  exact h0.elim
theorem dTick_sem (n : Int) (dv : Int) (b : Mo.Bd) (K : S → List Ob → Prop) (h : dTick_T n dv b K) : CallSem noW Tryz.prog 17 [.ptr 0 (.l 0), .iv .u64 n] (h_B1n dv b) K := iv_call (callL_ok tok (by kernel_rfl) ffArEok stopArE_ok _ _ _ _ (Eq.mpr (dTick_run n dv b K) (dTick_all n dv b K h)))
noncomputable def dTick_con : Con := ⟨[.ptr 0, .int .u64], t_B1n, fun a K => match a with | ⟨[n, dv], [], [], [cs_b_k, cs_b_w, cs_b_t, cs_b_r, cs_b_l, cs_b_c]⟩ => (match Mo.Cl.is cs_b_k with | true => (match Mo.Wd.is cs_b_w with | true => (match Mo.Rt.is cs_b_t with | true => (match Mo.Rs.is cs_b_r with | true => (match Mo.Ln.is cs_b_l with | true => (match Mo.Cnt.is cs_b_c with | true => dTick_T n dv (Mo.Bd.mk (Mo.Cl.of cs_b_k) (Mo.Wd.of cs_b_w) (Mo.Rt.of cs_b_t) (Mo.Rs.of cs_b_r) (Mo.Ln.of cs_b_l) (Mo.Cnt.of cs_b_c)) K | false => False) | false => False) | false => False) | false => False) | false => False) | false => False) | _ => False⟩
theorem dTick_ok : dTick_con.ok noW Tryz.prog 17 := by
  intro a K h
  simp only [dTick_con] at h
  split at h
  case h_2 => exact h.elim
  split at h
  case h_2 => exact h.elim
  rename_i is_b_k
  split at h
  case h_2 => exact h.elim
  rename_i is_b_w
  split at h
  case h_2 => exact h.elim
  rename_i is_b_t
  split at h
  case h_2 => exact h.elim
  rename_i is_b_r
  split at h
  case h_2 => exact h.elim
  rename_i is_b_l
  split at h
  case h_2 => exact h.elim
  rename_i is_b_c
  exact CallSem.objs (dTick_sem _ _ _ K h) (fun _ _ _ h => h) ⟨WkO.same (fun cs h => by cases h), WkO.cells (Mo.Cl.is_ok is_b_k), WkO.same (fun cs h => by cases h), WkO.cells (Mo.Wd.is_ok is_b_w), WkO.cells (Mo.Rt.is_ok is_b_t), WkO.cells (Mo.Rs.is_ok is_b_r), WkO.cells (Mo.Ln.is_ok is_b_l), WkO.same (fun cs h => by cases h), WkO.same (fun cs h => by cases h), WkO.same (fun cs h => by cases h), WkO.cells (Mo.Cnt.is_ok is_b_c), trivial⟩
noncomputable def Mo.dStore8_v1 (v : Int) (b : Mo.Bd) : Mo.Bd := (Mo.dSettle_v1 (Mo.uStore8_v1 v b))
noncomputable def Mo.dStore8_pre (v : Int) (b : Mo.Bd) : Prop := (Mo.dSettle_pre (Mo.uStore8_v1 v b))
noncomputable def dStore8_tree (v : Int) (dv : Int) (b : Mo.Bd) (K : S → List Ob → Prop) : Prop := (True ∧ (((1 : Int) = 1) ∧ (((1 : Int) = 1) ∧ ((Mo.dSettle_pre (Mo.uStore8_v1 v b)) ∧ K (.il .i64 0) (h_B1n dv (Mo.dSettle_v1 (Mo.uStore8_v1 v b)))))))
theorem dStore8_run (v : Int) (dv : Int) (b : Mo.Bd) (K : S → List Ob → Prop) : callL (std noW) tt ffArE stopArE noL 6 25 [.ptr 0 (.l 0), .il .u32 268697608, .iv .u32 v] (h_B1n dv b) (gcK 11 (ivK false K)) = dStore8_tree v dv b K := by kernel_rfl
noncomputable def dStore8_T (v : Int) (dv : Int) (b : Mo.Bd) (K : S → List Ob → Prop) : Prop := Mo.dStore8_pre v b ∧ K (.il .i64 0) (h_B1n dv (Mo.dStore8_v1 v b))
theorem dStore8_all (v : Int) (dv : Int) (b : Mo.Bd) (K : S → List Ob → Prop) (h : dStore8_T v dv b K) : dStore8_tree v dv b K := by
  unfold dStore8_T at h; obtain ⟨h0, h⟩ := h; unfold dStore8_tree
  try simp only [Mo.dStore8_v1] at h0 h
  try simp only [Mo.dStore8_pre] at h0 h
  refine ⟨?_, ?_⟩
  trivial
  refine ⟨rfl, ?_⟩
  refine ⟨rfl, ?_⟩
  refine ⟨h0, ?_⟩
  first | exact h | contradiction | (simp only [if_true, if_false, Bool.false_eq_true] at h; exact h)
theorem dStore8_sem (v : Int) (dv : Int) (b : Mo.Bd) (K : S → List Ob → Prop) (h : dStore8_T v dv b K) : CallSem noW Tryz.prog 25 [.ptr 0 (.l 0), .il .u32 268697608, .iv .u32 v] (h_B1n dv b) K := iv_call (callL_ok tok (by kernel_rfl) ffArEok stopArE_ok _ _ _ _ (Eq.mpr (dStore8_run v dv b K) (dStore8_all v dv b K h)))
noncomputable def dStore8_con : Con := ⟨[.ptr 0, .same (.il .u32 268697608), .int .u32], t_B1n, fun a K => match a with | ⟨[v, dv], [], [], [cs_b_k, cs_b_w, cs_b_t, cs_b_r, cs_b_l, cs_b_c]⟩ => (match Mo.Cl.is cs_b_k with | true => (match Mo.Wd.is cs_b_w with | true => (match Mo.Rt.is cs_b_t with | true => (match Mo.Rs.is cs_b_r with | true => (match Mo.Ln.is cs_b_l with | true => (match Mo.Cnt.is cs_b_c with | true => dStore8_T v dv (Mo.Bd.mk (Mo.Cl.of cs_b_k) (Mo.Wd.of cs_b_w) (Mo.Rt.of cs_b_t) (Mo.Rs.of cs_b_r) (Mo.Ln.of cs_b_l) (Mo.Cnt.of cs_b_c)) K | false => False) | false => False) | false => False) | false => False) | false => False) | false => False) | _ => False⟩
theorem dStore8_ok : dStore8_con.ok noW Tryz.prog 25 := by
  intro a K h
  simp only [dStore8_con] at h
  split at h
  case h_2 => exact h.elim
  split at h
  case h_2 => exact h.elim
  rename_i is_b_k
  split at h
  case h_2 => exact h.elim
  rename_i is_b_w
  split at h
  case h_2 => exact h.elim
  rename_i is_b_t
  split at h
  case h_2 => exact h.elim
  rename_i is_b_r
  split at h
  case h_2 => exact h.elim
  rename_i is_b_l
  split at h
  case h_2 => exact h.elim
  rename_i is_b_c
  exact CallSem.objs (dStore8_sem _ _ _ K h) (fun _ _ _ h => h) ⟨WkO.same (fun cs h => by cases h), WkO.cells (Mo.Cl.is_ok is_b_k), WkO.same (fun cs h => by cases h), WkO.cells (Mo.Wd.is_ok is_b_w), WkO.cells (Mo.Rt.is_ok is_b_t), WkO.cells (Mo.Rs.is_ok is_b_r), WkO.cells (Mo.Ln.is_ok is_b_l), WkO.same (fun cs h => by cases h), WkO.same (fun cs h => by cases h), WkO.same (fun cs h => by cases h), WkO.cells (Mo.Cnt.is_ok is_b_c), trivial⟩
noncomputable def Mo.dStore12_v1 (v : Int) (b : Mo.Bd) : Mo.Bd := (Mo.dSettle_v1 (Mo.uStore12_v1 v b))
noncomputable def Mo.dStore12_pre (v : Int) (b : Mo.Bd) : Prop := (Mo.dSettle_pre (Mo.uStore12_v1 v b))
noncomputable def dStore12_tree (v : Int) (dv : Int) (b : Mo.Bd) (K : S → List Ob → Prop) : Prop := (True ∧ (((1 : Int) = 1) ∧ (((1 : Int) = 1) ∧ ((Mo.dSettle_pre (Mo.uStore12_v1 v b)) ∧ K (.il .i64 0) (h_B1n dv (Mo.dSettle_v1 (Mo.uStore12_v1 v b)))))))
theorem dStore12_run (v : Int) (dv : Int) (b : Mo.Bd) (K : S → List Ob → Prop) : callL (std noW) tt ffArE stopArE noL 6 25 [.ptr 0 (.l 0), .il .u32 268697612, .iv .u32 v] (h_B1n dv b) (gcK 11 (ivK false K)) = dStore12_tree v dv b K := by kernel_rfl
noncomputable def dStore12_T (v : Int) (dv : Int) (b : Mo.Bd) (K : S → List Ob → Prop) : Prop := Mo.dStore12_pre v b ∧ K (.il .i64 0) (h_B1n dv (Mo.dStore12_v1 v b))
theorem dStore12_all (v : Int) (dv : Int) (b : Mo.Bd) (K : S → List Ob → Prop) (h : dStore12_T v dv b K) : dStore12_tree v dv b K := by
  unfold dStore12_T at h; obtain ⟨h0, h⟩ := h; unfold dStore12_tree
  try simp only [Mo.dStore12_v1] at h0 h
  try simp only [Mo.dStore12_pre] at h0 h
  refine ⟨?_, ?_⟩
  trivial
  refine ⟨rfl, ?_⟩
  refine ⟨rfl, ?_⟩
  refine ⟨h0, ?_⟩
  first | exact h | contradiction | (simp only [if_true, if_false, Bool.false_eq_true] at h; exact h)
theorem dStore12_sem (v : Int) (dv : Int) (b : Mo.Bd) (K : S → List Ob → Prop) (h : dStore12_T v dv b K) : CallSem noW Tryz.prog 25 [.ptr 0 (.l 0), .il .u32 268697612, .iv .u32 v] (h_B1n dv b) K := iv_call (callL_ok tok (by kernel_rfl) ffArEok stopArE_ok _ _ _ _ (Eq.mpr (dStore12_run v dv b K) (dStore12_all v dv b K h)))
noncomputable def dStore12_con : Con := ⟨[.ptr 0, .same (.il .u32 268697612), .int .u32], t_B1n, fun a K => match a with | ⟨[v, dv], [], [], [cs_b_k, cs_b_w, cs_b_t, cs_b_r, cs_b_l, cs_b_c]⟩ => (match Mo.Cl.is cs_b_k with | true => (match Mo.Wd.is cs_b_w with | true => (match Mo.Rt.is cs_b_t with | true => (match Mo.Rs.is cs_b_r with | true => (match Mo.Ln.is cs_b_l with | true => (match Mo.Cnt.is cs_b_c with | true => dStore12_T v dv (Mo.Bd.mk (Mo.Cl.of cs_b_k) (Mo.Wd.of cs_b_w) (Mo.Rt.of cs_b_t) (Mo.Rs.of cs_b_r) (Mo.Ln.of cs_b_l) (Mo.Cnt.of cs_b_c)) K | false => False) | false => False) | false => False) | false => False) | false => False) | false => False) | _ => False⟩
theorem dStore12_ok : dStore12_con.ok noW Tryz.prog 25 := by
  intro a K h
  simp only [dStore12_con] at h
  split at h
  case h_2 => exact h.elim
  split at h
  case h_2 => exact h.elim
  rename_i is_b_k
  split at h
  case h_2 => exact h.elim
  rename_i is_b_w
  split at h
  case h_2 => exact h.elim
  rename_i is_b_t
  split at h
  case h_2 => exact h.elim
  rename_i is_b_r
  split at h
  case h_2 => exact h.elim
  rename_i is_b_l
  split at h
  case h_2 => exact h.elim
  rename_i is_b_c
  exact CallSem.objs (dStore12_sem _ _ _ K h) (fun _ _ _ h => h) ⟨WkO.same (fun cs h => by cases h), WkO.cells (Mo.Cl.is_ok is_b_k), WkO.same (fun cs h => by cases h), WkO.cells (Mo.Wd.is_ok is_b_w), WkO.cells (Mo.Rt.is_ok is_b_t), WkO.cells (Mo.Rs.is_ok is_b_r), WkO.cells (Mo.Ln.is_ok is_b_l), WkO.same (fun cs h => by cases h), WkO.same (fun cs h => by cases h), WkO.same (fun cs h => by cases h), WkO.cells (Mo.Cnt.is_ok is_b_c), trivial⟩
noncomputable def Mo.dStore16_v1 (v : Int) (b : Mo.Bd) : Mo.Bd := (Mo.dSettle_v1 (Mo.uStore16_v1 v b))
noncomputable def Mo.dStore16_pre (v : Int) (b : Mo.Bd) : Prop := (Mo.dSettle_pre (Mo.uStore16_v1 v b))
noncomputable def dStore16_tree (v : Int) (dv : Int) (b : Mo.Bd) (K : S → List Ob → Prop) : Prop := (True ∧ (((1 : Int) = 1) ∧ (((1 : Int) = 1) ∧ ((Mo.dSettle_pre (Mo.uStore16_v1 v b)) ∧ K (.il .i64 0) (h_B1n dv (Mo.dSettle_v1 (Mo.uStore16_v1 v b)))))))
theorem dStore16_run (v : Int) (dv : Int) (b : Mo.Bd) (K : S → List Ob → Prop) : callL (std noW) tt ffArE stopArE noL 6 25 [.ptr 0 (.l 0), .il .u32 268697616, .iv .u32 v] (h_B1n dv b) (gcK 11 (ivK false K)) = dStore16_tree v dv b K := by kernel_rfl
noncomputable def dStore16_T (v : Int) (dv : Int) (b : Mo.Bd) (K : S → List Ob → Prop) : Prop := Mo.dStore16_pre v b ∧ K (.il .i64 0) (h_B1n dv (Mo.dStore16_v1 v b))
theorem dStore16_all (v : Int) (dv : Int) (b : Mo.Bd) (K : S → List Ob → Prop) (h : dStore16_T v dv b K) : dStore16_tree v dv b K := by
  unfold dStore16_T at h; obtain ⟨h0, h⟩ := h; unfold dStore16_tree
  try simp only [Mo.dStore16_v1] at h0 h
  try simp only [Mo.dStore16_pre] at h0 h
  refine ⟨?_, ?_⟩
  trivial
  refine ⟨rfl, ?_⟩
  refine ⟨rfl, ?_⟩
  refine ⟨h0, ?_⟩
  first | exact h | contradiction | (simp only [if_true, if_false, Bool.false_eq_true] at h; exact h)
theorem dStore16_sem (v : Int) (dv : Int) (b : Mo.Bd) (K : S → List Ob → Prop) (h : dStore16_T v dv b K) : CallSem noW Tryz.prog 25 [.ptr 0 (.l 0), .il .u32 268697616, .iv .u32 v] (h_B1n dv b) K := iv_call (callL_ok tok (by kernel_rfl) ffArEok stopArE_ok _ _ _ _ (Eq.mpr (dStore16_run v dv b K) (dStore16_all v dv b K h)))
noncomputable def dStore16_con : Con := ⟨[.ptr 0, .same (.il .u32 268697616), .int .u32], t_B1n, fun a K => match a with | ⟨[v, dv], [], [], [cs_b_k, cs_b_w, cs_b_t, cs_b_r, cs_b_l, cs_b_c]⟩ => (match Mo.Cl.is cs_b_k with | true => (match Mo.Wd.is cs_b_w with | true => (match Mo.Rt.is cs_b_t with | true => (match Mo.Rs.is cs_b_r with | true => (match Mo.Ln.is cs_b_l with | true => (match Mo.Cnt.is cs_b_c with | true => dStore16_T v dv (Mo.Bd.mk (Mo.Cl.of cs_b_k) (Mo.Wd.of cs_b_w) (Mo.Rt.of cs_b_t) (Mo.Rs.of cs_b_r) (Mo.Ln.of cs_b_l) (Mo.Cnt.of cs_b_c)) K | false => False) | false => False) | false => False) | false => False) | false => False) | false => False) | _ => False⟩
theorem dStore16_ok : dStore16_con.ok noW Tryz.prog 25 := by
  intro a K h
  simp only [dStore16_con] at h
  split at h
  case h_2 => exact h.elim
  split at h
  case h_2 => exact h.elim
  rename_i is_b_k
  split at h
  case h_2 => exact h.elim
  rename_i is_b_w
  split at h
  case h_2 => exact h.elim
  rename_i is_b_t
  split at h
  case h_2 => exact h.elim
  rename_i is_b_r
  split at h
  case h_2 => exact h.elim
  rename_i is_b_l
  split at h
  case h_2 => exact h.elim
  rename_i is_b_c
  exact CallSem.objs (dStore16_sem _ _ _ K h) (fun _ _ _ h => h) ⟨WkO.same (fun cs h => by cases h), WkO.cells (Mo.Cl.is_ok is_b_k), WkO.same (fun cs h => by cases h), WkO.cells (Mo.Wd.is_ok is_b_w), WkO.cells (Mo.Rt.is_ok is_b_t), WkO.cells (Mo.Rs.is_ok is_b_r), WkO.cells (Mo.Ln.is_ok is_b_l), WkO.same (fun cs h => by cases h), WkO.same (fun cs h => by cases h), WkO.same (fun cs h => by cases h), WkO.cells (Mo.Cnt.is_ok is_b_c), trivial⟩
noncomputable def Mo.dStore20_v1 (v : Int) (b : Mo.Bd) : Mo.Bd := (Mo.dSettle_v1 (Mo.uStore20_v1 v b))
noncomputable def Mo.dStore20_pre (v : Int) (b : Mo.Bd) : Prop := (Mo.dSettle_pre (Mo.uStore20_v1 v b))
noncomputable def dStore20_tree (v : Int) (dv : Int) (b : Mo.Bd) (K : S → List Ob → Prop) : Prop := (True ∧ (((1 : Int) = 1) ∧ (((1 : Int) = 1) ∧ ((Mo.dSettle_pre (Mo.uStore20_v1 v b)) ∧ K (.il .i64 0) (h_B1n dv (Mo.dSettle_v1 (Mo.uStore20_v1 v b)))))))
theorem dStore20_run (v : Int) (dv : Int) (b : Mo.Bd) (K : S → List Ob → Prop) : callL (std noW) tt ffArE stopArE noL 6 25 [.ptr 0 (.l 0), .il .u32 268697620, .iv .u32 v] (h_B1n dv b) (gcK 11 (ivK false K)) = dStore20_tree v dv b K := by kernel_rfl
noncomputable def dStore20_T (v : Int) (dv : Int) (b : Mo.Bd) (K : S → List Ob → Prop) : Prop := Mo.dStore20_pre v b ∧ K (.il .i64 0) (h_B1n dv (Mo.dStore20_v1 v b))
theorem dStore20_all (v : Int) (dv : Int) (b : Mo.Bd) (K : S → List Ob → Prop) (h : dStore20_T v dv b K) : dStore20_tree v dv b K := by
  unfold dStore20_T at h; obtain ⟨h0, h⟩ := h; unfold dStore20_tree
  try simp only [Mo.dStore20_v1] at h0 h
  try simp only [Mo.dStore20_pre] at h0 h
  refine ⟨?_, ?_⟩
  trivial
  refine ⟨rfl, ?_⟩
  refine ⟨rfl, ?_⟩
  refine ⟨h0, ?_⟩
  first | exact h | contradiction | (simp only [if_true, if_false, Bool.false_eq_true] at h; exact h)
theorem dStore20_sem (v : Int) (dv : Int) (b : Mo.Bd) (K : S → List Ob → Prop) (h : dStore20_T v dv b K) : CallSem noW Tryz.prog 25 [.ptr 0 (.l 0), .il .u32 268697620, .iv .u32 v] (h_B1n dv b) K := iv_call (callL_ok tok (by kernel_rfl) ffArEok stopArE_ok _ _ _ _ (Eq.mpr (dStore20_run v dv b K) (dStore20_all v dv b K h)))
noncomputable def dStore20_con : Con := ⟨[.ptr 0, .same (.il .u32 268697620), .int .u32], t_B1n, fun a K => match a with | ⟨[v, dv], [], [], [cs_b_k, cs_b_w, cs_b_t, cs_b_r, cs_b_l, cs_b_c]⟩ => (match Mo.Cl.is cs_b_k with | true => (match Mo.Wd.is cs_b_w with | true => (match Mo.Rt.is cs_b_t with | true => (match Mo.Rs.is cs_b_r with | true => (match Mo.Ln.is cs_b_l with | true => (match Mo.Cnt.is cs_b_c with | true => dStore20_T v dv (Mo.Bd.mk (Mo.Cl.of cs_b_k) (Mo.Wd.of cs_b_w) (Mo.Rt.of cs_b_t) (Mo.Rs.of cs_b_r) (Mo.Ln.of cs_b_l) (Mo.Cnt.of cs_b_c)) K | false => False) | false => False) | false => False) | false => False) | false => False) | false => False) | _ => False⟩
theorem dStore20_ok : dStore20_con.ok noW Tryz.prog 25 := by
  intro a K h
  simp only [dStore20_con] at h
  split at h
  case h_2 => exact h.elim
  split at h
  case h_2 => exact h.elim
  rename_i is_b_k
  split at h
  case h_2 => exact h.elim
  rename_i is_b_w
  split at h
  case h_2 => exact h.elim
  rename_i is_b_t
  split at h
  case h_2 => exact h.elim
  rename_i is_b_r
  split at h
  case h_2 => exact h.elim
  rename_i is_b_l
  split at h
  case h_2 => exact h.elim
  rename_i is_b_c
  exact CallSem.objs (dStore20_sem _ _ _ K h) (fun _ _ _ h => h) ⟨WkO.same (fun cs h => by cases h), WkO.cells (Mo.Cl.is_ok is_b_k), WkO.same (fun cs h => by cases h), WkO.cells (Mo.Wd.is_ok is_b_w), WkO.cells (Mo.Rt.is_ok is_b_t), WkO.cells (Mo.Rs.is_ok is_b_r), WkO.cells (Mo.Ln.is_ok is_b_l), WkO.same (fun cs h => by cases h), WkO.same (fun cs h => by cases h), WkO.same (fun cs h => by cases h), WkO.cells (Mo.Cnt.is_ok is_b_c), trivial⟩
noncomputable def Mo.dStore24_v1 (v : Int) (b : Mo.Bd) : Mo.Bd := (Mo.dSettle_v1 (Mo.uStore24_v1 v b))
noncomputable def Mo.dStore24_pre (v : Int) (b : Mo.Bd) : Prop := (Mo.dSettle_pre (Mo.uStore24_v1 v b))
noncomputable def dStore24_tree (v : Int) (dv : Int) (b : Mo.Bd) (K : S → List Ob → Prop) : Prop := (True ∧ (((1 : Int) = 1) ∧ (((1 : Int) = 1) ∧ ((Mo.dSettle_pre (Mo.uStore24_v1 v b)) ∧ K (.il .i64 0) (h_B1n dv (Mo.dSettle_v1 (Mo.uStore24_v1 v b)))))))
theorem dStore24_run (v : Int) (dv : Int) (b : Mo.Bd) (K : S → List Ob → Prop) : callL (std noW) tt ffArE stopArE noL 6 25 [.ptr 0 (.l 0), .il .u32 268697624, .iv .u32 v] (h_B1n dv b) (gcK 11 (ivK false K)) = dStore24_tree v dv b K := by kernel_rfl
noncomputable def dStore24_T (v : Int) (dv : Int) (b : Mo.Bd) (K : S → List Ob → Prop) : Prop := Mo.dStore24_pre v b ∧ K (.il .i64 0) (h_B1n dv (Mo.dStore24_v1 v b))
theorem dStore24_all (v : Int) (dv : Int) (b : Mo.Bd) (K : S → List Ob → Prop) (h : dStore24_T v dv b K) : dStore24_tree v dv b K := by
  unfold dStore24_T at h; obtain ⟨h0, h⟩ := h; unfold dStore24_tree
  try simp only [Mo.dStore24_v1] at h0 h
  try simp only [Mo.dStore24_pre] at h0 h
  refine ⟨?_, ?_⟩
  trivial
  refine ⟨rfl, ?_⟩
  refine ⟨rfl, ?_⟩
  refine ⟨h0, ?_⟩
  first | exact h | contradiction | (simp only [if_true, if_false, Bool.false_eq_true] at h; exact h)
theorem dStore24_sem (v : Int) (dv : Int) (b : Mo.Bd) (K : S → List Ob → Prop) (h : dStore24_T v dv b K) : CallSem noW Tryz.prog 25 [.ptr 0 (.l 0), .il .u32 268697624, .iv .u32 v] (h_B1n dv b) K := iv_call (callL_ok tok (by kernel_rfl) ffArEok stopArE_ok _ _ _ _ (Eq.mpr (dStore24_run v dv b K) (dStore24_all v dv b K h)))
noncomputable def dStore24_con : Con := ⟨[.ptr 0, .same (.il .u32 268697624), .int .u32], t_B1n, fun a K => match a with | ⟨[v, dv], [], [], [cs_b_k, cs_b_w, cs_b_t, cs_b_r, cs_b_l, cs_b_c]⟩ => (match Mo.Cl.is cs_b_k with | true => (match Mo.Wd.is cs_b_w with | true => (match Mo.Rt.is cs_b_t with | true => (match Mo.Rs.is cs_b_r with | true => (match Mo.Ln.is cs_b_l with | true => (match Mo.Cnt.is cs_b_c with | true => dStore24_T v dv (Mo.Bd.mk (Mo.Cl.of cs_b_k) (Mo.Wd.of cs_b_w) (Mo.Rt.of cs_b_t) (Mo.Rs.of cs_b_r) (Mo.Ln.of cs_b_l) (Mo.Cnt.of cs_b_c)) K | false => False) | false => False) | false => False) | false => False) | false => False) | false => False) | _ => False⟩
theorem dStore24_ok : dStore24_con.ok noW Tryz.prog 25 := by
  intro a K h
  simp only [dStore24_con] at h
  split at h
  case h_2 => exact h.elim
  split at h
  case h_2 => exact h.elim
  rename_i is_b_k
  split at h
  case h_2 => exact h.elim
  rename_i is_b_w
  split at h
  case h_2 => exact h.elim
  rename_i is_b_t
  split at h
  case h_2 => exact h.elim
  rename_i is_b_r
  split at h
  case h_2 => exact h.elim
  rename_i is_b_l
  split at h
  case h_2 => exact h.elim
  rename_i is_b_c
  exact CallSem.objs (dStore24_sem _ _ _ K h) (fun _ _ _ h => h) ⟨WkO.same (fun cs h => by cases h), WkO.cells (Mo.Cl.is_ok is_b_k), WkO.same (fun cs h => by cases h), WkO.cells (Mo.Wd.is_ok is_b_w), WkO.cells (Mo.Rt.is_ok is_b_t), WkO.cells (Mo.Rs.is_ok is_b_r), WkO.cells (Mo.Ln.is_ok is_b_l), WkO.same (fun cs h => by cases h), WkO.same (fun cs h => by cases h), WkO.same (fun cs h => by cases h), WkO.cells (Mo.Cnt.is_ok is_b_c), trivial⟩
noncomputable def Mo.dStore28_v1 (v : Int) (b : Mo.Bd) : Mo.Bd := (Mo.dSettle_v1 (Mo.uStore28_v1 v b))
noncomputable def Mo.dStore28_pre (v : Int) (b : Mo.Bd) : Prop := (Mo.dSettle_pre (Mo.uStore28_v1 v b))
noncomputable def dStore28_tree (v : Int) (dv : Int) (b : Mo.Bd) (K : S → List Ob → Prop) : Prop := (True ∧ (((1 : Int) = 1) ∧ (((1 : Int) = 1) ∧ ((Mo.dSettle_pre (Mo.uStore28_v1 v b)) ∧ K (.il .i64 0) (h_B1n dv (Mo.dSettle_v1 (Mo.uStore28_v1 v b)))))))
theorem dStore28_run (v : Int) (dv : Int) (b : Mo.Bd) (K : S → List Ob → Prop) : callL (std noW) tt ffArE stopArE noL 6 25 [.ptr 0 (.l 0), .il .u32 268697628, .iv .u32 v] (h_B1n dv b) (gcK 11 (ivK false K)) = dStore28_tree v dv b K := by kernel_rfl
noncomputable def dStore28_T (v : Int) (dv : Int) (b : Mo.Bd) (K : S → List Ob → Prop) : Prop := Mo.dStore28_pre v b ∧ K (.il .i64 0) (h_B1n dv (Mo.dStore28_v1 v b))
theorem dStore28_all (v : Int) (dv : Int) (b : Mo.Bd) (K : S → List Ob → Prop) (h : dStore28_T v dv b K) : dStore28_tree v dv b K := by
  unfold dStore28_T at h; obtain ⟨h0, h⟩ := h; unfold dStore28_tree
  try simp only [Mo.dStore28_v1] at h0 h
  try simp only [Mo.dStore28_pre] at h0 h
  refine ⟨?_, ?_⟩
  trivial
  refine ⟨rfl, ?_⟩
  refine ⟨rfl, ?_⟩
  refine ⟨h0, ?_⟩
  first | exact h | contradiction | (simp only [if_true, if_false, Bool.false_eq_true] at h; exact h)
theorem dStore28_sem (v : Int) (dv : Int) (b : Mo.Bd) (K : S → List Ob → Prop) (h : dStore28_T v dv b K) : CallSem noW Tryz.prog 25 [.ptr 0 (.l 0), .il .u32 268697628, .iv .u32 v] (h_B1n dv b) K := iv_call (callL_ok tok (by kernel_rfl) ffArEok stopArE_ok _ _ _ _ (Eq.mpr (dStore28_run v dv b K) (dStore28_all v dv b K h)))
noncomputable def dStore28_con : Con := ⟨[.ptr 0, .same (.il .u32 268697628), .int .u32], t_B1n, fun a K => match a with | ⟨[v, dv], [], [], [cs_b_k, cs_b_w, cs_b_t, cs_b_r, cs_b_l, cs_b_c]⟩ => (match Mo.Cl.is cs_b_k with | true => (match Mo.Wd.is cs_b_w with | true => (match Mo.Rt.is cs_b_t with | true => (match Mo.Rs.is cs_b_r with | true => (match Mo.Ln.is cs_b_l with | true => (match Mo.Cnt.is cs_b_c with | true => dStore28_T v dv (Mo.Bd.mk (Mo.Cl.of cs_b_k) (Mo.Wd.of cs_b_w) (Mo.Rt.of cs_b_t) (Mo.Rs.of cs_b_r) (Mo.Ln.of cs_b_l) (Mo.Cnt.of cs_b_c)) K | false => False) | false => False) | false => False) | false => False) | false => False) | false => False) | _ => False⟩
theorem dStore28_ok : dStore28_con.ok noW Tryz.prog 25 := by
  intro a K h
  simp only [dStore28_con] at h
  split at h
  case h_2 => exact h.elim
  split at h
  case h_2 => exact h.elim
  rename_i is_b_k
  split at h
  case h_2 => exact h.elim
  rename_i is_b_w
  split at h
  case h_2 => exact h.elim
  rename_i is_b_t
  split at h
  case h_2 => exact h.elim
  rename_i is_b_r
  split at h
  case h_2 => exact h.elim
  rename_i is_b_l
  split at h
  case h_2 => exact h.elim
  rename_i is_b_c
  exact CallSem.objs (dStore28_sem _ _ _ K h) (fun _ _ _ h => h) ⟨WkO.same (fun cs h => by cases h), WkO.cells (Mo.Cl.is_ok is_b_k), WkO.same (fun cs h => by cases h), WkO.cells (Mo.Wd.is_ok is_b_w), WkO.cells (Mo.Rt.is_ok is_b_t), WkO.cells (Mo.Rs.is_ok is_b_r), WkO.cells (Mo.Ln.is_ok is_b_l), WkO.same (fun cs h => by cases h), WkO.same (fun cs h => by cases h), WkO.same (fun cs h => by cases h), WkO.cells (Mo.Cnt.is_ok is_b_c), trivial⟩
noncomputable def dLoad0_tree (dv : Int) (b : Mo.Bd) (K : S → List Ob → Prop) : Prop := (True ∧ K (.tup [(.iv .u32 (cvw (Mo.Rt.sec (Mo.Bd.t b)) 0)), (.il .i64 0)]) (h_B1n dv b))
theorem dLoad0_run (dv : Int) (b : Mo.Bd) (K : S → List Ob → Prop) : callL (std noW) tt ffArE stopArE noL 6 90 [.ptr 0 (.l 0), .il .u32 268697600] (h_B1n dv b) (gcK 11 (ivK false K)) = dLoad0_tree dv b K := by kernel_rfl
noncomputable def dLoad0_T (dv : Int) (b : Mo.Bd) (K : S → List Ob → Prop) : Prop := True ∧ K (.tup [(.iv .u32 (cvw (Mo.Rt.sec (Mo.Bd.t b)) 0)), (.il .i64 0)]) (h_B1n dv b)
theorem dLoad0_all (dv : Int) (b : Mo.Bd) (K : S → List Ob → Prop) (h : dLoad0_T dv b K) : dLoad0_tree dv b K := by
  unfold dLoad0_T at h; obtain ⟨h0, h⟩ := h; unfold dLoad0_tree
  refine ⟨?_, ?_⟩
  trivial
  first | exact h | contradiction | (simp only [if_true, if_false, Bool.false_eq_true] at h; exact h)
theorem dLoad0_sem (dv : Int) (b : Mo.Bd) (K : S → List Ob → Prop) (h : dLoad0_T dv b K) : CallSem noW Tryz.prog 90 [.ptr 0 (.l 0), .il .u32 268697600] (h_B1n dv b) K := iv_call (callL_ok tok (by kernel_rfl) ffArEok stopArE_ok _ _ _ _ (Eq.mpr (dLoad0_run dv b K) (dLoad0_all dv b K h)))
noncomputable def dLoad0_con : Con := ⟨[.ptr 0, .same (.il .u32 268697600)], t_B1n, fun a K => match a with | ⟨[dv], [], [], [cs_b_k, cs_b_w, cs_b_t, cs_b_r, cs_b_l, cs_b_c]⟩ => (match Mo.Cl.is cs_b_k with | true => (match Mo.Wd.is cs_b_w with | true => (match Mo.Rt.is cs_b_t with | true => (match Mo.Rs.is cs_b_r with | true => (match Mo.Ln.is cs_b_l with | true => (match Mo.Cnt.is cs_b_c with | true => dLoad0_T dv (Mo.Bd.mk (Mo.Cl.of cs_b_k) (Mo.Wd.of cs_b_w) (Mo.Rt.of cs_b_t) (Mo.Rs.of cs_b_r) (Mo.Ln.of cs_b_l) (Mo.Cnt.of cs_b_c)) K | false => False) | false => False) | false => False) | false => False) | false => False) | false => False) | _ => False⟩
theorem dLoad0_ok : dLoad0_con.ok noW Tryz.prog 90 := by
  intro a K h
  simp only [dLoad0_con] at h
  split at h
  case h_2 => exact h.elim
  split at h
  case h_2 => exact h.elim
  rename_i is_b_k
  split at h
  case h_2 => exact h.elim
  rename_i is_b_w
  split at h
  case h_2 => exact h.elim
  rename_i is_b_t
  split at h
  case h_2 => exact h.elim
  rename_i is_b_r
  split at h
  case h_2 => exact h.elim
  rename_i is_b_l
  split at h
  case h_2 => exact h.elim
  rename_i is_b_c
  exact CallSem.objs (dLoad0_sem _ _ K h) (fun _ _ _ h => h) ⟨WkO.same (fun cs h => by cases h), WkO.cells (Mo.Cl.is_ok is_b_k), WkO.same (fun cs h => by cases h), WkO.cells (Mo.Wd.is_ok is_b_w), WkO.cells (Mo.Rt.is_ok is_b_t), WkO.cells (Mo.Rs.is_ok is_b_r), WkO.cells (Mo.Ln.is_ok is_b_l), WkO.same (fun cs h => by cases h), WkO.same (fun cs h => by cases h), WkO.same (fun cs h => by cases h), WkO.cells (Mo.Cnt.is_ok is_b_c), trivial⟩
noncomputable def dLoad4_tree (dv : Int) (b : Mo.Bd) (K : S → List Ob → Prop) : Prop := (True ∧ K (.tup [(.iv .u32 (cvw (srq (Mo.Rt.sec (Mo.Bd.t b)) 32) 0)), (.il .i64 0)]) (h_B1n dv b))
theorem dLoad4_run (dv : Int) (b : Mo.Bd) (K : S → List Ob → Prop) : callL (std noW) tt ffArE stopArE noL 6 90 [.ptr 0 (.l 0), .il .u32 268697604] (h_B1n dv b) (gcK 11 (ivK false K)) = dLoad4_tree dv b K := by kernel_rfl
noncomputable def dLoad4_T (dv : Int) (b : Mo.Bd) (K : S → List Ob → Prop) : Prop := True ∧ K (.tup [(.iv .u32 (cvw (srq (Mo.Rt.sec (Mo.Bd.t b)) 32) 0)), (.il .i64 0)]) (h_B1n dv b)
theorem dLoad4_all (dv : Int) (b : Mo.Bd) (K : S → List Ob → Prop) (h : dLoad4_T dv b K) : dLoad4_tree dv b K := by
  unfold dLoad4_T at h; obtain ⟨h0, h⟩ := h; unfold dLoad4_tree
  refine ⟨?_, ?_⟩
  trivial
  first | exact h | contradiction | (simp only [if_true, if_false, Bool.false_eq_true] at h; exact h)
theorem dLoad4_sem (dv : Int) (b : Mo.Bd) (K : S → List Ob → Prop) (h : dLoad4_T dv b K) : CallSem noW Tryz.prog 90 [.ptr 0 (.l 0), .il .u32 268697604] (h_B1n dv b) K := iv_call (callL_ok tok (by kernel_rfl) ffArEok stopArE_ok _ _ _ _ (Eq.mpr (dLoad4_run dv b K) (dLoad4_all dv b K h)))
noncomputable def dLoad4_con : Con := ⟨[.ptr 0, .same (.il .u32 268697604)], t_B1n, fun a K => match a with | ⟨[dv], [], [], [cs_b_k, cs_b_w, cs_b_t, cs_b_r, cs_b_l, cs_b_c]⟩ => (match Mo.Cl.is cs_b_k with | true => (match Mo.Wd.is cs_b_w with | true => (match Mo.Rt.is cs_b_t with | true => (match Mo.Rs.is cs_b_r with | true => (match Mo.Ln.is cs_b_l with | true => (match Mo.Cnt.is cs_b_c with | true => dLoad4_T dv (Mo.Bd.mk (Mo.Cl.of cs_b_k) (Mo.Wd.of cs_b_w) (Mo.Rt.of cs_b_t) (Mo.Rs.of cs_b_r) (Mo.Ln.of cs_b_l) (Mo.Cnt.of cs_b_c)) K | false => False) | false => False) | false => False) | false => False) | false => False) | false => False) | _ => False⟩
theorem dLoad4_ok : dLoad4_con.ok noW Tryz.prog 90 := by
  intro a K h
  simp only [dLoad4_con] at h
  split at h
  case h_2 => exact h.elim
  split at h
  case h_2 => exact h.elim
  rename_i is_b_k
  split at h
  case h_2 => exact h.elim
  rename_i is_b_w
  split at h
  case h_2 => exact h.elim
  rename_i is_b_t
  split at h
  case h_2 => exact h.elim
  rename_i is_b_r
  split at h
  case h_2 => exact h.elim
  rename_i is_b_l
  split at h
  case h_2 => exact h.elim
  rename_i is_b_c
  exact CallSem.objs (dLoad4_sem _ _ K h) (fun _ _ _ h => h) ⟨WkO.same (fun cs h => by cases h), WkO.cells (Mo.Cl.is_ok is_b_k), WkO.same (fun cs h => by cases h), WkO.cells (Mo.Wd.is_ok is_b_w), WkO.cells (Mo.Rt.is_ok is_b_t), WkO.cells (Mo.Rs.is_ok is_b_r), WkO.cells (Mo.Ln.is_ok is_b_l), WkO.same (fun cs h => by cases h), WkO.same (fun cs h => by cases h), WkO.same (fun cs h => by cases h), WkO.cells (Mo.Cnt.is_ok is_b_c), trivial⟩
noncomputable def dLoad28_tree (dv : Int) (b : Mo.Bd) (K : S → List Ob → Prop) : Prop := (True ∧ K (.tup [(.iv .u32 (Mo.tLoad28_v1 (Mo.Bd.t b))), (.il .i64 0)]) (h_B1n dv b))
theorem dLoad28_run (dv : Int) (b : Mo.Bd) (K : S → List Ob → Prop) : callL (std noW) tt ffArE stopArE noL 6 90 [.ptr 0 (.l 0), .il .u32 268697628] (h_B1n dv b) (gcK 11 (ivK false K)) = dLoad28_tree dv b K := by kernel_rfl
noncomputable def dLoad28_T (dv : Int) (b : Mo.Bd) (K : S → List Ob → Prop) : Prop := True ∧ K (.tup [(.iv .u32 (Mo.tLoad28_v1 (Mo.Bd.t b))), (.il .i64 0)]) (h_B1n dv b)
theorem dLoad28_all (dv : Int) (b : Mo.Bd) (K : S → List Ob → Prop) (h : dLoad28_T dv b K) : dLoad28_tree dv b K := by
  unfold dLoad28_T at h; obtain ⟨h0, h⟩ := h; unfold dLoad28_tree
  refine ⟨?_, ?_⟩
  trivial
  first | exact h | contradiction | (simp only [if_true, if_false, Bool.false_eq_true] at h; exact h)
theorem dLoad28_sem (dv : Int) (b : Mo.Bd) (K : S → List Ob → Prop) (h : dLoad28_T dv b K) : CallSem noW Tryz.prog 90 [.ptr 0 (.l 0), .il .u32 268697628] (h_B1n dv b) K := iv_call (callL_ok tok (by kernel_rfl) ffArEok stopArE_ok _ _ _ _ (Eq.mpr (dLoad28_run dv b K) (dLoad28_all dv b K h)))
noncomputable def dLoad28_con : Con := ⟨[.ptr 0, .same (.il .u32 268697628)], t_B1n, fun a K => match a with | ⟨[dv], [], [], [cs_b_k, cs_b_w, cs_b_t, cs_b_r, cs_b_l, cs_b_c]⟩ => (match Mo.Cl.is cs_b_k with | true => (match Mo.Wd.is cs_b_w with | true => (match Mo.Rt.is cs_b_t with | true => (match Mo.Rs.is cs_b_r with | true => (match Mo.Ln.is cs_b_l with | true => (match Mo.Cnt.is cs_b_c with | true => dLoad28_T dv (Mo.Bd.mk (Mo.Cl.of cs_b_k) (Mo.Wd.of cs_b_w) (Mo.Rt.of cs_b_t) (Mo.Rs.of cs_b_r) (Mo.Ln.of cs_b_l) (Mo.Cnt.of cs_b_c)) K | false => False) | false => False) | false => False) | false => False) | false => False) | false => False) | _ => False⟩
theorem dLoad28_ok : dLoad28_con.ok noW Tryz.prog 90 := by
  intro a K h
  simp only [dLoad28_con] at h
  split at h
  case h_2 => exact h.elim
  split at h
  case h_2 => exact h.elim
  rename_i is_b_k
  split at h
  case h_2 => exact h.elim
  rename_i is_b_w
  split at h
  case h_2 => exact h.elim
  rename_i is_b_t
  split at h
  case h_2 => exact h.elim
  rename_i is_b_r
  split at h
  case h_2 => exact h.elim
  rename_i is_b_l
  split at h
  case h_2 => exact h.elim
  rename_i is_b_c
  exact CallSem.objs (dLoad28_sem _ _ K h) (fun _ _ _ h => h) ⟨WkO.same (fun cs h => by cases h), WkO.cells (Mo.Cl.is_ok is_b_k), WkO.same (fun cs h => by cases h), WkO.cells (Mo.Wd.is_ok is_b_w), WkO.cells (Mo.Rt.is_ok is_b_t), WkO.cells (Mo.Rs.is_ok is_b_r), WkO.cells (Mo.Ln.is_ok is_b_l), WkO.same (fun cs h => by cases h), WkO.same (fun cs h => by cases h), WkO.same (fun cs h => by cases h), WkO.cells (Mo.Cnt.is_ok is_b_c), trivial⟩
noncomputable def dHigh_tree (dv : Int) (b : Mo.Bd) (K : S → List Ob → Prop) : Prop := (True ∧ K (.iv .u32 (Mo.Ln.high (Mo.Bd.l b))) (h_B1n dv b))
theorem dHigh_run (dv : Int) (b : Mo.Bd) (K : S → List Ob → Prop) : callL (std noW) tt ffArE stopArE noL 6 84 [.ptr 0 (.l 0)] (h_B1n dv b) (gcK 11 (ivK false K)) = dHigh_tree dv b K := by kernel_rfl
noncomputable def dHigh_T (dv : Int) (b : Mo.Bd) (K : S → List Ob → Prop) : Prop := True ∧ K (.iv .u32 (Mo.Ln.high (Mo.Bd.l b))) (h_B1n dv b)
theorem dHigh_all (dv : Int) (b : Mo.Bd) (K : S → List Ob → Prop) (h : dHigh_T dv b K) : dHigh_tree dv b K := by
  unfold dHigh_T at h; obtain ⟨h0, h⟩ := h; unfold dHigh_tree
  refine ⟨?_, ?_⟩
  trivial
  first | exact h | contradiction | (simp only [if_true, if_false, Bool.false_eq_true] at h; exact h)
theorem dHigh_sem (dv : Int) (b : Mo.Bd) (K : S → List Ob → Prop) (h : dHigh_T dv b K) : CallSem noW Tryz.prog 84 [.ptr 0 (.l 0)] (h_B1n dv b) K := iv_call (callL_ok tok (by kernel_rfl) ffArEok stopArE_ok _ _ _ _ (Eq.mpr (dHigh_run dv b K) (dHigh_all dv b K h)))
noncomputable def dHigh_con : Con := ⟨[.ptr 0], t_B1n, fun a K => match a with | ⟨[dv], [], [], [cs_b_k, cs_b_w, cs_b_t, cs_b_r, cs_b_l, cs_b_c]⟩ => (match Mo.Cl.is cs_b_k with | true => (match Mo.Wd.is cs_b_w with | true => (match Mo.Rt.is cs_b_t with | true => (match Mo.Rs.is cs_b_r with | true => (match Mo.Ln.is cs_b_l with | true => (match Mo.Cnt.is cs_b_c with | true => dHigh_T dv (Mo.Bd.mk (Mo.Cl.of cs_b_k) (Mo.Wd.of cs_b_w) (Mo.Rt.of cs_b_t) (Mo.Rs.of cs_b_r) (Mo.Ln.of cs_b_l) (Mo.Cnt.of cs_b_c)) K | false => False) | false => False) | false => False) | false => False) | false => False) | false => False) | _ => False⟩
theorem dHigh_ok : dHigh_con.ok noW Tryz.prog 84 := by
  intro a K h
  simp only [dHigh_con] at h
  split at h
  case h_2 => exact h.elim
  split at h
  case h_2 => exact h.elim
  rename_i is_b_k
  split at h
  case h_2 => exact h.elim
  rename_i is_b_w
  split at h
  case h_2 => exact h.elim
  rename_i is_b_t
  split at h
  case h_2 => exact h.elim
  rename_i is_b_r
  split at h
  case h_2 => exact h.elim
  rename_i is_b_l
  split at h
  case h_2 => exact h.elim
  rename_i is_b_c
  exact CallSem.objs (dHigh_sem _ _ K h) (fun _ _ _ h => h) ⟨WkO.same (fun cs h => by cases h), WkO.cells (Mo.Cl.is_ok is_b_k), WkO.same (fun cs h => by cases h), WkO.cells (Mo.Wd.is_ok is_b_w), WkO.cells (Mo.Rt.is_ok is_b_t), WkO.cells (Mo.Rs.is_ok is_b_r), WkO.cells (Mo.Ln.is_ok is_b_l), WkO.same (fun cs h => by cases h), WkO.same (fun cs h => by cases h), WkO.same (fun cs h => by cases h), WkO.cells (Mo.Cnt.is_ok is_b_c), trivial⟩
noncomputable def dResets_tree (dv : Int) (b : Mo.Bd) (K : S → List Ob → Prop) : Prop := K (.raw (.slice none 0 0)) (h_B1n dv b)
theorem dResets_run (dv : Int) (b : Mo.Bd) (K : S → List Ob → Prop) : callL (std noW) tt ffArE stopArE noL 8 45 [.ptr 0 (.l 0)] (h_B1n dv b) (gcK 11 (ivK false K)) = dResets_tree dv b K := by kernel_rfl
noncomputable def dResets_T (dv : Int) (b : Mo.Bd) (K : S → List Ob → Prop) : Prop := True ∧ K (.raw (.slice none 0 0)) (h_B1n dv b)
theorem dResets_all (dv : Int) (b : Mo.Bd) (K : S → List Ob → Prop) (h : dResets_T dv b K) : dResets_tree dv b K := by
  unfold dResets_T at h; obtain ⟨h0, h⟩ := h; unfold dResets_tree
  first | exact h | contradiction | (simp only [if_true, if_false, Bool.false_eq_true] at h; exact h)
theorem dResets_sem (dv : Int) (b : Mo.Bd) (K : S → List Ob → Prop) (h : dResets_T dv b K) : CallSem noW Tryz.prog 45 [.ptr 0 (.l 0)] (h_B1n dv b) K := iv_call (callL_ok tok (by kernel_rfl) ffArEok stopArE_ok _ _ _ _ (Eq.mpr (dResets_run dv b K) (dResets_all dv b K h)))
noncomputable def dResets_con : Con := ⟨[.ptr 0], t_B1n, fun a K => match a with | ⟨[dv], [], [], [cs_b_k, cs_b_w, cs_b_t, cs_b_r, cs_b_l, cs_b_c]⟩ => (match Mo.Cl.is cs_b_k with | true => (match Mo.Wd.is cs_b_w with | true => (match Mo.Rt.is cs_b_t with | true => (match Mo.Rs.is cs_b_r with | true => (match Mo.Ln.is cs_b_l with | true => (match Mo.Cnt.is cs_b_c with | true => dResets_T dv (Mo.Bd.mk (Mo.Cl.of cs_b_k) (Mo.Wd.of cs_b_w) (Mo.Rt.of cs_b_t) (Mo.Rs.of cs_b_r) (Mo.Ln.of cs_b_l) (Mo.Cnt.of cs_b_c)) K | false => False) | false => False) | false => False) | false => False) | false => False) | false => False) | _ => False⟩
theorem dResets_ok : dResets_con.ok noW Tryz.prog 45 := by
  intro a K h
  simp only [dResets_con] at h
  split at h
  case h_2 => exact h.elim
  split at h
  case h_2 => exact h.elim
  rename_i is_b_k
  split at h
  case h_2 => exact h.elim
  rename_i is_b_w
  split at h
  case h_2 => exact h.elim
  rename_i is_b_t
  split at h
  case h_2 => exact h.elim
  rename_i is_b_r
  split at h
  case h_2 => exact h.elim
  rename_i is_b_l
  split at h
  case h_2 => exact h.elim
  rename_i is_b_c
  exact CallSem.objs (dResets_sem _ _ K h) (fun _ _ _ h => h) ⟨WkO.same (fun cs h => by cases h), WkO.cells (Mo.Cl.is_ok is_b_k), WkO.same (fun cs h => by cases h), WkO.cells (Mo.Wd.is_ok is_b_w), WkO.cells (Mo.Rt.is_ok is_b_t), WkO.cells (Mo.Rs.is_ok is_b_r), WkO.cells (Mo.Ln.is_ok is_b_l), WkO.same (fun cs h => by cases h), WkO.same (fun cs h => by cases h), WkO.same (fun cs h => by cases h), WkO.cells (Mo.Cnt.is_ok is_b_c), trivial⟩
noncomputable def dRtc_tree (dv : Int) (b : Mo.Bd) (K : S → List Ob → Prop) : Prop := K (.ptr 11 (.l 0)) [(.cells 131 [(.ptr 1 (.l 0)), (.ptr 2 (.l 0)), (.ptr 3 (.l 0)), (.ptr 4 (.l 0)), (.ptr 5 (.l 0)), (.ptr 6 (.l 0)), (.ptr 7 (.l 0)), (.iv .i64 1), (.iv .i64 1), (.iv .u32 dv), (.raw (.slice none 0 0))]), (.cells 183 (Mo.Cl.cells (Mo.Bd.k b))), (.cells 188 [(.sli 8 (.l 0) (.l 1) (.lit (.l 1)) false)]), (.cells 194 (Mo.Wd.cells (Mo.Bd.w b))), (.cells 190 (Mo.Rt.cells (Mo.Bd.t b))), (.cells 200 (Mo.Rs.cells (Mo.Bd.r b))), (.cells 204 (Mo.Ln.cells (Mo.Bd.l b))), (.cells 227 [(.mp 9)]), (.row 185 1 (.l 1) [(.ptr 10 (.l 0))]), (.mapo [(.agg [(.il .u32 33554432), (.il .u32 49152)]), (.agg [(.il .u32 268500992), (.il .u32 256)]), (.agg [(.il .u32 268566528), (.il .u32 20)]), (.agg [(.il .u32 268632064), (.il .u32 16)]), (.agg [(.il .u32 268697600), (.il .u32 36)]), (.agg [(.il .u32 268763136), (.il .u32 12)])] [(.ifc 107 (.ptr 1 (.l 0))), (.ifc 110 (.ptr 2 (.l 0))), (.ifc 119 (.ptr 3 (.l 0))), (.ifc 125 (.ptr 5 (.l 0))), (.ifc 44 (.ptr 4 (.l 0))), (.ifc 127 (.ptr 6 (.l 0)))]), (.cells 246 (Mo.Cnt.cells (Mo.Bd.c b))), (.cells 190 (Mo.Rt.cells (Mo.Bd.t b)))]
theorem dRtc_run (dv : Int) (b : Mo.Bd) (K : S → List Ob → Prop) : callL (std noW) tt ffArE stopArE noL 8 22 [.ptr 0 (.l 0)] (h_B1n dv b) (gcK 11 (ivK false K)) = dRtc_tree dv b K := by kernel_rfl
noncomputable def dRtc_T (dv : Int) (b : Mo.Bd) (K : S → List Ob → Prop) : Prop := True ∧ K (.ptr 11 (.l 0)) [(.cells 131 [(.ptr 1 (.l 0)), (.ptr 2 (.l 0)), (.ptr 3 (.l 0)), (.ptr 4 (.l 0)), (.ptr 5 (.l 0)), (.ptr 6 (.l 0)), (.ptr 7 (.l 0)), (.iv .i64 1), (.iv .i64 1), (.iv .u32 dv), (.raw (.slice none 0 0))]), (.cells 183 (Mo.Cl.cells (Mo.Bd.k b))), (.cells 188 [(.sli 8 (.l 0) (.l 1) (.lit (.l 1)) false)]), (.cells 194 (Mo.Wd.cells (Mo.Bd.w b))), (.cells 190 (Mo.Rt.cells (Mo.Bd.t b))), (.cells 200 (Mo.Rs.cells (Mo.Bd.r b))), (.cells 204 (Mo.Ln.cells (Mo.Bd.l b))), (.cells 227 [(.mp 9)]), (.row 185 1 (.l 1) [(.ptr 10 (.l 0))]), (.mapo [(.agg [(.il .u32 33554432), (.il .u32 49152)]), (.agg [(.il .u32 268500992), (.il .u32 256)]), (.agg [(.il .u32 268566528), (.il .u32 20)]), (.agg [(.il .u32 268632064), (.il .u32 16)]), (.agg [(.il .u32 268697600), (.il .u32 36)]), (.agg [(.il .u32 268763136), (.il .u32 12)])] [(.ifc 107 (.ptr 1 (.l 0))), (.ifc 110 (.ptr 2 (.l 0))), (.ifc 119 (.ptr 3 (.l 0))), (.ifc 125 (.ptr 5 (.l 0))), (.ifc 44 (.ptr 4 (.l 0))), (.ifc 127 (.ptr 6 (.l 0)))]), (.cells 246 (Mo.Cnt.cells (Mo.Bd.c b))), (.cells 190 (Mo.Rt.cells (Mo.Bd.t b)))]
theorem dRtc_all (dv : Int) (b : Mo.Bd) (K : S → List Ob → Prop) (h : dRtc_T dv b K) : dRtc_tree dv b K := by
  unfold dRtc_T at h; obtain ⟨h0, h⟩ := h; unfold dRtc_tree
  first | exact h | contradiction | (simp only [if_true, if_false, Bool.false_eq_true] at h; exact h)
theorem dRtc_sem (dv : Int) (b : Mo.Bd) (K : S → List Ob → Prop) (h : dRtc_T dv b K) : CallSem noW Tryz.prog 22 [.ptr 0 (.l 0)] (h_B1n dv b) K := iv_call (callL_ok tok (by kernel_rfl) ffArEok stopArE_ok _ _ _ _ (Eq.mpr (dRtc_run dv b K) (dRtc_all dv b K h)))
noncomputable def dRtc_con : Con := ⟨[.ptr 0], t_B1n, fun a K => match a with | ⟨[dv], [], [], [cs_b_k, cs_b_w, cs_b_t, cs_b_r, cs_b_l, cs_b_c]⟩ => (match Mo.Cl.is cs_b_k with | true => (match Mo.Wd.is cs_b_w with | true => (match Mo.Rt.is cs_b_t with | true => (match Mo.Rs.is cs_b_r with | true => (match Mo.Ln.is cs_b_l with | true => (match Mo.Cnt.is cs_b_c with | true => dRtc_T dv (Mo.Bd.mk (Mo.Cl.of cs_b_k) (Mo.Wd.of cs_b_w) (Mo.Rt.of cs_b_t) (Mo.Rs.of cs_b_r) (Mo.Ln.of cs_b_l) (Mo.Cnt.of cs_b_c)) K | false => False) | false => False) | false => False) | false => False) | false => False) | false => False) | _ => False⟩
theorem dRtc_ok : dRtc_con.ok noW Tryz.prog 22 := by
  intro a K h
  simp only [dRtc_con] at h
  split at h
  case h_2 => exact h.elim
  split at h
  case h_2 => exact h.elim
  rename_i is_b_k
  split at h
  case h_2 => exact h.elim
  rename_i is_b_w
  split at h
  case h_2 => exact h.elim
  rename_i is_b_t
  split at h
  case h_2 => exact h.elim
  rename_i is_b_r
  split at h
  case h_2 => exact h.elim
  rename_i is_b_l
  split at h
  case h_2 => exact h.elim
  rename_i is_b_c
  exact CallSem.objs (dRtc_sem _ _ K h) (fun _ _ _ h => h) ⟨WkO.same (fun cs h => by cases h), WkO.cells (Mo.Cl.is_ok is_b_k), WkO.same (fun cs h => by cases h), WkO.cells (Mo.Wd.is_ok is_b_w), WkO.cells (Mo.Rt.is_ok is_b_t), WkO.cells (Mo.Rs.is_ok is_b_r), WkO.cells (Mo.Ln.is_ok is_b_l), WkO.same (fun cs h => by cases h), WkO.same (fun cs h => by cases h), WkO.same (fun cs h => by cases h), WkO.cells (Mo.Cnt.is_ok is_b_c), trivial⟩
noncomputable def tabArF (n : Nat) : List Con := match Nat.beq n 17 with | true => [dTick_con] | false => match Nat.beq n 25 with | true => [dStore8_con, dStore12_con, dStore16_con, dStore20_con, dStore24_con, dStore28_con] | false => match Nat.beq n 90 with | true => [dLoad0_con, dLoad4_con, dLoad28_con] | false => match Nat.beq n 84 with | true => [dHigh_con] | false => match Nat.beq n 45 with | true => [dResets_con] | false => match Nat.beq n 22 with | true => [dRtc_con] | false => tabArE n
theorem tabArF_ok : ∀ f, ∀ c ∈ tabArF f, c.ok noW Tryz.prog f := by
  intro f c hc
  unfold tabArF at hc
  split at hc
  · rename_i hf; have := Nat.eq_of_beq_eq_true hf; subst this
    simp only [List.mem_cons, List.not_mem_nil, or_false] at hc
    subst hc; exact dTick_ok
  split at hc
  · rename_i hf; have := Nat.eq_of_beq_eq_true hf; subst this
    simp only [List.mem_cons, List.not_mem_nil, or_false] at hc
    rcases hc with rfl | rfl | rfl | rfl | rfl | rfl
    · exact dStore8_ok
    · exact dStore12_ok
    · exact dStore16_ok
    · exact dStore20_ok
    · exact dStore24_ok
    · exact dStore28_ok
  split at hc
  · rename_i hf; have := Nat.eq_of_beq_eq_true hf; subst this
    simp only [List.mem_cons, List.not_mem_nil, or_false] at hc
    rcases hc with rfl | rfl | rfl
    · exact dLoad0_ok
    · exact dLoad4_ok
    · exact dLoad28_ok
  split at hc
  · rename_i hf; have := Nat.eq_of_beq_eq_true hf; subst this
    simp only [List.mem_cons, List.not_mem_nil, or_false] at hc
    subst hc; exact dHigh_ok
  split at hc
  · rename_i hf; have := Nat.eq_of_beq_eq_true hf; subst this
    simp only [List.mem_cons, List.not_mem_nil, or_false] at hc
    subst hc; exact dResets_ok
  split at hc
  · rename_i hf; have := Nat.eq_of_beq_eq_true hf; subst this
    simp only [List.mem_cons, List.not_mem_nil, or_false] at hc
    subst hc; exact dRtc_ok
  exact tabArE_ok f c hc
noncomputable def ffArF (n : Nat) : Option FI := match Nat.beq n 17 with | true => none | false => match Nat.beq n 25 with | true => none | false => match Nat.beq n 90 with | true => none | false => match Nat.beq n 84 with | true => none | false => match Nat.beq n 45 with | true => none | false => match Nat.beq n 22 with | true => none | false => ffArE n
theorem ffArFok : FOk Tryz.prog ffArF := fun f fi hf => by
  unfold ffArF at hf
  split at hf
  · cases hf
  split at hf
  · cases hf
  split at hf
  · cases hf
  split at hf
  · cases hf
  split at hf
  · cases hf
  split at hf
  · cases hf
  exact ffArEok f fi hf
noncomputable def stopArF : CallT := stopC tabArF stopB
theorem stopArF_ok : ∀ f args h K, stopArF f args h K → CallSem noW Tryz.prog f args h K := stopC_ok tabArF_ok stopB_ok
end Go.SX.Y
