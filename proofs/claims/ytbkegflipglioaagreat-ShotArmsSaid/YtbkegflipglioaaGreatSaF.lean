/- What Go functions come to (lifted). -/
import Derived.Test.YtbkegflipglioaaGreatSaE
set_option maxRecDepth 20000
namespace Go.SX.Y
open Go.Proofs Go.RowKit
noncomputable def Mo.dTick_e1 (n : Int) (harts : Int) (b : Mo.Bd) : Mo.Bd := Mo.dSettle_v1 harts { b with k := (Mo.kTick_v1 (Mo.wTick_v1 n (Mo.Bd.w b)) (Mo.Bd.k b)), w := (Mo.wTick_v2 n (Mo.Bd.w b)), t := (Mo.tTick_v1 (Mo.wTick_v1 n (Mo.Bd.w b)) (Mo.Bd.t b)), c := (Mo.cTick_v1 (Mo.wTick_v1 n (Mo.Bd.w b)) (Mo.Bd.c b)) }
noncomputable def Mo.dTick_v1 (n : Int) (harts : Int) (b : Mo.Bd) : Mo.Bd := (Mo.dTick_e1 n harts b)
noncomputable def Mo.dTick_pre (n : Int) (harts : Int) (b : Mo.Bd) : Prop := ((Mo.kTick_pre (Mo.wTick_v1 n (Mo.Bd.w b)) (Mo.Bd.k b)) ∧ ((Mo.nTick_pre (Mo.wTick_v1 n (Mo.Bd.w b)) (Mo.Bd.c b)) ∧ ((Mo.tTick_pre (Mo.wTick_v1 n (Mo.Bd.w b)) (Mo.Bd.t b)) ∧ (if ((iE (Mo.Wd.fault (Mo.wTick_v2 n (Mo.Bd.w b))) 0) = true) then (Mo.dSettle_pre harts { b with k := (Mo.kTick_v1 (Mo.wTick_v1 n (Mo.Bd.w b)) (Mo.Bd.k b)), w := (Mo.wTick_v2 n (Mo.Bd.w b)), t := (Mo.tTick_v1 (Mo.wTick_v1 n (Mo.Bd.w b)) (Mo.Bd.t b)), c := (Mo.cTick_v1 (Mo.wTick_v1 n (Mo.Bd.w b)) (Mo.Bd.c b)) }) else ((Mo.dSettle_pre harts { b with k := (Mo.kTick_v1 (Mo.wTick_v1 n (Mo.Bd.w b)) (Mo.Bd.k b)), w := (Mo.wTick_v2 n (Mo.Bd.w b)), t := (Mo.tTick_v1 (Mo.wTick_v1 n (Mo.Bd.w b)) (Mo.Bd.t b)), c := (Mo.cTick_v1 (Mo.wTick_v1 n (Mo.Bd.w b)) (Mo.Bd.c b)) }) ∧ False)))))
noncomputable def dTick_tree (n : Int) (harts : Int) (dv : Int) (b : Mo.Bd) (K : S → List Ob → Prop) : Prop := (True ∧ ((Mo.kTick_pre (Mo.wTick_v1 n (Mo.Bd.w b)) (Mo.Bd.k b)) ∧ ((Mo.nTick_pre (Mo.wTick_v1 n (Mo.Bd.w b)) (Mo.Bd.c b)) ∧ ((Mo.tTick_pre (Mo.wTick_v1 n (Mo.Bd.w b)) (Mo.Bd.t b)) ∧ (True ∧ (if ((iE (Mo.Wd.fault (Mo.wTick_v2 n (Mo.Bd.w b))) 0) = true) then (((1 : Int) = 1) ∧ ((Mo.dSettle_pre harts { b with k := (Mo.kTick_v1 (Mo.wTick_v1 n (Mo.Bd.w b)) (Mo.Bd.k b)), w := (Mo.wTick_v2 n (Mo.Bd.w b)), t := (Mo.tTick_v1 (Mo.wTick_v1 n (Mo.Bd.w b)) (Mo.Bd.t b)), c := (Mo.cTick_v1 (Mo.wTick_v1 n (Mo.Bd.w b)) (Mo.Bd.c b)) }) ∧ K (.tup []) (h_BD harts dv (Mo.dTick_e1 n harts b)))) else (((1 : Int) = 1) ∧ ((Mo.dSettle_pre harts { b with k := (Mo.kTick_v1 (Mo.wTick_v1 n (Mo.Bd.w b)) (Mo.Bd.k b)), w := (Mo.wTick_v2 n (Mo.Bd.w b)), t := (Mo.tTick_v1 (Mo.wTick_v1 n (Mo.Bd.w b)) (Mo.Bd.t b)), c := (Mo.cTick_v1 (Mo.wTick_v1 n (Mo.Bd.w b)) (Mo.Bd.c b)) }) ∧ False))))))))
theorem dTick_run (n : Int) (harts : Int) (dv : Int) (b : Mo.Bd) (K : S → List Ob → Prop) : callX (std noW) tt ffSaE stopSaE (lpB noW Tryz.prog) noL 2 17 [.ptr 0 (.l 0), .iv .u64 n] (h_BD harts dv b) (gcK 11 (ivK false K)) = dTick_tree n harts dv b K := by kernel_rfl
noncomputable def dTick_T (n : Int) (harts : Int) (dv : Int) (b : Mo.Bd) (K : S → List Ob → Prop) : Prop := Mo.dTick_pre n harts b ∧ K (.tup []) (h_BD harts dv (Mo.dTick_v1 n harts b))
theorem dTick_all (n : Int) (harts : Int) (dv : Int) (b : Mo.Bd) (K : S → List Ob → Prop) (h : dTick_T n harts dv b K) : dTick_tree n harts dv b K := by
  unfold dTick_T at h; obtain ⟨h0, h⟩ := h; unfold dTick_tree
  try simp only [Mo.dTick_v1] at h0 h
  try simp only [Mo.dTick_pre] at h0 h
  repeat' (first | (refine ite_intro (fun c => ?_) (fun c => ?_) <;> first | simp only [if_pos c] at h0 h | simp only [if_neg c] at h0 h | skip) | with_reducible (replace h0 := (h0 : True ∧ _).2) | with_reducible (refine ⟨rfl, ?_⟩) | with_reducible (refine ⟨h0.1, ?_⟩; replace h0 := h0.2) | with_reducible (refine ⟨h0, ?_⟩) | (refine ⟨h0.1, ?_⟩; replace h0 := h0.2) | refine ⟨h0, ?_⟩ | refine ⟨rfl, ?_⟩ | refine ⟨trivial, ?_⟩ | refine ⟨by assumption, ?_⟩ | refine ⟨Eq.symm (by assumption), ?_⟩ | exact h | refine ⟨?_, ?_⟩ | exact h0.elim | trivial | contradiction | (simp only [if_true, if_false, Bool.false_eq_true] at h; exact h))
theorem dTick_sem (n : Int) (harts : Int) (dv : Int) (b : Mo.Bd) (K : S → List Ob → Prop) (h : dTick_T n harts dv b K) : CallSem noW Tryz.prog 17 [.ptr 0 (.l 0), .iv .u64 n] (h_BD harts dv b) K := iv_call (callX_ok tok (by kernel_rfl) ffSaEok stopSaE_ok _ _ _ _ (Eq.mpr (dTick_run n harts dv b K) (dTick_all n harts dv b K h)))
noncomputable def dTick_con : Con := ⟨[.ptr 0, .int .u64], t_BD, [], fun a K => match a with | ⟨[n, harts, dv], [], [], [cs_b_k, cs_b_w, cs_b_t, cs_b_r, cs_b_l, cs_b_c], []⟩ => (match Mo.Cl.is cs_b_k with | true => (match Mo.Wd.is cs_b_w with | true => (match Mo.Rt.is cs_b_t with | true => (match Mo.Rs.is cs_b_r with | true => (match Mo.Ln.is cs_b_l with | true => (match Mo.Cnt.is cs_b_c with | true => dTick_T n harts dv (Mo.Bd.mk (Mo.Cl.of cs_b_k) (Mo.Wd.of cs_b_w) (Mo.Rt.of cs_b_t) (Mo.Rs.of cs_b_r) (Mo.Ln.of cs_b_l) (Mo.Cnt.of cs_b_c)) K | false => False) | false => False) | false => False) | false => False) | false => False) | false => False) | _ => False⟩
theorem dTick_ok : dTick_con.ok noW Tryz.prog 17 := by
  intro a K h
  simp only [dTick_con] at h
  split at h
  case h_2 => exact h.elim
  split at h
  case h_2 => exact h.elim
  rename_i is_b_k
  split at h
  case h_2 => exact h.elim
  rename_i is_b_w
  split at h
  case h_2 => exact h.elim
  rename_i is_b_t
  split at h
  case h_2 => exact h.elim
  rename_i is_b_r
  split at h
  case h_2 => exact h.elim
  rename_i is_b_l
  split at h
  case h_2 => exact h.elim
  rename_i is_b_c
  exact CallSem.objs (dTick_sem _ _ _ _ K h) (fun _ _ _ h => h) ⟨WkO.same, WkO.cells (Mo.Cl.is_ok is_b_k), WkO.same, WkO.cells (Mo.Wd.is_ok is_b_w), WkO.cells (Mo.Rt.is_ok is_b_t), WkO.cells (Mo.Rs.is_ok is_b_r), WkO.cells (Mo.Ln.is_ok is_b_l), WkO.same, WkO.same, WkO.same, WkO.cells (Mo.Cnt.is_ok is_b_c), trivial⟩
noncomputable def Mo.dStore_v1 (addr : Int) (v : Int) (harts : Int) (b : Mo.Bd) : Mo.Bd := (Mo.dSettle_v1 harts (Mo.uStore_v1 addr v b))
noncomputable def Mo.dStore_pre (addr : Int) (v : Int) (harts : Int) (b : Mo.Bd) : Prop := ((Mo.uStore_pre addr b) ∧ (Mo.dSettle_pre harts (Mo.uStore_v1 addr v b)))
noncomputable def dStore_tree (addr : Int) (v : Int) (harts : Int) (dv : Int) (b : Mo.Bd) (K : S → List Ob → Prop) : Prop := ((Mo.uStore_pre addr b) ∧ (((1 : Int) = 1) ∧ ((Mo.dSettle_pre harts (Mo.uStore_v1 addr v b)) ∧ K (.iv .i64 (Mo.kStore_v1 (sbw addr 33554432) (Mo.Bd.k b))) (h_BD harts dv (Mo.dSettle_v1 harts (Mo.uStore_v1 addr v b))))))
theorem dStore_run (addr : Int) (v : Int) (harts : Int) (dv : Int) (b : Mo.Bd) (K : S → List Ob → Prop) : callX (std noW) tt ffSaE stopSaE (lpB noW Tryz.prog) noL 6 25 [.ptr 0 (.l 0), .iv .u32 addr, .iv .u32 v] (h_BD harts dv b) (gcK 11 (ivK false K)) = dStore_tree addr v harts dv b K := by kernel_rfl
noncomputable def dStore_T (addr : Int) (v : Int) (harts : Int) (dv : Int) (b : Mo.Bd) (K : S → List Ob → Prop) : Prop := Mo.dStore_pre addr v harts b ∧ K (.iv .i64 (Mo.kStore_v1 (sbw addr 33554432) (Mo.Bd.k b))) (h_BD harts dv (Mo.dStore_v1 addr v harts b))
theorem dStore_all (addr : Int) (v : Int) (harts : Int) (dv : Int) (b : Mo.Bd) (K : S → List Ob → Prop) (h : dStore_T addr v harts dv b K) : dStore_tree addr v harts dv b K := by
  unfold dStore_T at h; obtain ⟨h0, h⟩ := h; unfold dStore_tree
  try simp only [Mo.dStore_v1] at h0 h
  try simp only [Mo.dStore_pre] at h0 h
  repeat' first | exact h | refine ⟨rfl, ?_⟩ | (refine ⟨h0.1, ?_⟩; replace h0 := h0.2) | refine ⟨h0, ?_⟩ | exact h0.elim | (refine ite_intro (fun c => ?_) fun c => ?_) <;> first | simp only [if_pos c] at h0 h | simp only [if_neg c] at h0 h | skip
theorem dStore_sem (addr : Int) (v : Int) (harts : Int) (dv : Int) (b : Mo.Bd) (K : S → List Ob → Prop) (h : dStore_T addr v harts dv b K) : CallSem noW Tryz.prog 25 [.ptr 0 (.l 0), .iv .u32 addr, .iv .u32 v] (h_BD harts dv b) K := iv_call (callX_ok tok (by kernel_rfl) ffSaEok stopSaE_ok _ _ _ _ (Eq.mpr (dStore_run addr v harts dv b K) (dStore_all addr v harts dv b K h)))
noncomputable def dStore_con : Con := ⟨[.ptr 0, .int .u32, .int .u32], t_BD, [], fun a K => match a with | ⟨[addr, v, harts, dv], [], [], [cs_b_k, cs_b_w, cs_b_t, cs_b_r, cs_b_l, cs_b_c], []⟩ => (match Mo.Cl.is cs_b_k with | true => (match Mo.Wd.is cs_b_w with | true => (match Mo.Rt.is cs_b_t with | true => (match Mo.Rs.is cs_b_r with | true => (match Mo.Ln.is cs_b_l with | true => (match Mo.Cnt.is cs_b_c with | true => dStore_T addr v harts dv (Mo.Bd.mk (Mo.Cl.of cs_b_k) (Mo.Wd.of cs_b_w) (Mo.Rt.of cs_b_t) (Mo.Rs.of cs_b_r) (Mo.Ln.of cs_b_l) (Mo.Cnt.of cs_b_c)) K | false => False) | false => False) | false => False) | false => False) | false => False) | false => False) | _ => False⟩
theorem dStore_ok : dStore_con.ok noW Tryz.prog 25 := by
  intro a K h
  simp only [dStore_con] at h
  split at h
  case h_2 => exact h.elim
  split at h
  case h_2 => exact h.elim
  rename_i is_b_k
  split at h
  case h_2 => exact h.elim
  rename_i is_b_w
  split at h
  case h_2 => exact h.elim
  rename_i is_b_t
  split at h
  case h_2 => exact h.elim
  rename_i is_b_r
  split at h
  case h_2 => exact h.elim
  rename_i is_b_l
  split at h
  case h_2 => exact h.elim
  rename_i is_b_c
  exact CallSem.objs (dStore_sem _ _ _ _ _ K h) (fun _ _ _ h => h) ⟨WkO.same, WkO.cells (Mo.Cl.is_ok is_b_k), WkO.same, WkO.cells (Mo.Wd.is_ok is_b_w), WkO.cells (Mo.Rt.is_ok is_b_t), WkO.cells (Mo.Rs.is_ok is_b_r), WkO.cells (Mo.Ln.is_ok is_b_l), WkO.same, WkO.same, WkO.same, WkO.cells (Mo.Cnt.is_ok is_b_c), trivial⟩
noncomputable def dResets_tree (harts : Int) (dv : Int) (b : Mo.Bd) (K : S → List Ob → Prop) : Prop := K (.raw (.slice none 0 0)) (h_BD harts dv b)
theorem dResets_run (harts : Int) (dv : Int) (b : Mo.Bd) (K : S → List Ob → Prop) : callX (std noW) tt ffSaE stopSaE (lpB noW Tryz.prog) noL 8 45 [.ptr 0 (.l 0)] (h_BD harts dv b) (gcK 11 (ivK false K)) = dResets_tree harts dv b K := by kernel_rfl
noncomputable def dResets_T (harts : Int) (dv : Int) (b : Mo.Bd) (K : S → List Ob → Prop) : Prop := True ∧ K (.raw (.slice none 0 0)) (h_BD harts dv b)
theorem dResets_all (harts : Int) (dv : Int) (b : Mo.Bd) (K : S → List Ob → Prop) (h : dResets_T harts dv b K) : dResets_tree harts dv b K := by
  unfold dResets_T at h; obtain ⟨h0, h⟩ := h; unfold dResets_tree
  repeat' first | exact h | (refine ite_intro (fun c => ?_) fun c => ?_) <;> first | simp only [if_pos c] at h0 h | simp only [if_neg c] at h0 h | skip
theorem dResets_sem (harts : Int) (dv : Int) (b : Mo.Bd) (K : S → List Ob → Prop) (h : dResets_T harts dv b K) : CallSem noW Tryz.prog 45 [.ptr 0 (.l 0)] (h_BD harts dv b) K := iv_call (callX_ok tok (by kernel_rfl) ffSaEok stopSaE_ok _ _ _ _ (Eq.mpr (dResets_run harts dv b K) (dResets_all harts dv b K h)))
noncomputable def dResets_con : Con := ⟨[.ptr 0], t_BD, [], fun a K => match a with | ⟨[harts, dv], [], [], [cs_b_k, cs_b_w, cs_b_t, cs_b_r, cs_b_l, cs_b_c], []⟩ => (match Mo.Cl.is cs_b_k with | true => (match Mo.Wd.is cs_b_w with | true => (match Mo.Rt.is cs_b_t with | true => (match Mo.Rs.is cs_b_r with | true => (match Mo.Ln.is cs_b_l with | true => (match Mo.Cnt.is cs_b_c with | true => dResets_T harts dv (Mo.Bd.mk (Mo.Cl.of cs_b_k) (Mo.Wd.of cs_b_w) (Mo.Rt.of cs_b_t) (Mo.Rs.of cs_b_r) (Mo.Ln.of cs_b_l) (Mo.Cnt.of cs_b_c)) K | false => False) | false => False) | false => False) | false => False) | false => False) | false => False) | _ => False⟩
theorem dResets_ok : dResets_con.ok noW Tryz.prog 45 := by
  intro a K h
  simp only [dResets_con] at h
  split at h
  case h_2 => exact h.elim
  split at h
  case h_2 => exact h.elim
  rename_i is_b_k
  split at h
  case h_2 => exact h.elim
  rename_i is_b_w
  split at h
  case h_2 => exact h.elim
  rename_i is_b_t
  split at h
  case h_2 => exact h.elim
  rename_i is_b_r
  split at h
  case h_2 => exact h.elim
  rename_i is_b_l
  split at h
  case h_2 => exact h.elim
  rename_i is_b_c
  exact CallSem.objs (dResets_sem _ _ _ K h) (fun _ _ _ h => h) ⟨WkO.same, WkO.cells (Mo.Cl.is_ok is_b_k), WkO.same, WkO.cells (Mo.Wd.is_ok is_b_w), WkO.cells (Mo.Rt.is_ok is_b_t), WkO.cells (Mo.Rs.is_ok is_b_r), WkO.cells (Mo.Ln.is_ok is_b_l), WkO.same, WkO.same, WkO.same, WkO.cells (Mo.Cnt.is_ok is_b_c), trivial⟩
noncomputable def Mo.dCompare_pre (q : Int) (b : Mo.Bd) : Prop := (Mo.kCompare_pre q (Mo.Bd.k b))
noncomputable def dCompare_tree (q : Int) (harts : Int) (dv : Int) (b : Mo.Bd) (K : S → List Ob → Prop) : Prop := ((Mo.kCompare_pre q (Mo.Bd.k b)) ∧ K (.iv .u64 (Mo.kCompare_v1 q (Mo.Bd.k b))) (h_BD harts dv b))
theorem dCompare_run (q : Int) (harts : Int) (dv : Int) (b : Mo.Bd) (K : S → List Ob → Prop) : callX (std noW) tt ffSaE stopSaE (lpB noW Tryz.prog) noL 8 53 [.ptr 0 (.l 0), .iv .i64 q] (h_BD harts dv b) (gcK 11 (ivK false K)) = dCompare_tree q harts dv b K := by kernel_rfl
noncomputable def dCompare_T (q : Int) (harts : Int) (dv : Int) (b : Mo.Bd) (K : S → List Ob → Prop) : Prop := Mo.dCompare_pre q b ∧ K (.iv .u64 (Mo.kCompare_v1 q (Mo.Bd.k b))) (h_BD harts dv b)
theorem dCompare_all (q : Int) (harts : Int) (dv : Int) (b : Mo.Bd) (K : S → List Ob → Prop) (h : dCompare_T q harts dv b K) : dCompare_tree q harts dv b K := by
  unfold dCompare_T at h; obtain ⟨h0, h⟩ := h; unfold dCompare_tree
  try simp only [Mo.dCompare_pre] at h0 h
  repeat' first | exact h | refine ⟨rfl, ?_⟩ | (refine ⟨h0.1, ?_⟩; replace h0 := h0.2) | refine ⟨h0, ?_⟩ | exact h0.elim | (refine ite_intro (fun c => ?_) fun c => ?_) <;> first | simp only [if_pos c] at h0 h | simp only [if_neg c] at h0 h | skip
theorem dCompare_sem (q : Int) (harts : Int) (dv : Int) (b : Mo.Bd) (K : S → List Ob → Prop) (h : dCompare_T q harts dv b K) : CallSem noW Tryz.prog 53 [.ptr 0 (.l 0), .iv .i64 q] (h_BD harts dv b) K := iv_call (callX_ok tok (by kernel_rfl) ffSaEok stopSaE_ok _ _ _ _ (Eq.mpr (dCompare_run q harts dv b K) (dCompare_all q harts dv b K h)))
noncomputable def dCompare_con : Con := ⟨[.ptr 0, .int .i64], t_BD, [], fun a K => match a with | ⟨[q, harts, dv], [], [], [cs_b_k, cs_b_w, cs_b_t, cs_b_r, cs_b_l, cs_b_c], []⟩ => (match Mo.Cl.is cs_b_k with | true => (match Mo.Wd.is cs_b_w with | true => (match Mo.Rt.is cs_b_t with | true => (match Mo.Rs.is cs_b_r with | true => (match Mo.Ln.is cs_b_l with | true => (match Mo.Cnt.is cs_b_c with | true => dCompare_T q harts dv (Mo.Bd.mk (Mo.Cl.of cs_b_k) (Mo.Wd.of cs_b_w) (Mo.Rt.of cs_b_t) (Mo.Rs.of cs_b_r) (Mo.Ln.of cs_b_l) (Mo.Cnt.of cs_b_c)) K | false => False) | false => False) | false => False) | false => False) | false => False) | false => False) | _ => False⟩
theorem dCompare_ok : dCompare_con.ok noW Tryz.prog 53 := by
  intro a K h
  simp only [dCompare_con] at h
  split at h
  case h_2 => exact h.elim
  split at h
  case h_2 => exact h.elim
  rename_i is_b_k
  split at h
  case h_2 => exact h.elim
  rename_i is_b_w
  split at h
  case h_2 => exact h.elim
  rename_i is_b_t
  split at h
  case h_2 => exact h.elim
  rename_i is_b_r
  split at h
  case h_2 => exact h.elim
  rename_i is_b_l
  split at h
  case h_2 => exact h.elim
  rename_i is_b_c
  exact CallSem.objs (dCompare_sem _ _ _ _ K h) (fun _ _ _ h => h) ⟨WkO.same, WkO.cells (Mo.Cl.is_ok is_b_k), WkO.same, WkO.cells (Mo.Wd.is_ok is_b_w), WkO.cells (Mo.Rt.is_ok is_b_t), WkO.cells (Mo.Rs.is_ok is_b_r), WkO.cells (Mo.Ln.is_ok is_b_l), WkO.same, WkO.same, WkO.same, WkO.cells (Mo.Cnt.is_ok is_b_c), trivial⟩
noncomputable def Mo.dLine_pre (q : Int) (b : Mo.Bd) : Prop := (Mo.kLine_pre q (Mo.Bd.k b))
noncomputable def dLine_tree (q : Int) (harts : Int) (dv : Int) (b : Mo.Bd) (K : S → List Ob → Prop) : Prop := ((Mo.kLine_pre q (Mo.Bd.k b)) ∧ K (.bv (Mo.kLine_v1 q (Mo.Bd.k b))) (h_BD harts dv b))
theorem dLine_run (q : Int) (harts : Int) (dv : Int) (b : Mo.Bd) (K : S → List Ob → Prop) : callX (std noW) tt ffSaE stopSaE (lpB noW Tryz.prog) noL 8 106 [.ptr 0 (.l 0), .iv .i64 q] (h_BD harts dv b) (gcK 11 (ivK false K)) = dLine_tree q harts dv b K := by kernel_rfl
noncomputable def dLine_T (q : Int) (harts : Int) (dv : Int) (b : Mo.Bd) (K : S → List Ob → Prop) : Prop := Mo.dLine_pre q b ∧ K (.bv (Mo.kLine_v1 q (Mo.Bd.k b))) (h_BD harts dv b)
theorem dLine_all (q : Int) (harts : Int) (dv : Int) (b : Mo.Bd) (K : S → List Ob → Prop) (h : dLine_T q harts dv b K) : dLine_tree q harts dv b K := by
  unfold dLine_T at h; obtain ⟨h0, h⟩ := h; unfold dLine_tree
  try simp only [Mo.dLine_pre] at h0 h
  repeat' first | exact h | refine ⟨rfl, ?_⟩ | (refine ⟨h0.1, ?_⟩; replace h0 := h0.2) | refine ⟨h0, ?_⟩ | exact h0.elim | (refine ite_intro (fun c => ?_) fun c => ?_) <;> first | simp only [if_pos c] at h0 h | simp only [if_neg c] at h0 h | skip
theorem dLine_sem (q : Int) (harts : Int) (dv : Int) (b : Mo.Bd) (K : S → List Ob → Prop) (h : dLine_T q harts dv b K) : CallSem noW Tryz.prog 106 [.ptr 0 (.l 0), .iv .i64 q] (h_BD harts dv b) K := iv_call (callX_ok tok (by kernel_rfl) ffSaEok stopSaE_ok _ _ _ _ (Eq.mpr (dLine_run q harts dv b K) (dLine_all q harts dv b K h)))
noncomputable def dLine_con : Con := ⟨[.ptr 0, .int .i64], t_BD, [], fun a K => match a with | ⟨[q, harts, dv], [], [], [cs_b_k, cs_b_w, cs_b_t, cs_b_r, cs_b_l, cs_b_c], []⟩ => (match Mo.Cl.is cs_b_k with | true => (match Mo.Wd.is cs_b_w with | true => (match Mo.Rt.is cs_b_t with | true => (match Mo.Rs.is cs_b_r with | true => (match Mo.Ln.is cs_b_l with | true => (match Mo.Cnt.is cs_b_c with | true => dLine_T q harts dv (Mo.Bd.mk (Mo.Cl.of cs_b_k) (Mo.Wd.of cs_b_w) (Mo.Rt.of cs_b_t) (Mo.Rs.of cs_b_r) (Mo.Ln.of cs_b_l) (Mo.Cnt.of cs_b_c)) K | false => False) | false => False) | false => False) | false => False) | false => False) | false => False) | _ => False⟩
theorem dLine_ok : dLine_con.ok noW Tryz.prog 106 := by
  intro a K h
  simp only [dLine_con] at h
  split at h
  case h_2 => exact h.elim
  split at h
  case h_2 => exact h.elim
  rename_i is_b_k
  split at h
  case h_2 => exact h.elim
  rename_i is_b_w
  split at h
  case h_2 => exact h.elim
  rename_i is_b_t
  split at h
  case h_2 => exact h.elim
  rename_i is_b_r
  split at h
  case h_2 => exact h.elim
  rename_i is_b_l
  split at h
  case h_2 => exact h.elim
  rename_i is_b_c
  exact CallSem.objs (dLine_sem _ _ _ _ K h) (fun _ _ _ h => h) ⟨WkO.same, WkO.cells (Mo.Cl.is_ok is_b_k), WkO.same, WkO.cells (Mo.Wd.is_ok is_b_w), WkO.cells (Mo.Rt.is_ok is_b_t), WkO.cells (Mo.Rs.is_ok is_b_r), WkO.cells (Mo.Ln.is_ok is_b_l), WkO.same, WkO.same, WkO.same, WkO.cells (Mo.Cnt.is_ok is_b_c), trivial⟩
noncomputable def dTime_tree (harts : Int) (dv : Int) (b : Mo.Bd) (K : S → List Ob → Prop) : Prop := (True ∧ K (.iv .u64 (Mo.Cl.time (Mo.Bd.k b))) (h_BD harts dv b))
theorem dTime_run (harts : Int) (dv : Int) (b : Mo.Bd) (K : S → List Ob → Prop) : callX (std noW) tt ffSaE stopSaE (lpB noW Tryz.prog) noL 8 56 [.ptr 0 (.l 0)] (h_BD harts dv b) (gcK 11 (ivK false K)) = dTime_tree harts dv b K := by kernel_rfl
noncomputable def dTime_T (harts : Int) (dv : Int) (b : Mo.Bd) (K : S → List Ob → Prop) : Prop := True ∧ K (.iv .u64 (Mo.Cl.time (Mo.Bd.k b))) (h_BD harts dv b)
theorem dTime_all (harts : Int) (dv : Int) (b : Mo.Bd) (K : S → List Ob → Prop) (h : dTime_T harts dv b K) : dTime_tree harts dv b K := by
  unfold dTime_T at h; obtain ⟨h0, h⟩ := h; unfold dTime_tree
  repeat' first | exact h | refine ⟨rfl, ?_⟩ | (refine ⟨h0.1, ?_⟩; replace h0 := h0.2) | refine ⟨h0, ?_⟩ | exact h0.elim | (refine ite_intro (fun c => ?_) fun c => ?_) <;> first | simp only [if_pos c] at h0 h | simp only [if_neg c] at h0 h | skip
theorem dTime_sem (harts : Int) (dv : Int) (b : Mo.Bd) (K : S → List Ob → Prop) (h : dTime_T harts dv b K) : CallSem noW Tryz.prog 56 [.ptr 0 (.l 0)] (h_BD harts dv b) K := iv_call (callX_ok tok (by kernel_rfl) ffSaEok stopSaE_ok _ _ _ _ (Eq.mpr (dTime_run harts dv b K) (dTime_all harts dv b K h)))
noncomputable def dTime_con : Con := ⟨[.ptr 0], t_BD, [], fun a K => match a with | ⟨[harts, dv], [], [], [cs_b_k, cs_b_w, cs_b_t, cs_b_r, cs_b_l, cs_b_c], []⟩ => (match Mo.Cl.is cs_b_k with | true => (match Mo.Wd.is cs_b_w with | true => (match Mo.Rt.is cs_b_t with | true => (match Mo.Rs.is cs_b_r with | true => (match Mo.Ln.is cs_b_l with | true => (match Mo.Cnt.is cs_b_c with | true => dTime_T harts dv (Mo.Bd.mk (Mo.Cl.of cs_b_k) (Mo.Wd.of cs_b_w) (Mo.Rt.of cs_b_t) (Mo.Rs.of cs_b_r) (Mo.Ln.of cs_b_l) (Mo.Cnt.of cs_b_c)) K | false => False) | false => False) | false => False) | false => False) | false => False) | false => False) | _ => False⟩
theorem dTime_ok : dTime_con.ok noW Tryz.prog 56 := by
  intro a K h
  simp only [dTime_con] at h
  split at h
  case h_2 => exact h.elim
  split at h
  case h_2 => exact h.elim
  rename_i is_b_k
  split at h
  case h_2 => exact h.elim
  rename_i is_b_w
  split at h
  case h_2 => exact h.elim
  rename_i is_b_t
  split at h
  case h_2 => exact h.elim
  rename_i is_b_r
  split at h
  case h_2 => exact h.elim
  rename_i is_b_l
  split at h
  case h_2 => exact h.elim
  rename_i is_b_c
  exact CallSem.objs (dTime_sem _ _ _ K h) (fun _ _ _ h => h) ⟨WkO.same, WkO.cells (Mo.Cl.is_ok is_b_k), WkO.same, WkO.cells (Mo.Wd.is_ok is_b_w), WkO.cells (Mo.Rt.is_ok is_b_t), WkO.cells (Mo.Rs.is_ok is_b_r), WkO.cells (Mo.Ln.is_ok is_b_l), WkO.same, WkO.same, WkO.same, WkO.cells (Mo.Cnt.is_ok is_b_c), trivial⟩
noncomputable def tabSaF (n : Nat) : List Con := match Nat.beq n 17 with | true => [dTick_con] | false => match Nat.beq n 25 with | true => [dStore_con] | false => match Nat.beq n 45 with | true => [dResets_con] | false => match Nat.beq n 53 with | true => [dCompare_con] | false => match Nat.beq n 106 with | true => [dLine_con] | false => match Nat.beq n 56 with | true => [dTime_con] | false => tabSaE n
theorem tabSaF_ok : ∀ f, ∀ c ∈ tabSaF f, c.ok noW Tryz.prog f := by
  intro f c hc
  unfold tabSaF at hc
  split at hc
  · rename_i hf; have := Nat.eq_of_beq_eq_true hf; subst this
    simp only [List.mem_cons, List.not_mem_nil, or_false] at hc
    subst hc; exact dTick_ok
  split at hc
  · rename_i hf; have := Nat.eq_of_beq_eq_true hf; subst this
    simp only [List.mem_cons, List.not_mem_nil, or_false] at hc
    subst hc; exact dStore_ok
  split at hc
  · rename_i hf; have := Nat.eq_of_beq_eq_true hf; subst this
    simp only [List.mem_cons, List.not_mem_nil, or_false] at hc
    subst hc; exact dResets_ok
  split at hc
  · rename_i hf; have := Nat.eq_of_beq_eq_true hf; subst this
    simp only [List.mem_cons, List.not_mem_nil, or_false] at hc
    subst hc; exact dCompare_ok
  split at hc
  · rename_i hf; have := Nat.eq_of_beq_eq_true hf; subst this
    simp only [List.mem_cons, List.not_mem_nil, or_false] at hc
    subst hc; exact dLine_ok
  split at hc
  · rename_i hf; have := Nat.eq_of_beq_eq_true hf; subst this
    simp only [List.mem_cons, List.not_mem_nil, or_false] at hc
    subst hc; exact dTime_ok
  exact tabSaE_ok f c hc
noncomputable def ffSaF (n : Nat) : Option FI := match Nat.beq n 17 with | true => none | false => match Nat.beq n 25 with | true => none | false => match Nat.beq n 45 with | true => none | false => match Nat.beq n 53 with | true => none | false => match Nat.beq n 106 with | true => none | false => match Nat.beq n 56 with | true => none | false => ffSaE n
theorem ffSaFok : FOk Tryz.prog ffSaF := fun f fi hf => by
  unfold ffSaF at hf
  split at hf
  · cases hf
  split at hf
  · cases hf
  split at hf
  · cases hf
  split at hf
  · cases hf
  split at hf
  · cases hf
  split at hf
  · cases hf
  exact ffSaEok f fi hf
noncomputable def stopSaF : CallT := stopC tabSaF stopB
theorem stopSaF_ok : ∀ f args h K, stopSaF f args h K → CallSem noW Tryz.prog f args h K := stopC_ok tabSaF_ok stopB_ok
end Go.SX.Y
