/- What Go functions come to (lifted). -/
import Derived.Test.YtbkegflipglioaaGreatSaB
set_option maxRecDepth 20000
namespace Go.SX.Y
open Go.Proofs Go.RowKit
noncomputable def h_N1 (c : Mo.Cnt) : List Ob := [.cells 188 [.sli 1 (.l 0) (.l 1) (.lit (.l 1)) false], .row 185 1 (.l 1) [.ptr 2 (.l 0)], .cells 246 (Mo.Cnt.cells c)]
def t_N1 : List OTm := [.cells 188 [.same (.sli 1 (.l 0) (.l 1) (.lit (.l 1)) false)], .row 185 1 1 [.ptr 2], .cellsV 246]
noncomputable def Mo.nTick_pre (n : Int) (c : Mo.Cnt) : Prop := (Mo.cTick_pre n c)
noncomputable def nTick_tree (n : Int) (c : Mo.Cnt) (K : S → List Ob → Prop) : Prop := ((Mo.cTick_pre n c) ∧ K (.tup []) (h_N1 (Mo.cTick_v1 n c)))
theorem nTick_run (n : Int) (c : Mo.Cnt) (K : S → List Ob → Prop) : callX (std noW) tt ffSaB stopSaB (lpB noW Tryz.prog) noL 60 79 [.ptr 0 (.l 0), .iv .u64 n] (h_N1 c) (gcK 3 (ivK false K)) = nTick_tree n c K := by kernel_rfl
noncomputable def nTick_T (n : Int) (c : Mo.Cnt) (K : S → List Ob → Prop) : Prop := Mo.nTick_pre n c ∧ K (.tup []) (h_N1 (Mo.cTick_v1 n c))
theorem nTick_all (n : Int) (c : Mo.Cnt) (K : S → List Ob → Prop) (h : nTick_T n c K) : nTick_tree n c K := by
  unfold nTick_T at h; obtain ⟨h0, h⟩ := h; unfold nTick_tree
  try simp only [Mo.nTick_pre] at h0 h
  repeat' first | exact h | refine ⟨rfl, ?_⟩ | (refine ⟨h0.1, ?_⟩; replace h0 := h0.2) | refine ⟨h0, ?_⟩ | exact h0.elim | (refine ite_intro (fun c => ?_) fun c => ?_) <;> first | simp only [if_pos c] at h0 h | simp only [if_neg c] at h0 h | skip
theorem nTick_sem (n : Int) (c : Mo.Cnt) (K : S → List Ob → Prop) (h : nTick_T n c K) : CallSem noW Tryz.prog 79 [.ptr 0 (.l 0), .iv .u64 n] (h_N1 c) K := iv_call (callX_ok tok (by kernel_rfl) ffSaBok stopSaB_ok _ _ _ _ (Eq.mpr (nTick_run n c K) (nTick_all n c K h)))
noncomputable def nTick_con : Con := ⟨[.ptr 0, .int .u64], t_N1, [], fun a K => match a with | ⟨[n], [], [], [cs_c], []⟩ => (match Mo.Cnt.is cs_c with | true => nTick_T n (Mo.Cnt.of cs_c) K | false => False) | _ => False⟩
theorem nTick_ok : nTick_con.ok noW Tryz.prog 79 := by
  intro a K h
  simp only [nTick_con] at h
  split at h
  case h_2 => exact h.elim
  split at h
  case h_2 => exact h.elim
  rename_i is_c
  exact CallSem.objs (nTick_sem _ _ K h) (fun _ _ _ h => h) ⟨WkO.same, WkO.same, WkO.cells (Mo.Cnt.is_ok is_c), trivial⟩
noncomputable def Mo.nLines_v1 (c : Mo.Cnt) : Int := (if ((stdQ QO.not (Mo.cLine_v1 c) (Mo.cLine_v1 c)) = true) then 0 else (Mo.bPut1_v1 0 0))
noncomputable def Mo.nLines_pre (c : Mo.Cnt) : Prop := (if ((stdQ QO.not (Mo.cLine_v1 c) (Mo.cLine_v1 c)) = true) then True else (Mo.bPut1_pre 0))
noncomputable def nLines_tree (c : Mo.Cnt) (K : S → List Ob → Prop) : Prop := (True ∧ (if ((stdQ QO.not (Mo.cLine_v1 c) (Mo.cLine_v1 c)) = true) then K (.iv .u32 0) (h_N1 c) else ((Mo.bPut1_pre 0) ∧ K (.iv .u32 (Mo.bPut1_v1 0 0)) (h_N1 c))))
theorem nLines_run (c : Mo.Cnt) (K : S → List Ob → Prop) : callX (std noW) tt ffSaB stopSaB (lpB noW Tryz.prog) noL 60 142 [.ptr 0 (.l 0)] (h_N1 c) (gcK 3 (ivK true K)) = nLines_tree c K := by kernel_rfl
noncomputable def nLines_T (c : Mo.Cnt) (K : S → List Ob → Prop) : Prop := Mo.nLines_pre c ∧ K (.iv .u32 (Mo.nLines_v1 c)) (h_N1 c)
theorem nLines_all (c : Mo.Cnt) (K : S → List Ob → Prop) (h : nLines_T c K) : nLines_tree c K := by
  unfold nLines_T at h; obtain ⟨h0, h⟩ := h; unfold nLines_tree
  try simp only [Mo.nLines_v1] at h0 h
  try simp only [Mo.nLines_pre] at h0 h
  repeat' (first | (refine ite_intro (fun c => ?_) (fun c => ?_) <;> first | simp only [if_pos c] at h0 h | simp only [if_neg c] at h0 h | skip) | with_reducible (replace h0 := (h0 : True ∧ _).2) | with_reducible (refine ⟨rfl, ?_⟩) | with_reducible (refine ⟨h0.1, ?_⟩; replace h0 := h0.2) | with_reducible (refine ⟨h0, ?_⟩) | (refine ⟨h0.1, ?_⟩; replace h0 := h0.2) | refine ⟨h0, ?_⟩ | refine ⟨rfl, ?_⟩ | refine ⟨trivial, ?_⟩ | refine ⟨by assumption, ?_⟩ | refine ⟨Eq.symm (by assumption), ?_⟩ | exact h | refine ⟨?_, ?_⟩ | exact h0.elim | trivial | contradiction | (simp only [if_true, if_false, Bool.false_eq_true] at h; exact h))
theorem nLines_sem (c : Mo.Cnt) (K : S → List Ob → Prop) (h : nLines_T c K) : CallSem noW Tryz.prog 142 [.ptr 0 (.l 0)] (h_N1 c) K := iv_call (callX_ok tok (by kernel_rfl) ffSaBok stopSaB_ok _ _ _ _ (Eq.mpr (nLines_run c K) (nLines_all c K h)))
noncomputable def nLines_con : Con := ⟨[.ptr 0], t_N1, [], fun a K => match a with | ⟨[], [], [], [cs_c], []⟩ => (match Mo.Cnt.is cs_c with | true => nLines_T (Mo.Cnt.of cs_c) K | false => False) | _ => False⟩
theorem nLines_ok : nLines_con.ok noW Tryz.prog 142 := by
  intro a K h
  simp only [nLines_con] at h
  split at h
  case h_2 => exact h.elim
  split at h
  case h_2 => exact h.elim
  rename_i is_c
  exact CallSem.objs (nLines_sem _ K h) (fun _ _ _ h => h) ⟨WkO.same, WkO.same, WkO.cells (Mo.Cnt.is_ok is_c), trivial⟩
noncomputable def hm_SaC_1 (x1 : Mo.Cl) : List Ob := [(.cells 183 (Mo.Cl.cells x1))]
noncomputable def Mo.kStore_v1 (off : Int) (c : Mo.Cl) : Int := (if ((iN (Mo.kErr (Mo.Cl.n c) off) 0) = true) then (Mo.kErr (Mo.Cl.n c) off) else (if ((iE (Mo.kWhat (Mo.Cl.n c) off) 1) = true) then 0 else (if ((iE (Mo.kWhat (Mo.Cl.n c) off) 2) = true) then 0 else (if ((iE (Mo.kWhat (Mo.Cl.n c) off) 3) = true) then 0 else 12))))
noncomputable def Mo.kStore_v2 (off : Int) (v : Int) (c : Mo.Cl) : Mo.Cl := (if ((iN (Mo.kErr (Mo.Cl.n c) off) 0) = true) then c else (if ((iE (Mo.kHart (Mo.Cl.n c) off) 0) = true) then (if ((iE (Mo.kWhat (Mo.Cl.n c) off) 1) = true) then { c with s0 := (anw v 1) } else (if ((iE (Mo.kWhat (Mo.Cl.n c) off) 2) = true) then { c with k0 := (rrq (slq (cvq (cvw (srq (Mo.Cl.k0 c) 32) 0) 0) 32) (cvq v 0)) } else (if ((iE (Mo.kWhat (Mo.Cl.n c) off) 3) = true) then { c with k0 := (rrq (slq (cvq v 0) 32) (cvq (cvw (Mo.Cl.k0 c) 0) 0)) } else c))) else (if ((iE (Mo.kHart (Mo.Cl.n c) off) 1) = true) then (if ((iE (Mo.kWhat (Mo.Cl.n c) off) 1) = true) then { c with s1 := (anw v 1) } else (if ((iE (Mo.kWhat (Mo.Cl.n c) off) 2) = true) then { c with k1 := (rrq (slq (cvq (cvw (srq (Mo.Cl.k1 c) 32) 0) 0) 32) (cvq v 0)) } else (if ((iE (Mo.kWhat (Mo.Cl.n c) off) 3) = true) then { c with k1 := (rrq (slq (cvq v 0) 32) (cvq (cvw (Mo.Cl.k1 c) 0) 0)) } else c))) else (if ((iE (Mo.kHart (Mo.Cl.n c) off) 2) = true) then (if ((iE (Mo.kWhat (Mo.Cl.n c) off) 1) = true) then { c with s2 := (anw v 1) } else (if ((iE (Mo.kWhat (Mo.Cl.n c) off) 2) = true) then { c with k2 := (rrq (slq (cvq (cvw (srq (Mo.Cl.k2 c) 32) 0) 0) 32) (cvq v 0)) } else (if ((iE (Mo.kWhat (Mo.Cl.n c) off) 3) = true) then { c with k2 := (rrq (slq (cvq v 0) 32) (cvq (cvw (Mo.Cl.k2 c) 0) 0)) } else c))) else (if ((iE (Mo.kHart (Mo.Cl.n c) off) 3) = true) then (if ((iE (Mo.kWhat (Mo.Cl.n c) off) 1) = true) then { c with s3 := (anw v 1) } else (if ((iE (Mo.kWhat (Mo.Cl.n c) off) 2) = true) then { c with k3 := (rrq (slq (cvq (cvw (srq (Mo.Cl.k3 c) 32) 0) 0) 32) (cvq v 0)) } else (if ((iE (Mo.kWhat (Mo.Cl.n c) off) 3) = true) then { c with k3 := (rrq (slq (cvq v 0) 32) (cvq (cvw (Mo.Cl.k3 c) 0) 0)) } else c))) else (if ((iE (Mo.kHart (Mo.Cl.n c) off) 4) = true) then (if ((iE (Mo.kWhat (Mo.Cl.n c) off) 1) = true) then { c with s4 := (anw v 1) } else (if ((iE (Mo.kWhat (Mo.Cl.n c) off) 2) = true) then { c with k4 := (rrq (slq (cvq (cvw (srq (Mo.Cl.k4 c) 32) 0) 0) 32) (cvq v 0)) } else (if ((iE (Mo.kWhat (Mo.Cl.n c) off) 3) = true) then { c with k4 := (rrq (slq (cvq v 0) 32) (cvq (cvw (Mo.Cl.k4 c) 0) 0)) } else c))) else (if ((iE (Mo.kHart (Mo.Cl.n c) off) 5) = true) then (if ((iE (Mo.kWhat (Mo.Cl.n c) off) 1) = true) then { c with s5 := (anw v 1) } else (if ((iE (Mo.kWhat (Mo.Cl.n c) off) 2) = true) then { c with k5 := (rrq (slq (cvq (cvw (srq (Mo.Cl.k5 c) 32) 0) 0) 32) (cvq v 0)) } else (if ((iE (Mo.kWhat (Mo.Cl.n c) off) 3) = true) then { c with k5 := (rrq (slq (cvq v 0) 32) (cvq (cvw (Mo.Cl.k5 c) 0) 0)) } else c))) else (if ((iE (Mo.kHart (Mo.Cl.n c) off) 6) = true) then (if ((iE (Mo.kWhat (Mo.Cl.n c) off) 1) = true) then { c with s6 := (anw v 1) } else (if ((iE (Mo.kWhat (Mo.Cl.n c) off) 2) = true) then { c with k6 := (rrq (slq (cvq (cvw (srq (Mo.Cl.k6 c) 32) 0) 0) 32) (cvq v 0)) } else (if ((iE (Mo.kWhat (Mo.Cl.n c) off) 3) = true) then { c with k6 := (rrq (slq (cvq v 0) 32) (cvq (cvw (Mo.Cl.k6 c) 0) 0)) } else c))) else (if ((iE (Mo.kWhat (Mo.Cl.n c) off) 1) = true) then { c with s7 := (anw v 1) } else (if ((iE (Mo.kWhat (Mo.Cl.n c) off) 2) = true) then { c with k7 := (rrq (slq (cvq (cvw (srq (Mo.Cl.k7 c) 32) 0) 0) 32) (cvq v 0)) } else (if ((iE (Mo.kWhat (Mo.Cl.n c) off) 3) = true) then { c with k7 := (rrq (slq (cvq v 0) 32) (cvq (cvw (Mo.Cl.k7 c) 0) 0)) } else c)))))))))))
noncomputable def Mo.kStore_pre (off : Int) (c : Mo.Cl) : Prop := ((((1 : Int) ≤ (Mo.Cl.n c)) ∧ (((Mo.Cl.n c) : Int) ≤ 8)) ∧ (if ((iN (Mo.kErr (Mo.Cl.n c) off) 0) = true) then True else (if ((iM 0 (Mo.kHart (Mo.Cl.n c) off)) = true) then (if ((iL (Mo.kHart (Mo.Cl.n c) off) 8) = true) then True else False) else False)))
noncomputable def kStore_tree (off : Int) (v : Int) (c : Mo.Cl) (K : S → List Ob → Prop) : Prop := ((((1 : Int) ≤ (Mo.Cl.n c)) ∧ (((Mo.Cl.n c) : Int) ≤ 8)) ∧ (if ((iN (Mo.kErr (Mo.Cl.n c) off) 0) = true) then K (.iv .i64 (Mo.kErr (Mo.Cl.n c) off)) [(.cells 183 (Mo.Cl.cells c))] else (if ((iM 0 (Mo.kHart (Mo.Cl.n c) off)) = true) then (if ((iL (Mo.kHart (Mo.Cl.n c) off) 8) = true) then (if ((iE (Mo.kHart (Mo.Cl.n c) off) 0) = true) then (if ((iE (Mo.kWhat (Mo.Cl.n c) off) 1) = true) then K (.iv .i64 0) (hm_SaC_1 { c with s0 := (anw v 1) }) else (if ((iE (Mo.kWhat (Mo.Cl.n c) off) 2) = true) then K (.iv .i64 0) (hm_SaC_1 { c with k0 := (rrq (slq (cvq (cvw (srq (Mo.Cl.k0 c) 32) 0) 0) 32) (cvq v 0)) }) else (if ((iE (Mo.kWhat (Mo.Cl.n c) off) 3) = true) then K (.iv .i64 0) (hm_SaC_1 { c with k0 := (rrq (slq (cvq v 0) 32) (cvq (cvw (Mo.Cl.k0 c) 0) 0)) }) else K (.iv .i64 12) [(.cells 183 (Mo.Cl.cells c))]))) else (if ((iE (Mo.kHart (Mo.Cl.n c) off) 1) = true) then (if ((iE (Mo.kWhat (Mo.Cl.n c) off) 1) = true) then K (.iv .i64 0) (hm_SaC_1 { c with s1 := (anw v 1) }) else (if ((iE (Mo.kWhat (Mo.Cl.n c) off) 2) = true) then K (.iv .i64 0) (hm_SaC_1 { c with k1 := (rrq (slq (cvq (cvw (srq (Mo.Cl.k1 c) 32) 0) 0) 32) (cvq v 0)) }) else (if ((iE (Mo.kWhat (Mo.Cl.n c) off) 3) = true) then K (.iv .i64 0) (hm_SaC_1 { c with k1 := (rrq (slq (cvq v 0) 32) (cvq (cvw (Mo.Cl.k1 c) 0) 0)) }) else K (.iv .i64 12) [(.cells 183 (Mo.Cl.cells c))]))) else (if ((iE (Mo.kHart (Mo.Cl.n c) off) 2) = true) then (if ((iE (Mo.kWhat (Mo.Cl.n c) off) 1) = true) then K (.iv .i64 0) (hm_SaC_1 { c with s2 := (anw v 1) }) else (if ((iE (Mo.kWhat (Mo.Cl.n c) off) 2) = true) then K (.iv .i64 0) (hm_SaC_1 { c with k2 := (rrq (slq (cvq (cvw (srq (Mo.Cl.k2 c) 32) 0) 0) 32) (cvq v 0)) }) else (if ((iE (Mo.kWhat (Mo.Cl.n c) off) 3) = true) then K (.iv .i64 0) (hm_SaC_1 { c with k2 := (rrq (slq (cvq v 0) 32) (cvq (cvw (Mo.Cl.k2 c) 0) 0)) }) else K (.iv .i64 12) [(.cells 183 (Mo.Cl.cells c))]))) else (if ((iE (Mo.kHart (Mo.Cl.n c) off) 3) = true) then (if ((iE (Mo.kWhat (Mo.Cl.n c) off) 1) = true) then K (.iv .i64 0) (hm_SaC_1 { c with s3 := (anw v 1) }) else (if ((iE (Mo.kWhat (Mo.Cl.n c) off) 2) = true) then K (.iv .i64 0) (hm_SaC_1 { c with k3 := (rrq (slq (cvq (cvw (srq (Mo.Cl.k3 c) 32) 0) 0) 32) (cvq v 0)) }) else (if ((iE (Mo.kWhat (Mo.Cl.n c) off) 3) = true) then K (.iv .i64 0) (hm_SaC_1 { c with k3 := (rrq (slq (cvq v 0) 32) (cvq (cvw (Mo.Cl.k3 c) 0) 0)) }) else K (.iv .i64 12) [(.cells 183 (Mo.Cl.cells c))]))) else (if ((iE (Mo.kHart (Mo.Cl.n c) off) 4) = true) then (if ((iE (Mo.kWhat (Mo.Cl.n c) off) 1) = true) then K (.iv .i64 0) (hm_SaC_1 { c with s4 := (anw v 1) }) else (if ((iE (Mo.kWhat (Mo.Cl.n c) off) 2) = true) then K (.iv .i64 0) (hm_SaC_1 { c with k4 := (rrq (slq (cvq (cvw (srq (Mo.Cl.k4 c) 32) 0) 0) 32) (cvq v 0)) }) else (if ((iE (Mo.kWhat (Mo.Cl.n c) off) 3) = true) then K (.iv .i64 0) (hm_SaC_1 { c with k4 := (rrq (slq (cvq v 0) 32) (cvq (cvw (Mo.Cl.k4 c) 0) 0)) }) else K (.iv .i64 12) [(.cells 183 (Mo.Cl.cells c))]))) else (if ((iE (Mo.kHart (Mo.Cl.n c) off) 5) = true) then (if ((iE (Mo.kWhat (Mo.Cl.n c) off) 1) = true) then K (.iv .i64 0) (hm_SaC_1 { c with s5 := (anw v 1) }) else (if ((iE (Mo.kWhat (Mo.Cl.n c) off) 2) = true) then K (.iv .i64 0) (hm_SaC_1 { c with k5 := (rrq (slq (cvq (cvw (srq (Mo.Cl.k5 c) 32) 0) 0) 32) (cvq v 0)) }) else (if ((iE (Mo.kWhat (Mo.Cl.n c) off) 3) = true) then K (.iv .i64 0) (hm_SaC_1 { c with k5 := (rrq (slq (cvq v 0) 32) (cvq (cvw (Mo.Cl.k5 c) 0) 0)) }) else K (.iv .i64 12) [(.cells 183 (Mo.Cl.cells c))]))) else (if ((iE (Mo.kHart (Mo.Cl.n c) off) 6) = true) then (if ((iE (Mo.kWhat (Mo.Cl.n c) off) 1) = true) then K (.iv .i64 0) (hm_SaC_1 { c with s6 := (anw v 1) }) else (if ((iE (Mo.kWhat (Mo.Cl.n c) off) 2) = true) then K (.iv .i64 0) (hm_SaC_1 { c with k6 := (rrq (slq (cvq (cvw (srq (Mo.Cl.k6 c) 32) 0) 0) 32) (cvq v 0)) }) else (if ((iE (Mo.kWhat (Mo.Cl.n c) off) 3) = true) then K (.iv .i64 0) (hm_SaC_1 { c with k6 := (rrq (slq (cvq v 0) 32) (cvq (cvw (Mo.Cl.k6 c) 0) 0)) }) else K (.iv .i64 12) [(.cells 183 (Mo.Cl.cells c))]))) else (if ((iE (Mo.kWhat (Mo.Cl.n c) off) 1) = true) then K (.iv .i64 0) (hm_SaC_1 { c with s7 := (anw v 1) }) else (if ((iE (Mo.kWhat (Mo.Cl.n c) off) 2) = true) then K (.iv .i64 0) (hm_SaC_1 { c with k7 := (rrq (slq (cvq (cvw (srq (Mo.Cl.k7 c) 32) 0) 0) 32) (cvq v 0)) }) else (if ((iE (Mo.kWhat (Mo.Cl.n c) off) 3) = true) then K (.iv .i64 0) (hm_SaC_1 { c with k7 := (rrq (slq (cvq v 0) 32) (cvq (cvw (Mo.Cl.k7 c) 0) 0)) }) else K (.iv .i64 12) [(.cells 183 (Mo.Cl.cells c))])))))))))) else False) else False)))
theorem kStore_run (off : Int) (v : Int) (c : Mo.Cl) (K : S → List Ob → Prop) : callX (std noW) tt ffSaB stopSaB (lpB noW Tryz.prog) noL 60 215 [.ptr 0 (.l 0), .iv .u32 off, .iv .u32 v] [.cells 183 (Mo.Cl.cells c)] (gcK 1 (ivK true K)) = kStore_tree off v c K := by kernel_rfl
noncomputable def kStore_T (off : Int) (v : Int) (c : Mo.Cl) (K : S → List Ob → Prop) : Prop := Mo.kStore_pre off c ∧ K (.iv .i64 (Mo.kStore_v1 off c)) [(.cells 183 (Mo.Cl.cells (Mo.kStore_v2 off v c)))]
theorem kStore_all (off : Int) (v : Int) (c : Mo.Cl) (K : S → List Ob → Prop) (h : kStore_T off v c K) : kStore_tree off v c K := by
  unfold kStore_T at h; obtain ⟨h0, h⟩ := h; unfold kStore_tree
  try simp only [Mo.kStore_v1] at h0 h
  try simp only [Mo.kStore_v2] at h0 h
  try simp only [Mo.kStore_pre] at h0 h
  repeat' first | exact h | refine ⟨rfl, ?_⟩ | (refine ⟨h0.1, ?_⟩; replace h0 := h0.2) | refine ⟨h0, ?_⟩ | exact h0.elim | (refine ite_intro (fun c => ?_) fun c => ?_) <;> first | simp only [if_pos c] at h0 h | simp only [if_neg c] at h0 h | skip
theorem kStore_sem (off : Int) (v : Int) (c : Mo.Cl) (K : S → List Ob → Prop) (h : kStore_T off v c K) : CallSem noW Tryz.prog 215 [.ptr 0 (.l 0), .iv .u32 off, .iv .u32 v] [.cells 183 (Mo.Cl.cells c)] K := iv_call (callX_ok tok (by kernel_rfl) ffSaBok stopSaB_ok _ _ _ _ (Eq.mpr (kStore_run off v c K) (kStore_all off v c K h)))
noncomputable def kStore_con : Con := ⟨[.ptr 0, .int .u32, .int .u32], [.cellsV 183], [], fun a K => match a with | ⟨[off, v], [], [], [cs_c], []⟩ => (match Mo.Cl.is cs_c with | true => kStore_T off v (Mo.Cl.of cs_c) K | false => False) | _ => False⟩
theorem kStore_ok : kStore_con.ok noW Tryz.prog 215 := by
  intro a K h
  simp only [kStore_con] at h
  split at h
  case h_2 => exact h.elim
  split at h
  case h_2 => exact h.elim
  rename_i is_c
  exact CallSem.objs (kStore_sem _ _ _ K h) (fun _ _ _ h => h) ⟨WkO.cells (Mo.Cl.is_ok is_c), trivial⟩
noncomputable def tabSaC (n : Nat) : List Con := match Nat.beq n 79 with | true => [nTick_con] | false => match Nat.beq n 142 with | true => [nLines_con] | false => match Nat.beq n 215 with | true => [kStore_con] | false => tabSaB n
theorem tabSaC_ok : ∀ f, ∀ c ∈ tabSaC f, c.ok noW Tryz.prog f := by
  intro f c hc
  unfold tabSaC at hc
  split at hc
  · rename_i hf; have := Nat.eq_of_beq_eq_true hf; subst this
    simp only [List.mem_cons, List.not_mem_nil, or_false] at hc
    subst hc; exact nTick_ok
  split at hc
  · rename_i hf; have := Nat.eq_of_beq_eq_true hf; subst this
    simp only [List.mem_cons, List.not_mem_nil, or_false] at hc
    subst hc; exact nLines_ok
  split at hc
  · rename_i hf; have := Nat.eq_of_beq_eq_true hf; subst this
    simp only [List.mem_cons, List.not_mem_nil, or_false] at hc
    subst hc; exact kStore_ok
  exact tabSaB_ok f c hc
noncomputable def ffSaC (n : Nat) : Option FI := match Nat.beq n 79 with | true => none | false => match Nat.beq n 142 with | true => none | false => match Nat.beq n 215 with | true => none | false => ffSaB n
theorem ffSaCok : FOk Tryz.prog ffSaC := fun f fi hf => by
  unfold ffSaC at hf
  split at hf
  · cases hf
  split at hf
  · cases hf
  split at hf
  · cases hf
  exact ffSaBok f fi hf
noncomputable def stopSaC : CallT := stopC tabSaC stopB
theorem stopSaC_ok : ∀ f args h K, stopSaC f args h K → CallSem noW Tryz.prog f args h K := stopC_ok tabSaC_ok stopB_ok
end Go.SX.Y
