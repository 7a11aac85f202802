/- What Go functions come to (lifted). -/
import Derived.Test.YtbkegflipglioaaGreatTrF
set_option maxRecDepth 20000
namespace Go.SX.Y
open Go.Proofs Go.RowKit
noncomputable def h_P1n (made : Int) (spent : Int) (dv : Int) (b : Mo.Bd) : List Ob := [.cells 135 [.iv .i64 made, .iv .u64 spent, .iv .i64 0, .ptr 1 (.l 0), .raw (.slice none 0 0)], .cells 131 [.ptr 2 (.l 0), .ptr 3 (.l 0), .ptr 4 (.l 0), .ptr 5 (.l 0), .ptr 6 (.l 0), .ptr 7 (.l 0), .ptr 8 (.l 0), .iv .i64 1, .iv .i64 2, .iv .u32 dv, .raw (.slice none 0 0)], .cells 183 (Mo.Cl.cells (Mo.Bd.k b)), .cells 188 [.sli 9 (.l 0) (.l 2) (.lit (.l 2)) false], .cells 194 (Mo.Wd.cells (Mo.Bd.w b)), .cells 190 (Mo.Rt.cells (Mo.Bd.t b)), .cells 200 (Mo.Rs.cells (Mo.Bd.r b)), .cells 204 (Mo.Ln.cells (Mo.Bd.l b)), .cells 227 [.mp 10], .row 185 1 (.l 2) [.ptr 11 (.l 0), .ptr 12 (.l 0)], .mapo [.agg [.il .u32 33554432, .il .u32 49152], .agg [.il .u32 268500992, .il .u32 256], .agg [.il .u32 268566528, .il .u32 20], .agg [.il .u32 268632064, .il .u32 16], .agg [.il .u32 268697600, .il .u32 36], .agg [.il .u32 268763136, .il .u32 12]] [.ifc 107 (.ptr 2 (.l 0)), .ifc 110 (.ptr 3 (.l 0)), .ifc 119 (.ptr 4 (.l 0)), .ifc 125 (.ptr 6 (.l 0)), .ifc 44 (.ptr 5 (.l 0)), .ifc 127 (.ptr 7 (.l 0))], .cells 246 (Mo.Cnt.cells (Mo.Bd.c0 b)), .cells 246 (Mo.Cnt.cells (Mo.Bd.c1 b))]
def t_P1n : List OTm := [.cells 135 [.int .i64, .int .u64, .eqI .i64 0, .ptr 1, .same (.raw (.slice none 0 0))], .cells 131 [.ptr 2, .ptr 3, .ptr 4, .ptr 5, .ptr 6, .ptr 7, .ptr 8, .eqI .i64 1, .eqI .i64 2, .int .u32, .same (.raw (.slice none 0 0))], .cellsV 183, .cells 188 [.same (.sli 9 (.l 0) (.l 2) (.lit (.l 2)) false)], .cellsV 194, .cellsV 190, .cellsV 200, .cellsV 204, .cells 227 [.mp 10], .row 185 1 2 [.ptr 11, .ptr 12], .mapo [.agg [.same (.il .u32 33554432), .same (.il .u32 49152)], .agg [.same (.il .u32 268500992), .same (.il .u32 256)], .agg [.same (.il .u32 268566528), .same (.il .u32 20)], .agg [.same (.il .u32 268632064), .same (.il .u32 16)], .agg [.same (.il .u32 268697600), .same (.il .u32 36)], .agg [.same (.il .u32 268763136), .same (.il .u32 12)]] [.ifc 107 (.ptr 2), .ifc 110 (.ptr 3), .ifc 119 (.ptr 4), .ifc 125 (.ptr 6), .ifc 44 (.ptr 5), .ifc 127 (.ptr 7)], .cellsV 246, .cellsV 246]
noncomputable def Mo.pStore0_v1 (spent : Int) : Int := (if ((iE ((spent + 0) / 18446744073709551616) 0) = true) then ((spent + 0) % 18446744073709551616) else 18446744073709551615)
noncomputable def Mo.pStore0_v2 (v : Int) (b : Mo.Bd) : Mo.Bd := (Mo.dStore0_v1 v (Mo.dTick_v1 0 b))
noncomputable def Mo.pStore0_pre (v : Int) (spent : Int) (b : Mo.Bd) : Prop := ((((0 : Int) ≤ spent) ∧ ((0 : Int) ≤ 0)) ∧ ((Mo.dTick_pre 0 b) ∧ (Mo.dStore0_pre v (Mo.dTick_v1 0 b))))
noncomputable def pStore0_tree (v : Int) (made : Int) (spent : Int) (dv : Int) (b : Mo.Bd) (K : S → List Ob → Prop) : Prop := (((2 : Int) = 2) ∧ (((1 : Int) = 1) ∧ (True ∧ (((some (S.iv IntKind.i64 0)) = (some (S.iv IntKind.i64 0))) ∧ ((((0 : Int) ≤ spent) ∧ ((0 : Int) ≤ 0)) ∧ (((0 : Int) = 0) ∧ (if ((iE ((spent + 0) / 18446744073709551616) 0) = true) then (((2 : Int) = 2) ∧ (((1 : Int) = 1) ∧ ((Mo.dTick_pre 0 b) ∧ (((2 : Int) = 2) ∧ (((1 : Int) = 1) ∧ (True ∧ (((some (S.iv IntKind.i64 0)) = (some (S.iv IntKind.i64 0))) ∧ (((2 : Int) = 2) ∧ (((1 : Int) = 1) ∧ ((Mo.dStore0_pre v (Mo.dTick_v1 0 b)) ∧ (((2 : Int) = 2) ∧ (((1 : Int) = 1) ∧ (True ∧ (((some (S.iv IntKind.i64 0)) = (some (S.iv IntKind.i64 0))) ∧ K (.il .i64 0) (h_P1n (adi made 1) ((spent + 0) % 18446744073709551616) dv (Mo.dStore0_v1 v (Mo.dTick_v1 0 b))))))))))))))))) else (((2 : Int) = 2) ∧ (((1 : Int) = 1) ∧ ((Mo.dTick_pre 0 b) ∧ (((2 : Int) = 2) ∧ (((1 : Int) = 1) ∧ (True ∧ (((some (S.iv IntKind.i64 0)) = (some (S.iv IntKind.i64 0))) ∧ (((2 : Int) = 2) ∧ (((1 : Int) = 1) ∧ ((Mo.dStore0_pre v (Mo.dTick_v1 0 b)) ∧ (((2 : Int) = 2) ∧ (((1 : Int) = 1) ∧ (True ∧ (((some (S.iv IntKind.i64 0)) = (some (S.iv IntKind.i64 0))) ∧ K (.il .i64 0) (h_P1n (adi made 1) 18446744073709551615 dv (Mo.dStore0_v1 v (Mo.dTick_v1 0 b))))))))))))))))))))))))
theorem pStore0_run (v : Int) (made : Int) (spent : Int) (dv : Int) (b : Mo.Bd) (K : S → List Ob → Prop) : callX (std noW) tt ffTrF stopTrF (lpB noW Tryz.prog) noL 8 63 [.ptr 0 (.l 0), .il .u32 268501024, .iv .u32 v] (h_P1n made spent dv b) (gcK 13 (ivK false K)) = pStore0_tree v made spent dv b K := by kernel_rfl
noncomputable def pStore0_T (v : Int) (made : Int) (spent : Int) (dv : Int) (b : Mo.Bd) (K : S → List Ob → Prop) : Prop := Mo.pStore0_pre v spent b ∧ K (.il .i64 0) (h_P1n (adi made 1) (Mo.pStore0_v1 spent) dv (Mo.pStore0_v2 v b))
theorem pStore0_all (v : Int) (made : Int) (spent : Int) (dv : Int) (b : Mo.Bd) (K : S → List Ob → Prop) (h : pStore0_T v made spent dv b K) : pStore0_tree v made spent dv b K := by
  unfold pStore0_T at h; obtain ⟨h0, h⟩ := h; unfold pStore0_tree
  try simp only [Mo.pStore0_v1] at h0 h
  try simp only [Mo.pStore0_v2] at h0 h
  try simp only [Mo.pStore0_pre] at h0 h
  repeat' (first | (refine ite_intro (fun c => ?_) (fun c => ?_) <;> first | simp only [if_pos c] at h0 h | simp only [if_neg c] at h0 h | skip) | with_reducible (replace h0 := (h0 : True ∧ _).2) | with_reducible (refine ⟨rfl, ?_⟩) | with_reducible (refine ⟨h0.1, ?_⟩; replace h0 := h0.2) | with_reducible (refine ⟨h0, ?_⟩) | (refine ⟨h0.1, ?_⟩; replace h0 := h0.2) | refine ⟨h0, ?_⟩ | refine ⟨rfl, ?_⟩ | refine ⟨trivial, ?_⟩ | refine ⟨by assumption, ?_⟩ | refine ⟨Eq.symm (by assumption), ?_⟩ | exact h | refine ⟨?_, ?_⟩ | exact h0.elim | trivial | contradiction | (simp only [if_true, if_false, Bool.false_eq_true] at h; exact h))
theorem pStore0_sem (v : Int) (made : Int) (spent : Int) (dv : Int) (b : Mo.Bd) (K : S → List Ob → Prop) (h : pStore0_T v made spent dv b K) : CallSem noW Tryz.prog 63 [.ptr 0 (.l 0), .il .u32 268501024, .iv .u32 v] (h_P1n made spent dv b) K := iv_call (callX_ok tok (by kernel_rfl) ffTrFok stopTrF_ok _ _ _ _ (Eq.mpr (pStore0_run v made spent dv b K) (pStore0_all v made spent dv b K h)))
noncomputable def pStore0_con : Con := ⟨[.ptr 0, .same (.il .u32 268501024), .int .u32], t_P1n, [], fun a K => match a with | ⟨[v, made, spent, dv], [], [], [cs_b_k, cs_b_w, cs_b_t, cs_b_r, cs_b_l, cs_b_c0, cs_b_c1], []⟩ => (match Mo.Cl.is cs_b_k with | true => (match Mo.Wd.is cs_b_w with | true => (match Mo.Rt.is cs_b_t with | true => (match Mo.Rs.is cs_b_r with | true => (match Mo.Ln.is cs_b_l with | true => (match Mo.Cnt.is cs_b_c0 with | true => (match Mo.Cnt.is cs_b_c1 with | true => pStore0_T v made spent dv (Mo.Bd.mk (Mo.Cl.of cs_b_k) (Mo.Wd.of cs_b_w) (Mo.Rt.of cs_b_t) (Mo.Rs.of cs_b_r) (Mo.Ln.of cs_b_l) (Mo.Cnt.of cs_b_c0) (Mo.Cnt.of cs_b_c1)) K | false => False) | false => False) | false => False) | false => False) | false => False) | false => False) | false => False) | _ => False⟩
theorem pStore0_ok : pStore0_con.ok noW Tryz.prog 63 := by
  intro a K h
  simp only [pStore0_con] at h
  split at h
  case h_2 => exact h.elim
  split at h
  case h_2 => exact h.elim
  rename_i is_b_k
  split at h
  case h_2 => exact h.elim
  rename_i is_b_w
  split at h
  case h_2 => exact h.elim
  rename_i is_b_t
  split at h
  case h_2 => exact h.elim
  rename_i is_b_r
  split at h
  case h_2 => exact h.elim
  rename_i is_b_l
  split at h
  case h_2 => exact h.elim
  rename_i is_b_c0
  split at h
  case h_2 => exact h.elim
  rename_i is_b_c1
  exact CallSem.objs (pStore0_sem _ _ _ _ _ K h) (fun _ _ _ h => h) ⟨WkO.same, WkO.same, WkO.cells (Mo.Cl.is_ok is_b_k), WkO.same, WkO.cells (Mo.Wd.is_ok is_b_w), WkO.cells (Mo.Rt.is_ok is_b_t), WkO.cells (Mo.Rs.is_ok is_b_r), WkO.cells (Mo.Ln.is_ok is_b_l), WkO.same, WkO.same, WkO.same, WkO.cells (Mo.Cnt.is_ok is_b_c0), WkO.cells (Mo.Cnt.is_ok is_b_c1), trivial⟩
noncomputable def Mo.pStore8_v1 (spent : Int) : Int := (if ((iE ((spent + 0) / 18446744073709551616) 0) = true) then ((spent + 0) % 18446744073709551616) else 18446744073709551615)
noncomputable def Mo.pStore8_v2 (v : Int) (b : Mo.Bd) : Mo.Bd := (Mo.dStore8_v1 v (Mo.dTick_v1 0 b))
noncomputable def Mo.pStore8_pre (v : Int) (spent : Int) (b : Mo.Bd) : Prop := ((((0 : Int) ≤ spent) ∧ ((0 : Int) ≤ 0)) ∧ ((Mo.dTick_pre 0 b) ∧ (Mo.dStore8_pre v (Mo.dTick_v1 0 b))))
noncomputable def pStore8_tree (v : Int) (made : Int) (spent : Int) (dv : Int) (b : Mo.Bd) (K : S → List Ob → Prop) : Prop := (((2 : Int) = 2) ∧ (((1 : Int) = 1) ∧ (True ∧ (((some (S.iv IntKind.i64 0)) = (some (S.iv IntKind.i64 0))) ∧ ((((0 : Int) ≤ spent) ∧ ((0 : Int) ≤ 0)) ∧ (((0 : Int) = 0) ∧ (if ((iE ((spent + 0) / 18446744073709551616) 0) = true) then (((2 : Int) = 2) ∧ (((1 : Int) = 1) ∧ ((Mo.dTick_pre 0 b) ∧ (((2 : Int) = 2) ∧ (((1 : Int) = 1) ∧ (True ∧ (((some (S.iv IntKind.i64 0)) = (some (S.iv IntKind.i64 0))) ∧ (((2 : Int) = 2) ∧ (((1 : Int) = 1) ∧ (((2 : Int) = 2) ∧ (((1 : Int) = 1) ∧ ((Mo.dStore8_pre v (Mo.dTick_v1 0 b)) ∧ (((2 : Int) = 2) ∧ (((1 : Int) = 1) ∧ (True ∧ (((some (S.iv IntKind.i64 0)) = (some (S.iv IntKind.i64 0))) ∧ K (.il .i64 0) (h_P1n (adi made 1) ((spent + 0) % 18446744073709551616) dv (Mo.dStore8_v1 v (Mo.dTick_v1 0 b))))))))))))))))))) else (((2 : Int) = 2) ∧ (((1 : Int) = 1) ∧ ((Mo.dTick_pre 0 b) ∧ (((2 : Int) = 2) ∧ (((1 : Int) = 1) ∧ (True ∧ (((some (S.iv IntKind.i64 0)) = (some (S.iv IntKind.i64 0))) ∧ (((2 : Int) = 2) ∧ (((1 : Int) = 1) ∧ (((2 : Int) = 2) ∧ (((1 : Int) = 1) ∧ ((Mo.dStore8_pre v (Mo.dTick_v1 0 b)) ∧ (((2 : Int) = 2) ∧ (((1 : Int) = 1) ∧ (True ∧ (((some (S.iv IntKind.i64 0)) = (some (S.iv IntKind.i64 0))) ∧ K (.il .i64 0) (h_P1n (adi made 1) 18446744073709551615 dv (Mo.dStore8_v1 v (Mo.dTick_v1 0 b))))))))))))))))))))))))))
theorem pStore8_run (v : Int) (made : Int) (spent : Int) (dv : Int) (b : Mo.Bd) (K : S → List Ob → Prop) : callX (std noW) tt ffTrF stopTrF (lpB noW Tryz.prog) noL 8 63 [.ptr 0 (.l 0), .il .u32 268501032, .iv .u32 v] (h_P1n made spent dv b) (gcK 13 (ivK false K)) = pStore8_tree v made spent dv b K := by kernel_rfl
noncomputable def pStore8_T (v : Int) (made : Int) (spent : Int) (dv : Int) (b : Mo.Bd) (K : S → List Ob → Prop) : Prop := Mo.pStore8_pre v spent b ∧ K (.il .i64 0) (h_P1n (adi made 1) (Mo.pStore8_v1 spent) dv (Mo.pStore8_v2 v b))
theorem pStore8_all (v : Int) (made : Int) (spent : Int) (dv : Int) (b : Mo.Bd) (K : S → List Ob → Prop) (h : pStore8_T v made spent dv b K) : pStore8_tree v made spent dv b K := by
  unfold pStore8_T at h; obtain ⟨h0, h⟩ := h; unfold pStore8_tree
  try simp only [Mo.pStore8_v1] at h0 h
  try simp only [Mo.pStore8_v2] at h0 h
  try simp only [Mo.pStore8_pre] at h0 h
  repeat' (first | (refine ite_intro (fun c => ?_) (fun c => ?_) <;> first | simp only [if_pos c] at h0 h | simp only [if_neg c] at h0 h | skip) | with_reducible (replace h0 := (h0 : True ∧ _).2) | with_reducible (refine ⟨rfl, ?_⟩) | with_reducible (refine ⟨h0.1, ?_⟩; replace h0 := h0.2) | with_reducible (refine ⟨h0, ?_⟩) | (refine ⟨h0.1, ?_⟩; replace h0 := h0.2) | refine ⟨h0, ?_⟩ | refine ⟨rfl, ?_⟩ | refine ⟨trivial, ?_⟩ | refine ⟨by assumption, ?_⟩ | refine ⟨Eq.symm (by assumption), ?_⟩ | exact h | refine ⟨?_, ?_⟩ | exact h0.elim | trivial | contradiction | (simp only [if_true, if_false, Bool.false_eq_true] at h; exact h))
theorem pStore8_sem (v : Int) (made : Int) (spent : Int) (dv : Int) (b : Mo.Bd) (K : S → List Ob → Prop) (h : pStore8_T v made spent dv b K) : CallSem noW Tryz.prog 63 [.ptr 0 (.l 0), .il .u32 268501032, .iv .u32 v] (h_P1n made spent dv b) K := iv_call (callX_ok tok (by kernel_rfl) ffTrFok stopTrF_ok _ _ _ _ (Eq.mpr (pStore8_run v made spent dv b K) (pStore8_all v made spent dv b K h)))
noncomputable def pStore8_con : Con := ⟨[.ptr 0, .same (.il .u32 268501032), .int .u32], t_P1n, [], fun a K => match a with | ⟨[v, made, spent, dv], [], [], [cs_b_k, cs_b_w, cs_b_t, cs_b_r, cs_b_l, cs_b_c0, cs_b_c1], []⟩ => (match Mo.Cl.is cs_b_k with | true => (match Mo.Wd.is cs_b_w with | true => (match Mo.Rt.is cs_b_t with | true => (match Mo.Rs.is cs_b_r with | true => (match Mo.Ln.is cs_b_l with | true => (match Mo.Cnt.is cs_b_c0 with | true => (match Mo.Cnt.is cs_b_c1 with | true => pStore8_T v made spent dv (Mo.Bd.mk (Mo.Cl.of cs_b_k) (Mo.Wd.of cs_b_w) (Mo.Rt.of cs_b_t) (Mo.Rs.of cs_b_r) (Mo.Ln.of cs_b_l) (Mo.Cnt.of cs_b_c0) (Mo.Cnt.of cs_b_c1)) K | false => False) | false => False) | false => False) | false => False) | false => False) | false => False) | false => False) | _ => False⟩
theorem pStore8_ok : pStore8_con.ok noW Tryz.prog 63 := by
  intro a K h
  simp only [pStore8_con] at h
  split at h
  case h_2 => exact h.elim
  split at h
  case h_2 => exact h.elim
  rename_i is_b_k
  split at h
  case h_2 => exact h.elim
  rename_i is_b_w
  split at h
  case h_2 => exact h.elim
  rename_i is_b_t
  split at h
  case h_2 => exact h.elim
  rename_i is_b_r
  split at h
  case h_2 => exact h.elim
  rename_i is_b_l
  split at h
  case h_2 => exact h.elim
  rename_i is_b_c0
  split at h
  case h_2 => exact h.elim
  rename_i is_b_c1
  exact CallSem.objs (pStore8_sem _ _ _ _ _ K h) (fun _ _ _ h => h) ⟨WkO.same, WkO.same, WkO.cells (Mo.Cl.is_ok is_b_k), WkO.same, WkO.cells (Mo.Wd.is_ok is_b_w), WkO.cells (Mo.Rt.is_ok is_b_t), WkO.cells (Mo.Rs.is_ok is_b_r), WkO.cells (Mo.Ln.is_ok is_b_l), WkO.same, WkO.same, WkO.same, WkO.cells (Mo.Cnt.is_ok is_b_c0), WkO.cells (Mo.Cnt.is_ok is_b_c1), trivial⟩
noncomputable def Mo.pStore12_v1 (spent : Int) : Int := (if ((iE ((spent + 0) / 18446744073709551616) 0) = true) then ((spent + 0) % 18446744073709551616) else 18446744073709551615)
noncomputable def Mo.pStore12_v2 (v : Int) (b : Mo.Bd) : Mo.Bd := (Mo.dStore12_v1 v (Mo.dTick_v1 0 b))
noncomputable def Mo.pStore12_pre (v : Int) (spent : Int) (b : Mo.Bd) : Prop := ((((0 : Int) ≤ spent) ∧ ((0 : Int) ≤ 0)) ∧ ((Mo.dTick_pre 0 b) ∧ (Mo.dStore12_pre v (Mo.dTick_v1 0 b))))
noncomputable def pStore12_tree (v : Int) (made : Int) (spent : Int) (dv : Int) (b : Mo.Bd) (K : S → List Ob → Prop) : Prop := (((2 : Int) = 2) ∧ (((1 : Int) = 1) ∧ (True ∧ (((some (S.iv IntKind.i64 0)) = (some (S.iv IntKind.i64 0))) ∧ ((((0 : Int) ≤ spent) ∧ ((0 : Int) ≤ 0)) ∧ (((0 : Int) = 0) ∧ (if ((iE ((spent + 0) / 18446744073709551616) 0) = true) then (((2 : Int) = 2) ∧ (((1 : Int) = 1) ∧ ((Mo.dTick_pre 0 b) ∧ (((2 : Int) = 2) ∧ (((1 : Int) = 1) ∧ (True ∧ (((some (S.iv IntKind.i64 0)) = (some (S.iv IntKind.i64 0))) ∧ (((2 : Int) = 2) ∧ (((1 : Int) = 1) ∧ (((2 : Int) = 2) ∧ (((1 : Int) = 1) ∧ (((2 : Int) = 2) ∧ (((1 : Int) = 1) ∧ ((Mo.dStore12_pre v (Mo.dTick_v1 0 b)) ∧ (((2 : Int) = 2) ∧ (((1 : Int) = 1) ∧ (True ∧ (((some (S.iv IntKind.i64 0)) = (some (S.iv IntKind.i64 0))) ∧ K (.il .i64 0) (h_P1n (adi made 1) ((spent + 0) % 18446744073709551616) dv (Mo.dStore12_v1 v (Mo.dTick_v1 0 b))))))))))))))))))))) else (((2 : Int) = 2) ∧ (((1 : Int) = 1) ∧ ((Mo.dTick_pre 0 b) ∧ (((2 : Int) = 2) ∧ (((1 : Int) = 1) ∧ (True ∧ (((some (S.iv IntKind.i64 0)) = (some (S.iv IntKind.i64 0))) ∧ (((2 : Int) = 2) ∧ (((1 : Int) = 1) ∧ (((2 : Int) = 2) ∧ (((1 : Int) = 1) ∧ (((2 : Int) = 2) ∧ (((1 : Int) = 1) ∧ ((Mo.dStore12_pre v (Mo.dTick_v1 0 b)) ∧ (((2 : Int) = 2) ∧ (((1 : Int) = 1) ∧ (True ∧ (((some (S.iv IntKind.i64 0)) = (some (S.iv IntKind.i64 0))) ∧ K (.il .i64 0) (h_P1n (adi made 1) 18446744073709551615 dv (Mo.dStore12_v1 v (Mo.dTick_v1 0 b))))))))))))))))))))))))))))
theorem pStore12_run (v : Int) (made : Int) (spent : Int) (dv : Int) (b : Mo.Bd) (K : S → List Ob → Prop) : callX (std noW) tt ffTrF stopTrF (lpB noW Tryz.prog) noL 8 63 [.ptr 0 (.l 0), .il .u32 268501036, .iv .u32 v] (h_P1n made spent dv b) (gcK 13 (ivK false K)) = pStore12_tree v made spent dv b K := by kernel_rfl
noncomputable def pStore12_T (v : Int) (made : Int) (spent : Int) (dv : Int) (b : Mo.Bd) (K : S → List Ob → Prop) : Prop := Mo.pStore12_pre v spent b ∧ K (.il .i64 0) (h_P1n (adi made 1) (Mo.pStore12_v1 spent) dv (Mo.pStore12_v2 v b))
theorem pStore12_all (v : Int) (made : Int) (spent : Int) (dv : Int) (b : Mo.Bd) (K : S → List Ob → Prop) (h : pStore12_T v made spent dv b K) : pStore12_tree v made spent dv b K := by
  unfold pStore12_T at h; obtain ⟨h0, h⟩ := h; unfold pStore12_tree
  try simp only [Mo.pStore12_v1] at h0 h
  try simp only [Mo.pStore12_v2] at h0 h
  try simp only [Mo.pStore12_pre] at h0 h
  repeat' (first | (refine ite_intro (fun c => ?_) (fun c => ?_) <;> first | simp only [if_pos c] at h0 h | simp only [if_neg c] at h0 h | skip) | with_reducible (replace h0 := (h0 : True ∧ _).2) | with_reducible (refine ⟨rfl, ?_⟩) | with_reducible (refine ⟨h0.1, ?_⟩; replace h0 := h0.2) | with_reducible (refine ⟨h0, ?_⟩) | (refine ⟨h0.1, ?_⟩; replace h0 := h0.2) | refine ⟨h0, ?_⟩ | refine ⟨rfl, ?_⟩ | refine ⟨trivial, ?_⟩ | refine ⟨by assumption, ?_⟩ | refine ⟨Eq.symm (by assumption), ?_⟩ | exact h | refine ⟨?_, ?_⟩ | exact h0.elim | trivial | contradiction | (simp only [if_true, if_false, Bool.false_eq_true] at h; exact h))
theorem pStore12_sem (v : Int) (made : Int) (spent : Int) (dv : Int) (b : Mo.Bd) (K : S → List Ob → Prop) (h : pStore12_T v made spent dv b K) : CallSem noW Tryz.prog 63 [.ptr 0 (.l 0), .il .u32 268501036, .iv .u32 v] (h_P1n made spent dv b) K := iv_call (callX_ok tok (by kernel_rfl) ffTrFok stopTrF_ok _ _ _ _ (Eq.mpr (pStore12_run v made spent dv b K) (pStore12_all v made spent dv b K h)))
noncomputable def pStore12_con : Con := ⟨[.ptr 0, .same (.il .u32 268501036), .int .u32], t_P1n, [], fun a K => match a with | ⟨[v, made, spent, dv], [], [], [cs_b_k, cs_b_w, cs_b_t, cs_b_r, cs_b_l, cs_b_c0, cs_b_c1], []⟩ => (match Mo.Cl.is cs_b_k with | true => (match Mo.Wd.is cs_b_w with | true => (match Mo.Rt.is cs_b_t with | true => (match Mo.Rs.is cs_b_r with | true => (match Mo.Ln.is cs_b_l with | true => (match Mo.Cnt.is cs_b_c0 with | true => (match Mo.Cnt.is cs_b_c1 with | true => pStore12_T v made spent dv (Mo.Bd.mk (Mo.Cl.of cs_b_k) (Mo.Wd.of cs_b_w) (Mo.Rt.of cs_b_t) (Mo.Rs.of cs_b_r) (Mo.Ln.of cs_b_l) (Mo.Cnt.of cs_b_c0) (Mo.Cnt.of cs_b_c1)) K | false => False) | false => False) | false => False) | false => False) | false => False) | false => False) | false => False) | _ => False⟩
theorem pStore12_ok : pStore12_con.ok noW Tryz.prog 63 := by
  intro a K h
  simp only [pStore12_con] at h
  split at h
  case h_2 => exact h.elim
  split at h
  case h_2 => exact h.elim
  rename_i is_b_k
  split at h
  case h_2 => exact h.elim
  rename_i is_b_w
  split at h
  case h_2 => exact h.elim
  rename_i is_b_t
  split at h
  case h_2 => exact h.elim
  rename_i is_b_r
  split at h
  case h_2 => exact h.elim
  rename_i is_b_l
  split at h
  case h_2 => exact h.elim
  rename_i is_b_c0
  split at h
  case h_2 => exact h.elim
  rename_i is_b_c1
  exact CallSem.objs (pStore12_sem _ _ _ _ _ K h) (fun _ _ _ h => h) ⟨WkO.same, WkO.same, WkO.cells (Mo.Cl.is_ok is_b_k), WkO.same, WkO.cells (Mo.Wd.is_ok is_b_w), WkO.cells (Mo.Rt.is_ok is_b_t), WkO.cells (Mo.Rs.is_ok is_b_r), WkO.cells (Mo.Ln.is_ok is_b_l), WkO.same, WkO.same, WkO.same, WkO.cells (Mo.Cnt.is_ok is_b_c0), WkO.cells (Mo.Cnt.is_ok is_b_c1), trivial⟩
noncomputable def Mo.pLoad8_v1 (spent : Int) : Int := (if ((iE ((spent + 0) / 18446744073709551616) 0) = true) then ((spent + 0) % 18446744073709551616) else 18446744073709551615)
noncomputable def Mo.pLoad8_v2 (b : Mo.Bd) : Mo.Bd := (Mo.dTick_v1 0 b)
noncomputable def Mo.pLoad8_pre (spent : Int) (b : Mo.Bd) : Prop := ((((0 : Int) ≤ spent) ∧ ((0 : Int) ≤ 0)) ∧ (Mo.dTick_pre 0 b))
noncomputable def pLoad8_tree (made : Int) (spent : Int) (dv : Int) (b : Mo.Bd) (K : S → List Ob → Prop) : Prop := (((2 : Int) = 2) ∧ (((1 : Int) = 1) ∧ (True ∧ (((some (S.iv IntKind.i64 0)) = (some (S.iv IntKind.i64 0))) ∧ ((((0 : Int) ≤ spent) ∧ ((0 : Int) ≤ 0)) ∧ (((0 : Int) = 0) ∧ (if ((iE ((spent + 0) / 18446744073709551616) 0) = true) then (((2 : Int) = 2) ∧ (((1 : Int) = 1) ∧ ((Mo.dTick_pre 0 b) ∧ (((2 : Int) = 2) ∧ (((1 : Int) = 1) ∧ (True ∧ (((some (S.iv IntKind.i64 0)) = (some (S.iv IntKind.i64 0))) ∧ (((2 : Int) = 2) ∧ (((1 : Int) = 1) ∧ (True ∧ (((2 : Int) = 2) ∧ (((1 : Int) = 1) ∧ (True ∧ (((some (S.iv IntKind.i64 0)) = (some (S.iv IntKind.i64 0))) ∧ K (.tup [(.iv .u32 (Mo.Cnt.ct (Mo.Bd.c1 (Mo.dTick_v1 0 b)))), (.il .i64 0)]) (h_P1n (adi made 1) ((spent + 0) % 18446744073709551616) dv (Mo.dTick_v1 0 b)))))))))))))))) else (((2 : Int) = 2) ∧ (((1 : Int) = 1) ∧ ((Mo.dTick_pre 0 b) ∧ (((2 : Int) = 2) ∧ (((1 : Int) = 1) ∧ (True ∧ (((some (S.iv IntKind.i64 0)) = (some (S.iv IntKind.i64 0))) ∧ (((2 : Int) = 2) ∧ (((1 : Int) = 1) ∧ (True ∧ (((2 : Int) = 2) ∧ (((1 : Int) = 1) ∧ (True ∧ (((some (S.iv IntKind.i64 0)) = (some (S.iv IntKind.i64 0))) ∧ K (.tup [(.iv .u32 (Mo.Cnt.ct (Mo.Bd.c1 (Mo.dTick_v1 0 b)))), (.il .i64 0)]) (h_P1n (adi made 1) 18446744073709551615 dv (Mo.dTick_v1 0 b)))))))))))))))))))))))
theorem pLoad8_run (made : Int) (spent : Int) (dv : Int) (b : Mo.Bd) (K : S → List Ob → Prop) : callX (std noW) tt ffTrF stopTrF (lpB noW Tryz.prog) noL 8 62 [.ptr 0 (.l 0), .il .u32 268501032] (h_P1n made spent dv b) (gcK 13 (ivK false K)) = pLoad8_tree made spent dv b K := by kernel_rfl
noncomputable def pLoad8_T (made : Int) (spent : Int) (dv : Int) (b : Mo.Bd) (K : S → List Ob → Prop) : Prop := Mo.pLoad8_pre spent b ∧ K (.tup [(.iv .u32 (Mo.Cnt.ct (Mo.Bd.c1 (Mo.dTick_v1 0 b)))), (.il .i64 0)]) (h_P1n (adi made 1) (Mo.pLoad8_v1 spent) dv (Mo.pLoad8_v2 b))
theorem pLoad8_all (made : Int) (spent : Int) (dv : Int) (b : Mo.Bd) (K : S → List Ob → Prop) (h : pLoad8_T made spent dv b K) : pLoad8_tree made spent dv b K := by
  unfold pLoad8_T at h; obtain ⟨h0, h⟩ := h; unfold pLoad8_tree
  try simp only [Mo.pLoad8_v1] at h0 h
  try simp only [Mo.pLoad8_v2] at h0 h
  try simp only [Mo.pLoad8_pre] at h0 h
  repeat' (first | (refine ite_intro (fun c => ?_) (fun c => ?_) <;> first | simp only [if_pos c] at h0 h | simp only [if_neg c] at h0 h | skip) | with_reducible (replace h0 := (h0 : True ∧ _).2) | with_reducible (refine ⟨rfl, ?_⟩) | with_reducible (refine ⟨h0.1, ?_⟩; replace h0 := h0.2) | with_reducible (refine ⟨h0, ?_⟩) | (refine ⟨h0.1, ?_⟩; replace h0 := h0.2) | refine ⟨h0, ?_⟩ | refine ⟨rfl, ?_⟩ | refine ⟨trivial, ?_⟩ | refine ⟨by assumption, ?_⟩ | refine ⟨Eq.symm (by assumption), ?_⟩ | exact h | refine ⟨?_, ?_⟩ | exact h0.elim | trivial | contradiction | (simp only [if_true, if_false, Bool.false_eq_true] at h; exact h))
theorem pLoad8_sem (made : Int) (spent : Int) (dv : Int) (b : Mo.Bd) (K : S → List Ob → Prop) (h : pLoad8_T made spent dv b K) : CallSem noW Tryz.prog 62 [.ptr 0 (.l 0), .il .u32 268501032] (h_P1n made spent dv b) K := iv_call (callX_ok tok (by kernel_rfl) ffTrFok stopTrF_ok _ _ _ _ (Eq.mpr (pLoad8_run made spent dv b K) (pLoad8_all made spent dv b K h)))
noncomputable def pLoad8_con : Con := ⟨[.ptr 0, .same (.il .u32 268501032)], t_P1n, [], fun a K => match a with | ⟨[made, spent, dv], [], [], [cs_b_k, cs_b_w, cs_b_t, cs_b_r, cs_b_l, cs_b_c0, cs_b_c1], []⟩ => (match Mo.Cl.is cs_b_k with | true => (match Mo.Wd.is cs_b_w with | true => (match Mo.Rt.is cs_b_t with | true => (match Mo.Rs.is cs_b_r with | true => (match Mo.Ln.is cs_b_l with | true => (match Mo.Cnt.is cs_b_c0 with | true => (match Mo.Cnt.is cs_b_c1 with | true => pLoad8_T made spent dv (Mo.Bd.mk (Mo.Cl.of cs_b_k) (Mo.Wd.of cs_b_w) (Mo.Rt.of cs_b_t) (Mo.Rs.of cs_b_r) (Mo.Ln.of cs_b_l) (Mo.Cnt.of cs_b_c0) (Mo.Cnt.of cs_b_c1)) K | false => False) | false => False) | false => False) | false => False) | false => False) | false => False) | false => False) | _ => False⟩
theorem pLoad8_ok : pLoad8_con.ok noW Tryz.prog 62 := by
  intro a K h
  simp only [pLoad8_con] at h
  split at h
  case h_2 => exact h.elim
  split at h
  case h_2 => exact h.elim
  rename_i is_b_k
  split at h
  case h_2 => exact h.elim
  rename_i is_b_w
  split at h
  case h_2 => exact h.elim
  rename_i is_b_t
  split at h
  case h_2 => exact h.elim
  rename_i is_b_r
  split at h
  case h_2 => exact h.elim
  rename_i is_b_l
  split at h
  case h_2 => exact h.elim
  rename_i is_b_c0
  split at h
  case h_2 => exact h.elim
  rename_i is_b_c1
  exact CallSem.objs (pLoad8_sem _ _ _ _ K h) (fun _ _ _ h => h) ⟨WkO.same, WkO.same, WkO.cells (Mo.Cl.is_ok is_b_k), WkO.same, WkO.cells (Mo.Wd.is_ok is_b_w), WkO.cells (Mo.Rt.is_ok is_b_t), WkO.cells (Mo.Rs.is_ok is_b_r), WkO.cells (Mo.Ln.is_ok is_b_l), WkO.same, WkO.same, WkO.same, WkO.cells (Mo.Cnt.is_ok is_b_c0), WkO.cells (Mo.Cnt.is_ok is_b_c1), trivial⟩
noncomputable def Mo.pLoad12_v1 (spent : Int) : Int := (if ((iE ((spent + 0) / 18446744073709551616) 0) = true) then ((spent + 0) % 18446744073709551616) else 18446744073709551615)
noncomputable def Mo.pLoad12_v2 (b : Mo.Bd) : Mo.Bd := (Mo.dTick_v1 0 b)
noncomputable def Mo.pLoad12_pre (spent : Int) (b : Mo.Bd) : Prop := ((((0 : Int) ≤ spent) ∧ ((0 : Int) ≤ 0)) ∧ (Mo.dTick_pre 0 b))
noncomputable def pLoad12_tree (made : Int) (spent : Int) (dv : Int) (b : Mo.Bd) (K : S → List Ob → Prop) : Prop := (((2 : Int) = 2) ∧ (((1 : Int) = 1) ∧ (True ∧ (((some (S.iv IntKind.i64 0)) = (some (S.iv IntKind.i64 0))) ∧ ((((0 : Int) ≤ spent) ∧ ((0 : Int) ≤ 0)) ∧ (((0 : Int) = 0) ∧ (if ((iE ((spent + 0) / 18446744073709551616) 0) = true) then (((2 : Int) = 2) ∧ (((1 : Int) = 1) ∧ ((Mo.dTick_pre 0 b) ∧ (((2 : Int) = 2) ∧ (((1 : Int) = 1) ∧ (True ∧ (((some (S.iv IntKind.i64 0)) = (some (S.iv IntKind.i64 0))) ∧ (((2 : Int) = 2) ∧ (((1 : Int) = 1) ∧ (((2 : Int) = 2) ∧ (((1 : Int) = 1) ∧ (True ∧ (((2 : Int) = 2) ∧ (((1 : Int) = 1) ∧ (True ∧ (((some (S.iv IntKind.i64 0)) = (some (S.iv IntKind.i64 0))) ∧ K (.tup [(.iv .u32 (Mo.Cnt.st (Mo.Bd.c1 (Mo.dTick_v1 0 b)))), (.il .i64 0)]) (h_P1n (adi made 1) ((spent + 0) % 18446744073709551616) dv (Mo.dTick_v1 0 b)))))))))))))))))) else (((2 : Int) = 2) ∧ (((1 : Int) = 1) ∧ ((Mo.dTick_pre 0 b) ∧ (((2 : Int) = 2) ∧ (((1 : Int) = 1) ∧ (True ∧ (((some (S.iv IntKind.i64 0)) = (some (S.iv IntKind.i64 0))) ∧ (((2 : Int) = 2) ∧ (((1 : Int) = 1) ∧ (((2 : Int) = 2) ∧ (((1 : Int) = 1) ∧ (True ∧ (((2 : Int) = 2) ∧ (((1 : Int) = 1) ∧ (True ∧ (((some (S.iv IntKind.i64 0)) = (some (S.iv IntKind.i64 0))) ∧ K (.tup [(.iv .u32 (Mo.Cnt.st (Mo.Bd.c1 (Mo.dTick_v1 0 b)))), (.il .i64 0)]) (h_P1n (adi made 1) 18446744073709551615 dv (Mo.dTick_v1 0 b)))))))))))))))))))))))))
theorem pLoad12_run (made : Int) (spent : Int) (dv : Int) (b : Mo.Bd) (K : S → List Ob → Prop) : callX (std noW) tt ffTrF stopTrF (lpB noW Tryz.prog) noL 8 62 [.ptr 0 (.l 0), .il .u32 268501036] (h_P1n made spent dv b) (gcK 13 (ivK false K)) = pLoad12_tree made spent dv b K := by kernel_rfl
noncomputable def pLoad12_T (made : Int) (spent : Int) (dv : Int) (b : Mo.Bd) (K : S → List Ob → Prop) : Prop := Mo.pLoad12_pre spent b ∧ K (.tup [(.iv .u32 (Mo.Cnt.st (Mo.Bd.c1 (Mo.dTick_v1 0 b)))), (.il .i64 0)]) (h_P1n (adi made 1) (Mo.pLoad12_v1 spent) dv (Mo.pLoad12_v2 b))
theorem pLoad12_all (made : Int) (spent : Int) (dv : Int) (b : Mo.Bd) (K : S → List Ob → Prop) (h : pLoad12_T made spent dv b K) : pLoad12_tree made spent dv b K := by
  unfold pLoad12_T at h; obtain ⟨h0, h⟩ := h; unfold pLoad12_tree
  try simp only [Mo.pLoad12_v1] at h0 h
  try simp only [Mo.pLoad12_v2] at h0 h
  try simp only [Mo.pLoad12_pre] at h0 h
  repeat' (first | (refine ite_intro (fun c => ?_) (fun c => ?_) <;> first | simp only [if_pos c] at h0 h | simp only [if_neg c] at h0 h | skip) | with_reducible (replace h0 := (h0 : True ∧ _).2) | with_reducible (refine ⟨rfl, ?_⟩) | with_reducible (refine ⟨h0.1, ?_⟩; replace h0 := h0.2) | with_reducible (refine ⟨h0, ?_⟩) | (refine ⟨h0.1, ?_⟩; replace h0 := h0.2) | refine ⟨h0, ?_⟩ | refine ⟨rfl, ?_⟩ | refine ⟨trivial, ?_⟩ | refine ⟨by assumption, ?_⟩ | refine ⟨Eq.symm (by assumption), ?_⟩ | exact h | refine ⟨?_, ?_⟩ | exact h0.elim | trivial | contradiction | (simp only [if_true, if_false, Bool.false_eq_true] at h; exact h))
theorem pLoad12_sem (made : Int) (spent : Int) (dv : Int) (b : Mo.Bd) (K : S → List Ob → Prop) (h : pLoad12_T made spent dv b K) : CallSem noW Tryz.prog 62 [.ptr 0 (.l 0), .il .u32 268501036] (h_P1n made spent dv b) K := iv_call (callX_ok tok (by kernel_rfl) ffTrFok stopTrF_ok _ _ _ _ (Eq.mpr (pLoad12_run made spent dv b K) (pLoad12_all made spent dv b K h)))
noncomputable def pLoad12_con : Con := ⟨[.ptr 0, .same (.il .u32 268501036)], t_P1n, [], fun a K => match a with | ⟨[made, spent, dv], [], [], [cs_b_k, cs_b_w, cs_b_t, cs_b_r, cs_b_l, cs_b_c0, cs_b_c1], []⟩ => (match Mo.Cl.is cs_b_k with | true => (match Mo.Wd.is cs_b_w with | true => (match Mo.Rt.is cs_b_t with | true => (match Mo.Rs.is cs_b_r with | true => (match Mo.Ln.is cs_b_l with | true => (match Mo.Cnt.is cs_b_c0 with | true => (match Mo.Cnt.is cs_b_c1 with | true => pLoad12_T made spent dv (Mo.Bd.mk (Mo.Cl.of cs_b_k) (Mo.Wd.of cs_b_w) (Mo.Rt.of cs_b_t) (Mo.Rs.of cs_b_r) (Mo.Ln.of cs_b_l) (Mo.Cnt.of cs_b_c0) (Mo.Cnt.of cs_b_c1)) K | false => False) | false => False) | false => False) | false => False) | false => False) | false => False) | false => False) | _ => False⟩
theorem pLoad12_ok : pLoad12_con.ok noW Tryz.prog 62 := by
  intro a K h
  simp only [pLoad12_con] at h
  split at h
  case h_2 => exact h.elim
  split at h
  case h_2 => exact h.elim
  rename_i is_b_k
  split at h
  case h_2 => exact h.elim
  rename_i is_b_w
  split at h
  case h_2 => exact h.elim
  rename_i is_b_t
  split at h
  case h_2 => exact h.elim
  rename_i is_b_r
  split at h
  case h_2 => exact h.elim
  rename_i is_b_l
  split at h
  case h_2 => exact h.elim
  rename_i is_b_c0
  split at h
  case h_2 => exact h.elim
  rename_i is_b_c1
  exact CallSem.objs (pLoad12_sem _ _ _ _ K h) (fun _ _ _ h => h) ⟨WkO.same, WkO.same, WkO.cells (Mo.Cl.is_ok is_b_k), WkO.same, WkO.cells (Mo.Wd.is_ok is_b_w), WkO.cells (Mo.Rt.is_ok is_b_t), WkO.cells (Mo.Rs.is_ok is_b_r), WkO.cells (Mo.Ln.is_ok is_b_l), WkO.same, WkO.same, WkO.same, WkO.cells (Mo.Cnt.is_ok is_b_c0), WkO.cells (Mo.Cnt.is_ok is_b_c1), trivial⟩
noncomputable def tabTrG (n : Nat) : List Con := match Nat.beq n 63 with | true => [pStore0_con, pStore8_con, pStore12_con] | false => match Nat.beq n 62 with | true => [pLoad8_con, pLoad12_con] | false => tabTrF n
theorem tabTrG_ok : ∀ f, ∀ c ∈ tabTrG f, c.ok noW Tryz.prog f := by
  intro f c hc
  unfold tabTrG at hc
  split at hc
  · rename_i hf; have := Nat.eq_of_beq_eq_true hf; subst this
    simp only [List.mem_cons, List.not_mem_nil, or_false] at hc
    rcases hc with rfl | rfl | rfl
    · exact pStore0_ok
    · exact pStore8_ok
    · exact pStore12_ok
  split at hc
  · rename_i hf; have := Nat.eq_of_beq_eq_true hf; subst this
    simp only [List.mem_cons, List.not_mem_nil, or_false] at hc
    rcases hc with rfl | rfl
    · exact pLoad8_ok
    · exact pLoad12_ok
  exact tabTrF_ok f c hc
noncomputable def ffTrG (n : Nat) : Option FI := match Nat.beq n 63 with | true => none | false => match Nat.beq n 62 with | true => none | false => ffTrF n
theorem ffTrGok : FOk Tryz.prog ffTrG := fun f fi hf => by
  unfold ffTrG at hf
  split at hf
  · cases hf
  split at hf
  · cases hf
  exact ffTrFok f fi hf
noncomputable def stopTrG : CallT := stopC tabTrG stopB
theorem stopTrG_ok : ∀ f args h K, stopTrG f args h K → CallSem noW Tryz.prog f args h K := stopC_ok tabTrG_ok stopB_ok
end Go.SX.Y
