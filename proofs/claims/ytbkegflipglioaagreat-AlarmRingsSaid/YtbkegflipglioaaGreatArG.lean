/- What Go functions come to (lifted). -/
import Derived.Test.YtbkegflipglioaaGreatArF
set_option maxRecDepth 20000
namespace Go.SX.Y
open Go.Proofs Go.RowKit
noncomputable def h_P1n (made : Int) (spent : Int) (dv : Int) (b : Mo.Bd) : List Ob := [.cells 135 [.iv .i64 made, .iv .u64 spent, .iv .i64 0, .ptr 1 (.l 0), .raw (.slice none 0 0)], .cells 131 [.ptr 2 (.l 0), .ptr 3 (.l 0), .ptr 4 (.l 0), .ptr 5 (.l 0), .ptr 6 (.l 0), .ptr 7 (.l 0), .ptr 8 (.l 0), .iv .i64 1, .iv .i64 1, .iv .u32 dv, .raw (.slice none 0 0)], .cells 183 (Mo.Cl.cells (Mo.Bd.k b)), .cells 188 [.sli 9 (.l 0) (.l 1) (.lit (.l 1)) false], .cells 194 (Mo.Wd.cells (Mo.Bd.w b)), .cells 190 (Mo.Rt.cells (Mo.Bd.t b)), .cells 200 (Mo.Rs.cells (Mo.Bd.r b)), .cells 204 (Mo.Ln.cells (Mo.Bd.l b)), .cells 227 [.mp 10], .row 185 1 (.l 1) [.ptr 11 (.l 0)], .mapo [.agg [.il .u32 33554432, .il .u32 49152], .agg [.il .u32 268500992, .il .u32 256], .agg [.il .u32 268566528, .il .u32 20], .agg [.il .u32 268632064, .il .u32 16], .agg [.il .u32 268697600, .il .u32 36], .agg [.il .u32 268763136, .il .u32 12]] [.ifc 107 (.ptr 2 (.l 0)), .ifc 110 (.ptr 3 (.l 0)), .ifc 119 (.ptr 4 (.l 0)), .ifc 125 (.ptr 6 (.l 0)), .ifc 44 (.ptr 5 (.l 0)), .ifc 127 (.ptr 7 (.l 0))], .cells 246 (Mo.Cnt.cells (Mo.Bd.c b))]
def t_P1n : List OTm := [.cells 135 [.int .i64, .int .u64, .eqI .i64 0, .ptr 1, .same (.raw (.slice none 0 0))], .cells 131 [.ptr 2, .ptr 3, .ptr 4, .ptr 5, .ptr 6, .ptr 7, .ptr 8, .eqI .i64 1, .eqI .i64 1, .int .u32, .same (.raw (.slice none 0 0))], .cellsV 183, .cells 188 [.same (.sli 9 (.l 0) (.l 1) (.lit (.l 1)) false)], .cellsV 194, .cellsV 190, .cellsV 200, .cellsV 204, .cells 227 [.mp 10], .row 185 1 1 [.ptr 11], .mapo [.agg [.same (.il .u32 33554432), .same (.il .u32 49152)], .agg [.same (.il .u32 268500992), .same (.il .u32 256)], .agg [.same (.il .u32 268566528), .same (.il .u32 20)], .agg [.same (.il .u32 268632064), .same (.il .u32 16)], .agg [.same (.il .u32 268697600), .same (.il .u32 36)], .agg [.same (.il .u32 268763136), .same (.il .u32 12)]] [.ifc 107 (.ptr 2), .ifc 110 (.ptr 3), .ifc 119 (.ptr 4), .ifc 125 (.ptr 6), .ifc 44 (.ptr 5), .ifc 127 (.ptr 7)], .cellsV 246]
noncomputable def h_P1g (made : Int) (spent : Int) (dv : Int) (gp : Int) (b : Mo.Bd) : List Ob := [.cells 135 [.iv .i64 made, .iv .u64 spent, .iv .i64 0, .ptr 1 (.l 0), .sli 2 (.l 0) (.l 1) (.rest (.l 0)) false], .cells 131 [.ptr 3 (.l 0), .ptr 4 (.l 0), .ptr 5 (.l 0), .ptr 6 (.l 0), .ptr 7 (.l 0), .ptr 8 (.l 0), .ptr 9 (.l 0), .iv .i64 1, .iv .i64 1, .iv .u32 dv, .raw (.slice none 0 0)], .row 22 1 (.l 1) [.iv .u32 gp], .cells 183 (Mo.Cl.cells (Mo.Bd.k b)), .cells 188 [.sli 10 (.l 0) (.l 1) (.lit (.l 1)) false], .cells 194 (Mo.Wd.cells (Mo.Bd.w b)), .cells 190 (Mo.Rt.cells (Mo.Bd.t b)), .cells 200 (Mo.Rs.cells (Mo.Bd.r b)), .cells 204 (Mo.Ln.cells (Mo.Bd.l b)), .cells 227 [.mp 11], .row 185 1 (.l 1) [.ptr 12 (.l 0)], .mapo [.agg [.il .u32 33554432, .il .u32 49152], .agg [.il .u32 268500992, .il .u32 256], .agg [.il .u32 268566528, .il .u32 20], .agg [.il .u32 268632064, .il .u32 16], .agg [.il .u32 268697600, .il .u32 36], .agg [.il .u32 268763136, .il .u32 12]] [.ifc 107 (.ptr 3 (.l 0)), .ifc 110 (.ptr 4 (.l 0)), .ifc 119 (.ptr 5 (.l 0)), .ifc 125 (.ptr 7 (.l 0)), .ifc 44 (.ptr 6 (.l 0)), .ifc 127 (.ptr 8 (.l 0))], .cells 246 (Mo.Cnt.cells (Mo.Bd.c b))]
def t_P1g : List OTm := [.cells 135 [.int .i64, .int .u64, .eqI .i64 0, .ptr 1, .same (.sli 2 (.l 0) (.l 1) (.rest (.l 0)) false)], .cells 131 [.ptr 3, .ptr 4, .ptr 5, .ptr 6, .ptr 7, .ptr 8, .ptr 9, .eqI .i64 1, .eqI .i64 1, .int .u32, .same (.raw (.slice none 0 0))], .row 22 1 1 [.int .u32], .cellsV 183, .cells 188 [.same (.sli 10 (.l 0) (.l 1) (.lit (.l 1)) false)], .cellsV 194, .cellsV 190, .cellsV 200, .cellsV 204, .cells 227 [.mp 11], .row 185 1 1 [.ptr 12], .mapo [.agg [.same (.il .u32 33554432), .same (.il .u32 49152)], .agg [.same (.il .u32 268500992), .same (.il .u32 256)], .agg [.same (.il .u32 268566528), .same (.il .u32 20)], .agg [.same (.il .u32 268632064), .same (.il .u32 16)], .agg [.same (.il .u32 268697600), .same (.il .u32 36)], .agg [.same (.il .u32 268763136), .same (.il .u32 12)]] [.ifc 107 (.ptr 3), .ifc 110 (.ptr 4), .ifc 119 (.ptr 5), .ifc 125 (.ptr 7), .ifc 44 (.ptr 6), .ifc 127 (.ptr 8)], .cellsV 246]
noncomputable def Mo.pStore8_v1 (spent : Int) : Int := (if ((iE ((spent + 0) / 18446744073709551616) 0) = true) then ((spent + 0) % 18446744073709551616) else 18446744073709551615)
noncomputable def Mo.pStore8_v2 (v : Int) (b : Mo.Bd) : Mo.Bd := (Mo.dStore8_v1 v (Mo.dTick_v1 0 b))
noncomputable def Mo.pStore8_pre (v : Int) (spent : Int) (b : Mo.Bd) : Prop := ((((0 : Int) ≤ spent) ∧ ((0 : Int) ≤ 0)) ∧ ((Mo.dTick_pre 0 b) ∧ (Mo.dStore8_pre v (Mo.dTick_v1 0 b))))
noncomputable def pStore8_tree (v : Int) (made : Int) (spent : Int) (dv : Int) (b : Mo.Bd) (K : S → List Ob → Prop) : Prop := (((1 : Int) = 1) ∧ (((1 : Int) = 1) ∧ (True ∧ (((some (S.iv IntKind.i64 0)) = (some (S.iv IntKind.i64 0))) ∧ ((((0 : Int) ≤ spent) ∧ ((0 : Int) ≤ 0)) ∧ (((0 : Int) = 0) ∧ (if ((iE ((spent + 0) / 18446744073709551616) 0) = true) then (((1 : Int) = 1) ∧ (((1 : Int) = 1) ∧ ((Mo.dTick_pre 0 b) ∧ (((1 : Int) = 1) ∧ (((1 : Int) = 1) ∧ (True ∧ (((some (S.iv IntKind.i64 0)) = (some (S.iv IntKind.i64 0))) ∧ (((1 : Int) = 1) ∧ (((1 : Int) = 1) ∧ ((Mo.dStore8_pre v (Mo.dTick_v1 0 b)) ∧ (((1 : Int) = 1) ∧ (((1 : Int) = 1) ∧ (True ∧ (((some (S.iv IntKind.i64 0)) = (some (S.iv IntKind.i64 0))) ∧ K (.il .i64 0) (h_P1n (adi made 1) ((spent + 0) % 18446744073709551616) dv (Mo.dStore8_v1 v (Mo.dTick_v1 0 b))))))))))))))))) else (((1 : Int) = 1) ∧ (((1 : Int) = 1) ∧ ((Mo.dTick_pre 0 b) ∧ (((1 : Int) = 1) ∧ (((1 : Int) = 1) ∧ (True ∧ (((some (S.iv IntKind.i64 0)) = (some (S.iv IntKind.i64 0))) ∧ (((1 : Int) = 1) ∧ (((1 : Int) = 1) ∧ ((Mo.dStore8_pre v (Mo.dTick_v1 0 b)) ∧ (((1 : Int) = 1) ∧ (((1 : Int) = 1) ∧ (True ∧ (((some (S.iv IntKind.i64 0)) = (some (S.iv IntKind.i64 0))) ∧ K (.il .i64 0) (h_P1n (adi made 1) 18446744073709551615 dv (Mo.dStore8_v1 v (Mo.dTick_v1 0 b))))))))))))))))))))))))
theorem pStore8_run (v : Int) (made : Int) (spent : Int) (dv : Int) (b : Mo.Bd) (K : S → List Ob → Prop) : callL (std noW) tt ffArF stopArF noL 8 63 [.ptr 0 (.l 0), .il .u32 268697608, .iv .u32 v] (h_P1n made spent dv b) (gcK 12 (ivK false K)) = pStore8_tree v made spent dv b K := by kernel_rfl
noncomputable def pStore8_T (v : Int) (made : Int) (spent : Int) (dv : Int) (b : Mo.Bd) (K : S → List Ob → Prop) : Prop := Mo.pStore8_pre v spent b ∧ K (.il .i64 0) (h_P1n (adi made 1) (Mo.pStore8_v1 spent) dv (Mo.pStore8_v2 v b))
theorem pStore8_all (v : Int) (made : Int) (spent : Int) (dv : Int) (b : Mo.Bd) (K : S → List Ob → Prop) (h : pStore8_T v made spent dv b K) : pStore8_tree v made spent dv b K := by
  unfold pStore8_T at h; obtain ⟨h0, h⟩ := h; unfold pStore8_tree
  try simp only [Mo.pStore8_v1] at h0 h
  try simp only [Mo.pStore8_v2] at h0 h
  try simp only [Mo.pStore8_pre] at h0 h
  refine ⟨rfl, ?_⟩
  refine ⟨rfl, ?_⟩
  refine ⟨?_, ?_⟩
  trivial
  refine ⟨rfl, ?_⟩
  refine ⟨h0.1, ?_⟩; replace h0 := h0.2
  refine ⟨rfl, ?_⟩
  refine ite_intro (fun c0 => ?_) (fun c0 => ?_)
  try simp only [if_pos c0] at h0 h
  refine ⟨rfl, ?_⟩
  refine ⟨rfl, ?_⟩
  refine ⟨h0.1, ?_⟩; replace h0 := h0.2
  refine ⟨rfl, ?_⟩
  refine ⟨rfl, ?_⟩
  refine ⟨?_, ?_⟩
  trivial
  refine ⟨rfl, ?_⟩
  refine ⟨rfl, ?_⟩
  refine ⟨rfl, ?_⟩
  refine ⟨h0, ?_⟩
  refine ⟨rfl, ?_⟩
  refine ⟨rfl, ?_⟩
  refine ⟨?_, ?_⟩
  trivial
  refine ⟨rfl, ?_⟩
  first | exact h | contradiction | (simp only [if_true, if_false, Bool.false_eq_true] at h; exact h)
  try simp only [if_neg c0] at h0 h
  refine ⟨rfl, ?_⟩
  refine ⟨rfl, ?_⟩
  refine ⟨h0.1, ?_⟩; replace h0 := h0.2
  refine ⟨rfl, ?_⟩
  refine ⟨rfl, ?_⟩
  refine ⟨?_, ?_⟩
  trivial
  refine ⟨rfl, ?_⟩
  refine ⟨rfl, ?_⟩
  refine ⟨rfl, ?_⟩
  refine ⟨h0, ?_⟩
  refine ⟨rfl, ?_⟩
  refine ⟨rfl, ?_⟩
  refine ⟨?_, ?_⟩
  trivial
  refine ⟨rfl, ?_⟩
  first | exact h | contradiction | (simp only [if_true, if_false, Bool.false_eq_true] at h; exact h)
theorem pStore8_sem (v : Int) (made : Int) (spent : Int) (dv : Int) (b : Mo.Bd) (K : S → List Ob → Prop) (h : pStore8_T v made spent dv b K) : CallSem noW Tryz.prog 63 [.ptr 0 (.l 0), .il .u32 268697608, .iv .u32 v] (h_P1n made spent dv b) K := iv_call (callL_ok tok (by kernel_rfl) ffArFok stopArF_ok _ _ _ _ (Eq.mpr (pStore8_run v made spent dv b K) (pStore8_all v made spent dv b K h)))
noncomputable def pStore8_con : Con := ⟨[.ptr 0, .same (.il .u32 268697608), .int .u32], t_P1n, fun a K => match a with | ⟨[v, made, spent, dv], [], [], [cs_b_k, cs_b_w, cs_b_t, cs_b_r, cs_b_l, cs_b_c]⟩ => (match Mo.Cl.is cs_b_k with | true => (match Mo.Wd.is cs_b_w with | true => (match Mo.Rt.is cs_b_t with | true => (match Mo.Rs.is cs_b_r with | true => (match Mo.Ln.is cs_b_l with | true => (match Mo.Cnt.is cs_b_c with | true => pStore8_T v made spent dv (Mo.Bd.mk (Mo.Cl.of cs_b_k) (Mo.Wd.of cs_b_w) (Mo.Rt.of cs_b_t) (Mo.Rs.of cs_b_r) (Mo.Ln.of cs_b_l) (Mo.Cnt.of cs_b_c)) K | false => False) | false => False) | false => False) | false => False) | false => False) | false => False) | _ => False⟩
theorem pStore8_ok : pStore8_con.ok noW Tryz.prog 63 := by
  intro a K h
  simp only [pStore8_con] at h
  split at h
  case h_2 => exact h.elim
  split at h
  case h_2 => exact h.elim
  rename_i is_b_k
  split at h
  case h_2 => exact h.elim
  rename_i is_b_w
  split at h
  case h_2 => exact h.elim
  rename_i is_b_t
  split at h
  case h_2 => exact h.elim
  rename_i is_b_r
  split at h
  case h_2 => exact h.elim
  rename_i is_b_l
  split at h
  case h_2 => exact h.elim
  rename_i is_b_c
  exact CallSem.objs (pStore8_sem _ _ _ _ _ K h) (fun _ _ _ h => h) ⟨WkO.same (fun cs h => by cases h), WkO.same (fun cs h => by cases h), WkO.cells (Mo.Cl.is_ok is_b_k), WkO.same (fun cs h => by cases h), WkO.cells (Mo.Wd.is_ok is_b_w), WkO.cells (Mo.Rt.is_ok is_b_t), WkO.cells (Mo.Rs.is_ok is_b_r), WkO.cells (Mo.Ln.is_ok is_b_l), WkO.same (fun cs h => by cases h), WkO.same (fun cs h => by cases h), WkO.same (fun cs h => by cases h), WkO.cells (Mo.Cnt.is_ok is_b_c), trivial⟩
noncomputable def Mo.pStore12_v1 (spent : Int) : Int := (if ((iE ((spent + 0) / 18446744073709551616) 0) = true) then ((spent + 0) % 18446744073709551616) else 18446744073709551615)
noncomputable def Mo.pStore12_v2 (v : Int) (b : Mo.Bd) : Mo.Bd := (Mo.dStore12_v1 v (Mo.dTick_v1 0 b))
noncomputable def Mo.pStore12_pre (v : Int) (spent : Int) (b : Mo.Bd) : Prop := ((((0 : Int) ≤ spent) ∧ ((0 : Int) ≤ 0)) ∧ ((Mo.dTick_pre 0 b) ∧ (Mo.dStore12_pre v (Mo.dTick_v1 0 b))))
noncomputable def pStore12_tree (v : Int) (made : Int) (spent : Int) (dv : Int) (b : Mo.Bd) (K : S → List Ob → Prop) : Prop := (((1 : Int) = 1) ∧ (((1 : Int) = 1) ∧ (True ∧ (((some (S.iv IntKind.i64 0)) = (some (S.iv IntKind.i64 0))) ∧ ((((0 : Int) ≤ spent) ∧ ((0 : Int) ≤ 0)) ∧ (((0 : Int) = 0) ∧ (if ((iE ((spent + 0) / 18446744073709551616) 0) = true) then (((1 : Int) = 1) ∧ (((1 : Int) = 1) ∧ ((Mo.dTick_pre 0 b) ∧ (((1 : Int) = 1) ∧ (((1 : Int) = 1) ∧ (True ∧ (((some (S.iv IntKind.i64 0)) = (some (S.iv IntKind.i64 0))) ∧ (((1 : Int) = 1) ∧ (((1 : Int) = 1) ∧ (((1 : Int) = 1) ∧ (((1 : Int) = 1) ∧ ((Mo.dStore12_pre v (Mo.dTick_v1 0 b)) ∧ (((1 : Int) = 1) ∧ (((1 : Int) = 1) ∧ (True ∧ (((some (S.iv IntKind.i64 0)) = (some (S.iv IntKind.i64 0))) ∧ K (.il .i64 0) (h_P1n (adi made 1) ((spent + 0) % 18446744073709551616) dv (Mo.dStore12_v1 v (Mo.dTick_v1 0 b))))))))))))))))))) else (((1 : Int) = 1) ∧ (((1 : Int) = 1) ∧ ((Mo.dTick_pre 0 b) ∧ (((1 : Int) = 1) ∧ (((1 : Int) = 1) ∧ (True ∧ (((some (S.iv IntKind.i64 0)) = (some (S.iv IntKind.i64 0))) ∧ (((1 : Int) = 1) ∧ (((1 : Int) = 1) ∧ (((1 : Int) = 1) ∧ (((1 : Int) = 1) ∧ ((Mo.dStore12_pre v (Mo.dTick_v1 0 b)) ∧ (((1 : Int) = 1) ∧ (((1 : Int) = 1) ∧ (True ∧ (((some (S.iv IntKind.i64 0)) = (some (S.iv IntKind.i64 0))) ∧ K (.il .i64 0) (h_P1n (adi made 1) 18446744073709551615 dv (Mo.dStore12_v1 v (Mo.dTick_v1 0 b))))))))))))))))))))))))))
theorem pStore12_run (v : Int) (made : Int) (spent : Int) (dv : Int) (b : Mo.Bd) (K : S → List Ob → Prop) : callL (std noW) tt ffArF stopArF noL 8 63 [.ptr 0 (.l 0), .il .u32 268697612, .iv .u32 v] (h_P1n made spent dv b) (gcK 12 (ivK false K)) = pStore12_tree v made spent dv b K := by kernel_rfl
noncomputable def pStore12_T (v : Int) (made : Int) (spent : Int) (dv : Int) (b : Mo.Bd) (K : S → List Ob → Prop) : Prop := Mo.pStore12_pre v spent b ∧ K (.il .i64 0) (h_P1n (adi made 1) (Mo.pStore12_v1 spent) dv (Mo.pStore12_v2 v b))
theorem pStore12_all (v : Int) (made : Int) (spent : Int) (dv : Int) (b : Mo.Bd) (K : S → List Ob → Prop) (h : pStore12_T v made spent dv b K) : pStore12_tree v made spent dv b K := by
  unfold pStore12_T at h; obtain ⟨h0, h⟩ := h; unfold pStore12_tree
  try simp only [Mo.pStore12_v1] at h0 h
  try simp only [Mo.pStore12_v2] at h0 h
  try simp only [Mo.pStore12_pre] at h0 h
  refine ⟨rfl, ?_⟩
  refine ⟨rfl, ?_⟩
  refine ⟨?_, ?_⟩
  trivial
  refine ⟨rfl, ?_⟩
  refine ⟨h0.1, ?_⟩; replace h0 := h0.2
  refine ⟨rfl, ?_⟩
  refine ite_intro (fun c0 => ?_) (fun c0 => ?_)
  try simp only [if_pos c0] at h0 h
  refine ⟨rfl, ?_⟩
  refine ⟨rfl, ?_⟩
  refine ⟨h0.1, ?_⟩; replace h0 := h0.2
  refine ⟨rfl, ?_⟩
  refine ⟨rfl, ?_⟩
  refine ⟨?_, ?_⟩
  trivial
  refine ⟨rfl, ?_⟩
  refine ⟨rfl, ?_⟩
  refine ⟨rfl, ?_⟩
  refine ⟨rfl, ?_⟩
  refine ⟨rfl, ?_⟩
  refine ⟨h0, ?_⟩
  refine ⟨rfl, ?_⟩
  refine ⟨rfl, ?_⟩
  refine ⟨?_, ?_⟩
  trivial
  refine ⟨rfl, ?_⟩
  first | exact h | contradiction | (simp only [if_true, if_false, Bool.false_eq_true] at h; exact h)
  try simp only [if_neg c0] at h0 h
  refine ⟨rfl, ?_⟩
  refine ⟨rfl, ?_⟩
  refine ⟨h0.1, ?_⟩; replace h0 := h0.2
  refine ⟨rfl, ?_⟩
  refine ⟨rfl, ?_⟩
  refine ⟨?_, ?_⟩
  trivial
  refine ⟨rfl, ?_⟩
  refine ⟨rfl, ?_⟩
  refine ⟨rfl, ?_⟩
  refine ⟨rfl, ?_⟩
  refine ⟨rfl, ?_⟩
  refine ⟨h0, ?_⟩
  refine ⟨rfl, ?_⟩
  refine ⟨rfl, ?_⟩
  refine ⟨?_, ?_⟩
  trivial
  refine ⟨rfl, ?_⟩
  first | exact h | contradiction | (simp only [if_true, if_false, Bool.false_eq_true] at h; exact h)
theorem pStore12_sem (v : Int) (made : Int) (spent : Int) (dv : Int) (b : Mo.Bd) (K : S → List Ob → Prop) (h : pStore12_T v made spent dv b K) : CallSem noW Tryz.prog 63 [.ptr 0 (.l 0), .il .u32 268697612, .iv .u32 v] (h_P1n made spent dv b) K := iv_call (callL_ok tok (by kernel_rfl) ffArFok stopArF_ok _ _ _ _ (Eq.mpr (pStore12_run v made spent dv b K) (pStore12_all v made spent dv b K h)))
noncomputable def pStore12_con : Con := ⟨[.ptr 0, .same (.il .u32 268697612), .int .u32], t_P1n, fun a K => match a with | ⟨[v, made, spent, dv], [], [], [cs_b_k, cs_b_w, cs_b_t, cs_b_r, cs_b_l, cs_b_c]⟩ => (match Mo.Cl.is cs_b_k with | true => (match Mo.Wd.is cs_b_w with | true => (match Mo.Rt.is cs_b_t with | true => (match Mo.Rs.is cs_b_r with | true => (match Mo.Ln.is cs_b_l with | true => (match Mo.Cnt.is cs_b_c with | true => pStore12_T v made spent dv (Mo.Bd.mk (Mo.Cl.of cs_b_k) (Mo.Wd.of cs_b_w) (Mo.Rt.of cs_b_t) (Mo.Rs.of cs_b_r) (Mo.Ln.of cs_b_l) (Mo.Cnt.of cs_b_c)) K | false => False) | false => False) | false => False) | false => False) | false => False) | false => False) | _ => False⟩
theorem pStore12_ok : pStore12_con.ok noW Tryz.prog 63 := by
  intro a K h
  simp only [pStore12_con] at h
  split at h
  case h_2 => exact h.elim
  split at h
  case h_2 => exact h.elim
  rename_i is_b_k
  split at h
  case h_2 => exact h.elim
  rename_i is_b_w
  split at h
  case h_2 => exact h.elim
  rename_i is_b_t
  split at h
  case h_2 => exact h.elim
  rename_i is_b_r
  split at h
  case h_2 => exact h.elim
  rename_i is_b_l
  split at h
  case h_2 => exact h.elim
  rename_i is_b_c
  exact CallSem.objs (pStore12_sem _ _ _ _ _ K h) (fun _ _ _ h => h) ⟨WkO.same (fun cs h => by cases h), WkO.same (fun cs h => by cases h), WkO.cells (Mo.Cl.is_ok is_b_k), WkO.same (fun cs h => by cases h), WkO.cells (Mo.Wd.is_ok is_b_w), WkO.cells (Mo.Rt.is_ok is_b_t), WkO.cells (Mo.Rs.is_ok is_b_r), WkO.cells (Mo.Ln.is_ok is_b_l), WkO.same (fun cs h => by cases h), WkO.same (fun cs h => by cases h), WkO.same (fun cs h => by cases h), WkO.cells (Mo.Cnt.is_ok is_b_c), trivial⟩
noncomputable def Mo.pStore16_v1 (spent : Int) : Int := (if ((iE ((spent + 0) / 18446744073709551616) 0) = true) then ((spent + 0) % 18446744073709551616) else 18446744073709551615)
noncomputable def Mo.pStore16_v2 (v : Int) (b : Mo.Bd) : Mo.Bd := (Mo.dStore16_v1 v (Mo.dTick_v1 0 b))
noncomputable def Mo.pStore16_pre (v : Int) (spent : Int) (b : Mo.Bd) : Prop := ((((0 : Int) ≤ spent) ∧ ((0 : Int) ≤ 0)) ∧ ((Mo.dTick_pre 0 b) ∧ (Mo.dStore16_pre v (Mo.dTick_v1 0 b))))
noncomputable def pStore16_tree (v : Int) (made : Int) (spent : Int) (dv : Int) (b : Mo.Bd) (K : S → List Ob → Prop) : Prop := (((1 : Int) = 1) ∧ (((1 : Int) = 1) ∧ (True ∧ (((some (S.iv IntKind.i64 0)) = (some (S.iv IntKind.i64 0))) ∧ ((((0 : Int) ≤ spent) ∧ ((0 : Int) ≤ 0)) ∧ (((0 : Int) = 0) ∧ (if ((iE ((spent + 0) / 18446744073709551616) 0) = true) then (((1 : Int) = 1) ∧ (((1 : Int) = 1) ∧ ((Mo.dTick_pre 0 b) ∧ (((1 : Int) = 1) ∧ (((1 : Int) = 1) ∧ (True ∧ (((some (S.iv IntKind.i64 0)) = (some (S.iv IntKind.i64 0))) ∧ (((1 : Int) = 1) ∧ (((1 : Int) = 1) ∧ (((1 : Int) = 1) ∧ (((1 : Int) = 1) ∧ (((1 : Int) = 1) ∧ (((1 : Int) = 1) ∧ ((Mo.dStore16_pre v (Mo.dTick_v1 0 b)) ∧ (((1 : Int) = 1) ∧ (((1 : Int) = 1) ∧ (True ∧ (((some (S.iv IntKind.i64 0)) = (some (S.iv IntKind.i64 0))) ∧ K (.il .i64 0) (h_P1n (adi made 1) ((spent + 0) % 18446744073709551616) dv (Mo.dStore16_v1 v (Mo.dTick_v1 0 b))))))))))))))))))))) else (((1 : Int) = 1) ∧ (((1 : Int) = 1) ∧ ((Mo.dTick_pre 0 b) ∧ (((1 : Int) = 1) ∧ (((1 : Int) = 1) ∧ (True ∧ (((some (S.iv IntKind.i64 0)) = (some (S.iv IntKind.i64 0))) ∧ (((1 : Int) = 1) ∧ (((1 : Int) = 1) ∧ (((1 : Int) = 1) ∧ (((1 : Int) = 1) ∧ (((1 : Int) = 1) ∧ (((1 : Int) = 1) ∧ ((Mo.dStore16_pre v (Mo.dTick_v1 0 b)) ∧ (((1 : Int) = 1) ∧ (((1 : Int) = 1) ∧ (True ∧ (((some (S.iv IntKind.i64 0)) = (some (S.iv IntKind.i64 0))) ∧ K (.il .i64 0) (h_P1n (adi made 1) 18446744073709551615 dv (Mo.dStore16_v1 v (Mo.dTick_v1 0 b))))))))))))))))))))))))))))
theorem pStore16_run (v : Int) (made : Int) (spent : Int) (dv : Int) (b : Mo.Bd) (K : S → List Ob → Prop) : callL (std noW) tt ffArF stopArF noL 8 63 [.ptr 0 (.l 0), .il .u32 268697616, .iv .u32 v] (h_P1n made spent dv b) (gcK 12 (ivK false K)) = pStore16_tree v made spent dv b K := by kernel_rfl
noncomputable def pStore16_T (v : Int) (made : Int) (spent : Int) (dv : Int) (b : Mo.Bd) (K : S → List Ob → Prop) : Prop := Mo.pStore16_pre v spent b ∧ K (.il .i64 0) (h_P1n (adi made 1) (Mo.pStore16_v1 spent) dv (Mo.pStore16_v2 v b))
theorem pStore16_all (v : Int) (made : Int) (spent : Int) (dv : Int) (b : Mo.Bd) (K : S → List Ob → Prop) (h : pStore16_T v made spent dv b K) : pStore16_tree v made spent dv b K := by
  unfold pStore16_T at h; obtain ⟨h0, h⟩ := h; unfold pStore16_tree
  try simp only [Mo.pStore16_v1] at h0 h
  try simp only [Mo.pStore16_v2] at h0 h
  try simp only [Mo.pStore16_pre] at h0 h
  refine ⟨rfl, ?_⟩
  refine ⟨rfl, ?_⟩
  refine ⟨?_, ?_⟩
  trivial
  refine ⟨rfl, ?_⟩
  refine ⟨h0.1, ?_⟩; replace h0 := h0.2
  refine ⟨rfl, ?_⟩
  refine ite_intro (fun c0 => ?_) (fun c0 => ?_)
  try simp only [if_pos c0] at h0 h
  refine ⟨rfl, ?_⟩
  refine ⟨rfl, ?_⟩
  refine ⟨h0.1, ?_⟩; replace h0 := h0.2
  refine ⟨rfl, ?_⟩
  refine ⟨rfl, ?_⟩
  refine ⟨?_, ?_⟩
  trivial
  refine ⟨rfl, ?_⟩
  refine ⟨rfl, ?_⟩
  refine ⟨rfl, ?_⟩
  refine ⟨rfl, ?_⟩
  refine ⟨rfl, ?_⟩
  refine ⟨rfl, ?_⟩
  refine ⟨rfl, ?_⟩
  refine ⟨h0, ?_⟩
  refine ⟨rfl, ?_⟩
  refine ⟨rfl, ?_⟩
  refine ⟨?_, ?_⟩
  trivial
  refine ⟨rfl, ?_⟩
  first | exact h | contradiction | (simp only [if_true, if_false, Bool.false_eq_true] at h; exact h)
  try simp only [if_neg c0] at h0 h
  refine ⟨rfl, ?_⟩
  refine ⟨rfl, ?_⟩
  refine ⟨h0.1, ?_⟩; replace h0 := h0.2
  refine ⟨rfl, ?_⟩
  refine ⟨rfl, ?_⟩
  refine ⟨?_, ?_⟩
  trivial
  refine ⟨rfl, ?_⟩
  refine ⟨rfl, ?_⟩
  refine ⟨rfl, ?_⟩
  refine ⟨rfl, ?_⟩
  refine ⟨rfl, ?_⟩
  refine ⟨rfl, ?_⟩
  refine ⟨rfl, ?_⟩
  refine ⟨h0, ?_⟩
  refine ⟨rfl, ?_⟩
  refine ⟨rfl, ?_⟩
  refine ⟨?_, ?_⟩
  trivial
  refine ⟨rfl, ?_⟩
  first | exact h | contradiction | (simp only [if_true, if_false, Bool.false_eq_true] at h; exact h)
theorem pStore16_sem (v : Int) (made : Int) (spent : Int) (dv : Int) (b : Mo.Bd) (K : S → List Ob → Prop) (h : pStore16_T v made spent dv b K) : CallSem noW Tryz.prog 63 [.ptr 0 (.l 0), .il .u32 268697616, .iv .u32 v] (h_P1n made spent dv b) K := iv_call (callL_ok tok (by kernel_rfl) ffArFok stopArF_ok _ _ _ _ (Eq.mpr (pStore16_run v made spent dv b K) (pStore16_all v made spent dv b K h)))
noncomputable def pStore16_con : Con := ⟨[.ptr 0, .same (.il .u32 268697616), .int .u32], t_P1n, fun a K => match a with | ⟨[v, made, spent, dv], [], [], [cs_b_k, cs_b_w, cs_b_t, cs_b_r, cs_b_l, cs_b_c]⟩ => (match Mo.Cl.is cs_b_k with | true => (match Mo.Wd.is cs_b_w with | true => (match Mo.Rt.is cs_b_t with | true => (match Mo.Rs.is cs_b_r with | true => (match Mo.Ln.is cs_b_l with | true => (match Mo.Cnt.is cs_b_c with | true => pStore16_T v made spent dv (Mo.Bd.mk (Mo.Cl.of cs_b_k) (Mo.Wd.of cs_b_w) (Mo.Rt.of cs_b_t) (Mo.Rs.of cs_b_r) (Mo.Ln.of cs_b_l) (Mo.Cnt.of cs_b_c)) K | false => False) | false => False) | false => False) | false => False) | false => False) | false => False) | _ => False⟩
theorem pStore16_ok : pStore16_con.ok noW Tryz.prog 63 := by
  intro a K h
  simp only [pStore16_con] at h
  split at h
  case h_2 => exact h.elim
  split at h
  case h_2 => exact h.elim
  rename_i is_b_k
  split at h
  case h_2 => exact h.elim
  rename_i is_b_w
  split at h
  case h_2 => exact h.elim
  rename_i is_b_t
  split at h
  case h_2 => exact h.elim
  rename_i is_b_r
  split at h
  case h_2 => exact h.elim
  rename_i is_b_l
  split at h
  case h_2 => exact h.elim
  rename_i is_b_c
  exact CallSem.objs (pStore16_sem _ _ _ _ _ K h) (fun _ _ _ h => h) ⟨WkO.same (fun cs h => by cases h), WkO.same (fun cs h => by cases h), WkO.cells (Mo.Cl.is_ok is_b_k), WkO.same (fun cs h => by cases h), WkO.cells (Mo.Wd.is_ok is_b_w), WkO.cells (Mo.Rt.is_ok is_b_t), WkO.cells (Mo.Rs.is_ok is_b_r), WkO.cells (Mo.Ln.is_ok is_b_l), WkO.same (fun cs h => by cases h), WkO.same (fun cs h => by cases h), WkO.same (fun cs h => by cases h), WkO.cells (Mo.Cnt.is_ok is_b_c), trivial⟩
noncomputable def Mo.pStore20_v1 (spent : Int) : Int := (if ((iE ((spent + 0) / 18446744073709551616) 0) = true) then ((spent + 0) % 18446744073709551616) else 18446744073709551615)
noncomputable def Mo.pStore20_v2 (v : Int) (b : Mo.Bd) : Mo.Bd := (Mo.dStore20_v1 v (Mo.dTick_v1 0 b))
noncomputable def Mo.pStore20_pre (v : Int) (spent : Int) (b : Mo.Bd) : Prop := ((((0 : Int) ≤ spent) ∧ ((0 : Int) ≤ 0)) ∧ ((Mo.dTick_pre 0 b) ∧ (Mo.dStore20_pre v (Mo.dTick_v1 0 b))))
noncomputable def pStore20_tree (v : Int) (made : Int) (spent : Int) (dv : Int) (b : Mo.Bd) (K : S → List Ob → Prop) : Prop := (((1 : Int) = 1) ∧ (((1 : Int) = 1) ∧ (True ∧ (((some (S.iv IntKind.i64 0)) = (some (S.iv IntKind.i64 0))) ∧ ((((0 : Int) ≤ spent) ∧ ((0 : Int) ≤ 0)) ∧ (((0 : Int) = 0) ∧ (if ((iE ((spent + 0) / 18446744073709551616) 0) = true) then (((1 : Int) = 1) ∧ (((1 : Int) = 1) ∧ ((Mo.dTick_pre 0 b) ∧ (((1 : Int) = 1) ∧ (((1 : Int) = 1) ∧ (True ∧ (((some (S.iv IntKind.i64 0)) = (some (S.iv IntKind.i64 0))) ∧ (((1 : Int) = 1) ∧ (((1 : Int) = 1) ∧ (((1 : Int) = 1) ∧ (((1 : Int) = 1) ∧ (((1 : Int) = 1) ∧ (((1 : Int) = 1) ∧ (((1 : Int) = 1) ∧ (((1 : Int) = 1) ∧ ((Mo.dStore20_pre v (Mo.dTick_v1 0 b)) ∧ (((1 : Int) = 1) ∧ (((1 : Int) = 1) ∧ (True ∧ (((some (S.iv IntKind.i64 0)) = (some (S.iv IntKind.i64 0))) ∧ K (.il .i64 0) (h_P1n (adi made 1) ((spent + 0) % 18446744073709551616) dv (Mo.dStore20_v1 v (Mo.dTick_v1 0 b))))))))))))))))))))))) else (((1 : Int) = 1) ∧ (((1 : Int) = 1) ∧ ((Mo.dTick_pre 0 b) ∧ (((1 : Int) = 1) ∧ (((1 : Int) = 1) ∧ (True ∧ (((some (S.iv IntKind.i64 0)) = (some (S.iv IntKind.i64 0))) ∧ (((1 : Int) = 1) ∧ (((1 : Int) = 1) ∧ (((1 : Int) = 1) ∧ (((1 : Int) = 1) ∧ (((1 : Int) = 1) ∧ (((1 : Int) = 1) ∧ (((1 : Int) = 1) ∧ (((1 : Int) = 1) ∧ ((Mo.dStore20_pre v (Mo.dTick_v1 0 b)) ∧ (((1 : Int) = 1) ∧ (((1 : Int) = 1) ∧ (True ∧ (((some (S.iv IntKind.i64 0)) = (some (S.iv IntKind.i64 0))) ∧ K (.il .i64 0) (h_P1n (adi made 1) 18446744073709551615 dv (Mo.dStore20_v1 v (Mo.dTick_v1 0 b))))))))))))))))))))))))))))))
theorem pStore20_run (v : Int) (made : Int) (spent : Int) (dv : Int) (b : Mo.Bd) (K : S → List Ob → Prop) : callL (std noW) tt ffArF stopArF noL 8 63 [.ptr 0 (.l 0), .il .u32 268697620, .iv .u32 v] (h_P1n made spent dv b) (gcK 12 (ivK false K)) = pStore20_tree v made spent dv b K := by kernel_rfl
noncomputable def pStore20_T (v : Int) (made : Int) (spent : Int) (dv : Int) (b : Mo.Bd) (K : S → List Ob → Prop) : Prop := Mo.pStore20_pre v spent b ∧ K (.il .i64 0) (h_P1n (adi made 1) (Mo.pStore20_v1 spent) dv (Mo.pStore20_v2 v b))
theorem pStore20_all (v : Int) (made : Int) (spent : Int) (dv : Int) (b : Mo.Bd) (K : S → List Ob → Prop) (h : pStore20_T v made spent dv b K) : pStore20_tree v made spent dv b K := by
  unfold pStore20_T at h; obtain ⟨h0, h⟩ := h; unfold pStore20_tree
  try simp only [Mo.pStore20_v1] at h0 h
  try simp only [Mo.pStore20_v2] at h0 h
  try simp only [Mo.pStore20_pre] at h0 h
  refine ⟨rfl, ?_⟩
  refine ⟨rfl, ?_⟩
  refine ⟨?_, ?_⟩
  trivial
  refine ⟨rfl, ?_⟩
  refine ⟨h0.1, ?_⟩; replace h0 := h0.2
  refine ⟨rfl, ?_⟩
  refine ite_intro (fun c0 => ?_) (fun c0 => ?_)
  try simp only [if_pos c0] at h0 h
  refine ⟨rfl, ?_⟩
  refine ⟨rfl, ?_⟩
  refine ⟨h0.1, ?_⟩; replace h0 := h0.2
  refine ⟨rfl, ?_⟩
  refine ⟨rfl, ?_⟩
  refine ⟨?_, ?_⟩
  trivial
  refine ⟨rfl, ?_⟩
  refine ⟨rfl, ?_⟩
  refine ⟨rfl, ?_⟩
  refine ⟨rfl, ?_⟩
  refine ⟨rfl, ?_⟩
  refine ⟨rfl, ?_⟩
  refine ⟨rfl, ?_⟩
  refine ⟨rfl, ?_⟩
  refine ⟨rfl, ?_⟩
  refine ⟨h0, ?_⟩
  refine ⟨rfl, ?_⟩
  refine ⟨rfl, ?_⟩
  refine ⟨?_, ?_⟩
  trivial
  refine ⟨rfl, ?_⟩
  first | exact h | contradiction | (simp only [if_true, if_false, Bool.false_eq_true] at h; exact h)
  try simp only [if_neg c0] at h0 h
  refine ⟨rfl, ?_⟩
  refine ⟨rfl, ?_⟩
  refine ⟨h0.1, ?_⟩; replace h0 := h0.2
  refine ⟨rfl, ?_⟩
  refine ⟨rfl, ?_⟩
  refine ⟨?_, ?_⟩
  trivial
  refine ⟨rfl, ?_⟩
  refine ⟨rfl, ?_⟩
  refine ⟨rfl, ?_⟩
  refine ⟨rfl, ?_⟩
  refine ⟨rfl, ?_⟩
  refine ⟨rfl, ?_⟩
  refine ⟨rfl, ?_⟩
  refine ⟨rfl, ?_⟩
  refine ⟨rfl, ?_⟩
  refine ⟨h0, ?_⟩
  refine ⟨rfl, ?_⟩
  refine ⟨rfl, ?_⟩
  refine ⟨?_, ?_⟩
  trivial
  refine ⟨rfl, ?_⟩
  first | exact h | contradiction | (simp only [if_true, if_false, Bool.false_eq_true] at h; exact h)
theorem pStore20_sem (v : Int) (made : Int) (spent : Int) (dv : Int) (b : Mo.Bd) (K : S → List Ob → Prop) (h : pStore20_T v made spent dv b K) : CallSem noW Tryz.prog 63 [.ptr 0 (.l 0), .il .u32 268697620, .iv .u32 v] (h_P1n made spent dv b) K := iv_call (callL_ok tok (by kernel_rfl) ffArFok stopArF_ok _ _ _ _ (Eq.mpr (pStore20_run v made spent dv b K) (pStore20_all v made spent dv b K h)))
noncomputable def pStore20_con : Con := ⟨[.ptr 0, .same (.il .u32 268697620), .int .u32], t_P1n, fun a K => match a with | ⟨[v, made, spent, dv], [], [], [cs_b_k, cs_b_w, cs_b_t, cs_b_r, cs_b_l, cs_b_c]⟩ => (match Mo.Cl.is cs_b_k with | true => (match Mo.Wd.is cs_b_w with | true => (match Mo.Rt.is cs_b_t with | true => (match Mo.Rs.is cs_b_r with | true => (match Mo.Ln.is cs_b_l with | true => (match Mo.Cnt.is cs_b_c with | true => pStore20_T v made spent dv (Mo.Bd.mk (Mo.Cl.of cs_b_k) (Mo.Wd.of cs_b_w) (Mo.Rt.of cs_b_t) (Mo.Rs.of cs_b_r) (Mo.Ln.of cs_b_l) (Mo.Cnt.of cs_b_c)) K | false => False) | false => False) | false => False) | false => False) | false => False) | false => False) | _ => False⟩
theorem pStore20_ok : pStore20_con.ok noW Tryz.prog 63 := by
  intro a K h
  simp only [pStore20_con] at h
  split at h
  case h_2 => exact h.elim
  split at h
  case h_2 => exact h.elim
  rename_i is_b_k
  split at h
  case h_2 => exact h.elim
  rename_i is_b_w
  split at h
  case h_2 => exact h.elim
  rename_i is_b_t
  split at h
  case h_2 => exact h.elim
  rename_i is_b_r
  split at h
  case h_2 => exact h.elim
  rename_i is_b_l
  split at h
  case h_2 => exact h.elim
  rename_i is_b_c
  exact CallSem.objs (pStore20_sem _ _ _ _ _ K h) (fun _ _ _ h => h) ⟨WkO.same (fun cs h => by cases h), WkO.same (fun cs h => by cases h), WkO.cells (Mo.Cl.is_ok is_b_k), WkO.same (fun cs h => by cases h), WkO.cells (Mo.Wd.is_ok is_b_w), WkO.cells (Mo.Rt.is_ok is_b_t), WkO.cells (Mo.Rs.is_ok is_b_r), WkO.cells (Mo.Ln.is_ok is_b_l), WkO.same (fun cs h => by cases h), WkO.same (fun cs h => by cases h), WkO.same (fun cs h => by cases h), WkO.cells (Mo.Cnt.is_ok is_b_c), trivial⟩
noncomputable def Mo.pStore24_v1 (spent : Int) : Int := (if ((iE ((spent + 0) / 18446744073709551616) 0) = true) then ((spent + 0) % 18446744073709551616) else 18446744073709551615)
noncomputable def Mo.pStore24_v2 (v : Int) (b : Mo.Bd) : Mo.Bd := (Mo.dStore24_v1 v (Mo.dTick_v1 0 b))
noncomputable def Mo.pStore24_pre (v : Int) (spent : Int) (b : Mo.Bd) : Prop := ((((0 : Int) ≤ spent) ∧ ((0 : Int) ≤ 0)) ∧ ((Mo.dTick_pre 0 b) ∧ (Mo.dStore24_pre v (Mo.dTick_v1 0 b))))
noncomputable def pStore24_tree (v : Int) (made : Int) (spent : Int) (dv : Int) (b : Mo.Bd) (K : S → List Ob → Prop) : Prop := (((1 : Int) = 1) ∧ (((1 : Int) = 1) ∧ (True ∧ (((some (S.iv IntKind.i64 0)) = (some (S.iv IntKind.i64 0))) ∧ ((((0 : Int) ≤ spent) ∧ ((0 : Int) ≤ 0)) ∧ (((0 : Int) = 0) ∧ (if ((iE ((spent + 0) / 18446744073709551616) 0) = true) then (((1 : Int) = 1) ∧ (((1 : Int) = 1) ∧ ((Mo.dTick_pre 0 b) ∧ (((1 : Int) = 1) ∧ (((1 : Int) = 1) ∧ (True ∧ (((some (S.iv IntKind.i64 0)) = (some (S.iv IntKind.i64 0))) ∧ (((1 : Int) = 1) ∧ (((1 : Int) = 1) ∧ (((1 : Int) = 1) ∧ (((1 : Int) = 1) ∧ (((1 : Int) = 1) ∧ (((1 : Int) = 1) ∧ (((1 : Int) = 1) ∧ (((1 : Int) = 1) ∧ (((1 : Int) = 1) ∧ (((1 : Int) = 1) ∧ ((Mo.dStore24_pre v (Mo.dTick_v1 0 b)) ∧ (((1 : Int) = 1) ∧ (((1 : Int) = 1) ∧ (True ∧ (((some (S.iv IntKind.i64 0)) = (some (S.iv IntKind.i64 0))) ∧ K (.il .i64 0) (h_P1n (adi made 1) ((spent + 0) % 18446744073709551616) dv (Mo.dStore24_v1 v (Mo.dTick_v1 0 b))))))))))))))))))))))))) else (((1 : Int) = 1) ∧ (((1 : Int) = 1) ∧ ((Mo.dTick_pre 0 b) ∧ (((1 : Int) = 1) ∧ (((1 : Int) = 1) ∧ (True ∧ (((some (S.iv IntKind.i64 0)) = (some (S.iv IntKind.i64 0))) ∧ (((1 : Int) = 1) ∧ (((1 : Int) = 1) ∧ (((1 : Int) = 1) ∧ (((1 : Int) = 1) ∧ (((1 : Int) = 1) ∧ (((1 : Int) = 1) ∧ (((1 : Int) = 1) ∧ (((1 : Int) = 1) ∧ (((1 : Int) = 1) ∧ (((1 : Int) = 1) ∧ ((Mo.dStore24_pre v (Mo.dTick_v1 0 b)) ∧ (((1 : Int) = 1) ∧ (((1 : Int) = 1) ∧ (True ∧ (((some (S.iv IntKind.i64 0)) = (some (S.iv IntKind.i64 0))) ∧ K (.il .i64 0) (h_P1n (adi made 1) 18446744073709551615 dv (Mo.dStore24_v1 v (Mo.dTick_v1 0 b))))))))))))))))))))))))))))))))
theorem pStore24_run (v : Int) (made : Int) (spent : Int) (dv : Int) (b : Mo.Bd) (K : S → List Ob → Prop) : callL (std noW) tt ffArF stopArF noL 8 63 [.ptr 0 (.l 0), .il .u32 268697624, .iv .u32 v] (h_P1n made spent dv b) (gcK 12 (ivK false K)) = pStore24_tree v made spent dv b K := by kernel_rfl
noncomputable def pStore24_T (v : Int) (made : Int) (spent : Int) (dv : Int) (b : Mo.Bd) (K : S → List Ob → Prop) : Prop := Mo.pStore24_pre v spent b ∧ K (.il .i64 0) (h_P1n (adi made 1) (Mo.pStore24_v1 spent) dv (Mo.pStore24_v2 v b))
theorem pStore24_all (v : Int) (made : Int) (spent : Int) (dv : Int) (b : Mo.Bd) (K : S → List Ob → Prop) (h : pStore24_T v made spent dv b K) : pStore24_tree v made spent dv b K := by
  unfold pStore24_T at h; obtain ⟨h0, h⟩ := h; unfold pStore24_tree
  try simp only [Mo.pStore24_v1] at h0 h
  try simp only [Mo.pStore24_v2] at h0 h
  try simp only [Mo.pStore24_pre] at h0 h
  refine ⟨rfl, ?_⟩
  refine ⟨rfl, ?_⟩
  refine ⟨?_, ?_⟩
  trivial
  refine ⟨rfl, ?_⟩
  refine ⟨h0.1, ?_⟩; replace h0 := h0.2
  refine ⟨rfl, ?_⟩
  refine ite_intro (fun c0 => ?_) (fun c0 => ?_)
  try simp only [if_pos c0] at h0 h
  refine ⟨rfl, ?_⟩
  refine ⟨rfl, ?_⟩
  refine ⟨h0.1, ?_⟩; replace h0 := h0.2
  refine ⟨rfl, ?_⟩
  refine ⟨rfl, ?_⟩
  refine ⟨?_, ?_⟩
  trivial
  refine ⟨rfl, ?_⟩
  refine ⟨rfl, ?_⟩
  refine ⟨rfl, ?_⟩
  refine ⟨rfl, ?_⟩
  refine ⟨rfl, ?_⟩
  refine ⟨rfl, ?_⟩
  refine ⟨rfl, ?_⟩
  refine ⟨rfl, ?_⟩
  refine ⟨rfl, ?_⟩
  refine ⟨rfl, ?_⟩
  refine ⟨rfl, ?_⟩
  refine ⟨h0, ?_⟩
  refine ⟨rfl, ?_⟩
  refine ⟨rfl, ?_⟩
  refine ⟨?_, ?_⟩
  trivial
  refine ⟨rfl, ?_⟩
  first | exact h | contradiction | (simp only [if_true, if_false, Bool.false_eq_true] at h; exact h)
  try simp only [if_neg c0] at h0 h
  refine ⟨rfl, ?_⟩
  refine ⟨rfl, ?_⟩
  refine ⟨h0.1, ?_⟩; replace h0 := h0.2
  refine ⟨rfl, ?_⟩
  refine ⟨rfl, ?_⟩
  refine ⟨?_, ?_⟩
  trivial
  refine ⟨rfl, ?_⟩
  refine ⟨rfl, ?_⟩
  refine ⟨rfl, ?_⟩
  refine ⟨rfl, ?_⟩
  refine ⟨rfl, ?_⟩
  refine ⟨rfl, ?_⟩
  refine ⟨rfl, ?_⟩
  refine ⟨rfl, ?_⟩
  refine ⟨rfl, ?_⟩
  refine ⟨rfl, ?_⟩
  refine ⟨rfl, ?_⟩
  refine ⟨h0, ?_⟩
  refine ⟨rfl, ?_⟩
  refine ⟨rfl, ?_⟩
  refine ⟨?_, ?_⟩
  trivial
  refine ⟨rfl, ?_⟩
  first | exact h | contradiction | (simp only [if_true, if_false, Bool.false_eq_true] at h; exact h)
theorem pStore24_sem (v : Int) (made : Int) (spent : Int) (dv : Int) (b : Mo.Bd) (K : S → List Ob → Prop) (h : pStore24_T v made spent dv b K) : CallSem noW Tryz.prog 63 [.ptr 0 (.l 0), .il .u32 268697624, .iv .u32 v] (h_P1n made spent dv b) K := iv_call (callL_ok tok (by kernel_rfl) ffArFok stopArF_ok _ _ _ _ (Eq.mpr (pStore24_run v made spent dv b K) (pStore24_all v made spent dv b K h)))
noncomputable def pStore24_con : Con := ⟨[.ptr 0, .same (.il .u32 268697624), .int .u32], t_P1n, fun a K => match a with | ⟨[v, made, spent, dv], [], [], [cs_b_k, cs_b_w, cs_b_t, cs_b_r, cs_b_l, cs_b_c]⟩ => (match Mo.Cl.is cs_b_k with | true => (match Mo.Wd.is cs_b_w with | true => (match Mo.Rt.is cs_b_t with | true => (match Mo.Rs.is cs_b_r with | true => (match Mo.Ln.is cs_b_l with | true => (match Mo.Cnt.is cs_b_c with | true => pStore24_T v made spent dv (Mo.Bd.mk (Mo.Cl.of cs_b_k) (Mo.Wd.of cs_b_w) (Mo.Rt.of cs_b_t) (Mo.Rs.of cs_b_r) (Mo.Ln.of cs_b_l) (Mo.Cnt.of cs_b_c)) K | false => False) | false => False) | false => False) | false => False) | false => False) | false => False) | _ => False⟩
theorem pStore24_ok : pStore24_con.ok noW Tryz.prog 63 := by
  intro a K h
  simp only [pStore24_con] at h
  split at h
  case h_2 => exact h.elim
  split at h
  case h_2 => exact h.elim
  rename_i is_b_k
  split at h
  case h_2 => exact h.elim
  rename_i is_b_w
  split at h
  case h_2 => exact h.elim
  rename_i is_b_t
  split at h
  case h_2 => exact h.elim
  rename_i is_b_r
  split at h
  case h_2 => exact h.elim
  rename_i is_b_l
  split at h
  case h_2 => exact h.elim
  rename_i is_b_c
  exact CallSem.objs (pStore24_sem _ _ _ _ _ K h) (fun _ _ _ h => h) ⟨WkO.same (fun cs h => by cases h), WkO.same (fun cs h => by cases h), WkO.cells (Mo.Cl.is_ok is_b_k), WkO.same (fun cs h => by cases h), WkO.cells (Mo.Wd.is_ok is_b_w), WkO.cells (Mo.Rt.is_ok is_b_t), WkO.cells (Mo.Rs.is_ok is_b_r), WkO.cells (Mo.Ln.is_ok is_b_l), WkO.same (fun cs h => by cases h), WkO.same (fun cs h => by cases h), WkO.same (fun cs h => by cases h), WkO.cells (Mo.Cnt.is_ok is_b_c), trivial⟩
noncomputable def Mo.pStore28_v1 (spent : Int) : Int := (if ((iE ((spent + 0) / 18446744073709551616) 0) = true) then ((spent + 0) % 18446744073709551616) else 18446744073709551615)
noncomputable def Mo.pStore28_v2 (v : Int) (b : Mo.Bd) : Mo.Bd := (Mo.dStore28_v1 v (Mo.dTick_v1 0 b))
noncomputable def Mo.pStore28_pre (v : Int) (spent : Int) (b : Mo.Bd) : Prop := ((((0 : Int) ≤ spent) ∧ ((0 : Int) ≤ 0)) ∧ ((Mo.dTick_pre 0 b) ∧ (Mo.dStore28_pre v (Mo.dTick_v1 0 b))))
noncomputable def pStore28_tree (v : Int) (made : Int) (spent : Int) (dv : Int) (b : Mo.Bd) (K : S → List Ob → Prop) : Prop := (((1 : Int) = 1) ∧ (((1 : Int) = 1) ∧ (True ∧ (((some (S.iv IntKind.i64 0)) = (some (S.iv IntKind.i64 0))) ∧ ((((0 : Int) ≤ spent) ∧ ((0 : Int) ≤ 0)) ∧ (((0 : Int) = 0) ∧ (if ((iE ((spent + 0) / 18446744073709551616) 0) = true) then (((1 : Int) = 1) ∧ (((1 : Int) = 1) ∧ ((Mo.dTick_pre 0 b) ∧ (((1 : Int) = 1) ∧ (((1 : Int) = 1) ∧ (True ∧ (((some (S.iv IntKind.i64 0)) = (some (S.iv IntKind.i64 0))) ∧ (((1 : Int) = 1) ∧ (((1 : Int) = 1) ∧ (((1 : Int) = 1) ∧ (((1 : Int) = 1) ∧ (((1 : Int) = 1) ∧ (((1 : Int) = 1) ∧ (((1 : Int) = 1) ∧ (((1 : Int) = 1) ∧ (((1 : Int) = 1) ∧ (((1 : Int) = 1) ∧ (((1 : Int) = 1) ∧ (((1 : Int) = 1) ∧ ((Mo.dStore28_pre v (Mo.dTick_v1 0 b)) ∧ (((1 : Int) = 1) ∧ (((1 : Int) = 1) ∧ (True ∧ (((some (S.iv IntKind.i64 0)) = (some (S.iv IntKind.i64 0))) ∧ K (.il .i64 0) (h_P1n (adi made 1) ((spent + 0) % 18446744073709551616) dv (Mo.dStore28_v1 v (Mo.dTick_v1 0 b))))))))))))))))))))))))))) else (((1 : Int) = 1) ∧ (((1 : Int) = 1) ∧ ((Mo.dTick_pre 0 b) ∧ (((1 : Int) = 1) ∧ (((1 : Int) = 1) ∧ (True ∧ (((some (S.iv IntKind.i64 0)) = (some (S.iv IntKind.i64 0))) ∧ (((1 : Int) = 1) ∧ (((1 : Int) = 1) ∧ (((1 : Int) = 1) ∧ (((1 : Int) = 1) ∧ (((1 : Int) = 1) ∧ (((1 : Int) = 1) ∧ (((1 : Int) = 1) ∧ (((1 : Int) = 1) ∧ (((1 : Int) = 1) ∧ (((1 : Int) = 1) ∧ (((1 : Int) = 1) ∧ (((1 : Int) = 1) ∧ ((Mo.dStore28_pre v (Mo.dTick_v1 0 b)) ∧ (((1 : Int) = 1) ∧ (((1 : Int) = 1) ∧ (True ∧ (((some (S.iv IntKind.i64 0)) = (some (S.iv IntKind.i64 0))) ∧ K (.il .i64 0) (h_P1n (adi made 1) 18446744073709551615 dv (Mo.dStore28_v1 v (Mo.dTick_v1 0 b))))))))))))))))))))))))))))))))))
theorem pStore28_run (v : Int) (made : Int) (spent : Int) (dv : Int) (b : Mo.Bd) (K : S → List Ob → Prop) : callL (std noW) tt ffArF stopArF noL 8 63 [.ptr 0 (.l 0), .il .u32 268697628, .iv .u32 v] (h_P1n made spent dv b) (gcK 12 (ivK false K)) = pStore28_tree v made spent dv b K := by kernel_rfl
noncomputable def pStore28_T (v : Int) (made : Int) (spent : Int) (dv : Int) (b : Mo.Bd) (K : S → List Ob → Prop) : Prop := Mo.pStore28_pre v spent b ∧ K (.il .i64 0) (h_P1n (adi made 1) (Mo.pStore28_v1 spent) dv (Mo.pStore28_v2 v b))
theorem pStore28_all (v : Int) (made : Int) (spent : Int) (dv : Int) (b : Mo.Bd) (K : S → List Ob → Prop) (h : pStore28_T v made spent dv b K) : pStore28_tree v made spent dv b K := by
  unfold pStore28_T at h; obtain ⟨h0, h⟩ := h; unfold pStore28_tree
  try simp only [Mo.pStore28_v1] at h0 h
  try simp only [Mo.pStore28_v2] at h0 h
  try simp only [Mo.pStore28_pre] at h0 h
  refine ⟨rfl, ?_⟩
  refine ⟨rfl, ?_⟩
  refine ⟨?_, ?_⟩
  trivial
  refine ⟨rfl, ?_⟩
  refine ⟨h0.1, ?_⟩; replace h0 := h0.2
  refine ⟨rfl, ?_⟩
  refine ite_intro (fun c0 => ?_) (fun c0 => ?_)
  try simp only [if_pos c0] at h0 h
  refine ⟨rfl, ?_⟩
  refine ⟨rfl, ?_⟩
  refine ⟨h0.1, ?_⟩; replace h0 := h0.2
  refine ⟨rfl, ?_⟩
  refine ⟨rfl, ?_⟩
  refine ⟨?_, ?_⟩
  trivial
  refine ⟨rfl, ?_⟩
  refine ⟨rfl, ?_⟩
  refine ⟨rfl, ?_⟩
  refine ⟨rfl, ?_⟩
  refine ⟨rfl, ?_⟩
  refine ⟨rfl, ?_⟩
  refine ⟨rfl, ?_⟩
  refine ⟨rfl, ?_⟩
  refine ⟨rfl, ?_⟩
  refine ⟨rfl, ?_⟩
  refine ⟨rfl, ?_⟩
  refine ⟨rfl, ?_⟩
  refine ⟨rfl, ?_⟩
  refine ⟨h0, ?_⟩
  refine ⟨rfl, ?_⟩
  refine ⟨rfl, ?_⟩
  refine ⟨?_, ?_⟩
  trivial
  refine ⟨rfl, ?_⟩
  first | exact h | contradiction | (simp only [if_true, if_false, Bool.false_eq_true] at h; exact h)
  try simp only [if_neg c0] at h0 h
  refine ⟨rfl, ?_⟩
  refine ⟨rfl, ?_⟩
  refine ⟨h0.1, ?_⟩; replace h0 := h0.2
  refine ⟨rfl, ?_⟩
  refine ⟨rfl, ?_⟩
  refine ⟨?_, ?_⟩
  trivial
  refine ⟨rfl, ?_⟩
  refine ⟨rfl, ?_⟩
  refine ⟨rfl, ?_⟩
  refine ⟨rfl, ?_⟩
  refine ⟨rfl, ?_⟩
  refine ⟨rfl, ?_⟩
  refine ⟨rfl, ?_⟩
  refine ⟨rfl, ?_⟩
  refine ⟨rfl, ?_⟩
  refine ⟨rfl, ?_⟩
  refine ⟨rfl, ?_⟩
  refine ⟨rfl, ?_⟩
  refine ⟨rfl, ?_⟩
  refine ⟨h0, ?_⟩
  refine ⟨rfl, ?_⟩
  refine ⟨rfl, ?_⟩
  refine ⟨?_, ?_⟩
  trivial
  refine ⟨rfl, ?_⟩
  first | exact h | contradiction | (simp only [if_true, if_false, Bool.false_eq_true] at h; exact h)
theorem pStore28_sem (v : Int) (made : Int) (spent : Int) (dv : Int) (b : Mo.Bd) (K : S → List Ob → Prop) (h : pStore28_T v made spent dv b K) : CallSem noW Tryz.prog 63 [.ptr 0 (.l 0), .il .u32 268697628, .iv .u32 v] (h_P1n made spent dv b) K := iv_call (callL_ok tok (by kernel_rfl) ffArFok stopArF_ok _ _ _ _ (Eq.mpr (pStore28_run v made spent dv b K) (pStore28_all v made spent dv b K h)))
noncomputable def pStore28_con : Con := ⟨[.ptr 0, .same (.il .u32 268697628), .int .u32], t_P1n, fun a K => match a with | ⟨[v, made, spent, dv], [], [], [cs_b_k, cs_b_w, cs_b_t, cs_b_r, cs_b_l, cs_b_c]⟩ => (match Mo.Cl.is cs_b_k with | true => (match Mo.Wd.is cs_b_w with | true => (match Mo.Rt.is cs_b_t with | true => (match Mo.Rs.is cs_b_r with | true => (match Mo.Ln.is cs_b_l with | true => (match Mo.Cnt.is cs_b_c with | true => pStore28_T v made spent dv (Mo.Bd.mk (Mo.Cl.of cs_b_k) (Mo.Wd.of cs_b_w) (Mo.Rt.of cs_b_t) (Mo.Rs.of cs_b_r) (Mo.Ln.of cs_b_l) (Mo.Cnt.of cs_b_c)) K | false => False) | false => False) | false => False) | false => False) | false => False) | false => False) | _ => False⟩
theorem pStore28_ok : pStore28_con.ok noW Tryz.prog 63 := by
  intro a K h
  simp only [pStore28_con] at h
  split at h
  case h_2 => exact h.elim
  split at h
  case h_2 => exact h.elim
  rename_i is_b_k
  split at h
  case h_2 => exact h.elim
  rename_i is_b_w
  split at h
  case h_2 => exact h.elim
  rename_i is_b_t
  split at h
  case h_2 => exact h.elim
  rename_i is_b_r
  split at h
  case h_2 => exact h.elim
  rename_i is_b_l
  split at h
  case h_2 => exact h.elim
  rename_i is_b_c
  exact CallSem.objs (pStore28_sem _ _ _ _ _ K h) (fun _ _ _ h => h) ⟨WkO.same (fun cs h => by cases h), WkO.same (fun cs h => by cases h), WkO.cells (Mo.Cl.is_ok is_b_k), WkO.same (fun cs h => by cases h), WkO.cells (Mo.Wd.is_ok is_b_w), WkO.cells (Mo.Rt.is_ok is_b_t), WkO.cells (Mo.Rs.is_ok is_b_r), WkO.cells (Mo.Ln.is_ok is_b_l), WkO.same (fun cs h => by cases h), WkO.same (fun cs h => by cases h), WkO.same (fun cs h => by cases h), WkO.cells (Mo.Cnt.is_ok is_b_c), trivial⟩
noncomputable def Mo.pLoad0_v1 (spent : Int) : Int := (if ((iE ((spent + 0) / 18446744073709551616) 0) = true) then ((spent + 0) % 18446744073709551616) else 18446744073709551615)
noncomputable def Mo.pLoad0_v2 (b : Mo.Bd) : Mo.Bd := (Mo.dTick_v1 0 b)
noncomputable def Mo.pLoad0_pre (spent : Int) (b : Mo.Bd) : Prop := ((((0 : Int) ≤ spent) ∧ ((0 : Int) ≤ 0)) ∧ (Mo.dTick_pre 0 b))
noncomputable def pLoad0_tree (made : Int) (spent : Int) (dv : Int) (b : Mo.Bd) (K : S → List Ob → Prop) : Prop := (((1 : Int) = 1) ∧ (((1 : Int) = 1) ∧ (True ∧ (((some (S.iv IntKind.i64 0)) = (some (S.iv IntKind.i64 0))) ∧ ((((0 : Int) ≤ spent) ∧ ((0 : Int) ≤ 0)) ∧ (((0 : Int) = 0) ∧ (if ((iE ((spent + 0) / 18446744073709551616) 0) = true) then (((1 : Int) = 1) ∧ (((1 : Int) = 1) ∧ ((Mo.dTick_pre 0 b) ∧ (((1 : Int) = 1) ∧ (((1 : Int) = 1) ∧ (True ∧ (((some (S.iv IntKind.i64 0)) = (some (S.iv IntKind.i64 0))) ∧ (((1 : Int) = 1) ∧ (((1 : Int) = 1) ∧ (True ∧ (((1 : Int) = 1) ∧ (((1 : Int) = 1) ∧ (True ∧ (((some (S.iv IntKind.i64 0)) = (some (S.iv IntKind.i64 0))) ∧ K (.tup [(.iv .u32 (cvw (Mo.Rt.sec (Mo.Bd.t (Mo.dTick_v1 0 b))) 0)), (.il .i64 0)]) (h_P1n (adi made 1) ((spent + 0) % 18446744073709551616) dv (Mo.dTick_v1 0 b)))))))))))))))) else (((1 : Int) = 1) ∧ (((1 : Int) = 1) ∧ ((Mo.dTick_pre 0 b) ∧ (((1 : Int) = 1) ∧ (((1 : Int) = 1) ∧ (True ∧ (((some (S.iv IntKind.i64 0)) = (some (S.iv IntKind.i64 0))) ∧ (((1 : Int) = 1) ∧ (((1 : Int) = 1) ∧ (True ∧ (((1 : Int) = 1) ∧ (((1 : Int) = 1) ∧ (True ∧ (((some (S.iv IntKind.i64 0)) = (some (S.iv IntKind.i64 0))) ∧ K (.tup [(.iv .u32 (cvw (Mo.Rt.sec (Mo.Bd.t (Mo.dTick_v1 0 b))) 0)), (.il .i64 0)]) (h_P1n (adi made 1) 18446744073709551615 dv (Mo.dTick_v1 0 b)))))))))))))))))))))))
theorem pLoad0_run (made : Int) (spent : Int) (dv : Int) (b : Mo.Bd) (K : S → List Ob → Prop) : callL (std noW) tt ffArF stopArF noL 8 62 [.ptr 0 (.l 0), .il .u32 268697600] (h_P1n made spent dv b) (gcK 12 (ivK false K)) = pLoad0_tree made spent dv b K := by kernel_rfl
noncomputable def pLoad0_T (made : Int) (spent : Int) (dv : Int) (b : Mo.Bd) (K : S → List Ob → Prop) : Prop := Mo.pLoad0_pre spent b ∧ K (.tup [(.iv .u32 (cvw (Mo.Rt.sec (Mo.Bd.t (Mo.dTick_v1 0 b))) 0)), (.il .i64 0)]) (h_P1n (adi made 1) (Mo.pLoad0_v1 spent) dv (Mo.pLoad0_v2 b))
theorem pLoad0_all (made : Int) (spent : Int) (dv : Int) (b : Mo.Bd) (K : S → List Ob → Prop) (h : pLoad0_T made spent dv b K) : pLoad0_tree made spent dv b K := by
  unfold pLoad0_T at h; obtain ⟨h0, h⟩ := h; unfold pLoad0_tree
  try simp only [Mo.pLoad0_v1] at h0 h
  try simp only [Mo.pLoad0_v2] at h0 h
  try simp only [Mo.pLoad0_pre] at h0 h
  refine ⟨rfl, ?_⟩
  refine ⟨rfl, ?_⟩
  refine ⟨?_, ?_⟩
  trivial
  refine ⟨rfl, ?_⟩
  refine ⟨h0.1, ?_⟩; replace h0 := h0.2
  refine ⟨rfl, ?_⟩
  refine ite_intro (fun c0 => ?_) (fun c0 => ?_)
  try simp only [if_pos c0] at h0 h
  refine ⟨rfl, ?_⟩
  refine ⟨rfl, ?_⟩
  refine ⟨h0, ?_⟩
  refine ⟨rfl, ?_⟩
  refine ⟨rfl, ?_⟩
  refine ⟨?_, ?_⟩
  trivial
  refine ⟨rfl, ?_⟩
  refine ⟨rfl, ?_⟩
  refine ⟨rfl, ?_⟩
  refine ⟨?_, ?_⟩
  trivial
  refine ⟨rfl, ?_⟩
  refine ⟨rfl, ?_⟩
  refine ⟨?_, ?_⟩
  trivial
  refine ⟨rfl, ?_⟩
  first | exact h | contradiction | (simp only [if_true, if_false, Bool.false_eq_true] at h; exact h)
  try simp only [if_neg c0] at h0 h
  refine ⟨rfl, ?_⟩
  refine ⟨rfl, ?_⟩
  refine ⟨h0, ?_⟩
  refine ⟨rfl, ?_⟩
  refine ⟨rfl, ?_⟩
  refine ⟨?_, ?_⟩
  trivial
  refine ⟨rfl, ?_⟩
  refine ⟨rfl, ?_⟩
  refine ⟨rfl, ?_⟩
  refine ⟨?_, ?_⟩
  trivial
  refine ⟨rfl, ?_⟩
  refine ⟨rfl, ?_⟩
  refine ⟨?_, ?_⟩
  trivial
  refine ⟨rfl, ?_⟩
  first | exact h | contradiction | (simp only [if_true, if_false, Bool.false_eq_true] at h; exact h)
theorem pLoad0_sem (made : Int) (spent : Int) (dv : Int) (b : Mo.Bd) (K : S → List Ob → Prop) (h : pLoad0_T made spent dv b K) : CallSem noW Tryz.prog 62 [.ptr 0 (.l 0), .il .u32 268697600] (h_P1n made spent dv b) K := iv_call (callL_ok tok (by kernel_rfl) ffArFok stopArF_ok _ _ _ _ (Eq.mpr (pLoad0_run made spent dv b K) (pLoad0_all made spent dv b K h)))
noncomputable def pLoad0_con : Con := ⟨[.ptr 0, .same (.il .u32 268697600)], t_P1n, fun a K => match a with | ⟨[made, spent, dv], [], [], [cs_b_k, cs_b_w, cs_b_t, cs_b_r, cs_b_l, cs_b_c]⟩ => (match Mo.Cl.is cs_b_k with | true => (match Mo.Wd.is cs_b_w with | true => (match Mo.Rt.is cs_b_t with | true => (match Mo.Rs.is cs_b_r with | true => (match Mo.Ln.is cs_b_l with | true => (match Mo.Cnt.is cs_b_c with | true => pLoad0_T made spent dv (Mo.Bd.mk (Mo.Cl.of cs_b_k) (Mo.Wd.of cs_b_w) (Mo.Rt.of cs_b_t) (Mo.Rs.of cs_b_r) (Mo.Ln.of cs_b_l) (Mo.Cnt.of cs_b_c)) K | false => False) | false => False) | false => False) | false => False) | false => False) | false => False) | _ => False⟩
theorem pLoad0_ok : pLoad0_con.ok noW Tryz.prog 62 := by
  intro a K h
  simp only [pLoad0_con] at h
  split at h
  case h_2 => exact h.elim
  split at h
  case h_2 => exact h.elim
  rename_i is_b_k
  split at h
  case h_2 => exact h.elim
  rename_i is_b_w
  split at h
  case h_2 => exact h.elim
  rename_i is_b_t
  split at h
  case h_2 => exact h.elim
  rename_i is_b_r
  split at h
  case h_2 => exact h.elim
  rename_i is_b_l
  split at h
  case h_2 => exact h.elim
  rename_i is_b_c
  exact CallSem.objs (pLoad0_sem _ _ _ _ K h) (fun _ _ _ h => h) ⟨WkO.same (fun cs h => by cases h), WkO.same (fun cs h => by cases h), WkO.cells (Mo.Cl.is_ok is_b_k), WkO.same (fun cs h => by cases h), WkO.cells (Mo.Wd.is_ok is_b_w), WkO.cells (Mo.Rt.is_ok is_b_t), WkO.cells (Mo.Rs.is_ok is_b_r), WkO.cells (Mo.Ln.is_ok is_b_l), WkO.same (fun cs h => by cases h), WkO.same (fun cs h => by cases h), WkO.same (fun cs h => by cases h), WkO.cells (Mo.Cnt.is_ok is_b_c), trivial⟩
noncomputable def Mo.pLoad4_v1 (spent : Int) : Int := (if ((iE ((spent + 0) / 18446744073709551616) 0) = true) then ((spent + 0) % 18446744073709551616) else 18446744073709551615)
noncomputable def Mo.pLoad4_v2 (b : Mo.Bd) : Mo.Bd := (Mo.dTick_v1 0 b)
noncomputable def Mo.pLoad4_pre (spent : Int) (b : Mo.Bd) : Prop := ((((0 : Int) ≤ spent) ∧ ((0 : Int) ≤ 0)) ∧ (Mo.dTick_pre 0 b))
noncomputable def pLoad4_tree (made : Int) (spent : Int) (dv : Int) (b : Mo.Bd) (K : S → List Ob → Prop) : Prop := (((1 : Int) = 1) ∧ (((1 : Int) = 1) ∧ (True ∧ (((some (S.iv IntKind.i64 0)) = (some (S.iv IntKind.i64 0))) ∧ ((((0 : Int) ≤ spent) ∧ ((0 : Int) ≤ 0)) ∧ (((0 : Int) = 0) ∧ (if ((iE ((spent + 0) / 18446744073709551616) 0) = true) then (((1 : Int) = 1) ∧ (((1 : Int) = 1) ∧ ((Mo.dTick_pre 0 b) ∧ (((1 : Int) = 1) ∧ (((1 : Int) = 1) ∧ (True ∧ (((some (S.iv IntKind.i64 0)) = (some (S.iv IntKind.i64 0))) ∧ (((1 : Int) = 1) ∧ (((1 : Int) = 1) ∧ (((1 : Int) = 1) ∧ (((1 : Int) = 1) ∧ (True ∧ (((1 : Int) = 1) ∧ (((1 : Int) = 1) ∧ (True ∧ (((some (S.iv IntKind.i64 0)) = (some (S.iv IntKind.i64 0))) ∧ K (.tup [(.iv .u32 (cvw (srq (Mo.Rt.sec (Mo.Bd.t (Mo.dTick_v1 0 b))) 32) 0)), (.il .i64 0)]) (h_P1n (adi made 1) ((spent + 0) % 18446744073709551616) dv (Mo.dTick_v1 0 b)))))))))))))))))) else (((1 : Int) = 1) ∧ (((1 : Int) = 1) ∧ ((Mo.dTick_pre 0 b) ∧ (((1 : Int) = 1) ∧ (((1 : Int) = 1) ∧ (True ∧ (((some (S.iv IntKind.i64 0)) = (some (S.iv IntKind.i64 0))) ∧ (((1 : Int) = 1) ∧ (((1 : Int) = 1) ∧ (((1 : Int) = 1) ∧ (((1 : Int) = 1) ∧ (True ∧ (((1 : Int) = 1) ∧ (((1 : Int) = 1) ∧ (True ∧ (((some (S.iv IntKind.i64 0)) = (some (S.iv IntKind.i64 0))) ∧ K (.tup [(.iv .u32 (cvw (srq (Mo.Rt.sec (Mo.Bd.t (Mo.dTick_v1 0 b))) 32) 0)), (.il .i64 0)]) (h_P1n (adi made 1) 18446744073709551615 dv (Mo.dTick_v1 0 b)))))))))))))))))))))))))
theorem pLoad4_run (made : Int) (spent : Int) (dv : Int) (b : Mo.Bd) (K : S → List Ob → Prop) : callL (std noW) tt ffArF stopArF noL 8 62 [.ptr 0 (.l 0), .il .u32 268697604] (h_P1n made spent dv b) (gcK 12 (ivK false K)) = pLoad4_tree made spent dv b K := by kernel_rfl
noncomputable def pLoad4_T (made : Int) (spent : Int) (dv : Int) (b : Mo.Bd) (K : S → List Ob → Prop) : Prop := Mo.pLoad4_pre spent b ∧ K (.tup [(.iv .u32 (cvw (srq (Mo.Rt.sec (Mo.Bd.t (Mo.dTick_v1 0 b))) 32) 0)), (.il .i64 0)]) (h_P1n (adi made 1) (Mo.pLoad4_v1 spent) dv (Mo.pLoad4_v2 b))
theorem pLoad4_all (made : Int) (spent : Int) (dv : Int) (b : Mo.Bd) (K : S → List Ob → Prop) (h : pLoad4_T made spent dv b K) : pLoad4_tree made spent dv b K := by
  unfold pLoad4_T at h; obtain ⟨h0, h⟩ := h; unfold pLoad4_tree
  try simp only [Mo.pLoad4_v1] at h0 h
  try simp only [Mo.pLoad4_v2] at h0 h
  try simp only [Mo.pLoad4_pre] at h0 h
  refine ⟨rfl, ?_⟩
  refine ⟨rfl, ?_⟩
  refine ⟨?_, ?_⟩
  trivial
  refine ⟨rfl, ?_⟩
  refine ⟨h0.1, ?_⟩; replace h0 := h0.2
  refine ⟨rfl, ?_⟩
  refine ite_intro (fun c0 => ?_) (fun c0 => ?_)
  try simp only [if_pos c0] at h0 h
  refine ⟨rfl, ?_⟩
  refine ⟨rfl, ?_⟩
  refine ⟨h0, ?_⟩
  refine ⟨rfl, ?_⟩
  refine ⟨rfl, ?_⟩
  refine ⟨?_, ?_⟩
  trivial
  refine ⟨rfl, ?_⟩
  refine ⟨rfl, ?_⟩
  refine ⟨rfl, ?_⟩
  refine ⟨rfl, ?_⟩
  refine ⟨rfl, ?_⟩
  refine ⟨?_, ?_⟩
  trivial
  refine ⟨rfl, ?_⟩
  refine ⟨rfl, ?_⟩
  refine ⟨?_, ?_⟩
  trivial
  refine ⟨rfl, ?_⟩
  first | exact h | contradiction | (simp only [if_true, if_false, Bool.false_eq_true] at h; exact h)
  try simp only [if_neg c0] at h0 h
  refine ⟨rfl, ?_⟩
  refine ⟨rfl, ?_⟩
  refine ⟨h0, ?_⟩
  refine ⟨rfl, ?_⟩
  refine ⟨rfl, ?_⟩
  refine ⟨?_, ?_⟩
  trivial
  refine ⟨rfl, ?_⟩
  refine ⟨rfl, ?_⟩
  refine ⟨rfl, ?_⟩
  refine ⟨rfl, ?_⟩
  refine ⟨rfl, ?_⟩
  refine ⟨?_, ?_⟩
  trivial
  refine ⟨rfl, ?_⟩
  refine ⟨rfl, ?_⟩
  refine ⟨?_, ?_⟩
  trivial
  refine ⟨rfl, ?_⟩
  first | exact h | contradiction | (simp only [if_true, if_false, Bool.false_eq_true] at h; exact h)
theorem pLoad4_sem (made : Int) (spent : Int) (dv : Int) (b : Mo.Bd) (K : S → List Ob → Prop) (h : pLoad4_T made spent dv b K) : CallSem noW Tryz.prog 62 [.ptr 0 (.l 0), .il .u32 268697604] (h_P1n made spent dv b) K := iv_call (callL_ok tok (by kernel_rfl) ffArFok stopArF_ok _ _ _ _ (Eq.mpr (pLoad4_run made spent dv b K) (pLoad4_all made spent dv b K h)))
noncomputable def pLoad4_con : Con := ⟨[.ptr 0, .same (.il .u32 268697604)], t_P1n, fun a K => match a with | ⟨[made, spent, dv], [], [], [cs_b_k, cs_b_w, cs_b_t, cs_b_r, cs_b_l, cs_b_c]⟩ => (match Mo.Cl.is cs_b_k with | true => (match Mo.Wd.is cs_b_w with | true => (match Mo.Rt.is cs_b_t with | true => (match Mo.Rs.is cs_b_r with | true => (match Mo.Ln.is cs_b_l with | true => (match Mo.Cnt.is cs_b_c with | true => pLoad4_T made spent dv (Mo.Bd.mk (Mo.Cl.of cs_b_k) (Mo.Wd.of cs_b_w) (Mo.Rt.of cs_b_t) (Mo.Rs.of cs_b_r) (Mo.Ln.of cs_b_l) (Mo.Cnt.of cs_b_c)) K | false => False) | false => False) | false => False) | false => False) | false => False) | false => False) | _ => False⟩
theorem pLoad4_ok : pLoad4_con.ok noW Tryz.prog 62 := by
  intro a K h
  simp only [pLoad4_con] at h
  split at h
  case h_2 => exact h.elim
  split at h
  case h_2 => exact h.elim
  rename_i is_b_k
  split at h
  case h_2 => exact h.elim
  rename_i is_b_w
  split at h
  case h_2 => exact h.elim
  rename_i is_b_t
  split at h
  case h_2 => exact h.elim
  rename_i is_b_r
  split at h
  case h_2 => exact h.elim
  rename_i is_b_l
  split at h
  case h_2 => exact h.elim
  rename_i is_b_c
  exact CallSem.objs (pLoad4_sem _ _ _ _ K h) (fun _ _ _ h => h) ⟨WkO.same (fun cs h => by cases h), WkO.same (fun cs h => by cases h), WkO.cells (Mo.Cl.is_ok is_b_k), WkO.same (fun cs h => by cases h), WkO.cells (Mo.Wd.is_ok is_b_w), WkO.cells (Mo.Rt.is_ok is_b_t), WkO.cells (Mo.Rs.is_ok is_b_r), WkO.cells (Mo.Ln.is_ok is_b_l), WkO.same (fun cs h => by cases h), WkO.same (fun cs h => by cases h), WkO.same (fun cs h => by cases h), WkO.cells (Mo.Cnt.is_ok is_b_c), trivial⟩
noncomputable def Mo.pLoad28_v1 (spent : Int) : Int := (if ((iE ((spent + 0) / 18446744073709551616) 0) = true) then ((spent + 0) % 18446744073709551616) else 18446744073709551615)
noncomputable def Mo.pLoad28_v2 (b : Mo.Bd) : Mo.Bd := (Mo.dTick_v1 0 b)
noncomputable def Mo.pLoad28_pre (spent : Int) (b : Mo.Bd) : Prop := ((((0 : Int) ≤ spent) ∧ ((0 : Int) ≤ 0)) ∧ (Mo.dTick_pre 0 b))
noncomputable def pLoad28_tree (made : Int) (spent : Int) (dv : Int) (b : Mo.Bd) (K : S → List Ob → Prop) : Prop := (((1 : Int) = 1) ∧ (((1 : Int) = 1) ∧ (True ∧ (((some (S.iv IntKind.i64 0)) = (some (S.iv IntKind.i64 0))) ∧ ((((0 : Int) ≤ spent) ∧ ((0 : Int) ≤ 0)) ∧ (((0 : Int) = 0) ∧ (if ((iE ((spent + 0) / 18446744073709551616) 0) = true) then (((1 : Int) = 1) ∧ (((1 : Int) = 1) ∧ ((Mo.dTick_pre 0 b) ∧ (((1 : Int) = 1) ∧ (((1 : Int) = 1) ∧ (True ∧ (((some (S.iv IntKind.i64 0)) = (some (S.iv IntKind.i64 0))) ∧ (((1 : Int) = 1) ∧ (((1 : Int) = 1) ∧ (((1 : Int) = 1) ∧ (((1 : Int) = 1) ∧ (((1 : Int) = 1) ∧ (((1 : Int) = 1) ∧ (True ∧ (((1 : Int) = 1) ∧ (((1 : Int) = 1) ∧ (True ∧ (((some (S.iv IntKind.i64 0)) = (some (S.iv IntKind.i64 0))) ∧ K (.tup [(.iv .u32 (Mo.tLoad28_v1 (Mo.Bd.t (Mo.dTick_v1 0 b)))), (.il .i64 0)]) (h_P1n (adi made 1) ((spent + 0) % 18446744073709551616) dv (Mo.dTick_v1 0 b)))))))))))))))))))) else (((1 : Int) = 1) ∧ (((1 : Int) = 1) ∧ ((Mo.dTick_pre 0 b) ∧ (((1 : Int) = 1) ∧ (((1 : Int) = 1) ∧ (True ∧ (((some (S.iv IntKind.i64 0)) = (some (S.iv IntKind.i64 0))) ∧ (((1 : Int) = 1) ∧ (((1 : Int) = 1) ∧ (((1 : Int) = 1) ∧ (((1 : Int) = 1) ∧ (((1 : Int) = 1) ∧ (((1 : Int) = 1) ∧ (True ∧ (((1 : Int) = 1) ∧ (((1 : Int) = 1) ∧ (True ∧ (((some (S.iv IntKind.i64 0)) = (some (S.iv IntKind.i64 0))) ∧ K (.tup [(.iv .u32 (Mo.tLoad28_v1 (Mo.Bd.t (Mo.dTick_v1 0 b)))), (.il .i64 0)]) (h_P1n (adi made 1) 18446744073709551615 dv (Mo.dTick_v1 0 b)))))))))))))))))))))))))))
theorem pLoad28_run (made : Int) (spent : Int) (dv : Int) (b : Mo.Bd) (K : S → List Ob → Prop) : callL (std noW) tt ffArF stopArF noL 8 62 [.ptr 0 (.l 0), .il .u32 268697628] (h_P1n made spent dv b) (gcK 12 (ivK false K)) = pLoad28_tree made spent dv b K := by kernel_rfl
noncomputable def pLoad28_T (made : Int) (spent : Int) (dv : Int) (b : Mo.Bd) (K : S → List Ob → Prop) : Prop := Mo.pLoad28_pre spent b ∧ K (.tup [(.iv .u32 (Mo.tLoad28_v1 (Mo.Bd.t (Mo.dTick_v1 0 b)))), (.il .i64 0)]) (h_P1n (adi made 1) (Mo.pLoad28_v1 spent) dv (Mo.pLoad28_v2 b))
theorem pLoad28_all (made : Int) (spent : Int) (dv : Int) (b : Mo.Bd) (K : S → List Ob → Prop) (h : pLoad28_T made spent dv b K) : pLoad28_tree made spent dv b K := by
  unfold pLoad28_T at h; obtain ⟨h0, h⟩ := h; unfold pLoad28_tree
  try simp only [Mo.pLoad28_v1] at h0 h
  try simp only [Mo.pLoad28_v2] at h0 h
  try simp only [Mo.pLoad28_pre] at h0 h
  refine ⟨rfl, ?_⟩
  refine ⟨rfl, ?_⟩
  refine ⟨?_, ?_⟩
  trivial
  refine ⟨rfl, ?_⟩
  refine ⟨h0.1, ?_⟩; replace h0 := h0.2
  refine ⟨rfl, ?_⟩
  refine ite_intro (fun c0 => ?_) (fun c0 => ?_)
  try simp only [if_pos c0] at h0 h
  refine ⟨rfl, ?_⟩
  refine ⟨rfl, ?_⟩
  refine ⟨h0, ?_⟩
  refine ⟨rfl, ?_⟩
  refine ⟨rfl, ?_⟩
  refine ⟨?_, ?_⟩
  trivial
  refine ⟨rfl, ?_⟩
  refine ⟨rfl, ?_⟩
  refine ⟨rfl, ?_⟩
  refine ⟨rfl, ?_⟩
  refine ⟨rfl, ?_⟩
  refine ⟨rfl, ?_⟩
  refine ⟨rfl, ?_⟩
  refine ⟨?_, ?_⟩
  trivial
  refine ⟨rfl, ?_⟩
  refine ⟨rfl, ?_⟩
  refine ⟨?_, ?_⟩
  trivial
  refine ⟨rfl, ?_⟩
  first | exact h | contradiction | (simp only [if_true, if_false, Bool.false_eq_true] at h; exact h)
  try simp only [if_neg c0] at h0 h
  refine ⟨rfl, ?_⟩
  refine ⟨rfl, ?_⟩
  refine ⟨h0, ?_⟩
  refine ⟨rfl, ?_⟩
  refine ⟨rfl, ?_⟩
  refine ⟨?_, ?_⟩
  trivial
  refine ⟨rfl, ?_⟩
  refine ⟨rfl, ?_⟩
  refine ⟨rfl, ?_⟩
  refine ⟨rfl, ?_⟩
  refine ⟨rfl, ?_⟩
  refine ⟨rfl, ?_⟩
  refine ⟨rfl, ?_⟩
  refine ⟨?_, ?_⟩
  trivial
  refine ⟨rfl, ?_⟩
  refine ⟨rfl, ?_⟩
  refine ⟨?_, ?_⟩
  trivial
  refine ⟨rfl, ?_⟩
  first | exact h | contradiction | (simp only [if_true, if_false, Bool.false_eq_true] at h; exact h)
theorem pLoad28_sem (made : Int) (spent : Int) (dv : Int) (b : Mo.Bd) (K : S → List Ob → Prop) (h : pLoad28_T made spent dv b K) : CallSem noW Tryz.prog 62 [.ptr 0 (.l 0), .il .u32 268697628] (h_P1n made spent dv b) K := iv_call (callL_ok tok (by kernel_rfl) ffArFok stopArF_ok _ _ _ _ (Eq.mpr (pLoad28_run made spent dv b K) (pLoad28_all made spent dv b K h)))
noncomputable def pLoad28_con : Con := ⟨[.ptr 0, .same (.il .u32 268697628)], t_P1n, fun a K => match a with | ⟨[made, spent, dv], [], [], [cs_b_k, cs_b_w, cs_b_t, cs_b_r, cs_b_l, cs_b_c]⟩ => (match Mo.Cl.is cs_b_k with | true => (match Mo.Wd.is cs_b_w with | true => (match Mo.Rt.is cs_b_t with | true => (match Mo.Rs.is cs_b_r with | true => (match Mo.Ln.is cs_b_l with | true => (match Mo.Cnt.is cs_b_c with | true => pLoad28_T made spent dv (Mo.Bd.mk (Mo.Cl.of cs_b_k) (Mo.Wd.of cs_b_w) (Mo.Rt.of cs_b_t) (Mo.Rs.of cs_b_r) (Mo.Ln.of cs_b_l) (Mo.Cnt.of cs_b_c)) K | false => False) | false => False) | false => False) | false => False) | false => False) | false => False) | _ => False⟩
theorem pLoad28_ok : pLoad28_con.ok noW Tryz.prog 62 := by
  intro a K h
  simp only [pLoad28_con] at h
  split at h
  case h_2 => exact h.elim
  split at h
  case h_2 => exact h.elim
  rename_i is_b_k
  split at h
  case h_2 => exact h.elim
  rename_i is_b_w
  split at h
  case h_2 => exact h.elim
  rename_i is_b_t
  split at h
  case h_2 => exact h.elim
  rename_i is_b_r
  split at h
  case h_2 => exact h.elim
  rename_i is_b_l
  split at h
  case h_2 => exact h.elim
  rename_i is_b_c
  exact CallSem.objs (pLoad28_sem _ _ _ _ K h) (fun _ _ _ h => h) ⟨WkO.same (fun cs h => by cases h), WkO.same (fun cs h => by cases h), WkO.cells (Mo.Cl.is_ok is_b_k), WkO.same (fun cs h => by cases h), WkO.cells (Mo.Wd.is_ok is_b_w), WkO.cells (Mo.Rt.is_ok is_b_t), WkO.cells (Mo.Rs.is_ok is_b_r), WkO.cells (Mo.Ln.is_ok is_b_l), WkO.same (fun cs h => by cases h), WkO.same (fun cs h => by cases h), WkO.same (fun cs h => by cases h), WkO.cells (Mo.Cnt.is_ok is_b_c), trivial⟩
noncomputable def tabArG (n : Nat) : List Con := match Nat.beq n 63 with | true => [pStore8_con, pStore12_con, pStore16_con, pStore20_con, pStore24_con, pStore28_con] | false => match Nat.beq n 62 with | true => [pLoad0_con, pLoad4_con, pLoad28_con] | false => tabArF n
theorem tabArG_ok : ∀ f, ∀ c ∈ tabArG f, c.ok noW Tryz.prog f := by
  intro f c hc
  unfold tabArG at hc
  split at hc
  · rename_i hf; have := Nat.eq_of_beq_eq_true hf; subst this
    simp only [List.mem_cons, List.not_mem_nil, or_false] at hc
    rcases hc with rfl | rfl | rfl | rfl | rfl | rfl
    · exact pStore8_ok
    · exact pStore12_ok
    · exact pStore16_ok
    · exact pStore20_ok
    · exact pStore24_ok
    · exact pStore28_ok
  split at hc
  · rename_i hf; have := Nat.eq_of_beq_eq_true hf; subst this
    simp only [List.mem_cons, List.not_mem_nil, or_false] at hc
    rcases hc with rfl | rfl | rfl
    · exact pLoad0_ok
    · exact pLoad4_ok
    · exact pLoad28_ok
  exact tabArF_ok f c hc
noncomputable def ffArG (n : Nat) : Option FI := match Nat.beq n 63 with | true => none | false => match Nat.beq n 62 with | true => none | false => ffArF n
theorem ffArGok : FOk Tryz.prog ffArG := fun f fi hf => by
  unfold ffArG at hf
  split at hf
  · cases hf
  split at hf
  · cases hf
  exact ffArFok f fi hf
noncomputable def stopArG : CallT := stopC tabArG stopB
theorem stopArG_ok : ∀ f args h K, stopArG f args h K → CallSem noW Tryz.prog f args h K := stopC_ok tabArG_ok stopB_ok
end Go.SX.Y
