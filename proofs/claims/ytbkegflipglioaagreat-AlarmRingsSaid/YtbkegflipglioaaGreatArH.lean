/- What Go functions come to (lifted). -/
import Derived.Test.YtbkegflipglioaaGreatArG
set_option maxRecDepth 20000
namespace Go.SX.Y
open Go.Proofs Go.RowKit
noncomputable def h_A1n (made : Int) (spent : Int) (dv : Int) (b : Mo.Bd) : List Ob := [.cells 138 [.ptr 1 (.l 0)], .cells 135 [.iv .i64 made, .iv .u64 spent, .iv .i64 0, .ptr 2 (.l 0), .raw (.slice none 0 0)], .cells 131 [.ptr 3 (.l 0), .ptr 4 (.l 0), .ptr 5 (.l 0), .ptr 6 (.l 0), .ptr 7 (.l 0), .ptr 8 (.l 0), .ptr 9 (.l 0), .iv .i64 1, .iv .i64 1, .iv .u32 dv, .raw (.slice none 0 0)], .cells 183 (Mo.Cl.cells (Mo.Bd.k b)), .cells 188 [.sli 10 (.l 0) (.l 1) (.lit (.l 1)) false], .cells 194 (Mo.Wd.cells (Mo.Bd.w b)), .cells 190 (Mo.Rt.cells (Mo.Bd.t b)), .cells 200 (Mo.Rs.cells (Mo.Bd.r b)), .cells 204 (Mo.Ln.cells (Mo.Bd.l b)), .cells 227 [.mp 11], .row 185 1 (.l 1) [.ptr 12 (.l 0)], .mapo [.agg [.il .u32 33554432, .il .u32 49152], .agg [.il .u32 268500992, .il .u32 256], .agg [.il .u32 268566528, .il .u32 20], .agg [.il .u32 268632064, .il .u32 16], .agg [.il .u32 268697600, .il .u32 36], .agg [.il .u32 268763136, .il .u32 12]] [.ifc 107 (.ptr 3 (.l 0)), .ifc 110 (.ptr 4 (.l 0)), .ifc 119 (.ptr 5 (.l 0)), .ifc 125 (.ptr 7 (.l 0)), .ifc 44 (.ptr 6 (.l 0)), .ifc 127 (.ptr 8 (.l 0))], .cells 246 (Mo.Cnt.cells (Mo.Bd.c b))]
def t_A1n : List OTm := [.cells 138 [.ptr 1], .cells 135 [.int .i64, .int .u64, .eqI .i64 0, .ptr 2, .same (.raw (.slice none 0 0))], .cells 131 [.ptr 3, .ptr 4, .ptr 5, .ptr 6, .ptr 7, .ptr 8, .ptr 9, .eqI .i64 1, .eqI .i64 1, .int .u32, .same (.raw (.slice none 0 0))], .cellsV 183, .cells 188 [.same (.sli 10 (.l 0) (.l 1) (.lit (.l 1)) false)], .cellsV 194, .cellsV 190, .cellsV 200, .cellsV 204, .cells 227 [.mp 11], .row 185 1 1 [.ptr 12], .mapo [.agg [.same (.il .u32 33554432), .same (.il .u32 49152)], .agg [.same (.il .u32 268500992), .same (.il .u32 256)], .agg [.same (.il .u32 268566528), .same (.il .u32 20)], .agg [.same (.il .u32 268632064), .same (.il .u32 16)], .agg [.same (.il .u32 268697600), .same (.il .u32 36)], .agg [.same (.il .u32 268763136), .same (.il .u32 12)]] [.ifc 107 (.ptr 3), .ifc 110 (.ptr 4), .ifc 119 (.ptr 5), .ifc 125 (.ptr 7), .ifc 44 (.ptr 6), .ifc 127 (.ptr 8)], .cellsV 246]
noncomputable def h_A1g (made : Int) (spent : Int) (dv : Int) (gp : Int) (b : Mo.Bd) : List Ob := [.cells 138 [.ptr 1 (.l 0)], .cells 135 [.iv .i64 made, .iv .u64 spent, .iv .i64 0, .ptr 2 (.l 0), .sli 3 (.l 0) (.l 1) (.rest (.l 0)) false], .cells 131 [.ptr 4 (.l 0), .ptr 5 (.l 0), .ptr 6 (.l 0), .ptr 7 (.l 0), .ptr 8 (.l 0), .ptr 9 (.l 0), .ptr 10 (.l 0), .iv .i64 1, .iv .i64 1, .iv .u32 dv, .raw (.slice none 0 0)], .row 22 1 (.l 1) [.iv .u32 gp], .cells 183 (Mo.Cl.cells (Mo.Bd.k b)), .cells 188 [.sli 11 (.l 0) (.l 1) (.lit (.l 1)) false], .cells 194 (Mo.Wd.cells (Mo.Bd.w b)), .cells 190 (Mo.Rt.cells (Mo.Bd.t b)), .cells 200 (Mo.Rs.cells (Mo.Bd.r b)), .cells 204 (Mo.Ln.cells (Mo.Bd.l b)), .cells 227 [.mp 12], .row 185 1 (.l 1) [.ptr 13 (.l 0)], .mapo [.agg [.il .u32 33554432, .il .u32 49152], .agg [.il .u32 268500992, .il .u32 256], .agg [.il .u32 268566528, .il .u32 20], .agg [.il .u32 268632064, .il .u32 16], .agg [.il .u32 268697600, .il .u32 36], .agg [.il .u32 268763136, .il .u32 12]] [.ifc 107 (.ptr 4 (.l 0)), .ifc 110 (.ptr 5 (.l 0)), .ifc 119 (.ptr 6 (.l 0)), .ifc 125 (.ptr 8 (.l 0)), .ifc 44 (.ptr 7 (.l 0)), .ifc 127 (.ptr 9 (.l 0))], .cells 246 (Mo.Cnt.cells (Mo.Bd.c b))]
def t_A1g : List OTm := [.cells 138 [.ptr 1], .cells 135 [.int .i64, .int .u64, .eqI .i64 0, .ptr 2, .same (.sli 3 (.l 0) (.l 1) (.rest (.l 0)) false)], .cells 131 [.ptr 4, .ptr 5, .ptr 6, .ptr 7, .ptr 8, .ptr 9, .ptr 10, .eqI .i64 1, .eqI .i64 1, .int .u32, .same (.raw (.slice none 0 0))], .row 22 1 1 [.int .u32], .cellsV 183, .cells 188 [.same (.sli 11 (.l 0) (.l 1) (.lit (.l 1)) false)], .cellsV 194, .cellsV 190, .cellsV 200, .cellsV 204, .cells 227 [.mp 12], .row 185 1 1 [.ptr 13], .mapo [.agg [.same (.il .u32 33554432), .same (.il .u32 49152)], .agg [.same (.il .u32 268500992), .same (.il .u32 256)], .agg [.same (.il .u32 268566528), .same (.il .u32 20)], .agg [.same (.il .u32 268632064), .same (.il .u32 16)], .agg [.same (.il .u32 268697600), .same (.il .u32 36)], .agg [.same (.il .u32 268763136), .same (.il .u32 12)]] [.ifc 107 (.ptr 4), .ifc 110 (.ptr 5), .ifc 119 (.ptr 6), .ifc 125 (.ptr 8), .ifc 44 (.ptr 7), .ifc 127 (.ptr 9)], .cellsV 246]
noncomputable def Mo.aSet_v1 (sec : Int) (b : Mo.Bd) : Mo.Bd := (Mo.pStore12_v2 (cvw (srq sec 32) 0) (Mo.pStore8_v2 (cvw sec 0) b))
noncomputable def Mo.aSet_pre (sec : Int) (spent : Int) (b : Mo.Bd) : Prop := ((Mo.pStore8_pre (cvw sec 0) spent b) ∧ (Mo.pStore12_pre (cvw (srq sec 32) 0) (Mo.pStore8_v1 spent) (Mo.pStore8_v2 (cvw sec 0) b)))
noncomputable def aSet_tree (sec : Int) (made : Int) (spent : Int) (dv : Int) (b : Mo.Bd) (K : S → List Ob → Prop) : Prop := (((1 : Int) = 1) ∧ (((1 : Int) = 1) ∧ (((0 : Int) = 0) ∧ ((Mo.pStore8_pre (cvw sec 0) spent b) ∧ (((1 : Int) = 1) ∧ (((1 : Int) = 1) ∧ (((0 : Int) = 0) ∧ (((1 : Int) = 1) ∧ (((1 : Int) = 1) ∧ (((0 : Int) = 0) ∧ ((Mo.pStore12_pre (cvw (srq sec 32) 0) (Mo.pStore8_v1 spent) (Mo.pStore8_v2 (cvw sec 0) b)) ∧ K (.il .i64 0) (h_A1n (adi (adi made 1) 1) (Mo.pStore12_v1 (Mo.pStore8_v1 spent)) dv (Mo.pStore12_v2 (cvw (srq sec 32) 0) (Mo.pStore8_v2 (cvw sec 0) b))))))))))))))
theorem aSet_run (sec : Int) (made : Int) (spent : Int) (dv : Int) (b : Mo.Bd) (K : S → List Ob → Prop) : callL (std noW) tt ffArG stopArG noL 8 14 [.ptr 0 (.l 0), .iv .u64 sec] (h_A1n made spent dv b) (gcK 13 (ivK false K)) = aSet_tree sec made spent dv b K := by kernel_rfl
noncomputable def aSet_T (sec : Int) (made : Int) (spent : Int) (dv : Int) (b : Mo.Bd) (K : S → List Ob → Prop) : Prop := Mo.aSet_pre sec spent b ∧ K (.il .i64 0) (h_A1n (adi (adi made 1) 1) (Mo.pStore12_v1 (Mo.pStore8_v1 spent)) dv (Mo.aSet_v1 sec b))
theorem aSet_all (sec : Int) (made : Int) (spent : Int) (dv : Int) (b : Mo.Bd) (K : S → List Ob → Prop) (h : aSet_T sec made spent dv b K) : aSet_tree sec made spent dv b K := by
  unfold aSet_T at h; obtain ⟨h0, h⟩ := h; unfold aSet_tree
  try simp only [Mo.aSet_v1] at h0 h
  try simp only [Mo.aSet_pre] at h0 h
  refine ⟨rfl, ?_⟩
  refine ⟨rfl, ?_⟩
  refine ⟨rfl, ?_⟩
  refine ⟨h0.1, ?_⟩; replace h0 := h0.2
  refine ⟨rfl, ?_⟩
  refine ⟨rfl, ?_⟩
  refine ⟨rfl, ?_⟩
  refine ⟨rfl, ?_⟩
  refine ⟨rfl, ?_⟩
  refine ⟨rfl, ?_⟩
  refine ⟨h0, ?_⟩
  first | exact h | contradiction | (simp only [if_true, if_false, Bool.false_eq_true] at h; exact h)
theorem aSet_sem (sec : Int) (made : Int) (spent : Int) (dv : Int) (b : Mo.Bd) (K : S → List Ob → Prop) (h : aSet_T sec made spent dv b K) : CallSem noW Tryz.prog 14 [.ptr 0 (.l 0), .iv .u64 sec] (h_A1n made spent dv b) K := iv_call (callL_ok tok (by kernel_rfl) ffArGok stopArG_ok _ _ _ _ (Eq.mpr (aSet_run sec made spent dv b K) (aSet_all sec made spent dv b K h)))
noncomputable def aSet_con : Con := ⟨[.ptr 0, .int .u64], t_A1n, fun a K => match a with | ⟨[sec, made, spent, dv], [], [], [cs_b_k, cs_b_w, cs_b_t, cs_b_r, cs_b_l, cs_b_c]⟩ => (match Mo.Cl.is cs_b_k with | true => (match Mo.Wd.is cs_b_w with | true => (match Mo.Rt.is cs_b_t with | true => (match Mo.Rs.is cs_b_r with | true => (match Mo.Ln.is cs_b_l with | true => (match Mo.Cnt.is cs_b_c with | true => aSet_T sec made spent dv (Mo.Bd.mk (Mo.Cl.of cs_b_k) (Mo.Wd.of cs_b_w) (Mo.Rt.of cs_b_t) (Mo.Rs.of cs_b_r) (Mo.Ln.of cs_b_l) (Mo.Cnt.of cs_b_c)) K | false => False) | false => False) | false => False) | false => False) | false => False) | false => False) | _ => False⟩
theorem aSet_ok : aSet_con.ok noW Tryz.prog 14 := by
  intro a K h
  simp only [aSet_con] at h
  split at h
  case h_2 => exact h.elim
  split at h
  case h_2 => exact h.elim
  rename_i is_b_k
  split at h
  case h_2 => exact h.elim
  rename_i is_b_w
  split at h
  case h_2 => exact h.elim
  rename_i is_b_t
  split at h
  case h_2 => exact h.elim
  rename_i is_b_r
  split at h
  case h_2 => exact h.elim
  rename_i is_b_l
  split at h
  case h_2 => exact h.elim
  rename_i is_b_c
  exact CallSem.objs (aSet_sem _ _ _ _ _ K h) (fun _ _ _ h => h) ⟨WkO.same (fun cs h => by cases h), WkO.same (fun cs h => by cases h), WkO.same (fun cs h => by cases h), WkO.cells (Mo.Cl.is_ok is_b_k), WkO.same (fun cs h => by cases h), WkO.cells (Mo.Wd.is_ok is_b_w), WkO.cells (Mo.Rt.is_ok is_b_t), WkO.cells (Mo.Rs.is_ok is_b_r), WkO.cells (Mo.Ln.is_ok is_b_l), WkO.same (fun cs h => by cases h), WkO.same (fun cs h => by cases h), WkO.same (fun cs h => by cases h), WkO.cells (Mo.Cnt.is_ok is_b_c), trivial⟩
noncomputable def Mo.aSec_v1 (b : Mo.Bd) : Int := (if ((iE (cvw (srq (Mo.Rt.sec (Mo.Bd.t (Mo.dTick_v1 0 (Mo.pLoad0_v2 (Mo.pLoad4_v2 b))))) 32) 0) (cvw (srq (Mo.Rt.sec (Mo.Bd.t (Mo.dTick_v1 0 b))) 32) 0)) = true) then (rrq (slq (cvq (cvw (srq (Mo.Rt.sec (Mo.Bd.t (Mo.dTick_v1 0 b))) 32) 0) 0) 32) (cvq (cvw (Mo.Rt.sec (Mo.Bd.t (Mo.dTick_v1 0 (Mo.pLoad4_v2 b)))) 0) 0)) else (if ((iE (cvw (srq (Mo.Rt.sec (Mo.Bd.t (Mo.dTick_v1 0 (Mo.pLoad0_v2 (Mo.pLoad4_v2 (Mo.pLoad0_v2 (Mo.pLoad4_v2 b))))))) 32) 0) (cvw (srq (Mo.Rt.sec (Mo.Bd.t (Mo.dTick_v1 0 (Mo.pLoad0_v2 (Mo.pLoad4_v2 b))))) 32) 0)) = true) then (rrq (slq (cvq (cvw (srq (Mo.Rt.sec (Mo.Bd.t (Mo.dTick_v1 0 (Mo.pLoad0_v2 (Mo.pLoad4_v2 b))))) 32) 0) 0) 32) (cvq (cvw (Mo.Rt.sec (Mo.Bd.t (Mo.dTick_v1 0 (Mo.pLoad4_v2 (Mo.pLoad0_v2 (Mo.pLoad4_v2 b)))))) 0) 0)) else (rrq (slq (cvq (cvw (srq (Mo.Rt.sec (Mo.Bd.t (Mo.dTick_v1 0 (Mo.pLoad0_v2 (Mo.pLoad4_v2 (Mo.pLoad0_v2 (Mo.pLoad4_v2 b))))))) 32) 0) 0) 32) (cvq (cvw (Mo.Rt.sec (Mo.Bd.t (Mo.dTick_v1 0 (Mo.pLoad4_v2 (Mo.pLoad0_v2 (Mo.pLoad4_v2 (Mo.pLoad0_v2 (Mo.pLoad4_v2 b)))))))) 0) 0))))
noncomputable def Mo.aSec_v2 (made : Int) (b : Mo.Bd) : Int := (if ((iE (cvw (srq (Mo.Rt.sec (Mo.Bd.t (Mo.dTick_v1 0 (Mo.pLoad0_v2 (Mo.pLoad4_v2 b))))) 32) 0) (cvw (srq (Mo.Rt.sec (Mo.Bd.t (Mo.dTick_v1 0 b))) 32) 0)) = true) then (adi (adi (adi made 1) 1) 1) else (if ((iE (cvw (srq (Mo.Rt.sec (Mo.Bd.t (Mo.dTick_v1 0 (Mo.pLoad0_v2 (Mo.pLoad4_v2 (Mo.pLoad0_v2 (Mo.pLoad4_v2 b))))))) 32) 0) (cvw (srq (Mo.Rt.sec (Mo.Bd.t (Mo.dTick_v1 0 (Mo.pLoad0_v2 (Mo.pLoad4_v2 b))))) 32) 0)) = true) then (adi (adi (adi (adi (adi made 1) 1) 1) 1) 1) else (adi (adi (adi (adi (adi (adi (adi made 1) 1) 1) 1) 1) 1) 1)))
noncomputable def Mo.aSec_v3 (spent : Int) (b : Mo.Bd) : Int := (if ((iE (cvw (srq (Mo.Rt.sec (Mo.Bd.t (Mo.dTick_v1 0 (Mo.pLoad0_v2 (Mo.pLoad4_v2 b))))) 32) 0) (cvw (srq (Mo.Rt.sec (Mo.Bd.t (Mo.dTick_v1 0 b))) 32) 0)) = true) then (Mo.pLoad4_v1 (Mo.pLoad0_v1 (Mo.pLoad4_v1 spent))) else (if ((iE (cvw (srq (Mo.Rt.sec (Mo.Bd.t (Mo.dTick_v1 0 (Mo.pLoad0_v2 (Mo.pLoad4_v2 (Mo.pLoad0_v2 (Mo.pLoad4_v2 b))))))) 32) 0) (cvw (srq (Mo.Rt.sec (Mo.Bd.t (Mo.dTick_v1 0 (Mo.pLoad0_v2 (Mo.pLoad4_v2 b))))) 32) 0)) = true) then (Mo.pLoad4_v1 (Mo.pLoad0_v1 (Mo.pLoad4_v1 (Mo.pLoad0_v1 (Mo.pLoad4_v1 spent))))) else (Mo.pLoad4_v1 (Mo.pLoad0_v1 (Mo.pLoad4_v1 (Mo.pLoad0_v1 (Mo.pLoad4_v1 (Mo.pLoad0_v1 (Mo.pLoad4_v1 spent)))))))))
noncomputable def Mo.aSec_v4 (b : Mo.Bd) : Mo.Bd := (if ((iE (cvw (srq (Mo.Rt.sec (Mo.Bd.t (Mo.dTick_v1 0 (Mo.pLoad0_v2 (Mo.pLoad4_v2 b))))) 32) 0) (cvw (srq (Mo.Rt.sec (Mo.Bd.t (Mo.dTick_v1 0 b))) 32) 0)) = true) then (Mo.pLoad4_v2 (Mo.pLoad0_v2 (Mo.pLoad4_v2 b))) else (if ((iE (cvw (srq (Mo.Rt.sec (Mo.Bd.t (Mo.dTick_v1 0 (Mo.pLoad0_v2 (Mo.pLoad4_v2 (Mo.pLoad0_v2 (Mo.pLoad4_v2 b))))))) 32) 0) (cvw (srq (Mo.Rt.sec (Mo.Bd.t (Mo.dTick_v1 0 (Mo.pLoad0_v2 (Mo.pLoad4_v2 b))))) 32) 0)) = true) then (Mo.pLoad4_v2 (Mo.pLoad0_v2 (Mo.pLoad4_v2 (Mo.pLoad0_v2 (Mo.pLoad4_v2 b))))) else (Mo.pLoad4_v2 (Mo.pLoad0_v2 (Mo.pLoad4_v2 (Mo.pLoad0_v2 (Mo.pLoad4_v2 (Mo.pLoad0_v2 (Mo.pLoad4_v2 b)))))))))
noncomputable def Mo.aSec_pre (spent : Int) (b : Mo.Bd) : Prop := ((Mo.pLoad4_pre spent b) ∧ ((Mo.pLoad0_pre (Mo.pLoad4_v1 spent) (Mo.pLoad4_v2 b)) ∧ ((Mo.pLoad4_pre (Mo.pLoad0_v1 (Mo.pLoad4_v1 spent)) (Mo.pLoad0_v2 (Mo.pLoad4_v2 b))) ∧ (if ((iE (cvw (srq (Mo.Rt.sec (Mo.Bd.t (Mo.dTick_v1 0 (Mo.pLoad0_v2 (Mo.pLoad4_v2 b))))) 32) 0) (cvw (srq (Mo.Rt.sec (Mo.Bd.t (Mo.dTick_v1 0 b))) 32) 0)) = true) then True else ((Mo.pLoad0_pre (Mo.pLoad4_v1 (Mo.pLoad0_v1 (Mo.pLoad4_v1 spent))) (Mo.pLoad4_v2 (Mo.pLoad0_v2 (Mo.pLoad4_v2 b)))) ∧ ((Mo.pLoad4_pre (Mo.pLoad0_v1 (Mo.pLoad4_v1 (Mo.pLoad0_v1 (Mo.pLoad4_v1 spent)))) (Mo.pLoad0_v2 (Mo.pLoad4_v2 (Mo.pLoad0_v2 (Mo.pLoad4_v2 b))))) ∧ (if ((iE (cvw (srq (Mo.Rt.sec (Mo.Bd.t (Mo.dTick_v1 0 (Mo.pLoad0_v2 (Mo.pLoad4_v2 (Mo.pLoad0_v2 (Mo.pLoad4_v2 b))))))) 32) 0) (cvw (srq (Mo.Rt.sec (Mo.Bd.t (Mo.dTick_v1 0 (Mo.pLoad0_v2 (Mo.pLoad4_v2 b))))) 32) 0)) = true) then True else ((Mo.pLoad0_pre (Mo.pLoad4_v1 (Mo.pLoad0_v1 (Mo.pLoad4_v1 (Mo.pLoad0_v1 (Mo.pLoad4_v1 spent))))) (Mo.pLoad4_v2 (Mo.pLoad0_v2 (Mo.pLoad4_v2 (Mo.pLoad0_v2 (Mo.pLoad4_v2 b)))))) ∧ ((Mo.pLoad4_pre (Mo.pLoad0_v1 (Mo.pLoad4_v1 (Mo.pLoad0_v1 (Mo.pLoad4_v1 (Mo.pLoad0_v1 (Mo.pLoad4_v1 spent)))))) (Mo.pLoad0_v2 (Mo.pLoad4_v2 (Mo.pLoad0_v2 (Mo.pLoad4_v2 (Mo.pLoad0_v2 (Mo.pLoad4_v2 b))))))) ∧ (if ((iE (cvw (srq (Mo.Rt.sec (Mo.Bd.t (Mo.dTick_v1 0 (Mo.pLoad0_v2 (Mo.pLoad4_v2 (Mo.pLoad0_v2 (Mo.pLoad4_v2 (Mo.pLoad0_v2 (Mo.pLoad4_v2 b))))))))) 32) 0) (cvw (srq (Mo.Rt.sec (Mo.Bd.t (Mo.dTick_v1 0 (Mo.pLoad0_v2 (Mo.pLoad4_v2 (Mo.pLoad0_v2 (Mo.pLoad4_v2 b))))))) 32) 0)) = true) then True else False))))))))))
noncomputable def aSec_tree (made : Int) (spent : Int) (dv : Int) (b : Mo.Bd) (K : S → List Ob → Prop) : Prop := (((1 : Int) = 1) ∧ (((1 : Int) = 1) ∧ (((0 : Int) = 0) ∧ (((1 : Int) = 1) ∧ (((1 : Int) = 1) ∧ (((0 : Int) = 0) ∧ ((Mo.pLoad4_pre spent b) ∧ (((1 : Int) = 1) ∧ (((1 : Int) = 1) ∧ (((0 : Int) = 0) ∧ ((Mo.pLoad0_pre (Mo.pLoad4_v1 spent) (Mo.pLoad4_v2 b)) ∧ (((1 : Int) = 1) ∧ (((1 : Int) = 1) ∧ (((0 : Int) = 0) ∧ (((1 : Int) = 1) ∧ (((1 : Int) = 1) ∧ (((0 : Int) = 0) ∧ ((Mo.pLoad4_pre (Mo.pLoad0_v1 (Mo.pLoad4_v1 spent)) (Mo.pLoad0_v2 (Mo.pLoad4_v2 b))) ∧ (if ((iE (cvw (srq (Mo.Rt.sec (Mo.Bd.t (Mo.dTick_v1 0 (Mo.pLoad0_v2 (Mo.pLoad4_v2 b))))) 32) 0) (cvw (srq (Mo.Rt.sec (Mo.Bd.t (Mo.dTick_v1 0 b))) 32) 0)) = true) then K (.tup [(.iv .u64 (rrq (slq (cvq (cvw (srq (Mo.Rt.sec (Mo.Bd.t (Mo.dTick_v1 0 b))) 32) 0) 0) 32) (cvq (cvw (Mo.Rt.sec (Mo.Bd.t (Mo.dTick_v1 0 (Mo.pLoad4_v2 b)))) 0) 0))), (.il .i64 0)]) (h_A1n (adi (adi (adi made 1) 1) 1) (Mo.pLoad4_v1 (Mo.pLoad0_v1 (Mo.pLoad4_v1 spent))) dv (Mo.pLoad4_v2 (Mo.pLoad0_v2 (Mo.pLoad4_v2 b)))) else (((1 : Int) = 1) ∧ (((1 : Int) = 1) ∧ (((0 : Int) = 0) ∧ ((Mo.pLoad0_pre (Mo.pLoad4_v1 (Mo.pLoad0_v1 (Mo.pLoad4_v1 spent))) (Mo.pLoad4_v2 (Mo.pLoad0_v2 (Mo.pLoad4_v2 b)))) ∧ (((1 : Int) = 1) ∧ (((1 : Int) = 1) ∧ (((0 : Int) = 0) ∧ (((1 : Int) = 1) ∧ (((1 : Int) = 1) ∧ (((0 : Int) = 0) ∧ ((Mo.pLoad4_pre (Mo.pLoad0_v1 (Mo.pLoad4_v1 (Mo.pLoad0_v1 (Mo.pLoad4_v1 spent)))) (Mo.pLoad0_v2 (Mo.pLoad4_v2 (Mo.pLoad0_v2 (Mo.pLoad4_v2 b))))) ∧ (if ((iE (cvw (srq (Mo.Rt.sec (Mo.Bd.t (Mo.dTick_v1 0 (Mo.pLoad0_v2 (Mo.pLoad4_v2 (Mo.pLoad0_v2 (Mo.pLoad4_v2 b))))))) 32) 0) (cvw (srq (Mo.Rt.sec (Mo.Bd.t (Mo.dTick_v1 0 (Mo.pLoad0_v2 (Mo.pLoad4_v2 b))))) 32) 0)) = true) then K (.tup [(.iv .u64 (rrq (slq (cvq (cvw (srq (Mo.Rt.sec (Mo.Bd.t (Mo.dTick_v1 0 (Mo.pLoad0_v2 (Mo.pLoad4_v2 b))))) 32) 0) 0) 32) (cvq (cvw (Mo.Rt.sec (Mo.Bd.t (Mo.dTick_v1 0 (Mo.pLoad4_v2 (Mo.pLoad0_v2 (Mo.pLoad4_v2 b)))))) 0) 0))), (.il .i64 0)]) (h_A1n (adi (adi (adi (adi (adi made 1) 1) 1) 1) 1) (Mo.pLoad4_v1 (Mo.pLoad0_v1 (Mo.pLoad4_v1 (Mo.pLoad0_v1 (Mo.pLoad4_v1 spent))))) dv (Mo.pLoad4_v2 (Mo.pLoad0_v2 (Mo.pLoad4_v2 (Mo.pLoad0_v2 (Mo.pLoad4_v2 b)))))) else (((1 : Int) = 1) ∧ (((1 : Int) = 1) ∧ (((0 : Int) = 0) ∧ ((Mo.pLoad0_pre (Mo.pLoad4_v1 (Mo.pLoad0_v1 (Mo.pLoad4_v1 (Mo.pLoad0_v1 (Mo.pLoad4_v1 spent))))) (Mo.pLoad4_v2 (Mo.pLoad0_v2 (Mo.pLoad4_v2 (Mo.pLoad0_v2 (Mo.pLoad4_v2 b)))))) ∧ (((1 : Int) = 1) ∧ (((1 : Int) = 1) ∧ (((0 : Int) = 0) ∧ (((1 : Int) = 1) ∧ (((1 : Int) = 1) ∧ (((0 : Int) = 0) ∧ ((Mo.pLoad4_pre (Mo.pLoad0_v1 (Mo.pLoad4_v1 (Mo.pLoad0_v1 (Mo.pLoad4_v1 (Mo.pLoad0_v1 (Mo.pLoad4_v1 spent)))))) (Mo.pLoad0_v2 (Mo.pLoad4_v2 (Mo.pLoad0_v2 (Mo.pLoad4_v2 (Mo.pLoad0_v2 (Mo.pLoad4_v2 b))))))) ∧ (if ((iE (cvw (srq (Mo.Rt.sec (Mo.Bd.t (Mo.dTick_v1 0 (Mo.pLoad0_v2 (Mo.pLoad4_v2 (Mo.pLoad0_v2 (Mo.pLoad4_v2 (Mo.pLoad0_v2 (Mo.pLoad4_v2 b))))))))) 32) 0) (cvw (srq (Mo.Rt.sec (Mo.Bd.t (Mo.dTick_v1 0 (Mo.pLoad0_v2 (Mo.pLoad4_v2 (Mo.pLoad0_v2 (Mo.pLoad4_v2 b))))))) 32) 0)) = true) then K (.tup [(.iv .u64 (rrq (slq (cvq (cvw (srq (Mo.Rt.sec (Mo.Bd.t (Mo.dTick_v1 0 (Mo.pLoad0_v2 (Mo.pLoad4_v2 (Mo.pLoad0_v2 (Mo.pLoad4_v2 b))))))) 32) 0) 0) 32) (cvq (cvw (Mo.Rt.sec (Mo.Bd.t (Mo.dTick_v1 0 (Mo.pLoad4_v2 (Mo.pLoad0_v2 (Mo.pLoad4_v2 (Mo.pLoad0_v2 (Mo.pLoad4_v2 b)))))))) 0) 0))), (.il .i64 0)]) (h_A1n (adi (adi (adi (adi (adi (adi (adi made 1) 1) 1) 1) 1) 1) 1) (Mo.pLoad4_v1 (Mo.pLoad0_v1 (Mo.pLoad4_v1 (Mo.pLoad0_v1 (Mo.pLoad4_v1 (Mo.pLoad0_v1 (Mo.pLoad4_v1 spent))))))) dv (Mo.pLoad4_v2 (Mo.pLoad0_v2 (Mo.pLoad4_v2 (Mo.pLoad0_v2 (Mo.pLoad4_v2 (Mo.pLoad0_v2 (Mo.pLoad4_v2 b)))))))) else False)))))))))))))))))))))))))))))))))))))))))))
theorem aSec_run (made : Int) (spent : Int) (dv : Int) (b : Mo.Bd) (K : S → List Ob → Prop) : callL (std noW) tt ffArG stopArG noL 4 15 [.ptr 0 (.l 0)] (h_A1n made spent dv b) (gcK 13 (ivK false K)) = aSec_tree made spent dv b K := by kernel_rfl
noncomputable def aSec_T (made : Int) (spent : Int) (dv : Int) (b : Mo.Bd) (K : S → List Ob → Prop) : Prop := Mo.aSec_pre spent b ∧ K (.tup [(.iv .u64 (Mo.aSec_v1 b)), (.il .i64 0)]) (h_A1n (Mo.aSec_v2 made b) (Mo.aSec_v3 spent b) dv (Mo.aSec_v4 b))
theorem aSec_all (made : Int) (spent : Int) (dv : Int) (b : Mo.Bd) (K : S → List Ob → Prop) (h : aSec_T made spent dv b K) : aSec_tree made spent dv b K := by
  unfold aSec_T at h; obtain ⟨h0, h⟩ := h; unfold aSec_tree
  try simp only [Mo.aSec_v1] at h0 h
  try simp only [Mo.aSec_v2] at h0 h
  try simp only [Mo.aSec_v3] at h0 h
  try simp only [Mo.aSec_v4] at h0 h
  try simp only [Mo.aSec_pre] at h0 h
  refine ⟨rfl, ?_⟩
  refine ⟨rfl, ?_⟩
  refine ⟨rfl, ?_⟩
  refine ⟨rfl, ?_⟩
  refine ⟨rfl, ?_⟩
  refine ⟨rfl, ?_⟩
  refine ⟨h0.1, ?_⟩; replace h0 := h0.2
  refine ⟨rfl, ?_⟩
  refine ⟨rfl, ?_⟩
  refine ⟨rfl, ?_⟩
  refine ⟨h0.1, ?_⟩; replace h0 := h0.2
  refine ⟨rfl, ?_⟩
  refine ⟨rfl, ?_⟩
  refine ⟨rfl, ?_⟩
  refine ⟨rfl, ?_⟩
  refine ⟨rfl, ?_⟩
  refine ⟨rfl, ?_⟩
  refine ⟨h0.1, ?_⟩; replace h0 := h0.2
  refine ite_intro (fun c0 => ?_) (fun c0 => ?_)
  try simp only [if_pos c0] at h0 h
  first | exact h | contradiction | (simp only [if_true, if_false, Bool.false_eq_true] at h; exact h)
  try simp only [if_neg c0] at h0 h
  refine ⟨rfl, ?_⟩
  refine ⟨rfl, ?_⟩
  refine ⟨rfl, ?_⟩
  refine ⟨h0.1, ?_⟩; replace h0 := h0.2
  refine ⟨rfl, ?_⟩
  refine ⟨rfl, ?_⟩
  refine ⟨rfl, ?_⟩
  refine ⟨rfl, ?_⟩
  refine ⟨rfl, ?_⟩
  refine ⟨rfl, ?_⟩
  refine ⟨h0.1, ?_⟩; replace h0 := h0.2
  refine ite_intro (fun c1 => ?_) (fun c1 => ?_)
  try simp only [if_pos c1] at h0 h
  first | exact h | contradiction | (simp only [if_true, if_false, Bool.false_eq_true] at h; exact h)
  try simp only [if_neg c1] at h0 h
  refine ⟨rfl, ?_⟩
  refine ⟨rfl, ?_⟩
  refine ⟨rfl, ?_⟩
  refine ⟨h0.1, ?_⟩; replace h0 := h0.2
  refine ⟨rfl, ?_⟩
  refine ⟨rfl, ?_⟩
  refine ⟨rfl, ?_⟩
  refine ⟨rfl, ?_⟩
  refine ⟨rfl, ?_⟩
  refine ⟨rfl, ?_⟩
  refine ⟨h0.1, ?_⟩; replace h0 := h0.2
  refine ite_intro (fun c2 => ?_) (fun c2 => ?_)
  try simp only [if_pos c2] at h0 h
  first | exact h | contradiction | (simp only [if_true, if_false, Bool.false_eq_true] at h; exact h)
  exact False.elim (by first | contradiction | (simp only [if_neg c2] at h0))
theorem aSec_sem (made : Int) (spent : Int) (dv : Int) (b : Mo.Bd) (K : S → List Ob → Prop) (h : aSec_T made spent dv b K) : CallSem noW Tryz.prog 15 [.ptr 0 (.l 0)] (h_A1n made spent dv b) K := iv_call (callL_ok tok (by kernel_rfl) ffArGok stopArG_ok _ _ _ _ (Eq.mpr (aSec_run made spent dv b K) (aSec_all made spent dv b K h)))
noncomputable def aSec_con : Con := ⟨[.ptr 0], t_A1n, fun a K => match a with | ⟨[made, spent, dv], [], [], [cs_b_k, cs_b_w, cs_b_t, cs_b_r, cs_b_l, cs_b_c]⟩ => (match Mo.Cl.is cs_b_k with | true => (match Mo.Wd.is cs_b_w with | true => (match Mo.Rt.is cs_b_t with | true => (match Mo.Rs.is cs_b_r with | true => (match Mo.Ln.is cs_b_l with | true => (match Mo.Cnt.is cs_b_c with | true => aSec_T made spent dv (Mo.Bd.mk (Mo.Cl.of cs_b_k) (Mo.Wd.of cs_b_w) (Mo.Rt.of cs_b_t) (Mo.Rs.of cs_b_r) (Mo.Ln.of cs_b_l) (Mo.Cnt.of cs_b_c)) K | false => False) | false => False) | false => False) | false => False) | false => False) | false => False) | _ => False⟩
theorem aSec_ok : aSec_con.ok noW Tryz.prog 15 := by
  intro a K h
  simp only [aSec_con] at h
  split at h
  case h_2 => exact h.elim
  split at h
  case h_2 => exact h.elim
  rename_i is_b_k
  split at h
  case h_2 => exact h.elim
  rename_i is_b_w
  split at h
  case h_2 => exact h.elim
  rename_i is_b_t
  split at h
  case h_2 => exact h.elim
  rename_i is_b_r
  split at h
  case h_2 => exact h.elim
  rename_i is_b_l
  split at h
  case h_2 => exact h.elim
  rename_i is_b_c
  exact CallSem.objs (aSec_sem _ _ _ _ K h) (fun _ _ _ h => h) ⟨WkO.same (fun cs h => by cases h), WkO.same (fun cs h => by cases h), WkO.same (fun cs h => by cases h), WkO.cells (Mo.Cl.is_ok is_b_k), WkO.same (fun cs h => by cases h), WkO.cells (Mo.Wd.is_ok is_b_w), WkO.cells (Mo.Rt.is_ok is_b_t), WkO.cells (Mo.Rs.is_ok is_b_r), WkO.cells (Mo.Ln.is_ok is_b_l), WkO.same (fun cs h => by cases h), WkO.same (fun cs h => by cases h), WkO.same (fun cs h => by cases h), WkO.cells (Mo.Cnt.is_ok is_b_c), trivial⟩
noncomputable def Mo.aArm_v1 (sec : Int) (b : Mo.Bd) : Mo.Bd := (Mo.pStore24_v2 1 (Mo.pStore20_v2 (cvw (srq sec 32) 0) (Mo.pStore16_v2 (cvw sec 0) (Mo.pStore24_v2 0 b))))
noncomputable def Mo.aArm_pre (sec : Int) (spent : Int) (b : Mo.Bd) : Prop := ((Mo.pStore24_pre 0 spent b) ∧ ((Mo.pStore16_pre (cvw sec 0) (Mo.pStore24_v1 spent) (Mo.pStore24_v2 0 b)) ∧ ((Mo.pStore20_pre (cvw (srq sec 32) 0) (Mo.pStore16_v1 (Mo.pStore24_v1 spent)) (Mo.pStore16_v2 (cvw sec 0) (Mo.pStore24_v2 0 b))) ∧ (Mo.pStore24_pre 1 (Mo.pStore20_v1 (Mo.pStore16_v1 (Mo.pStore24_v1 spent))) (Mo.pStore20_v2 (cvw (srq sec 32) 0) (Mo.pStore16_v2 (cvw sec 0) (Mo.pStore24_v2 0 b)))))))
noncomputable def aArm_tree (sec : Int) (made : Int) (spent : Int) (dv : Int) (b : Mo.Bd) (K : S → List Ob → Prop) : Prop := (((1 : Int) = 1) ∧ (((1 : Int) = 1) ∧ (((0 : Int) = 0) ∧ (((1 : Int) = 1) ∧ (((1 : Int) = 1) ∧ (((0 : Int) = 0) ∧ (((1 : Int) = 1) ∧ (((1 : Int) = 1) ∧ (((0 : Int) = 0) ∧ (((1 : Int) = 1) ∧ (((1 : Int) = 1) ∧ (((0 : Int) = 0) ∧ (((1 : Int) = 1) ∧ (((1 : Int) = 1) ∧ (((0 : Int) = 0) ∧ ((Mo.pStore24_pre 0 spent b) ∧ (((1 : Int) = 1) ∧ (((1 : Int) = 1) ∧ (((0 : Int) = 0) ∧ (((1 : Int) = 1) ∧ (((1 : Int) = 1) ∧ (((0 : Int) = 0) ∧ (((1 : Int) = 1) ∧ (((1 : Int) = 1) ∧ (((0 : Int) = 0) ∧ ((Mo.pStore16_pre (cvw sec 0) (Mo.pStore24_v1 spent) (Mo.pStore24_v2 0 b)) ∧ (((1 : Int) = 1) ∧ (((1 : Int) = 1) ∧ (((0 : Int) = 0) ∧ (((1 : Int) = 1) ∧ (((1 : Int) = 1) ∧ (((0 : Int) = 0) ∧ (((1 : Int) = 1) ∧ (((1 : Int) = 1) ∧ (((0 : Int) = 0) ∧ (((1 : Int) = 1) ∧ (((1 : Int) = 1) ∧ (((0 : Int) = 0) ∧ ((Mo.pStore20_pre (cvw (srq sec 32) 0) (Mo.pStore16_v1 (Mo.pStore24_v1 spent)) (Mo.pStore16_v2 (cvw sec 0) (Mo.pStore24_v2 0 b))) ∧ (((1 : Int) = 1) ∧ (((1 : Int) = 1) ∧ (((0 : Int) = 0) ∧ (((1 : Int) = 1) ∧ (((1 : Int) = 1) ∧ (((0 : Int) = 0) ∧ (((1 : Int) = 1) ∧ (((1 : Int) = 1) ∧ (((0 : Int) = 0) ∧ (((1 : Int) = 1) ∧ (((1 : Int) = 1) ∧ (((0 : Int) = 0) ∧ (((1 : Int) = 1) ∧ (((1 : Int) = 1) ∧ (((0 : Int) = 0) ∧ ((Mo.pStore24_pre 1 (Mo.pStore20_v1 (Mo.pStore16_v1 (Mo.pStore24_v1 spent))) (Mo.pStore20_v2 (cvw (srq sec 32) 0) (Mo.pStore16_v2 (cvw sec 0) (Mo.pStore24_v2 0 b)))) ∧ K (.il .i64 0) (h_A1n (adi (adi (adi (adi made 1) 1) 1) 1) (Mo.pStore24_v1 (Mo.pStore20_v1 (Mo.pStore16_v1 (Mo.pStore24_v1 spent)))) dv (Mo.pStore24_v2 1 (Mo.pStore20_v2 (cvw (srq sec 32) 0) (Mo.pStore16_v2 (cvw sec 0) (Mo.pStore24_v2 0 b))))))))))))))))))))))))))))))))))))))))))))))))))))))))))))
theorem aArm_run (sec : Int) (made : Int) (spent : Int) (dv : Int) (b : Mo.Bd) (K : S → List Ob → Prop) : callL (std noW) tt ffArG stopArG noL 8 16 [.ptr 0 (.l 0), .iv .u64 sec] (h_A1n made spent dv b) (gcK 13 (ivK false K)) = aArm_tree sec made spent dv b K := by kernel_rfl
noncomputable def aArm_T (sec : Int) (made : Int) (spent : Int) (dv : Int) (b : Mo.Bd) (K : S → List Ob → Prop) : Prop := Mo.aArm_pre sec spent b ∧ K (.il .i64 0) (h_A1n (adi (adi (adi (adi made 1) 1) 1) 1) (Mo.pStore24_v1 (Mo.pStore20_v1 (Mo.pStore16_v1 (Mo.pStore24_v1 spent)))) dv (Mo.aArm_v1 sec b))
theorem aArm_all (sec : Int) (made : Int) (spent : Int) (dv : Int) (b : Mo.Bd) (K : S → List Ob → Prop) (h : aArm_T sec made spent dv b K) : aArm_tree sec made spent dv b K := by
  unfold aArm_T at h; obtain ⟨h0, h⟩ := h; unfold aArm_tree
  try simp only [Mo.aArm_v1] at h0 h
  try simp only [Mo.aArm_pre] at h0 h
  refine ⟨rfl, ?_⟩
  refine ⟨rfl, ?_⟩
  refine ⟨rfl, ?_⟩
  refine ⟨rfl, ?_⟩
  refine ⟨rfl, ?_⟩
  refine ⟨rfl, ?_⟩
  refine ⟨rfl, ?_⟩
  refine ⟨rfl, ?_⟩
  refine ⟨rfl, ?_⟩
  refine ⟨rfl, ?_⟩
  refine ⟨rfl, ?_⟩
  refine ⟨rfl, ?_⟩
  refine ⟨rfl, ?_⟩
  refine ⟨rfl, ?_⟩
  refine ⟨rfl, ?_⟩
  refine ⟨h0.1, ?_⟩; replace h0 := h0.2
  refine ⟨rfl, ?_⟩
  refine ⟨rfl, ?_⟩
  refine ⟨rfl, ?_⟩
  refine ⟨rfl, ?_⟩
  refine ⟨rfl, ?_⟩
  refine ⟨rfl, ?_⟩
  refine ⟨rfl, ?_⟩
  refine ⟨rfl, ?_⟩
  refine ⟨rfl, ?_⟩
  refine ⟨h0.1, ?_⟩; replace h0 := h0.2
  refine ⟨rfl, ?_⟩
  refine ⟨rfl, ?_⟩
  refine ⟨rfl, ?_⟩
  refine ⟨rfl, ?_⟩
  refine ⟨rfl, ?_⟩
  refine ⟨rfl, ?_⟩
  refine ⟨rfl, ?_⟩
  refine ⟨rfl, ?_⟩
  refine ⟨rfl, ?_⟩
  refine ⟨rfl, ?_⟩
  refine ⟨rfl, ?_⟩
  refine ⟨rfl, ?_⟩
  refine ⟨h0.1, ?_⟩; replace h0 := h0.2
  refine ⟨rfl, ?_⟩
  refine ⟨rfl, ?_⟩
  refine ⟨rfl, ?_⟩
  refine ⟨rfl, ?_⟩
  refine ⟨rfl, ?_⟩
  refine ⟨rfl, ?_⟩
  refine ⟨rfl, ?_⟩
  refine ⟨rfl, ?_⟩
  refine ⟨rfl, ?_⟩
  refine ⟨rfl, ?_⟩
  refine ⟨rfl, ?_⟩
  refine ⟨rfl, ?_⟩
  refine ⟨rfl, ?_⟩
  refine ⟨rfl, ?_⟩
  refine ⟨rfl, ?_⟩
  refine ⟨h0, ?_⟩
  first | exact h | contradiction | (simp only [if_true, if_false, Bool.false_eq_true] at h; exact h)
theorem aArm_sem (sec : Int) (made : Int) (spent : Int) (dv : Int) (b : Mo.Bd) (K : S → List Ob → Prop) (h : aArm_T sec made spent dv b K) : CallSem noW Tryz.prog 16 [.ptr 0 (.l 0), .iv .u64 sec] (h_A1n made spent dv b) K := iv_call (callL_ok tok (by kernel_rfl) ffArGok stopArG_ok _ _ _ _ (Eq.mpr (aArm_run sec made spent dv b K) (aArm_all sec made spent dv b K h)))
noncomputable def aArm_con : Con := ⟨[.ptr 0, .int .u64], t_A1n, fun a K => match a with | ⟨[sec, made, spent, dv], [], [], [cs_b_k, cs_b_w, cs_b_t, cs_b_r, cs_b_l, cs_b_c]⟩ => (match Mo.Cl.is cs_b_k with | true => (match Mo.Wd.is cs_b_w with | true => (match Mo.Rt.is cs_b_t with | true => (match Mo.Rs.is cs_b_r with | true => (match Mo.Ln.is cs_b_l with | true => (match Mo.Cnt.is cs_b_c with | true => aArm_T sec made spent dv (Mo.Bd.mk (Mo.Cl.of cs_b_k) (Mo.Wd.of cs_b_w) (Mo.Rt.of cs_b_t) (Mo.Rs.of cs_b_r) (Mo.Ln.of cs_b_l) (Mo.Cnt.of cs_b_c)) K | false => False) | false => False) | false => False) | false => False) | false => False) | false => False) | _ => False⟩
theorem aArm_ok : aArm_con.ok noW Tryz.prog 16 := by
  intro a K h
  simp only [aArm_con] at h
  split at h
  case h_2 => exact h.elim
  split at h
  case h_2 => exact h.elim
  rename_i is_b_k
  split at h
  case h_2 => exact h.elim
  rename_i is_b_w
  split at h
  case h_2 => exact h.elim
  rename_i is_b_t
  split at h
  case h_2 => exact h.elim
  rename_i is_b_r
  split at h
  case h_2 => exact h.elim
  rename_i is_b_l
  split at h
  case h_2 => exact h.elim
  rename_i is_b_c
  exact CallSem.objs (aArm_sem _ _ _ _ _ K h) (fun _ _ _ h => h) ⟨WkO.same (fun cs h => by cases h), WkO.same (fun cs h => by cases h), WkO.same (fun cs h => by cases h), WkO.cells (Mo.Cl.is_ok is_b_k), WkO.same (fun cs h => by cases h), WkO.cells (Mo.Wd.is_ok is_b_w), WkO.cells (Mo.Rt.is_ok is_b_t), WkO.cells (Mo.Rs.is_ok is_b_r), WkO.cells (Mo.Ln.is_ok is_b_l), WkO.same (fun cs h => by cases h), WkO.same (fun cs h => by cases h), WkO.same (fun cs h => by cases h), WkO.cells (Mo.Cnt.is_ok is_b_c), trivial⟩
noncomputable def Mo.aTake_v1 (b : Mo.Bd) : Bool := (if ((iN (Mo.tLoad28_v1 (Mo.Bd.t (Mo.dTick_v1 0 b))) 1) = true) then false else true)
noncomputable def Mo.aTake_v2 (made : Int) (b : Mo.Bd) : Int := (if ((iN (Mo.tLoad28_v1 (Mo.Bd.t (Mo.dTick_v1 0 b))) 1) = true) then (adi made 1) else (adi (adi made 1) 1))
noncomputable def Mo.aTake_v3 (spent : Int) (b : Mo.Bd) : Int := (if ((iN (Mo.tLoad28_v1 (Mo.Bd.t (Mo.dTick_v1 0 b))) 1) = true) then (Mo.pLoad28_v1 spent) else (Mo.pStore28_v1 (Mo.pLoad28_v1 spent)))
noncomputable def Mo.aTake_v4 (b : Mo.Bd) : Mo.Bd := (if ((iN (Mo.tLoad28_v1 (Mo.Bd.t (Mo.dTick_v1 0 b))) 1) = true) then (Mo.pLoad28_v2 b) else (Mo.pStore28_v2 1 (Mo.pLoad28_v2 b)))
noncomputable def Mo.aTake_pre (spent : Int) (b : Mo.Bd) : Prop := ((Mo.pLoad28_pre spent b) ∧ (if ((iN (Mo.tLoad28_v1 (Mo.Bd.t (Mo.dTick_v1 0 b))) 1) = true) then True else (Mo.pStore28_pre 1 (Mo.pLoad28_v1 spent) (Mo.pLoad28_v2 b))))
noncomputable def aTake_tree (made : Int) (spent : Int) (dv : Int) (b : Mo.Bd) (K : S → List Ob → Prop) : Prop := (((1 : Int) = 1) ∧ (((1 : Int) = 1) ∧ (((0 : Int) = 0) ∧ (((1 : Int) = 1) ∧ (((1 : Int) = 1) ∧ (((0 : Int) = 0) ∧ (((1 : Int) = 1) ∧ (((1 : Int) = 1) ∧ (((0 : Int) = 0) ∧ ((Mo.pLoad28_pre spent b) ∧ (if ((iN (Mo.tLoad28_v1 (Mo.Bd.t (Mo.dTick_v1 0 b))) 1) = true) then K (.tup [(.bv false), (.iv .i64 0)]) (h_A1n (adi made 1) (Mo.pLoad28_v1 spent) dv (Mo.pLoad28_v2 b)) else (((1 : Int) = 1) ∧ (((1 : Int) = 1) ∧ (((0 : Int) = 0) ∧ (((1 : Int) = 1) ∧ (((1 : Int) = 1) ∧ (((0 : Int) = 0) ∧ (((1 : Int) = 1) ∧ (((1 : Int) = 1) ∧ (((0 : Int) = 0) ∧ (((1 : Int) = 1) ∧ (((1 : Int) = 1) ∧ (((0 : Int) = 0) ∧ (((1 : Int) = 1) ∧ (((1 : Int) = 1) ∧ (((0 : Int) = 0) ∧ (((1 : Int) = 1) ∧ (((1 : Int) = 1) ∧ (((0 : Int) = 0) ∧ ((Mo.pStore28_pre 1 (Mo.pLoad28_v1 spent) (Mo.pLoad28_v2 b)) ∧ K (.tup [(.bv true), (.iv .i64 0)]) (h_A1n (adi (adi made 1) 1) (Mo.pStore28_v1 (Mo.pLoad28_v1 spent)) dv (Mo.pStore28_v2 1 (Mo.pLoad28_v2 b)))))))))))))))))))))))))))))))))
theorem aTake_run (made : Int) (spent : Int) (dv : Int) (b : Mo.Bd) (K : S → List Ob → Prop) : callL (std noW) tt ffArG stopArG noL 8 19 [.ptr 0 (.l 0)] (h_A1n made spent dv b) (gcK 13 (ivK true K)) = aTake_tree made spent dv b K := by kernel_rfl
noncomputable def aTake_T (made : Int) (spent : Int) (dv : Int) (b : Mo.Bd) (K : S → List Ob → Prop) : Prop := Mo.aTake_pre spent b ∧ K (.tup [(.bv (Mo.aTake_v1 b)), (.iv .i64 0)]) (h_A1n (Mo.aTake_v2 made b) (Mo.aTake_v3 spent b) dv (Mo.aTake_v4 b))
theorem aTake_all (made : Int) (spent : Int) (dv : Int) (b : Mo.Bd) (K : S → List Ob → Prop) (h : aTake_T made spent dv b K) : aTake_tree made spent dv b K := by
  unfold aTake_T at h; obtain ⟨h0, h⟩ := h; unfold aTake_tree
  try simp only [Mo.aTake_v1] at h0 h
  try simp only [Mo.aTake_v2] at h0 h
  try simp only [Mo.aTake_v3] at h0 h
  try simp only [Mo.aTake_v4] at h0 h
  try simp only [Mo.aTake_pre] at h0 h
  refine ⟨rfl, ?_⟩
  refine ⟨rfl, ?_⟩
  refine ⟨rfl, ?_⟩
  refine ⟨rfl, ?_⟩
  refine ⟨rfl, ?_⟩
  refine ⟨rfl, ?_⟩
  refine ⟨rfl, ?_⟩
  refine ⟨rfl, ?_⟩
  refine ⟨rfl, ?_⟩
  refine ⟨h0.1, ?_⟩; replace h0 := h0.2
  refine ite_intro (fun c0 => ?_) (fun c0 => ?_)
  try simp only [if_pos c0] at h0 h
  first | exact h | contradiction | (simp only [if_true, if_false, Bool.false_eq_true] at h; exact h)
  try simp only [if_neg c0] at h0 h
  refine ⟨rfl, ?_⟩
  refine ⟨rfl, ?_⟩
  refine ⟨rfl, ?_⟩
  refine ⟨rfl, ?_⟩
  refine ⟨rfl, ?_⟩
  refine ⟨rfl, ?_⟩
  refine ⟨rfl, ?_⟩
  refine ⟨rfl, ?_⟩
  refine ⟨rfl, ?_⟩
  refine ⟨rfl, ?_⟩
  refine ⟨rfl, ?_⟩
  refine ⟨rfl, ?_⟩
  refine ⟨rfl, ?_⟩
  refine ⟨rfl, ?_⟩
  refine ⟨rfl, ?_⟩
  refine ⟨rfl, ?_⟩
  refine ⟨rfl, ?_⟩
  refine ⟨rfl, ?_⟩
  refine ⟨h0, ?_⟩
  first | exact h | contradiction | (simp only [if_true, if_false, Bool.false_eq_true] at h; exact h)
theorem aTake_sem (made : Int) (spent : Int) (dv : Int) (b : Mo.Bd) (K : S → List Ob → Prop) (h : aTake_T made spent dv b K) : CallSem noW Tryz.prog 19 [.ptr 0 (.l 0)] (h_A1n made spent dv b) K := iv_call (callL_ok tok (by kernel_rfl) ffArGok stopArG_ok _ _ _ _ (Eq.mpr (aTake_run made spent dv b K) (aTake_all made spent dv b K h)))
noncomputable def aTake_con : Con := ⟨[.ptr 0], t_A1n, fun a K => match a with | ⟨[made, spent, dv], [], [], [cs_b_k, cs_b_w, cs_b_t, cs_b_r, cs_b_l, cs_b_c]⟩ => (match Mo.Cl.is cs_b_k with | true => (match Mo.Wd.is cs_b_w with | true => (match Mo.Rt.is cs_b_t with | true => (match Mo.Rs.is cs_b_r with | true => (match Mo.Ln.is cs_b_l with | true => (match Mo.Cnt.is cs_b_c with | true => aTake_T made spent dv (Mo.Bd.mk (Mo.Cl.of cs_b_k) (Mo.Wd.of cs_b_w) (Mo.Rt.of cs_b_t) (Mo.Rs.of cs_b_r) (Mo.Ln.of cs_b_l) (Mo.Cnt.of cs_b_c)) K | false => False) | false => False) | false => False) | false => False) | false => False) | false => False) | _ => False⟩
theorem aTake_ok : aTake_con.ok noW Tryz.prog 19 := by
  intro a K h
  simp only [aTake_con] at h
  split at h
  case h_2 => exact h.elim
  split at h
  case h_2 => exact h.elim
  rename_i is_b_k
  split at h
  case h_2 => exact h.elim
  rename_i is_b_w
  split at h
  case h_2 => exact h.elim
  rename_i is_b_t
  split at h
  case h_2 => exact h.elim
  rename_i is_b_r
  split at h
  case h_2 => exact h.elim
  rename_i is_b_l
  split at h
  case h_2 => exact h.elim
  rename_i is_b_c
  exact CallSem.objs (aTake_sem _ _ _ _ K h) (fun _ _ _ h => h) ⟨WkO.same (fun cs h => by cases h), WkO.same (fun cs h => by cases h), WkO.same (fun cs h => by cases h), WkO.cells (Mo.Cl.is_ok is_b_k), WkO.same (fun cs h => by cases h), WkO.cells (Mo.Wd.is_ok is_b_w), WkO.cells (Mo.Rt.is_ok is_b_t), WkO.cells (Mo.Rs.is_ok is_b_r), WkO.cells (Mo.Ln.is_ok is_b_l), WkO.same (fun cs h => by cases h), WkO.same (fun cs h => by cases h), WkO.same (fun cs h => by cases h), WkO.cells (Mo.Cnt.is_ok is_b_c), trivial⟩
noncomputable def Mo.aOff_v1 (b : Mo.Bd) : Mo.Bd := (Mo.pStore28_v2 1 (Mo.pStore24_v2 0 b))
noncomputable def Mo.aOff_pre (spent : Int) (b : Mo.Bd) : Prop := ((Mo.pStore24_pre 0 spent b) ∧ (Mo.pStore28_pre 1 (Mo.pStore24_v1 spent) (Mo.pStore24_v2 0 b)))
noncomputable def aOff_tree (made : Int) (spent : Int) (dv : Int) (b : Mo.Bd) (K : S → List Ob → Prop) : Prop := (((1 : Int) = 1) ∧ (((1 : Int) = 1) ∧ (((0 : Int) = 0) ∧ (((1 : Int) = 1) ∧ (((1 : Int) = 1) ∧ (((0 : Int) = 0) ∧ (((1 : Int) = 1) ∧ (((1 : Int) = 1) ∧ (((0 : Int) = 0) ∧ (((1 : Int) = 1) ∧ (((1 : Int) = 1) ∧ (((0 : Int) = 0) ∧ (((1 : Int) = 1) ∧ (((1 : Int) = 1) ∧ (((0 : Int) = 0) ∧ ((Mo.pStore24_pre 0 spent b) ∧ (((1 : Int) = 1) ∧ (((1 : Int) = 1) ∧ (((0 : Int) = 0) ∧ (((1 : Int) = 1) ∧ (((1 : Int) = 1) ∧ (((0 : Int) = 0) ∧ (((1 : Int) = 1) ∧ (((1 : Int) = 1) ∧ (((0 : Int) = 0) ∧ (((1 : Int) = 1) ∧ (((1 : Int) = 1) ∧ (((0 : Int) = 0) ∧ (((1 : Int) = 1) ∧ (((1 : Int) = 1) ∧ (((0 : Int) = 0) ∧ (((1 : Int) = 1) ∧ (((1 : Int) = 1) ∧ (((0 : Int) = 0) ∧ ((Mo.pStore28_pre 1 (Mo.pStore24_v1 spent) (Mo.pStore24_v2 0 b)) ∧ K (.il .i64 0) (h_A1n (adi (adi made 1) 1) (Mo.pStore28_v1 (Mo.pStore24_v1 spent)) dv (Mo.pStore28_v2 1 (Mo.pStore24_v2 0 b))))))))))))))))))))))))))))))))))))))
theorem aOff_run (made : Int) (spent : Int) (dv : Int) (b : Mo.Bd) (K : S → List Ob → Prop) : callL (std noW) tt ffArG stopArG noL 8 21 [.ptr 0 (.l 0)] (h_A1n made spent dv b) (gcK 13 (ivK false K)) = aOff_tree made spent dv b K := by kernel_rfl
noncomputable def aOff_T (made : Int) (spent : Int) (dv : Int) (b : Mo.Bd) (K : S → List Ob → Prop) : Prop := Mo.aOff_pre spent b ∧ K (.il .i64 0) (h_A1n (adi (adi made 1) 1) (Mo.pStore28_v1 (Mo.pStore24_v1 spent)) dv (Mo.aOff_v1 b))
theorem aOff_all (made : Int) (spent : Int) (dv : Int) (b : Mo.Bd) (K : S → List Ob → Prop) (h : aOff_T made spent dv b K) : aOff_tree made spent dv b K := by
  unfold aOff_T at h; obtain ⟨h0, h⟩ := h; unfold aOff_tree
  try simp only [Mo.aOff_v1] at h0 h
  try simp only [Mo.aOff_pre] at h0 h
  refine ⟨rfl, ?_⟩
  refine ⟨rfl, ?_⟩
  refine ⟨rfl, ?_⟩
  refine ⟨rfl, ?_⟩
  refine ⟨rfl, ?_⟩
  refine ⟨rfl, ?_⟩
  refine ⟨rfl, ?_⟩
  refine ⟨rfl, ?_⟩
  refine ⟨rfl, ?_⟩
  refine ⟨rfl, ?_⟩
  refine ⟨rfl, ?_⟩
  refine ⟨rfl, ?_⟩
  refine ⟨rfl, ?_⟩
  refine ⟨rfl, ?_⟩
  refine ⟨rfl, ?_⟩
  refine ⟨h0.1, ?_⟩; replace h0 := h0.2
  refine ⟨rfl, ?_⟩
  refine ⟨rfl, ?_⟩
  refine ⟨rfl, ?_⟩
  refine ⟨rfl, ?_⟩
  refine ⟨rfl, ?_⟩
  refine ⟨rfl, ?_⟩
  refine ⟨rfl, ?_⟩
  refine ⟨rfl, ?_⟩
  refine ⟨rfl, ?_⟩
  refine ⟨rfl, ?_⟩
  refine ⟨rfl, ?_⟩
  refine ⟨rfl, ?_⟩
  refine ⟨rfl, ?_⟩
  refine ⟨rfl, ?_⟩
  refine ⟨rfl, ?_⟩
  refine ⟨rfl, ?_⟩
  refine ⟨rfl, ?_⟩
  refine ⟨rfl, ?_⟩
  refine ⟨h0, ?_⟩
  first | exact h | contradiction | (simp only [if_true, if_false, Bool.false_eq_true] at h; exact h)
theorem aOff_sem (made : Int) (spent : Int) (dv : Int) (b : Mo.Bd) (K : S → List Ob → Prop) (h : aOff_T made spent dv b K) : CallSem noW Tryz.prog 21 [.ptr 0 (.l 0)] (h_A1n made spent dv b) K := iv_call (callL_ok tok (by kernel_rfl) ffArGok stopArG_ok _ _ _ _ (Eq.mpr (aOff_run made spent dv b K) (aOff_all made spent dv b K h)))
noncomputable def aOff_con : Con := ⟨[.ptr 0], t_A1n, fun a K => match a with | ⟨[made, spent, dv], [], [], [cs_b_k, cs_b_w, cs_b_t, cs_b_r, cs_b_l, cs_b_c]⟩ => (match Mo.Cl.is cs_b_k with | true => (match Mo.Wd.is cs_b_w with | true => (match Mo.Rt.is cs_b_t with | true => (match Mo.Rs.is cs_b_r with | true => (match Mo.Ln.is cs_b_l with | true => (match Mo.Cnt.is cs_b_c with | true => aOff_T made spent dv (Mo.Bd.mk (Mo.Cl.of cs_b_k) (Mo.Wd.of cs_b_w) (Mo.Rt.of cs_b_t) (Mo.Rs.of cs_b_r) (Mo.Ln.of cs_b_l) (Mo.Cnt.of cs_b_c)) K | false => False) | false => False) | false => False) | false => False) | false => False) | false => False) | _ => False⟩
theorem aOff_ok : aOff_con.ok noW Tryz.prog 21 := by
  intro a K h
  simp only [aOff_con] at h
  split at h
  case h_2 => exact h.elim
  split at h
  case h_2 => exact h.elim
  rename_i is_b_k
  split at h
  case h_2 => exact h.elim
  rename_i is_b_w
  split at h
  case h_2 => exact h.elim
  rename_i is_b_t
  split at h
  case h_2 => exact h.elim
  rename_i is_b_r
  split at h
  case h_2 => exact h.elim
  rename_i is_b_l
  split at h
  case h_2 => exact h.elim
  rename_i is_b_c
  exact CallSem.objs (aOff_sem _ _ _ _ K h) (fun _ _ _ h => h) ⟨WkO.same (fun cs h => by cases h), WkO.same (fun cs h => by cases h), WkO.same (fun cs h => by cases h), WkO.cells (Mo.Cl.is_ok is_b_k), WkO.same (fun cs h => by cases h), WkO.cells (Mo.Wd.is_ok is_b_w), WkO.cells (Mo.Rt.is_ok is_b_t), WkO.cells (Mo.Rs.is_ok is_b_r), WkO.cells (Mo.Ln.is_ok is_b_l), WkO.same (fun cs h => by cases h), WkO.same (fun cs h => by cases h), WkO.same (fun cs h => by cases h), WkO.cells (Mo.Cnt.is_ok is_b_c), trivial⟩
noncomputable def aPending_tree (made : Int) (spent : Int) (dv : Int) (b : Mo.Bd) (K : S → List Ob → Prop) : Prop := (((1 : Int) = 1) ∧ (((1 : Int) = 1) ∧ (True ∧ K (.bv (iE (srw (anw (Mo.Ln.high (Mo.Bd.l b)) 65536) 16) 1)) (h_A1n made spent dv b))))
theorem aPending_run (made : Int) (spent : Int) (dv : Int) (b : Mo.Bd) (K : S → List Ob → Prop) : callL (std noW) tt ffArG stopArG noL 8 18 [.ptr 0 (.l 0)] (h_A1n made spent dv b) (gcK 13 (ivK false K)) = aPending_tree made spent dv b K := by kernel_rfl
noncomputable def aPending_T (made : Int) (spent : Int) (dv : Int) (b : Mo.Bd) (K : S → List Ob → Prop) : Prop := True ∧ K (.bv (iE (srw (anw (Mo.Ln.high (Mo.Bd.l b)) 65536) 16) 1)) (h_A1n made spent dv b)
theorem aPending_all (made : Int) (spent : Int) (dv : Int) (b : Mo.Bd) (K : S → List Ob → Prop) (h : aPending_T made spent dv b K) : aPending_tree made spent dv b K := by
  unfold aPending_T at h; obtain ⟨h0, h⟩ := h; unfold aPending_tree
  refine ⟨rfl, ?_⟩
  refine ⟨rfl, ?_⟩
  refine ⟨?_, ?_⟩
  trivial
  first | exact h | contradiction | (simp only [if_true, if_false, Bool.false_eq_true] at h; exact h)
theorem aPending_sem (made : Int) (spent : Int) (dv : Int) (b : Mo.Bd) (K : S → List Ob → Prop) (h : aPending_T made spent dv b K) : CallSem noW Tryz.prog 18 [.ptr 0 (.l 0)] (h_A1n made spent dv b) K := iv_call (callL_ok tok (by kernel_rfl) ffArGok stopArG_ok _ _ _ _ (Eq.mpr (aPending_run made spent dv b K) (aPending_all made spent dv b K h)))
noncomputable def aPending_con : Con := ⟨[.ptr 0], t_A1n, fun a K => match a with | ⟨[made, spent, dv], [], [], [cs_b_k, cs_b_w, cs_b_t, cs_b_r, cs_b_l, cs_b_c]⟩ => (match Mo.Cl.is cs_b_k with | true => (match Mo.Wd.is cs_b_w with | true => (match Mo.Rt.is cs_b_t with | true => (match Mo.Rs.is cs_b_r with | true => (match Mo.Ln.is cs_b_l with | true => (match Mo.Cnt.is cs_b_c with | true => aPending_T made spent dv (Mo.Bd.mk (Mo.Cl.of cs_b_k) (Mo.Wd.of cs_b_w) (Mo.Rt.of cs_b_t) (Mo.Rs.of cs_b_r) (Mo.Ln.of cs_b_l) (Mo.Cnt.of cs_b_c)) K | false => False) | false => False) | false => False) | false => False) | false => False) | false => False) | _ => False⟩
theorem aPending_ok : aPending_con.ok noW Tryz.prog 18 := by
  intro a K h
  simp only [aPending_con] at h
  split at h
  case h_2 => exact h.elim
  split at h
  case h_2 => exact h.elim
  rename_i is_b_k
  split at h
  case h_2 => exact h.elim
  rename_i is_b_w
  split at h
  case h_2 => exact h.elim
  rename_i is_b_t
  split at h
  case h_2 => exact h.elim
  rename_i is_b_r
  split at h
  case h_2 => exact h.elim
  rename_i is_b_l
  split at h
  case h_2 => exact h.elim
  rename_i is_b_c
  exact CallSem.objs (aPending_sem _ _ _ _ K h) (fun _ _ _ h => h) ⟨WkO.same (fun cs h => by cases h), WkO.same (fun cs h => by cases h), WkO.same (fun cs h => by cases h), WkO.cells (Mo.Cl.is_ok is_b_k), WkO.same (fun cs h => by cases h), WkO.cells (Mo.Wd.is_ok is_b_w), WkO.cells (Mo.Rt.is_ok is_b_t), WkO.cells (Mo.Rs.is_ok is_b_r), WkO.cells (Mo.Ln.is_ok is_b_l), WkO.same (fun cs h => by cases h), WkO.same (fun cs h => by cases h), WkO.same (fun cs h => by cases h), WkO.cells (Mo.Cnt.is_ok is_b_c), trivial⟩
noncomputable def tabArH (n : Nat) : List Con := match Nat.beq n 14 with | true => [aSet_con] | false => match Nat.beq n 15 with | true => [aSec_con] | false => match Nat.beq n 16 with | true => [aArm_con] | false => match Nat.beq n 19 with | true => [aTake_con] | false => match Nat.beq n 21 with | true => [aOff_con] | false => match Nat.beq n 18 with | true => [aPending_con] | false => tabArG n
theorem tabArH_ok : ∀ f, ∀ c ∈ tabArH f, c.ok noW Tryz.prog f := by
  intro f c hc
  unfold tabArH at hc
  split at hc
  · rename_i hf; have := Nat.eq_of_beq_eq_true hf; subst this
    simp only [List.mem_cons, List.not_mem_nil, or_false] at hc
    subst hc; exact aSet_ok
  split at hc
  · rename_i hf; have := Nat.eq_of_beq_eq_true hf; subst this
    simp only [List.mem_cons, List.not_mem_nil, or_false] at hc
    subst hc; exact aSec_ok
  split at hc
  · rename_i hf; have := Nat.eq_of_beq_eq_true hf; subst this
    simp only [List.mem_cons, List.not_mem_nil, or_false] at hc
    subst hc; exact aArm_ok
  split at hc
  · rename_i hf; have := Nat.eq_of_beq_eq_true hf; subst this
    simp only [List.mem_cons, List.not_mem_nil, or_false] at hc
    subst hc; exact aTake_ok
  split at hc
  · rename_i hf; have := Nat.eq_of_beq_eq_true hf; subst this
    simp only [List.mem_cons, List.not_mem_nil, or_false] at hc
    subst hc; exact aOff_ok
  split at hc
  · rename_i hf; have := Nat.eq_of_beq_eq_true hf; subst this
    simp only [List.mem_cons, List.not_mem_nil, or_false] at hc
    subst hc; exact aPending_ok
  exact tabArG_ok f c hc
noncomputable def ffArH (n : Nat) : Option FI := match Nat.beq n 14 with | true => none | false => match Nat.beq n 15 with | true => none | false => match Nat.beq n 16 with | true => none | false => match Nat.beq n 19 with | true => none | false => match Nat.beq n 21 with | true => none | false => match Nat.beq n 18 with | true => none | false => ffArG n
theorem ffArHok : FOk Tryz.prog ffArH := fun f fi hf => by
  unfold ffArH at hf
  split at hf
  · cases hf
  split at hf
  · cases hf
  split at hf
  · cases hf
  split at hf
  · cases hf
  split at hf
  · cases hf
  split at hf
  · cases hf
  exact ffArGok f fi hf
noncomputable def stopArH : CallT := stopC tabArH stopB
theorem stopArH_ok : ∀ f args h K, stopArH f args h K → CallSem noW Tryz.prog f args h K := stopC_ok tabArH_ok stopB_ok
end Go.SX.Y
