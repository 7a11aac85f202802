/- What Go functions come to (lifted). -/
import Derived.Test.YtbkegflipglioaaGreatAsF
set_option maxRecDepth 20000
namespace Go.SX.Y
open Go.Proofs Go.RowKit
noncomputable def Mo.pStoreG8_v1 (spent : Int) (gp : Int) : Int := (if ((iE ((spent + (cvq gp 0)) / 18446744073709551616) 0) = true) then ((spent + (cvq gp 0)) % 18446744073709551616) else 18446744073709551615)
noncomputable def Mo.pStoreG8_v2 (v : Int) (gp : Int) (b : Mo.Bd) : Mo.Bd := (Mo.dStore8_v1 v (Mo.dTick_v1 (cvq gp 0) b))
noncomputable def Mo.pStoreG8_pre (v : Int) (made : Int) (spent : Int) (gp : Int) (b : Mo.Bd) : Prop := (if ((iM 0 (rmi made 1)) = true) then (if ((iL (rmi made 1) 1) = true) then ((((0 : Int) ≤ spent) ∧ ((0 : Int) ≤ (cvq gp 0))) ∧ ((Mo.dTick_pre (cvq gp 0) b) ∧ (Mo.dStore8_pre v (Mo.dTick_v1 (cvq gp 0) b)))) else False) else False)
noncomputable def pStoreG8_tree (v : Int) (made : Int) (spent : Int) (dv : Int) (gp : Int) (b : Mo.Bd) (K : S → List Ob → Prop) : Prop := (((1 : Int) = 1) ∧ (((1 : Int) = 1) ∧ (True ∧ (if ((iM 0 (rmi made 1)) = true) then (if ((iL (rmi made 1) 1) = true) then ((((0 : Int) ≤ spent) ∧ ((0 : Int) ≤ (cvq gp 0))) ∧ (((0 : Int) = 0) ∧ (if ((iE ((spent + (cvq gp 0)) / 18446744073709551616) 0) = true) then (((1 : Int) = 1) ∧ (((1 : Int) = 1) ∧ ((Mo.dTick_pre (cvq gp 0) b) ∧ (((1 : Int) = 1) ∧ (((1 : Int) = 1) ∧ (True ∧ (((1 : Int) = 1) ∧ (((1 : Int) = 1) ∧ ((Mo.dStore8_pre v (Mo.dTick_v1 (cvq gp 0) b)) ∧ (((1 : Int) = 1) ∧ (((1 : Int) = 1) ∧ (True ∧ K (.il .i64 0) [(.cells 135 [(.iv .i64 (adi made 1)), (.iv .u64 ((spent + (cvq gp 0)) % 18446744073709551616)), (.iv .i64 0), (.ptr 1 (.l 0)), (.sli 2 (.l 0) (.l 1) (.rest (.l 0)) false)]), (.cells 131 [(.ptr 3 (.l 0)), (.ptr 4 (.l 0)), (.ptr 5 (.l 0)), (.ptr 6 (.l 0)), (.ptr 7 (.l 0)), (.ptr 8 (.l 0)), (.ptr 9 (.l 0)), (.iv .i64 1), (.iv .i64 1), (.iv .u32 dv), (.raw (.slice none 0 0))]), (.row 22 1 (.l 1) [(.iv .u32 gp)]), (.cells 183 (Mo.Cl.cells (Mo.Bd.k (Mo.dStore8_v1 v (Mo.dTick_v1 (cvq gp 0) b))))), (.cells 188 [(.sli 10 (.l 0) (.l 1) (.lit (.l 1)) false)]), (.cells 194 (Mo.Wd.cells (Mo.Bd.w (Mo.dStore8_v1 v (Mo.dTick_v1 (cvq gp 0) b))))), (.cells 190 (Mo.Rt.cells (Mo.Bd.t (Mo.dStore8_v1 v (Mo.dTick_v1 (cvq gp 0) b))))), (.cells 200 (Mo.Rs.cells (Mo.Bd.r (Mo.dStore8_v1 v (Mo.dTick_v1 (cvq gp 0) b))))), (.cells 204 (Mo.Ln.cells (Mo.Bd.l (Mo.dStore8_v1 v (Mo.dTick_v1 (cvq gp 0) b))))), (.cells 227 [(.mp 11)]), (.row 185 1 (.l 1) [(.ptr 12 (.l 0))]), (.mapo [(.agg [(.il .u32 33554432), (.il .u32 49152)]), (.agg [(.il .u32 268500992), (.il .u32 256)]), (.agg [(.il .u32 268566528), (.il .u32 20)]), (.agg [(.il .u32 268632064), (.il .u32 16)]), (.agg [(.il .u32 268697600), (.il .u32 36)]), (.agg [(.il .u32 268763136), (.il .u32 12)])] [(.ifc 107 (.ptr 3 (.l 0))), (.ifc 110 (.ptr 4 (.l 0))), (.ifc 119 (.ptr 5 (.l 0))), (.ifc 125 (.ptr 7 (.l 0))), (.ifc 44 (.ptr 6 (.l 0))), (.ifc 127 (.ptr 8 (.l 0)))]), (.cells 246 (Mo.Cnt.cells (Mo.Bd.c (Mo.dStore8_v1 v (Mo.dTick_v1 (cvq gp 0) b)))))])))))))))))) else (((1 : Int) = 1) ∧ (((1 : Int) = 1) ∧ ((Mo.dTick_pre (cvq gp 0) b) ∧ (((1 : Int) = 1) ∧ (((1 : Int) = 1) ∧ (True ∧ (((1 : Int) = 1) ∧ (((1 : Int) = 1) ∧ ((Mo.dStore8_pre v (Mo.dTick_v1 (cvq gp 0) b)) ∧ (((1 : Int) = 1) ∧ (((1 : Int) = 1) ∧ (True ∧ K (.il .i64 0) [(.cells 135 [(.iv .i64 (adi made 1)), (.iv .u64 18446744073709551615), (.iv .i64 0), (.ptr 1 (.l 0)), (.sli 2 (.l 0) (.l 1) (.rest (.l 0)) false)]), (.cells 131 [(.ptr 3 (.l 0)), (.ptr 4 (.l 0)), (.ptr 5 (.l 0)), (.ptr 6 (.l 0)), (.ptr 7 (.l 0)), (.ptr 8 (.l 0)), (.ptr 9 (.l 0)), (.iv .i64 1), (.iv .i64 1), (.iv .u32 dv), (.raw (.slice none 0 0))]), (.row 22 1 (.l 1) [(.iv .u32 gp)]), (.cells 183 (Mo.Cl.cells (Mo.Bd.k (Mo.dStore8_v1 v (Mo.dTick_v1 (cvq gp 0) b))))), (.cells 188 [(.sli 10 (.l 0) (.l 1) (.lit (.l 1)) false)]), (.cells 194 (Mo.Wd.cells (Mo.Bd.w (Mo.dStore8_v1 v (Mo.dTick_v1 (cvq gp 0) b))))), (.cells 190 (Mo.Rt.cells (Mo.Bd.t (Mo.dStore8_v1 v (Mo.dTick_v1 (cvq gp 0) b))))), (.cells 200 (Mo.Rs.cells (Mo.Bd.r (Mo.dStore8_v1 v (Mo.dTick_v1 (cvq gp 0) b))))), (.cells 204 (Mo.Ln.cells (Mo.Bd.l (Mo.dStore8_v1 v (Mo.dTick_v1 (cvq gp 0) b))))), (.cells 227 [(.mp 11)]), (.row 185 1 (.l 1) [(.ptr 12 (.l 0))]), (.mapo [(.agg [(.il .u32 33554432), (.il .u32 49152)]), (.agg [(.il .u32 268500992), (.il .u32 256)]), (.agg [(.il .u32 268566528), (.il .u32 20)]), (.agg [(.il .u32 268632064), (.il .u32 16)]), (.agg [(.il .u32 268697600), (.il .u32 36)]), (.agg [(.il .u32 268763136), (.il .u32 12)])] [(.ifc 107 (.ptr 3 (.l 0))), (.ifc 110 (.ptr 4 (.l 0))), (.ifc 119 (.ptr 5 (.l 0))), (.ifc 125 (.ptr 7 (.l 0))), (.ifc 44 (.ptr 6 (.l 0))), (.ifc 127 (.ptr 8 (.l 0)))]), (.cells 246 (Mo.Cnt.cells (Mo.Bd.c (Mo.dStore8_v1 v (Mo.dTick_v1 (cvq gp 0) b)))))]))))))))))))))) else False) else False))))
theorem pStoreG8_run (v : Int) (made : Int) (spent : Int) (dv : Int) (gp : Int) (b : Mo.Bd) (K : S → List Ob → Prop) : callL (std noW) tt ffAsF stopAsF noL 8 63 [.ptr 0 (.l 0), .il .u32 268697608, .iv .u32 v] [.cells 135 [.iv .i64 made, .iv .u64 spent, .il .i64 0, .ptr 1 (.l 0), .sli 2 (.l 0) (.l 1) (.rest (.l 0)) false], .cells 131 [.ptr 3 (.l 0), .ptr 4 (.l 0), .ptr 5 (.l 0), .ptr 6 (.l 0), .ptr 7 (.l 0), .ptr 8 (.l 0), .ptr 9 (.l 0), .il .i64 1, .il .i64 1, .iv .u32 dv, .raw (.slice none 0 0)], .row 22 1 (.l 1) [.iv .u32 gp], .cells 183 (Mo.Cl.cells (Mo.Bd.k b)), .cells 188 [.sli 10 (.l 0) (.l 1) (.lit (.l 1)) false], .cells 194 (Mo.Wd.cells (Mo.Bd.w b)), .cells 190 (Mo.Rt.cells (Mo.Bd.t b)), .cells 200 (Mo.Rs.cells (Mo.Bd.r b)), .cells 204 (Mo.Ln.cells (Mo.Bd.l b)), .cells 227 [.mp 11], .row 185 1 (.l 1) [.ptr 12 (.l 0)], .mapo [.agg [.il .u32 33554432, .il .u32 49152], .agg [.il .u32 268500992, .il .u32 256], .agg [.il .u32 268566528, .il .u32 20], .agg [.il .u32 268632064, .il .u32 16], .agg [.il .u32 268697600, .il .u32 36], .agg [.il .u32 268763136, .il .u32 12]] [.ifc 107 (.ptr 3 (.l 0)), .ifc 110 (.ptr 4 (.l 0)), .ifc 119 (.ptr 5 (.l 0)), .ifc 125 (.ptr 7 (.l 0)), .ifc 44 (.ptr 6 (.l 0)), .ifc 127 (.ptr 8 (.l 0))], .cells 246 (Mo.Cnt.cells (Mo.Bd.c b))] (gcK 13 (ivK false K)) = pStoreG8_tree v made spent dv gp b K := by kernel_rfl
noncomputable def pStoreG8_T (v : Int) (made : Int) (spent : Int) (dv : Int) (gp : Int) (b : Mo.Bd) (K : S → List Ob → Prop) : Prop := Mo.pStoreG8_pre v made spent gp b ∧ K (.il .i64 0) [(.cells 135 [(.iv .i64 (adi made 1)), (.iv .u64 (Mo.pStoreG8_v1 spent gp)), (.iv .i64 0), (.ptr 1 (.l 0)), (.sli 2 (.l 0) (.l 1) (.rest (.l 0)) false)]), (.cells 131 [(.ptr 3 (.l 0)), (.ptr 4 (.l 0)), (.ptr 5 (.l 0)), (.ptr 6 (.l 0)), (.ptr 7 (.l 0)), (.ptr 8 (.l 0)), (.ptr 9 (.l 0)), (.iv .i64 1), (.iv .i64 1), (.iv .u32 dv), (.raw (.slice none 0 0))]), (.row 22 1 (.l 1) [(.iv .u32 gp)]), (.cells 183 (Mo.Cl.cells (Mo.Bd.k (Mo.pStoreG8_v2 v gp b)))), (.cells 188 [(.sli 10 (.l 0) (.l 1) (.lit (.l 1)) false)]), (.cells 194 (Mo.Wd.cells (Mo.Bd.w (Mo.pStoreG8_v2 v gp b)))), (.cells 190 (Mo.Rt.cells (Mo.Bd.t (Mo.pStoreG8_v2 v gp b)))), (.cells 200 (Mo.Rs.cells (Mo.Bd.r (Mo.pStoreG8_v2 v gp b)))), (.cells 204 (Mo.Ln.cells (Mo.Bd.l (Mo.pStoreG8_v2 v gp b)))), (.cells 227 [(.mp 11)]), (.row 185 1 (.l 1) [(.ptr 12 (.l 0))]), (.mapo [(.agg [(.il .u32 33554432), (.il .u32 49152)]), (.agg [(.il .u32 268500992), (.il .u32 256)]), (.agg [(.il .u32 268566528), (.il .u32 20)]), (.agg [(.il .u32 268632064), (.il .u32 16)]), (.agg [(.il .u32 268697600), (.il .u32 36)]), (.agg [(.il .u32 268763136), (.il .u32 12)])] [(.ifc 107 (.ptr 3 (.l 0))), (.ifc 110 (.ptr 4 (.l 0))), (.ifc 119 (.ptr 5 (.l 0))), (.ifc 125 (.ptr 7 (.l 0))), (.ifc 44 (.ptr 6 (.l 0))), (.ifc 127 (.ptr 8 (.l 0)))]), (.cells 246 (Mo.Cnt.cells (Mo.Bd.c (Mo.pStoreG8_v2 v gp b))))]
theorem pStoreG8_all (v : Int) (made : Int) (spent : Int) (dv : Int) (gp : Int) (b : Mo.Bd) (K : S → List Ob → Prop) (h : pStoreG8_T v made spent dv gp b K) : pStoreG8_tree v made spent dv gp b K := by
  unfold pStoreG8_T at h; obtain ⟨h0, h⟩ := h; unfold pStoreG8_tree
  try simp only [Mo.pStoreG8_v1] at h0 h
  try simp only [Mo.pStoreG8_v2] at h0 h
  try simp only [Mo.pStoreG8_pre] at h0 h
  refine ⟨rfl, ?_⟩
  refine ⟨rfl, ?_⟩
  refine ⟨?_, ?_⟩
  trivial
  refine ite_intro (fun c0 => ?_) (fun c0 => ?_)
  try simp only [if_pos c0] at h0 h
  refine ite_intro (fun c1 => ?_) (fun c1 => ?_)
  try simp only [if_pos c1] at h0 h
  refine ⟨h0.1, ?_⟩; replace h0 := h0.2
  refine ⟨rfl, ?_⟩
  refine ite_intro (fun c2 => ?_) (fun c2 => ?_)
  try simp only [if_pos c2] at h0 h
  refine ⟨rfl, ?_⟩
  refine ⟨rfl, ?_⟩
  refine ⟨h0.1, ?_⟩; replace h0 := h0.2
  refine ⟨rfl, ?_⟩
  refine ⟨rfl, ?_⟩
  refine ⟨?_, ?_⟩
  trivial
  refine ⟨rfl, ?_⟩
  refine ⟨rfl, ?_⟩
  refine ⟨h0, ?_⟩
  refine ⟨rfl, ?_⟩
  refine ⟨rfl, ?_⟩
  refine ⟨?_, ?_⟩
  trivial
  first | exact h | contradiction | (simp only [if_true, if_false, Bool.false_eq_true] at h; exact h)
  try simp only [if_neg c2] at h0 h
  refine ⟨rfl, ?_⟩
  refine ⟨rfl, ?_⟩
  refine ⟨h0.1, ?_⟩; replace h0 := h0.2
  refine ⟨rfl, ?_⟩
  refine ⟨rfl, ?_⟩
  refine ⟨?_, ?_⟩
  trivial
  refine ⟨rfl, ?_⟩
  refine ⟨rfl, ?_⟩
  refine ⟨h0, ?_⟩
  refine ⟨rfl, ?_⟩
  refine ⟨rfl, ?_⟩
  refine ⟨?_, ?_⟩
  trivial
  first | exact h | contradiction | (simp only [if_true, if_false, Bool.false_eq_true] at h; exact h)
  exact False.elim (by first | contradiction | (simp only [if_neg c1] at h0))
  exact False.elim (by first | contradiction | (simp only [if_neg c0] at h0))
theorem pStoreG8_sem (v : Int) (made : Int) (spent : Int) (dv : Int) (gp : Int) (b : Mo.Bd) (K : S → List Ob → Prop) (h : pStoreG8_T v made spent dv gp b K) : CallSem noW Tryz.prog 63 [.ptr 0 (.l 0), .il .u32 268697608, .iv .u32 v] [.cells 135 [.iv .i64 made, .iv .u64 spent, .il .i64 0, .ptr 1 (.l 0), .sli 2 (.l 0) (.l 1) (.rest (.l 0)) false], .cells 131 [.ptr 3 (.l 0), .ptr 4 (.l 0), .ptr 5 (.l 0), .ptr 6 (.l 0), .ptr 7 (.l 0), .ptr 8 (.l 0), .ptr 9 (.l 0), .il .i64 1, .il .i64 1, .iv .u32 dv, .raw (.slice none 0 0)], .row 22 1 (.l 1) [.iv .u32 gp], .cells 183 (Mo.Cl.cells (Mo.Bd.k b)), .cells 188 [.sli 10 (.l 0) (.l 1) (.lit (.l 1)) false], .cells 194 (Mo.Wd.cells (Mo.Bd.w b)), .cells 190 (Mo.Rt.cells (Mo.Bd.t b)), .cells 200 (Mo.Rs.cells (Mo.Bd.r b)), .cells 204 (Mo.Ln.cells (Mo.Bd.l b)), .cells 227 [.mp 11], .row 185 1 (.l 1) [.ptr 12 (.l 0)], .mapo [.agg [.il .u32 33554432, .il .u32 49152], .agg [.il .u32 268500992, .il .u32 256], .agg [.il .u32 268566528, .il .u32 20], .agg [.il .u32 268632064, .il .u32 16], .agg [.il .u32 268697600, .il .u32 36], .agg [.il .u32 268763136, .il .u32 12]] [.ifc 107 (.ptr 3 (.l 0)), .ifc 110 (.ptr 4 (.l 0)), .ifc 119 (.ptr 5 (.l 0)), .ifc 125 (.ptr 7 (.l 0)), .ifc 44 (.ptr 6 (.l 0)), .ifc 127 (.ptr 8 (.l 0))], .cells 246 (Mo.Cnt.cells (Mo.Bd.c b))] K := iv_call (callL_ok tok (by kernel_rfl) ffAsFok stopAsF_ok _ _ _ _ (Eq.mpr (pStoreG8_run v made spent dv gp b K) (pStoreG8_all v made spent dv gp b K h)))
noncomputable def pStoreG8_con : Con := ⟨[.ptr 0, .same (.il .u32 268697608), .int .u32], [.cells 135 [.int .i64, .int .u64, .eqI .i64 0, .ptr 1, .same (.sli 2 (.l 0) (.l 1) (.rest (.l 0)) false)], .cells 131 [.ptr 3, .ptr 4, .ptr 5, .ptr 6, .ptr 7, .ptr 8, .ptr 9, .eqI .i64 1, .eqI .i64 1, .int .u32, .same (.raw (.slice none 0 0))], .row 22 1 1 [.int .u32], .cellsV 183, .cells 188 [.same (.sli 10 (.l 0) (.l 1) (.lit (.l 1)) false)], .cellsV 194, .cellsV 190, .cellsV 200, .cellsV 204, .cells 227 [.mp 11], .row 185 1 1 [.ptr 12], .mapo [.agg [.same (.il .u32 33554432), .same (.il .u32 49152)], .agg [.same (.il .u32 268500992), .same (.il .u32 256)], .agg [.same (.il .u32 268566528), .same (.il .u32 20)], .agg [.same (.il .u32 268632064), .same (.il .u32 16)], .agg [.same (.il .u32 268697600), .same (.il .u32 36)], .agg [.same (.il .u32 268763136), .same (.il .u32 12)]] [.ifc 107 (.ptr 3), .ifc 110 (.ptr 4), .ifc 119 (.ptr 5), .ifc 125 (.ptr 7), .ifc 44 (.ptr 6), .ifc 127 (.ptr 8)], .cellsV 246], fun a K => match a with | ⟨[v, made, spent, dv, gp], [], [], [cs_b_k, cs_b_w, cs_b_t, cs_b_r, cs_b_l, cs_b_c]⟩ => (match Mo.Cl.is cs_b_k with | true => (match Mo.Wd.is cs_b_w with | true => (match Mo.Rt.is cs_b_t with | true => (match Mo.Rs.is cs_b_r with | true => (match Mo.Ln.is cs_b_l with | true => (match Mo.Cnt.is cs_b_c with | true => pStoreG8_T v made spent dv gp (Mo.Bd.mk (Mo.Cl.of cs_b_k) (Mo.Wd.of cs_b_w) (Mo.Rt.of cs_b_t) (Mo.Rs.of cs_b_r) (Mo.Ln.of cs_b_l) (Mo.Cnt.of cs_b_c)) K | false => False) | false => False) | false => False) | false => False) | false => False) | false => False) | _ => False⟩
theorem pStoreG8_ok : pStoreG8_con.ok noW Tryz.prog 63 := by
  intro a K h
  simp only [pStoreG8_con] at h
  split at h
  case h_2 => exact h.elim
  split at h
  case h_2 => exact h.elim
  rename_i is_b_k
  split at h
  case h_2 => exact h.elim
  rename_i is_b_w
  split at h
  case h_2 => exact h.elim
  rename_i is_b_t
  split at h
  case h_2 => exact h.elim
  rename_i is_b_r
  split at h
  case h_2 => exact h.elim
  rename_i is_b_l
  split at h
  case h_2 => exact h.elim
  rename_i is_b_c
  exact CallSem.objs (pStoreG8_sem _ _ _ _ _ _ K h) (fun _ _ _ h => h) ⟨WkO.same (fun cs h => by cases h), WkO.same (fun cs h => by cases h), WkO.same (fun cs h => by cases h), WkO.cells (Mo.Cl.is_ok is_b_k), WkO.same (fun cs h => by cases h), WkO.cells (Mo.Wd.is_ok is_b_w), WkO.cells (Mo.Rt.is_ok is_b_t), WkO.cells (Mo.Rs.is_ok is_b_r), WkO.cells (Mo.Ln.is_ok is_b_l), WkO.same (fun cs h => by cases h), WkO.same (fun cs h => by cases h), WkO.same (fun cs h => by cases h), WkO.cells (Mo.Cnt.is_ok is_b_c), trivial⟩
noncomputable def Mo.pStoreG12_v1 (spent : Int) (gp : Int) : Int := (if ((iE ((spent + (cvq gp 0)) / 18446744073709551616) 0) = true) then ((spent + (cvq gp 0)) % 18446744073709551616) else 18446744073709551615)
noncomputable def Mo.pStoreG12_v2 (v : Int) (gp : Int) (b : Mo.Bd) : Mo.Bd := (Mo.dStore12_v1 v (Mo.dTick_v1 (cvq gp 0) b))
noncomputable def Mo.pStoreG12_pre (v : Int) (made : Int) (spent : Int) (gp : Int) (b : Mo.Bd) : Prop := (if ((iM 0 (rmi made 1)) = true) then (if ((iL (rmi made 1) 1) = true) then ((((0 : Int) ≤ spent) ∧ ((0 : Int) ≤ (cvq gp 0))) ∧ ((Mo.dTick_pre (cvq gp 0) b) ∧ (Mo.dStore12_pre v (Mo.dTick_v1 (cvq gp 0) b)))) else False) else False)
noncomputable def pStoreG12_tree (v : Int) (made : Int) (spent : Int) (dv : Int) (gp : Int) (b : Mo.Bd) (K : S → List Ob → Prop) : Prop := (((1 : Int) = 1) ∧ (((1 : Int) = 1) ∧ (True ∧ (if ((iM 0 (rmi made 1)) = true) then (if ((iL (rmi made 1) 1) = true) then ((((0 : Int) ≤ spent) ∧ ((0 : Int) ≤ (cvq gp 0))) ∧ (((0 : Int) = 0) ∧ (if ((iE ((spent + (cvq gp 0)) / 18446744073709551616) 0) = true) then (((1 : Int) = 1) ∧ (((1 : Int) = 1) ∧ ((Mo.dTick_pre (cvq gp 0) b) ∧ (((1 : Int) = 1) ∧ (((1 : Int) = 1) ∧ (True ∧ (((1 : Int) = 1) ∧ (((1 : Int) = 1) ∧ (((1 : Int) = 1) ∧ (((1 : Int) = 1) ∧ ((Mo.dStore12_pre v (Mo.dTick_v1 (cvq gp 0) b)) ∧ (((1 : Int) = 1) ∧ (((1 : Int) = 1) ∧ (True ∧ K (.il .i64 0) [(.cells 135 [(.iv .i64 (adi made 1)), (.iv .u64 ((spent + (cvq gp 0)) % 18446744073709551616)), (.iv .i64 0), (.ptr 1 (.l 0)), (.sli 2 (.l 0) (.l 1) (.rest (.l 0)) false)]), (.cells 131 [(.ptr 3 (.l 0)), (.ptr 4 (.l 0)), (.ptr 5 (.l 0)), (.ptr 6 (.l 0)), (.ptr 7 (.l 0)), (.ptr 8 (.l 0)), (.ptr 9 (.l 0)), (.iv .i64 1), (.iv .i64 1), (.iv .u32 dv), (.raw (.slice none 0 0))]), (.row 22 1 (.l 1) [(.iv .u32 gp)]), (.cells 183 (Mo.Cl.cells (Mo.Bd.k (Mo.dStore12_v1 v (Mo.dTick_v1 (cvq gp 0) b))))), (.cells 188 [(.sli 10 (.l 0) (.l 1) (.lit (.l 1)) false)]), (.cells 194 (Mo.Wd.cells (Mo.Bd.w (Mo.dStore12_v1 v (Mo.dTick_v1 (cvq gp 0) b))))), (.cells 190 (Mo.Rt.cells (Mo.Bd.t (Mo.dStore12_v1 v (Mo.dTick_v1 (cvq gp 0) b))))), (.cells 200 (Mo.Rs.cells (Mo.Bd.r (Mo.dStore12_v1 v (Mo.dTick_v1 (cvq gp 0) b))))), (.cells 204 (Mo.Ln.cells (Mo.Bd.l (Mo.dStore12_v1 v (Mo.dTick_v1 (cvq gp 0) b))))), (.cells 227 [(.mp 11)]), (.row 185 1 (.l 1) [(.ptr 12 (.l 0))]), (.mapo [(.agg [(.il .u32 33554432), (.il .u32 49152)]), (.agg [(.il .u32 268500992), (.il .u32 256)]), (.agg [(.il .u32 268566528), (.il .u32 20)]), (.agg [(.il .u32 268632064), (.il .u32 16)]), (.agg [(.il .u32 268697600), (.il .u32 36)]), (.agg [(.il .u32 268763136), (.il .u32 12)])] [(.ifc 107 (.ptr 3 (.l 0))), (.ifc 110 (.ptr 4 (.l 0))), (.ifc 119 (.ptr 5 (.l 0))), (.ifc 125 (.ptr 7 (.l 0))), (.ifc 44 (.ptr 6 (.l 0))), (.ifc 127 (.ptr 8 (.l 0)))]), (.cells 246 (Mo.Cnt.cells (Mo.Bd.c (Mo.dStore12_v1 v (Mo.dTick_v1 (cvq gp 0) b)))))])))))))))))))) else (((1 : Int) = 1) ∧ (((1 : Int) = 1) ∧ ((Mo.dTick_pre (cvq gp 0) b) ∧ (((1 : Int) = 1) ∧ (((1 : Int) = 1) ∧ (True ∧ (((1 : Int) = 1) ∧ (((1 : Int) = 1) ∧ (((1 : Int) = 1) ∧ (((1 : Int) = 1) ∧ ((Mo.dStore12_pre v (Mo.dTick_v1 (cvq gp 0) b)) ∧ (((1 : Int) = 1) ∧ (((1 : Int) = 1) ∧ (True ∧ K (.il .i64 0) [(.cells 135 [(.iv .i64 (adi made 1)), (.iv .u64 18446744073709551615), (.iv .i64 0), (.ptr 1 (.l 0)), (.sli 2 (.l 0) (.l 1) (.rest (.l 0)) false)]), (.cells 131 [(.ptr 3 (.l 0)), (.ptr 4 (.l 0)), (.ptr 5 (.l 0)), (.ptr 6 (.l 0)), (.ptr 7 (.l 0)), (.ptr 8 (.l 0)), (.ptr 9 (.l 0)), (.iv .i64 1), (.iv .i64 1), (.iv .u32 dv), (.raw (.slice none 0 0))]), (.row 22 1 (.l 1) [(.iv .u32 gp)]), (.cells 183 (Mo.Cl.cells (Mo.Bd.k (Mo.dStore12_v1 v (Mo.dTick_v1 (cvq gp 0) b))))), (.cells 188 [(.sli 10 (.l 0) (.l 1) (.lit (.l 1)) false)]), (.cells 194 (Mo.Wd.cells (Mo.Bd.w (Mo.dStore12_v1 v (Mo.dTick_v1 (cvq gp 0) b))))), (.cells 190 (Mo.Rt.cells (Mo.Bd.t (Mo.dStore12_v1 v (Mo.dTick_v1 (cvq gp 0) b))))), (.cells 200 (Mo.Rs.cells (Mo.Bd.r (Mo.dStore12_v1 v (Mo.dTick_v1 (cvq gp 0) b))))), (.cells 204 (Mo.Ln.cells (Mo.Bd.l (Mo.dStore12_v1 v (Mo.dTick_v1 (cvq gp 0) b))))), (.cells 227 [(.mp 11)]), (.row 185 1 (.l 1) [(.ptr 12 (.l 0))]), (.mapo [(.agg [(.il .u32 33554432), (.il .u32 49152)]), (.agg [(.il .u32 268500992), (.il .u32 256)]), (.agg [(.il .u32 268566528), (.il .u32 20)]), (.agg [(.il .u32 268632064), (.il .u32 16)]), (.agg [(.il .u32 268697600), (.il .u32 36)]), (.agg [(.il .u32 268763136), (.il .u32 12)])] [(.ifc 107 (.ptr 3 (.l 0))), (.ifc 110 (.ptr 4 (.l 0))), (.ifc 119 (.ptr 5 (.l 0))), (.ifc 125 (.ptr 7 (.l 0))), (.ifc 44 (.ptr 6 (.l 0))), (.ifc 127 (.ptr 8 (.l 0)))]), (.cells 246 (Mo.Cnt.cells (Mo.Bd.c (Mo.dStore12_v1 v (Mo.dTick_v1 (cvq gp 0) b)))))]))))))))))))))))) else False) else False))))
theorem pStoreG12_run (v : Int) (made : Int) (spent : Int) (dv : Int) (gp : Int) (b : Mo.Bd) (K : S → List Ob → Prop) : callL (std noW) tt ffAsF stopAsF noL 8 63 [.ptr 0 (.l 0), .il .u32 268697612, .iv .u32 v] [.cells 135 [.iv .i64 made, .iv .u64 spent, .il .i64 0, .ptr 1 (.l 0), .sli 2 (.l 0) (.l 1) (.rest (.l 0)) false], .cells 131 [.ptr 3 (.l 0), .ptr 4 (.l 0), .ptr 5 (.l 0), .ptr 6 (.l 0), .ptr 7 (.l 0), .ptr 8 (.l 0), .ptr 9 (.l 0), .il .i64 1, .il .i64 1, .iv .u32 dv, .raw (.slice none 0 0)], .row 22 1 (.l 1) [.iv .u32 gp], .cells 183 (Mo.Cl.cells (Mo.Bd.k b)), .cells 188 [.sli 10 (.l 0) (.l 1) (.lit (.l 1)) false], .cells 194 (Mo.Wd.cells (Mo.Bd.w b)), .cells 190 (Mo.Rt.cells (Mo.Bd.t b)), .cells 200 (Mo.Rs.cells (Mo.Bd.r b)), .cells 204 (Mo.Ln.cells (Mo.Bd.l b)), .cells 227 [.mp 11], .row 185 1 (.l 1) [.ptr 12 (.l 0)], .mapo [.agg [.il .u32 33554432, .il .u32 49152], .agg [.il .u32 268500992, .il .u32 256], .agg [.il .u32 268566528, .il .u32 20], .agg [.il .u32 268632064, .il .u32 16], .agg [.il .u32 268697600, .il .u32 36], .agg [.il .u32 268763136, .il .u32 12]] [.ifc 107 (.ptr 3 (.l 0)), .ifc 110 (.ptr 4 (.l 0)), .ifc 119 (.ptr 5 (.l 0)), .ifc 125 (.ptr 7 (.l 0)), .ifc 44 (.ptr 6 (.l 0)), .ifc 127 (.ptr 8 (.l 0))], .cells 246 (Mo.Cnt.cells (Mo.Bd.c b))] (gcK 13 (ivK false K)) = pStoreG12_tree v made spent dv gp b K := by kernel_rfl
noncomputable def pStoreG12_T (v : Int) (made : Int) (spent : Int) (dv : Int) (gp : Int) (b : Mo.Bd) (K : S → List Ob → Prop) : Prop := Mo.pStoreG12_pre v made spent gp b ∧ K (.il .i64 0) [(.cells 135 [(.iv .i64 (adi made 1)), (.iv .u64 (Mo.pStoreG12_v1 spent gp)), (.iv .i64 0), (.ptr 1 (.l 0)), (.sli 2 (.l 0) (.l 1) (.rest (.l 0)) false)]), (.cells 131 [(.ptr 3 (.l 0)), (.ptr 4 (.l 0)), (.ptr 5 (.l 0)), (.ptr 6 (.l 0)), (.ptr 7 (.l 0)), (.ptr 8 (.l 0)), (.ptr 9 (.l 0)), (.iv .i64 1), (.iv .i64 1), (.iv .u32 dv), (.raw (.slice none 0 0))]), (.row 22 1 (.l 1) [(.iv .u32 gp)]), (.cells 183 (Mo.Cl.cells (Mo.Bd.k (Mo.pStoreG12_v2 v gp b)))), (.cells 188 [(.sli 10 (.l 0) (.l 1) (.lit (.l 1)) false)]), (.cells 194 (Mo.Wd.cells (Mo.Bd.w (Mo.pStoreG12_v2 v gp b)))), (.cells 190 (Mo.Rt.cells (Mo.Bd.t (Mo.pStoreG12_v2 v gp b)))), (.cells 200 (Mo.Rs.cells (Mo.Bd.r (Mo.pStoreG12_v2 v gp b)))), (.cells 204 (Mo.Ln.cells (Mo.Bd.l (Mo.pStoreG12_v2 v gp b)))), (.cells 227 [(.mp 11)]), (.row 185 1 (.l 1) [(.ptr 12 (.l 0))]), (.mapo [(.agg [(.il .u32 33554432), (.il .u32 49152)]), (.agg [(.il .u32 268500992), (.il .u32 256)]), (.agg [(.il .u32 268566528), (.il .u32 20)]), (.agg [(.il .u32 268632064), (.il .u32 16)]), (.agg [(.il .u32 268697600), (.il .u32 36)]), (.agg [(.il .u32 268763136), (.il .u32 12)])] [(.ifc 107 (.ptr 3 (.l 0))), (.ifc 110 (.ptr 4 (.l 0))), (.ifc 119 (.ptr 5 (.l 0))), (.ifc 125 (.ptr 7 (.l 0))), (.ifc 44 (.ptr 6 (.l 0))), (.ifc 127 (.ptr 8 (.l 0)))]), (.cells 246 (Mo.Cnt.cells (Mo.Bd.c (Mo.pStoreG12_v2 v gp b))))]
theorem pStoreG12_all (v : Int) (made : Int) (spent : Int) (dv : Int) (gp : Int) (b : Mo.Bd) (K : S → List Ob → Prop) (h : pStoreG12_T v made spent dv gp b K) : pStoreG12_tree v made spent dv gp b K := by
  unfold pStoreG12_T at h; obtain ⟨h0, h⟩ := h; unfold pStoreG12_tree
  try simp only [Mo.pStoreG12_v1] at h0 h
  try simp only [Mo.pStoreG12_v2] at h0 h
  try simp only [Mo.pStoreG12_pre] at h0 h
  refine ⟨rfl, ?_⟩
  refine ⟨rfl, ?_⟩
  refine ⟨?_, ?_⟩
  trivial
  refine ite_intro (fun c0 => ?_) (fun c0 => ?_)
  try simp only [if_pos c0] at h0 h
  refine ite_intro (fun c1 => ?_) (fun c1 => ?_)
  try simp only [if_pos c1] at h0 h
  refine ⟨h0.1, ?_⟩; replace h0 := h0.2
  refine ⟨rfl, ?_⟩
  refine ite_intro (fun c2 => ?_) (fun c2 => ?_)
  try simp only [if_pos c2] at h0 h
  refine ⟨rfl, ?_⟩
  refine ⟨rfl, ?_⟩
  refine ⟨h0.1, ?_⟩; replace h0 := h0.2
  refine ⟨rfl, ?_⟩
  refine ⟨rfl, ?_⟩
  refine ⟨?_, ?_⟩
  trivial
  refine ⟨rfl, ?_⟩
  refine ⟨rfl, ?_⟩
  refine ⟨rfl, ?_⟩
  refine ⟨rfl, ?_⟩
  refine ⟨h0, ?_⟩
  refine ⟨rfl, ?_⟩
  refine ⟨rfl, ?_⟩
  refine ⟨?_, ?_⟩
  trivial
  first | exact h | contradiction | (simp only [if_true, if_false, Bool.false_eq_true] at h; exact h)
  try simp only [if_neg c2] at h0 h
  refine ⟨rfl, ?_⟩
  refine ⟨rfl, ?_⟩
  refine ⟨h0.1, ?_⟩; replace h0 := h0.2
  refine ⟨rfl, ?_⟩
  refine ⟨rfl, ?_⟩
  refine ⟨?_, ?_⟩
  trivial
  refine ⟨rfl, ?_⟩
  refine ⟨rfl, ?_⟩
  refine ⟨rfl, ?_⟩
  refine ⟨rfl, ?_⟩
  refine ⟨h0, ?_⟩
  refine ⟨rfl, ?_⟩
  refine ⟨rfl, ?_⟩
  refine ⟨?_, ?_⟩
  trivial
  first | exact h | contradiction | (simp only [if_true, if_false, Bool.false_eq_true] at h; exact h)
  exact False.elim (by first | contradiction | (simp only [if_neg c1] at h0))
  exact False.elim (by first | contradiction | (simp only [if_neg c0] at h0))
theorem pStoreG12_sem (v : Int) (made : Int) (spent : Int) (dv : Int) (gp : Int) (b : Mo.Bd) (K : S → List Ob → Prop) (h : pStoreG12_T v made spent dv gp b K) : CallSem noW Tryz.prog 63 [.ptr 0 (.l 0), .il .u32 268697612, .iv .u32 v] [.cells 135 [.iv .i64 made, .iv .u64 spent, .il .i64 0, .ptr 1 (.l 0), .sli 2 (.l 0) (.l 1) (.rest (.l 0)) false], .cells 131 [.ptr 3 (.l 0), .ptr 4 (.l 0), .ptr 5 (.l 0), .ptr 6 (.l 0), .ptr 7 (.l 0), .ptr 8 (.l 0), .ptr 9 (.l 0), .il .i64 1, .il .i64 1, .iv .u32 dv, .raw (.slice none 0 0)], .row 22 1 (.l 1) [.iv .u32 gp], .cells 183 (Mo.Cl.cells (Mo.Bd.k b)), .cells 188 [.sli 10 (.l 0) (.l 1) (.lit (.l 1)) false], .cells 194 (Mo.Wd.cells (Mo.Bd.w b)), .cells 190 (Mo.Rt.cells (Mo.Bd.t b)), .cells 200 (Mo.Rs.cells (Mo.Bd.r b)), .cells 204 (Mo.Ln.cells (Mo.Bd.l b)), .cells 227 [.mp 11], .row 185 1 (.l 1) [.ptr 12 (.l 0)], .mapo [.agg [.il .u32 33554432, .il .u32 49152], .agg [.il .u32 268500992, .il .u32 256], .agg [.il .u32 268566528, .il .u32 20], .agg [.il .u32 268632064, .il .u32 16], .agg [.il .u32 268697600, .il .u32 36], .agg [.il .u32 268763136, .il .u32 12]] [.ifc 107 (.ptr 3 (.l 0)), .ifc 110 (.ptr 4 (.l 0)), .ifc 119 (.ptr 5 (.l 0)), .ifc 125 (.ptr 7 (.l 0)), .ifc 44 (.ptr 6 (.l 0)), .ifc 127 (.ptr 8 (.l 0))], .cells 246 (Mo.Cnt.cells (Mo.Bd.c b))] K := iv_call (callL_ok tok (by kernel_rfl) ffAsFok stopAsF_ok _ _ _ _ (Eq.mpr (pStoreG12_run v made spent dv gp b K) (pStoreG12_all v made spent dv gp b K h)))
noncomputable def pStoreG12_con : Con := ⟨[.ptr 0, .same (.il .u32 268697612), .int .u32], [.cells 135 [.int .i64, .int .u64, .eqI .i64 0, .ptr 1, .same (.sli 2 (.l 0) (.l 1) (.rest (.l 0)) false)], .cells 131 [.ptr 3, .ptr 4, .ptr 5, .ptr 6, .ptr 7, .ptr 8, .ptr 9, .eqI .i64 1, .eqI .i64 1, .int .u32, .same (.raw (.slice none 0 0))], .row 22 1 1 [.int .u32], .cellsV 183, .cells 188 [.same (.sli 10 (.l 0) (.l 1) (.lit (.l 1)) false)], .cellsV 194, .cellsV 190, .cellsV 200, .cellsV 204, .cells 227 [.mp 11], .row 185 1 1 [.ptr 12], .mapo [.agg [.same (.il .u32 33554432), .same (.il .u32 49152)], .agg [.same (.il .u32 268500992), .same (.il .u32 256)], .agg [.same (.il .u32 268566528), .same (.il .u32 20)], .agg [.same (.il .u32 268632064), .same (.il .u32 16)], .agg [.same (.il .u32 268697600), .same (.il .u32 36)], .agg [.same (.il .u32 268763136), .same (.il .u32 12)]] [.ifc 107 (.ptr 3), .ifc 110 (.ptr 4), .ifc 119 (.ptr 5), .ifc 125 (.ptr 7), .ifc 44 (.ptr 6), .ifc 127 (.ptr 8)], .cellsV 246], fun a K => match a with | ⟨[v, made, spent, dv, gp], [], [], [cs_b_k, cs_b_w, cs_b_t, cs_b_r, cs_b_l, cs_b_c]⟩ => (match Mo.Cl.is cs_b_k with | true => (match Mo.Wd.is cs_b_w with | true => (match Mo.Rt.is cs_b_t with | true => (match Mo.Rs.is cs_b_r with | true => (match Mo.Ln.is cs_b_l with | true => (match Mo.Cnt.is cs_b_c with | true => pStoreG12_T v made spent dv gp (Mo.Bd.mk (Mo.Cl.of cs_b_k) (Mo.Wd.of cs_b_w) (Mo.Rt.of cs_b_t) (Mo.Rs.of cs_b_r) (Mo.Ln.of cs_b_l) (Mo.Cnt.of cs_b_c)) K | false => False) | false => False) | false => False) | false => False) | false => False) | false => False) | _ => False⟩
theorem pStoreG12_ok : pStoreG12_con.ok noW Tryz.prog 63 := by
  intro a K h
  simp only [pStoreG12_con] at h
  split at h
  case h_2 => exact h.elim
  split at h
  case h_2 => exact h.elim
  rename_i is_b_k
  split at h
  case h_2 => exact h.elim
  rename_i is_b_w
  split at h
  case h_2 => exact h.elim
  rename_i is_b_t
  split at h
  case h_2 => exact h.elim
  rename_i is_b_r
  split at h
  case h_2 => exact h.elim
  rename_i is_b_l
  split at h
  case h_2 => exact h.elim
  rename_i is_b_c
  exact CallSem.objs (pStoreG12_sem _ _ _ _ _ _ K h) (fun _ _ _ h => h) ⟨WkO.same (fun cs h => by cases h), WkO.same (fun cs h => by cases h), WkO.same (fun cs h => by cases h), WkO.cells (Mo.Cl.is_ok is_b_k), WkO.same (fun cs h => by cases h), WkO.cells (Mo.Wd.is_ok is_b_w), WkO.cells (Mo.Rt.is_ok is_b_t), WkO.cells (Mo.Rs.is_ok is_b_r), WkO.cells (Mo.Ln.is_ok is_b_l), WkO.same (fun cs h => by cases h), WkO.same (fun cs h => by cases h), WkO.same (fun cs h => by cases h), WkO.cells (Mo.Cnt.is_ok is_b_c), trivial⟩
noncomputable def Mo.pLoadG0_v1 (spent : Int) (gp : Int) : Int := (if ((iE ((spent + (cvq gp 0)) / 18446744073709551616) 0) = true) then ((spent + (cvq gp 0)) % 18446744073709551616) else 18446744073709551615)
noncomputable def Mo.pLoadG0_v2 (gp : Int) (b : Mo.Bd) : Mo.Bd := (Mo.dTick_v1 (cvq gp 0) b)
noncomputable def Mo.pLoadG0_pre (made : Int) (spent : Int) (gp : Int) (b : Mo.Bd) : Prop := (if ((iM 0 (rmi made 1)) = true) then (if ((iL (rmi made 1) 1) = true) then ((((0 : Int) ≤ spent) ∧ ((0 : Int) ≤ (cvq gp 0))) ∧ (Mo.dTick_pre (cvq gp 0) b)) else False) else False)
noncomputable def pLoadG0_tree (made : Int) (spent : Int) (dv : Int) (gp : Int) (b : Mo.Bd) (K : S → List Ob → Prop) : Prop := (((1 : Int) = 1) ∧ (((1 : Int) = 1) ∧ (True ∧ (if ((iM 0 (rmi made 1)) = true) then (if ((iL (rmi made 1) 1) = true) then ((((0 : Int) ≤ spent) ∧ ((0 : Int) ≤ (cvq gp 0))) ∧ (((0 : Int) = 0) ∧ (if ((iE ((spent + (cvq gp 0)) / 18446744073709551616) 0) = true) then (((1 : Int) = 1) ∧ (((1 : Int) = 1) ∧ ((Mo.dTick_pre (cvq gp 0) b) ∧ (((1 : Int) = 1) ∧ (((1 : Int) = 1) ∧ (True ∧ (((1 : Int) = 1) ∧ (((1 : Int) = 1) ∧ (True ∧ (((1 : Int) = 1) ∧ (((1 : Int) = 1) ∧ (True ∧ K (.tup [(.iv .u32 (cvw (Mo.Rt.sec (Mo.Bd.t (Mo.dTick_v1 (cvq gp 0) b))) 0)), (.il .i64 0)]) [(.cells 135 [(.iv .i64 (adi made 1)), (.iv .u64 ((spent + (cvq gp 0)) % 18446744073709551616)), (.iv .i64 0), (.ptr 1 (.l 0)), (.sli 2 (.l 0) (.l 1) (.rest (.l 0)) false)]), (.cells 131 [(.ptr 3 (.l 0)), (.ptr 4 (.l 0)), (.ptr 5 (.l 0)), (.ptr 6 (.l 0)), (.ptr 7 (.l 0)), (.ptr 8 (.l 0)), (.ptr 9 (.l 0)), (.iv .i64 1), (.iv .i64 1), (.iv .u32 dv), (.raw (.slice none 0 0))]), (.row 22 1 (.l 1) [(.iv .u32 gp)]), (.cells 183 (Mo.Cl.cells (Mo.Bd.k (Mo.dTick_v1 (cvq gp 0) b)))), (.cells 188 [(.sli 10 (.l 0) (.l 1) (.lit (.l 1)) false)]), (.cells 194 (Mo.Wd.cells (Mo.Bd.w (Mo.dTick_v1 (cvq gp 0) b)))), (.cells 190 (Mo.Rt.cells (Mo.Bd.t (Mo.dTick_v1 (cvq gp 0) b)))), (.cells 200 (Mo.Rs.cells (Mo.Bd.r (Mo.dTick_v1 (cvq gp 0) b)))), (.cells 204 (Mo.Ln.cells (Mo.Bd.l (Mo.dTick_v1 (cvq gp 0) b)))), (.cells 227 [(.mp 11)]), (.row 185 1 (.l 1) [(.ptr 12 (.l 0))]), (.mapo [(.agg [(.il .u32 33554432), (.il .u32 49152)]), (.agg [(.il .u32 268500992), (.il .u32 256)]), (.agg [(.il .u32 268566528), (.il .u32 20)]), (.agg [(.il .u32 268632064), (.il .u32 16)]), (.agg [(.il .u32 268697600), (.il .u32 36)]), (.agg [(.il .u32 268763136), (.il .u32 12)])] [(.ifc 107 (.ptr 3 (.l 0))), (.ifc 110 (.ptr 4 (.l 0))), (.ifc 119 (.ptr 5 (.l 0))), (.ifc 125 (.ptr 7 (.l 0))), (.ifc 44 (.ptr 6 (.l 0))), (.ifc 127 (.ptr 8 (.l 0)))]), (.cells 246 (Mo.Cnt.cells (Mo.Bd.c (Mo.dTick_v1 (cvq gp 0) b))))])))))))))))) else (((1 : Int) = 1) ∧ (((1 : Int) = 1) ∧ ((Mo.dTick_pre (cvq gp 0) b) ∧ (((1 : Int) = 1) ∧ (((1 : Int) = 1) ∧ (True ∧ (((1 : Int) = 1) ∧ (((1 : Int) = 1) ∧ (True ∧ (((1 : Int) = 1) ∧ (((1 : Int) = 1) ∧ (True ∧ K (.tup [(.iv .u32 (cvw (Mo.Rt.sec (Mo.Bd.t (Mo.dTick_v1 (cvq gp 0) b))) 0)), (.il .i64 0)]) [(.cells 135 [(.iv .i64 (adi made 1)), (.iv .u64 18446744073709551615), (.iv .i64 0), (.ptr 1 (.l 0)), (.sli 2 (.l 0) (.l 1) (.rest (.l 0)) false)]), (.cells 131 [(.ptr 3 (.l 0)), (.ptr 4 (.l 0)), (.ptr 5 (.l 0)), (.ptr 6 (.l 0)), (.ptr 7 (.l 0)), (.ptr 8 (.l 0)), (.ptr 9 (.l 0)), (.iv .i64 1), (.iv .i64 1), (.iv .u32 dv), (.raw (.slice none 0 0))]), (.row 22 1 (.l 1) [(.iv .u32 gp)]), (.cells 183 (Mo.Cl.cells (Mo.Bd.k (Mo.dTick_v1 (cvq gp 0) b)))), (.cells 188 [(.sli 10 (.l 0) (.l 1) (.lit (.l 1)) false)]), (.cells 194 (Mo.Wd.cells (Mo.Bd.w (Mo.dTick_v1 (cvq gp 0) b)))), (.cells 190 (Mo.Rt.cells (Mo.Bd.t (Mo.dTick_v1 (cvq gp 0) b)))), (.cells 200 (Mo.Rs.cells (Mo.Bd.r (Mo.dTick_v1 (cvq gp 0) b)))), (.cells 204 (Mo.Ln.cells (Mo.Bd.l (Mo.dTick_v1 (cvq gp 0) b)))), (.cells 227 [(.mp 11)]), (.row 185 1 (.l 1) [(.ptr 12 (.l 0))]), (.mapo [(.agg [(.il .u32 33554432), (.il .u32 49152)]), (.agg [(.il .u32 268500992), (.il .u32 256)]), (.agg [(.il .u32 268566528), (.il .u32 20)]), (.agg [(.il .u32 268632064), (.il .u32 16)]), (.agg [(.il .u32 268697600), (.il .u32 36)]), (.agg [(.il .u32 268763136), (.il .u32 12)])] [(.ifc 107 (.ptr 3 (.l 0))), (.ifc 110 (.ptr 4 (.l 0))), (.ifc 119 (.ptr 5 (.l 0))), (.ifc 125 (.ptr 7 (.l 0))), (.ifc 44 (.ptr 6 (.l 0))), (.ifc 127 (.ptr 8 (.l 0)))]), (.cells 246 (Mo.Cnt.cells (Mo.Bd.c (Mo.dTick_v1 (cvq gp 0) b))))]))))))))))))))) else False) else False))))
theorem pLoadG0_run (made : Int) (spent : Int) (dv : Int) (gp : Int) (b : Mo.Bd) (K : S → List Ob → Prop) : callL (std noW) tt ffAsF stopAsF noL 8 62 [.ptr 0 (.l 0), .il .u32 268697600] [.cells 135 [.iv .i64 made, .iv .u64 spent, .il .i64 0, .ptr 1 (.l 0), .sli 2 (.l 0) (.l 1) (.rest (.l 0)) false], .cells 131 [.ptr 3 (.l 0), .ptr 4 (.l 0), .ptr 5 (.l 0), .ptr 6 (.l 0), .ptr 7 (.l 0), .ptr 8 (.l 0), .ptr 9 (.l 0), .il .i64 1, .il .i64 1, .iv .u32 dv, .raw (.slice none 0 0)], .row 22 1 (.l 1) [.iv .u32 gp], .cells 183 (Mo.Cl.cells (Mo.Bd.k b)), .cells 188 [.sli 10 (.l 0) (.l 1) (.lit (.l 1)) false], .cells 194 (Mo.Wd.cells (Mo.Bd.w b)), .cells 190 (Mo.Rt.cells (Mo.Bd.t b)), .cells 200 (Mo.Rs.cells (Mo.Bd.r b)), .cells 204 (Mo.Ln.cells (Mo.Bd.l b)), .cells 227 [.mp 11], .row 185 1 (.l 1) [.ptr 12 (.l 0)], .mapo [.agg [.il .u32 33554432, .il .u32 49152], .agg [.il .u32 268500992, .il .u32 256], .agg [.il .u32 268566528, .il .u32 20], .agg [.il .u32 268632064, .il .u32 16], .agg [.il .u32 268697600, .il .u32 36], .agg [.il .u32 268763136, .il .u32 12]] [.ifc 107 (.ptr 3 (.l 0)), .ifc 110 (.ptr 4 (.l 0)), .ifc 119 (.ptr 5 (.l 0)), .ifc 125 (.ptr 7 (.l 0)), .ifc 44 (.ptr 6 (.l 0)), .ifc 127 (.ptr 8 (.l 0))], .cells 246 (Mo.Cnt.cells (Mo.Bd.c b))] (gcK 13 (ivK false K)) = pLoadG0_tree made spent dv gp b K := by kernel_rfl
noncomputable def pLoadG0_T (made : Int) (spent : Int) (dv : Int) (gp : Int) (b : Mo.Bd) (K : S → List Ob → Prop) : Prop := Mo.pLoadG0_pre made spent gp b ∧ K (.tup [(.iv .u32 (cvw (Mo.Rt.sec (Mo.Bd.t (Mo.dTick_v1 (cvq gp 0) b))) 0)), (.il .i64 0)]) [(.cells 135 [(.iv .i64 (adi made 1)), (.iv .u64 (Mo.pLoadG0_v1 spent gp)), (.iv .i64 0), (.ptr 1 (.l 0)), (.sli 2 (.l 0) (.l 1) (.rest (.l 0)) false)]), (.cells 131 [(.ptr 3 (.l 0)), (.ptr 4 (.l 0)), (.ptr 5 (.l 0)), (.ptr 6 (.l 0)), (.ptr 7 (.l 0)), (.ptr 8 (.l 0)), (.ptr 9 (.l 0)), (.iv .i64 1), (.iv .i64 1), (.iv .u32 dv), (.raw (.slice none 0 0))]), (.row 22 1 (.l 1) [(.iv .u32 gp)]), (.cells 183 (Mo.Cl.cells (Mo.Bd.k (Mo.pLoadG0_v2 gp b)))), (.cells 188 [(.sli 10 (.l 0) (.l 1) (.lit (.l 1)) false)]), (.cells 194 (Mo.Wd.cells (Mo.Bd.w (Mo.pLoadG0_v2 gp b)))), (.cells 190 (Mo.Rt.cells (Mo.Bd.t (Mo.pLoadG0_v2 gp b)))), (.cells 200 (Mo.Rs.cells (Mo.Bd.r (Mo.pLoadG0_v2 gp b)))), (.cells 204 (Mo.Ln.cells (Mo.Bd.l (Mo.pLoadG0_v2 gp b)))), (.cells 227 [(.mp 11)]), (.row 185 1 (.l 1) [(.ptr 12 (.l 0))]), (.mapo [(.agg [(.il .u32 33554432), (.il .u32 49152)]), (.agg [(.il .u32 268500992), (.il .u32 256)]), (.agg [(.il .u32 268566528), (.il .u32 20)]), (.agg [(.il .u32 268632064), (.il .u32 16)]), (.agg [(.il .u32 268697600), (.il .u32 36)]), (.agg [(.il .u32 268763136), (.il .u32 12)])] [(.ifc 107 (.ptr 3 (.l 0))), (.ifc 110 (.ptr 4 (.l 0))), (.ifc 119 (.ptr 5 (.l 0))), (.ifc 125 (.ptr 7 (.l 0))), (.ifc 44 (.ptr 6 (.l 0))), (.ifc 127 (.ptr 8 (.l 0)))]), (.cells 246 (Mo.Cnt.cells (Mo.Bd.c (Mo.pLoadG0_v2 gp b))))]
theorem pLoadG0_all (made : Int) (spent : Int) (dv : Int) (gp : Int) (b : Mo.Bd) (K : S → List Ob → Prop) (h : pLoadG0_T made spent dv gp b K) : pLoadG0_tree made spent dv gp b K := by
  unfold pLoadG0_T at h; obtain ⟨h0, h⟩ := h; unfold pLoadG0_tree
  try simp only [Mo.pLoadG0_v1] at h0 h
  try simp only [Mo.pLoadG0_v2] at h0 h
  try simp only [Mo.pLoadG0_pre] at h0 h
  refine ⟨rfl, ?_⟩
  refine ⟨rfl, ?_⟩
  refine ⟨?_, ?_⟩
  trivial
  refine ite_intro (fun c0 => ?_) (fun c0 => ?_)
  try simp only [if_pos c0] at h0 h
  refine ite_intro (fun c1 => ?_) (fun c1 => ?_)
  try simp only [if_pos c1] at h0 h
  refine ⟨h0.1, ?_⟩; replace h0 := h0.2
  refine ⟨rfl, ?_⟩
  refine ite_intro (fun c2 => ?_) (fun c2 => ?_)
  try simp only [if_pos c2] at h0 h
  refine ⟨rfl, ?_⟩
  refine ⟨rfl, ?_⟩
  refine ⟨h0, ?_⟩
  refine ⟨rfl, ?_⟩
  refine ⟨rfl, ?_⟩
  refine ⟨?_, ?_⟩
  trivial
  refine ⟨rfl, ?_⟩
  refine ⟨rfl, ?_⟩
  refine ⟨?_, ?_⟩
  trivial
  refine ⟨rfl, ?_⟩
  refine ⟨rfl, ?_⟩
  refine ⟨?_, ?_⟩
  trivial
  first | exact h | contradiction | (simp only [if_true, if_false, Bool.false_eq_true] at h; exact h)
  try simp only [if_neg c2] at h0 h
  refine ⟨rfl, ?_⟩
  refine ⟨rfl, ?_⟩
  refine ⟨h0, ?_⟩
  refine ⟨rfl, ?_⟩
  refine ⟨rfl, ?_⟩
  refine ⟨?_, ?_⟩
  trivial
  refine ⟨rfl, ?_⟩
  refine ⟨rfl, ?_⟩
  refine ⟨?_, ?_⟩
  trivial
  refine ⟨rfl, ?_⟩
  refine ⟨rfl, ?_⟩
  refine ⟨?_, ?_⟩
  trivial
  first | exact h | contradiction | (simp only [if_true, if_false, Bool.false_eq_true] at h; exact h)
  exact False.elim (by first | contradiction | (simp only [if_neg c1] at h0))
  exact False.elim (by first | contradiction | (simp only [if_neg c0] at h0))
theorem pLoadG0_sem (made : Int) (spent : Int) (dv : Int) (gp : Int) (b : Mo.Bd) (K : S → List Ob → Prop) (h : pLoadG0_T made spent dv gp b K) : CallSem noW Tryz.prog 62 [.ptr 0 (.l 0), .il .u32 268697600] [.cells 135 [.iv .i64 made, .iv .u64 spent, .il .i64 0, .ptr 1 (.l 0), .sli 2 (.l 0) (.l 1) (.rest (.l 0)) false], .cells 131 [.ptr 3 (.l 0), .ptr 4 (.l 0), .ptr 5 (.l 0), .ptr 6 (.l 0), .ptr 7 (.l 0), .ptr 8 (.l 0), .ptr 9 (.l 0), .il .i64 1, .il .i64 1, .iv .u32 dv, .raw (.slice none 0 0)], .row 22 1 (.l 1) [.iv .u32 gp], .cells 183 (Mo.Cl.cells (Mo.Bd.k b)), .cells 188 [.sli 10 (.l 0) (.l 1) (.lit (.l 1)) false], .cells 194 (Mo.Wd.cells (Mo.Bd.w b)), .cells 190 (Mo.Rt.cells (Mo.Bd.t b)), .cells 200 (Mo.Rs.cells (Mo.Bd.r b)), .cells 204 (Mo.Ln.cells (Mo.Bd.l b)), .cells 227 [.mp 11], .row 185 1 (.l 1) [.ptr 12 (.l 0)], .mapo [.agg [.il .u32 33554432, .il .u32 49152], .agg [.il .u32 268500992, .il .u32 256], .agg [.il .u32 268566528, .il .u32 20], .agg [.il .u32 268632064, .il .u32 16], .agg [.il .u32 268697600, .il .u32 36], .agg [.il .u32 268763136, .il .u32 12]] [.ifc 107 (.ptr 3 (.l 0)), .ifc 110 (.ptr 4 (.l 0)), .ifc 119 (.ptr 5 (.l 0)), .ifc 125 (.ptr 7 (.l 0)), .ifc 44 (.ptr 6 (.l 0)), .ifc 127 (.ptr 8 (.l 0))], .cells 246 (Mo.Cnt.cells (Mo.Bd.c b))] K := iv_call (callL_ok tok (by kernel_rfl) ffAsFok stopAsF_ok _ _ _ _ (Eq.mpr (pLoadG0_run made spent dv gp b K) (pLoadG0_all made spent dv gp b K h)))
noncomputable def pLoadG0_con : Con := ⟨[.ptr 0, .same (.il .u32 268697600)], [.cells 135 [.int .i64, .int .u64, .eqI .i64 0, .ptr 1, .same (.sli 2 (.l 0) (.l 1) (.rest (.l 0)) false)], .cells 131 [.ptr 3, .ptr 4, .ptr 5, .ptr 6, .ptr 7, .ptr 8, .ptr 9, .eqI .i64 1, .eqI .i64 1, .int .u32, .same (.raw (.slice none 0 0))], .row 22 1 1 [.int .u32], .cellsV 183, .cells 188 [.same (.sli 10 (.l 0) (.l 1) (.lit (.l 1)) false)], .cellsV 194, .cellsV 190, .cellsV 200, .cellsV 204, .cells 227 [.mp 11], .row 185 1 1 [.ptr 12], .mapo [.agg [.same (.il .u32 33554432), .same (.il .u32 49152)], .agg [.same (.il .u32 268500992), .same (.il .u32 256)], .agg [.same (.il .u32 268566528), .same (.il .u32 20)], .agg [.same (.il .u32 268632064), .same (.il .u32 16)], .agg [.same (.il .u32 268697600), .same (.il .u32 36)], .agg [.same (.il .u32 268763136), .same (.il .u32 12)]] [.ifc 107 (.ptr 3), .ifc 110 (.ptr 4), .ifc 119 (.ptr 5), .ifc 125 (.ptr 7), .ifc 44 (.ptr 6), .ifc 127 (.ptr 8)], .cellsV 246], fun a K => match a with | ⟨[made, spent, dv, gp], [], [], [cs_b_k, cs_b_w, cs_b_t, cs_b_r, cs_b_l, cs_b_c]⟩ => (match Mo.Cl.is cs_b_k with | true => (match Mo.Wd.is cs_b_w with | true => (match Mo.Rt.is cs_b_t with | true => (match Mo.Rs.is cs_b_r with | true => (match Mo.Ln.is cs_b_l with | true => (match Mo.Cnt.is cs_b_c with | true => pLoadG0_T made spent dv gp (Mo.Bd.mk (Mo.Cl.of cs_b_k) (Mo.Wd.of cs_b_w) (Mo.Rt.of cs_b_t) (Mo.Rs.of cs_b_r) (Mo.Ln.of cs_b_l) (Mo.Cnt.of cs_b_c)) K | false => False) | false => False) | false => False) | false => False) | false => False) | false => False) | _ => False⟩
theorem pLoadG0_ok : pLoadG0_con.ok noW Tryz.prog 62 := by
  intro a K h
  simp only [pLoadG0_con] at h
  split at h
  case h_2 => exact h.elim
  split at h
  case h_2 => exact h.elim
  rename_i is_b_k
  split at h
  case h_2 => exact h.elim
  rename_i is_b_w
  split at h
  case h_2 => exact h.elim
  rename_i is_b_t
  split at h
  case h_2 => exact h.elim
  rename_i is_b_r
  split at h
  case h_2 => exact h.elim
  rename_i is_b_l
  split at h
  case h_2 => exact h.elim
  rename_i is_b_c
  exact CallSem.objs (pLoadG0_sem _ _ _ _ _ K h) (fun _ _ _ h => h) ⟨WkO.same (fun cs h => by cases h), WkO.same (fun cs h => by cases h), WkO.same (fun cs h => by cases h), WkO.cells (Mo.Cl.is_ok is_b_k), WkO.same (fun cs h => by cases h), WkO.cells (Mo.Wd.is_ok is_b_w), WkO.cells (Mo.Rt.is_ok is_b_t), WkO.cells (Mo.Rs.is_ok is_b_r), WkO.cells (Mo.Ln.is_ok is_b_l), WkO.same (fun cs h => by cases h), WkO.same (fun cs h => by cases h), WkO.same (fun cs h => by cases h), WkO.cells (Mo.Cnt.is_ok is_b_c), trivial⟩
noncomputable def Mo.pLoadG4_v1 (spent : Int) (gp : Int) : Int := (if ((iE ((spent + (cvq gp 0)) / 18446744073709551616) 0) = true) then ((spent + (cvq gp 0)) % 18446744073709551616) else 18446744073709551615)
noncomputable def Mo.pLoadG4_v2 (gp : Int) (b : Mo.Bd) : Mo.Bd := (Mo.dTick_v1 (cvq gp 0) b)
noncomputable def Mo.pLoadG4_pre (made : Int) (spent : Int) (gp : Int) (b : Mo.Bd) : Prop := (if ((iM 0 (rmi made 1)) = true) then (if ((iL (rmi made 1) 1) = true) then ((((0 : Int) ≤ spent) ∧ ((0 : Int) ≤ (cvq gp 0))) ∧ (Mo.dTick_pre (cvq gp 0) b)) else False) else False)
noncomputable def pLoadG4_tree (made : Int) (spent : Int) (dv : Int) (gp : Int) (b : Mo.Bd) (K : S → List Ob → Prop) : Prop := (((1 : Int) = 1) ∧ (((1 : Int) = 1) ∧ (True ∧ (if ((iM 0 (rmi made 1)) = true) then (if ((iL (rmi made 1) 1) = true) then ((((0 : Int) ≤ spent) ∧ ((0 : Int) ≤ (cvq gp 0))) ∧ (((0 : Int) = 0) ∧ (if ((iE ((spent + (cvq gp 0)) / 18446744073709551616) 0) = true) then (((1 : Int) = 1) ∧ (((1 : Int) = 1) ∧ ((Mo.dTick_pre (cvq gp 0) b) ∧ (((1 : Int) = 1) ∧ (((1 : Int) = 1) ∧ (True ∧ (((1 : Int) = 1) ∧ (((1 : Int) = 1) ∧ (((1 : Int) = 1) ∧ (((1 : Int) = 1) ∧ (True ∧ (((1 : Int) = 1) ∧ (((1 : Int) = 1) ∧ (True ∧ K (.tup [(.iv .u32 (cvw (srq (Mo.Rt.sec (Mo.Bd.t (Mo.dTick_v1 (cvq gp 0) b))) 32) 0)), (.il .i64 0)]) [(.cells 135 [(.iv .i64 (adi made 1)), (.iv .u64 ((spent + (cvq gp 0)) % 18446744073709551616)), (.iv .i64 0), (.ptr 1 (.l 0)), (.sli 2 (.l 0) (.l 1) (.rest (.l 0)) false)]), (.cells 131 [(.ptr 3 (.l 0)), (.ptr 4 (.l 0)), (.ptr 5 (.l 0)), (.ptr 6 (.l 0)), (.ptr 7 (.l 0)), (.ptr 8 (.l 0)), (.ptr 9 (.l 0)), (.iv .i64 1), (.iv .i64 1), (.iv .u32 dv), (.raw (.slice none 0 0))]), (.row 22 1 (.l 1) [(.iv .u32 gp)]), (.cells 183 (Mo.Cl.cells (Mo.Bd.k (Mo.dTick_v1 (cvq gp 0) b)))), (.cells 188 [(.sli 10 (.l 0) (.l 1) (.lit (.l 1)) false)]), (.cells 194 (Mo.Wd.cells (Mo.Bd.w (Mo.dTick_v1 (cvq gp 0) b)))), (.cells 190 (Mo.Rt.cells (Mo.Bd.t (Mo.dTick_v1 (cvq gp 0) b)))), (.cells 200 (Mo.Rs.cells (Mo.Bd.r (Mo.dTick_v1 (cvq gp 0) b)))), (.cells 204 (Mo.Ln.cells (Mo.Bd.l (Mo.dTick_v1 (cvq gp 0) b)))), (.cells 227 [(.mp 11)]), (.row 185 1 (.l 1) [(.ptr 12 (.l 0))]), (.mapo [(.agg [(.il .u32 33554432), (.il .u32 49152)]), (.agg [(.il .u32 268500992), (.il .u32 256)]), (.agg [(.il .u32 268566528), (.il .u32 20)]), (.agg [(.il .u32 268632064), (.il .u32 16)]), (.agg [(.il .u32 268697600), (.il .u32 36)]), (.agg [(.il .u32 268763136), (.il .u32 12)])] [(.ifc 107 (.ptr 3 (.l 0))), (.ifc 110 (.ptr 4 (.l 0))), (.ifc 119 (.ptr 5 (.l 0))), (.ifc 125 (.ptr 7 (.l 0))), (.ifc 44 (.ptr 6 (.l 0))), (.ifc 127 (.ptr 8 (.l 0)))]), (.cells 246 (Mo.Cnt.cells (Mo.Bd.c (Mo.dTick_v1 (cvq gp 0) b))))])))))))))))))) else (((1 : Int) = 1) ∧ (((1 : Int) = 1) ∧ ((Mo.dTick_pre (cvq gp 0) b) ∧ (((1 : Int) = 1) ∧ (((1 : Int) = 1) ∧ (True ∧ (((1 : Int) = 1) ∧ (((1 : Int) = 1) ∧ (((1 : Int) = 1) ∧ (((1 : Int) = 1) ∧ (True ∧ (((1 : Int) = 1) ∧ (((1 : Int) = 1) ∧ (True ∧ K (.tup [(.iv .u32 (cvw (srq (Mo.Rt.sec (Mo.Bd.t (Mo.dTick_v1 (cvq gp 0) b))) 32) 0)), (.il .i64 0)]) [(.cells 135 [(.iv .i64 (adi made 1)), (.iv .u64 18446744073709551615), (.iv .i64 0), (.ptr 1 (.l 0)), (.sli 2 (.l 0) (.l 1) (.rest (.l 0)) false)]), (.cells 131 [(.ptr 3 (.l 0)), (.ptr 4 (.l 0)), (.ptr 5 (.l 0)), (.ptr 6 (.l 0)), (.ptr 7 (.l 0)), (.ptr 8 (.l 0)), (.ptr 9 (.l 0)), (.iv .i64 1), (.iv .i64 1), (.iv .u32 dv), (.raw (.slice none 0 0))]), (.row 22 1 (.l 1) [(.iv .u32 gp)]), (.cells 183 (Mo.Cl.cells (Mo.Bd.k (Mo.dTick_v1 (cvq gp 0) b)))), (.cells 188 [(.sli 10 (.l 0) (.l 1) (.lit (.l 1)) false)]), (.cells 194 (Mo.Wd.cells (Mo.Bd.w (Mo.dTick_v1 (cvq gp 0) b)))), (.cells 190 (Mo.Rt.cells (Mo.Bd.t (Mo.dTick_v1 (cvq gp 0) b)))), (.cells 200 (Mo.Rs.cells (Mo.Bd.r (Mo.dTick_v1 (cvq gp 0) b)))), (.cells 204 (Mo.Ln.cells (Mo.Bd.l (Mo.dTick_v1 (cvq gp 0) b)))), (.cells 227 [(.mp 11)]), (.row 185 1 (.l 1) [(.ptr 12 (.l 0))]), (.mapo [(.agg [(.il .u32 33554432), (.il .u32 49152)]), (.agg [(.il .u32 268500992), (.il .u32 256)]), (.agg [(.il .u32 268566528), (.il .u32 20)]), (.agg [(.il .u32 268632064), (.il .u32 16)]), (.agg [(.il .u32 268697600), (.il .u32 36)]), (.agg [(.il .u32 268763136), (.il .u32 12)])] [(.ifc 107 (.ptr 3 (.l 0))), (.ifc 110 (.ptr 4 (.l 0))), (.ifc 119 (.ptr 5 (.l 0))), (.ifc 125 (.ptr 7 (.l 0))), (.ifc 44 (.ptr 6 (.l 0))), (.ifc 127 (.ptr 8 (.l 0)))]), (.cells 246 (Mo.Cnt.cells (Mo.Bd.c (Mo.dTick_v1 (cvq gp 0) b))))]))))))))))))))))) else False) else False))))
theorem pLoadG4_run (made : Int) (spent : Int) (dv : Int) (gp : Int) (b : Mo.Bd) (K : S → List Ob → Prop) : callL (std noW) tt ffAsF stopAsF noL 8 62 [.ptr 0 (.l 0), .il .u32 268697604] [.cells 135 [.iv .i64 made, .iv .u64 spent, .il .i64 0, .ptr 1 (.l 0), .sli 2 (.l 0) (.l 1) (.rest (.l 0)) false], .cells 131 [.ptr 3 (.l 0), .ptr 4 (.l 0), .ptr 5 (.l 0), .ptr 6 (.l 0), .ptr 7 (.l 0), .ptr 8 (.l 0), .ptr 9 (.l 0), .il .i64 1, .il .i64 1, .iv .u32 dv, .raw (.slice none 0 0)], .row 22 1 (.l 1) [.iv .u32 gp], .cells 183 (Mo.Cl.cells (Mo.Bd.k b)), .cells 188 [.sli 10 (.l 0) (.l 1) (.lit (.l 1)) false], .cells 194 (Mo.Wd.cells (Mo.Bd.w b)), .cells 190 (Mo.Rt.cells (Mo.Bd.t b)), .cells 200 (Mo.Rs.cells (Mo.Bd.r b)), .cells 204 (Mo.Ln.cells (Mo.Bd.l b)), .cells 227 [.mp 11], .row 185 1 (.l 1) [.ptr 12 (.l 0)], .mapo [.agg [.il .u32 33554432, .il .u32 49152], .agg [.il .u32 268500992, .il .u32 256], .agg [.il .u32 268566528, .il .u32 20], .agg [.il .u32 268632064, .il .u32 16], .agg [.il .u32 268697600, .il .u32 36], .agg [.il .u32 268763136, .il .u32 12]] [.ifc 107 (.ptr 3 (.l 0)), .ifc 110 (.ptr 4 (.l 0)), .ifc 119 (.ptr 5 (.l 0)), .ifc 125 (.ptr 7 (.l 0)), .ifc 44 (.ptr 6 (.l 0)), .ifc 127 (.ptr 8 (.l 0))], .cells 246 (Mo.Cnt.cells (Mo.Bd.c b))] (gcK 13 (ivK false K)) = pLoadG4_tree made spent dv gp b K := by kernel_rfl
noncomputable def pLoadG4_T (made : Int) (spent : Int) (dv : Int) (gp : Int) (b : Mo.Bd) (K : S → List Ob → Prop) : Prop := Mo.pLoadG4_pre made spent gp b ∧ K (.tup [(.iv .u32 (cvw (srq (Mo.Rt.sec (Mo.Bd.t (Mo.dTick_v1 (cvq gp 0) b))) 32) 0)), (.il .i64 0)]) [(.cells 135 [(.iv .i64 (adi made 1)), (.iv .u64 (Mo.pLoadG4_v1 spent gp)), (.iv .i64 0), (.ptr 1 (.l 0)), (.sli 2 (.l 0) (.l 1) (.rest (.l 0)) false)]), (.cells 131 [(.ptr 3 (.l 0)), (.ptr 4 (.l 0)), (.ptr 5 (.l 0)), (.ptr 6 (.l 0)), (.ptr 7 (.l 0)), (.ptr 8 (.l 0)), (.ptr 9 (.l 0)), (.iv .i64 1), (.iv .i64 1), (.iv .u32 dv), (.raw (.slice none 0 0))]), (.row 22 1 (.l 1) [(.iv .u32 gp)]), (.cells 183 (Mo.Cl.cells (Mo.Bd.k (Mo.pLoadG4_v2 gp b)))), (.cells 188 [(.sli 10 (.l 0) (.l 1) (.lit (.l 1)) false)]), (.cells 194 (Mo.Wd.cells (Mo.Bd.w (Mo.pLoadG4_v2 gp b)))), (.cells 190 (Mo.Rt.cells (Mo.Bd.t (Mo.pLoadG4_v2 gp b)))), (.cells 200 (Mo.Rs.cells (Mo.Bd.r (Mo.pLoadG4_v2 gp b)))), (.cells 204 (Mo.Ln.cells (Mo.Bd.l (Mo.pLoadG4_v2 gp b)))), (.cells 227 [(.mp 11)]), (.row 185 1 (.l 1) [(.ptr 12 (.l 0))]), (.mapo [(.agg [(.il .u32 33554432), (.il .u32 49152)]), (.agg [(.il .u32 268500992), (.il .u32 256)]), (.agg [(.il .u32 268566528), (.il .u32 20)]), (.agg [(.il .u32 268632064), (.il .u32 16)]), (.agg [(.il .u32 268697600), (.il .u32 36)]), (.agg [(.il .u32 268763136), (.il .u32 12)])] [(.ifc 107 (.ptr 3 (.l 0))), (.ifc 110 (.ptr 4 (.l 0))), (.ifc 119 (.ptr 5 (.l 0))), (.ifc 125 (.ptr 7 (.l 0))), (.ifc 44 (.ptr 6 (.l 0))), (.ifc 127 (.ptr 8 (.l 0)))]), (.cells 246 (Mo.Cnt.cells (Mo.Bd.c (Mo.pLoadG4_v2 gp b))))]
theorem pLoadG4_all (made : Int) (spent : Int) (dv : Int) (gp : Int) (b : Mo.Bd) (K : S → List Ob → Prop) (h : pLoadG4_T made spent dv gp b K) : pLoadG4_tree made spent dv gp b K := by
  unfold pLoadG4_T at h; obtain ⟨h0, h⟩ := h; unfold pLoadG4_tree
  try simp only [Mo.pLoadG4_v1] at h0 h
  try simp only [Mo.pLoadG4_v2] at h0 h
  try simp only [Mo.pLoadG4_pre] at h0 h
  refine ⟨rfl, ?_⟩
  refine ⟨rfl, ?_⟩
  refine ⟨?_, ?_⟩
  trivial
  refine ite_intro (fun c0 => ?_) (fun c0 => ?_)
  try simp only [if_pos c0] at h0 h
  refine ite_intro (fun c1 => ?_) (fun c1 => ?_)
  try simp only [if_pos c1] at h0 h
  refine ⟨h0.1, ?_⟩; replace h0 := h0.2
  refine ⟨rfl, ?_⟩
  refine ite_intro (fun c2 => ?_) (fun c2 => ?_)
  try simp only [if_pos c2] at h0 h
  refine ⟨rfl, ?_⟩
  refine ⟨rfl, ?_⟩
  refine ⟨h0, ?_⟩
  refine ⟨rfl, ?_⟩
  refine ⟨rfl, ?_⟩
  refine ⟨?_, ?_⟩
  trivial
  refine ⟨rfl, ?_⟩
  refine ⟨rfl, ?_⟩
  refine ⟨rfl, ?_⟩
  refine ⟨rfl, ?_⟩
  refine ⟨?_, ?_⟩
  trivial
  refine ⟨rfl, ?_⟩
  refine ⟨rfl, ?_⟩
  refine ⟨?_, ?_⟩
  trivial
  first | exact h | contradiction | (simp only [if_true, if_false, Bool.false_eq_true] at h; exact h)
  try simp only [if_neg c2] at h0 h
  refine ⟨rfl, ?_⟩
  refine ⟨rfl, ?_⟩
  refine ⟨h0, ?_⟩
  refine ⟨rfl, ?_⟩
  refine ⟨rfl, ?_⟩
  refine ⟨?_, ?_⟩
  trivial
  refine ⟨rfl, ?_⟩
  refine ⟨rfl, ?_⟩
  refine ⟨rfl, ?_⟩
  refine ⟨rfl, ?_⟩
  refine ⟨?_, ?_⟩
  trivial
  refine ⟨rfl, ?_⟩
  refine ⟨rfl, ?_⟩
  refine ⟨?_, ?_⟩
  trivial
  first | exact h | contradiction | (simp only [if_true, if_false, Bool.false_eq_true] at h; exact h)
  exact False.elim (by first | contradiction | (simp only [if_neg c1] at h0))
  exact False.elim (by first | contradiction | (simp only [if_neg c0] at h0))
theorem pLoadG4_sem (made : Int) (spent : Int) (dv : Int) (gp : Int) (b : Mo.Bd) (K : S → List Ob → Prop) (h : pLoadG4_T made spent dv gp b K) : CallSem noW Tryz.prog 62 [.ptr 0 (.l 0), .il .u32 268697604] [.cells 135 [.iv .i64 made, .iv .u64 spent, .il .i64 0, .ptr 1 (.l 0), .sli 2 (.l 0) (.l 1) (.rest (.l 0)) false], .cells 131 [.ptr 3 (.l 0), .ptr 4 (.l 0), .ptr 5 (.l 0), .ptr 6 (.l 0), .ptr 7 (.l 0), .ptr 8 (.l 0), .ptr 9 (.l 0), .il .i64 1, .il .i64 1, .iv .u32 dv, .raw (.slice none 0 0)], .row 22 1 (.l 1) [.iv .u32 gp], .cells 183 (Mo.Cl.cells (Mo.Bd.k b)), .cells 188 [.sli 10 (.l 0) (.l 1) (.lit (.l 1)) false], .cells 194 (Mo.Wd.cells (Mo.Bd.w b)), .cells 190 (Mo.Rt.cells (Mo.Bd.t b)), .cells 200 (Mo.Rs.cells (Mo.Bd.r b)), .cells 204 (Mo.Ln.cells (Mo.Bd.l b)), .cells 227 [.mp 11], .row 185 1 (.l 1) [.ptr 12 (.l 0)], .mapo [.agg [.il .u32 33554432, .il .u32 49152], .agg [.il .u32 268500992, .il .u32 256], .agg [.il .u32 268566528, .il .u32 20], .agg [.il .u32 268632064, .il .u32 16], .agg [.il .u32 268697600, .il .u32 36], .agg [.il .u32 268763136, .il .u32 12]] [.ifc 107 (.ptr 3 (.l 0)), .ifc 110 (.ptr 4 (.l 0)), .ifc 119 (.ptr 5 (.l 0)), .ifc 125 (.ptr 7 (.l 0)), .ifc 44 (.ptr 6 (.l 0)), .ifc 127 (.ptr 8 (.l 0))], .cells 246 (Mo.Cnt.cells (Mo.Bd.c b))] K := iv_call (callL_ok tok (by kernel_rfl) ffAsFok stopAsF_ok _ _ _ _ (Eq.mpr (pLoadG4_run made spent dv gp b K) (pLoadG4_all made spent dv gp b K h)))
noncomputable def pLoadG4_con : Con := ⟨[.ptr 0, .same (.il .u32 268697604)], [.cells 135 [.int .i64, .int .u64, .eqI .i64 0, .ptr 1, .same (.sli 2 (.l 0) (.l 1) (.rest (.l 0)) false)], .cells 131 [.ptr 3, .ptr 4, .ptr 5, .ptr 6, .ptr 7, .ptr 8, .ptr 9, .eqI .i64 1, .eqI .i64 1, .int .u32, .same (.raw (.slice none 0 0))], .row 22 1 1 [.int .u32], .cellsV 183, .cells 188 [.same (.sli 10 (.l 0) (.l 1) (.lit (.l 1)) false)], .cellsV 194, .cellsV 190, .cellsV 200, .cellsV 204, .cells 227 [.mp 11], .row 185 1 1 [.ptr 12], .mapo [.agg [.same (.il .u32 33554432), .same (.il .u32 49152)], .agg [.same (.il .u32 268500992), .same (.il .u32 256)], .agg [.same (.il .u32 268566528), .same (.il .u32 20)], .agg [.same (.il .u32 268632064), .same (.il .u32 16)], .agg [.same (.il .u32 268697600), .same (.il .u32 36)], .agg [.same (.il .u32 268763136), .same (.il .u32 12)]] [.ifc 107 (.ptr 3), .ifc 110 (.ptr 4), .ifc 119 (.ptr 5), .ifc 125 (.ptr 7), .ifc 44 (.ptr 6), .ifc 127 (.ptr 8)], .cellsV 246], fun a K => match a with | ⟨[made, spent, dv, gp], [], [], [cs_b_k, cs_b_w, cs_b_t, cs_b_r, cs_b_l, cs_b_c]⟩ => (match Mo.Cl.is cs_b_k with | true => (match Mo.Wd.is cs_b_w with | true => (match Mo.Rt.is cs_b_t with | true => (match Mo.Rs.is cs_b_r with | true => (match Mo.Ln.is cs_b_l with | true => (match Mo.Cnt.is cs_b_c with | true => pLoadG4_T made spent dv gp (Mo.Bd.mk (Mo.Cl.of cs_b_k) (Mo.Wd.of cs_b_w) (Mo.Rt.of cs_b_t) (Mo.Rs.of cs_b_r) (Mo.Ln.of cs_b_l) (Mo.Cnt.of cs_b_c)) K | false => False) | false => False) | false => False) | false => False) | false => False) | false => False) | _ => False⟩
theorem pLoadG4_ok : pLoadG4_con.ok noW Tryz.prog 62 := by
  intro a K h
  simp only [pLoadG4_con] at h
  split at h
  case h_2 => exact h.elim
  split at h
  case h_2 => exact h.elim
  rename_i is_b_k
  split at h
  case h_2 => exact h.elim
  rename_i is_b_w
  split at h
  case h_2 => exact h.elim
  rename_i is_b_t
  split at h
  case h_2 => exact h.elim
  rename_i is_b_r
  split at h
  case h_2 => exact h.elim
  rename_i is_b_l
  split at h
  case h_2 => exact h.elim
  rename_i is_b_c
  exact CallSem.objs (pLoadG4_sem _ _ _ _ _ K h) (fun _ _ _ h => h) ⟨WkO.same (fun cs h => by cases h), WkO.same (fun cs h => by cases h), WkO.same (fun cs h => by cases h), WkO.cells (Mo.Cl.is_ok is_b_k), WkO.same (fun cs h => by cases h), WkO.cells (Mo.Wd.is_ok is_b_w), WkO.cells (Mo.Rt.is_ok is_b_t), WkO.cells (Mo.Rs.is_ok is_b_r), WkO.cells (Mo.Ln.is_ok is_b_l), WkO.same (fun cs h => by cases h), WkO.same (fun cs h => by cases h), WkO.same (fun cs h => by cases h), WkO.cells (Mo.Cnt.is_ok is_b_c), trivial⟩
noncomputable def tabAsG (n : Nat) : List Con := match Nat.beq n 63 with | true => [pStoreG8_con, pStoreG12_con] | false => match Nat.beq n 62 with | true => [pLoadG0_con, pLoadG4_con] | false => tabAsF n
theorem tabAsG_ok : ∀ f, ∀ c ∈ tabAsG f, c.ok noW Tryz.prog f := by
  intro f c hc
  unfold tabAsG at hc
  split at hc
  · rename_i hf; have := Nat.eq_of_beq_eq_true hf; subst this
    simp only [List.mem_cons, List.not_mem_nil, or_false] at hc
    rcases hc with rfl | rfl
    · exact pStoreG8_ok
    · exact pStoreG12_ok
  split at hc
  · rename_i hf; have := Nat.eq_of_beq_eq_true hf; subst this
    simp only [List.mem_cons, List.not_mem_nil, or_false] at hc
    rcases hc with rfl | rfl
    · exact pLoadG0_ok
    · exact pLoadG4_ok
  exact tabAsF_ok f c hc
noncomputable def ffAsG (n : Nat) : Option FI := match Nat.beq n 63 with | true => none | false => match Nat.beq n 62 with | true => none | false => ffAsF n
theorem ffAsGok : FOk Tryz.prog ffAsG := fun f fi hf => by
  unfold ffAsG at hf
  split at hf
  · cases hf
  split at hf
  · cases hf
  exact ffAsFok f fi hf
noncomputable def stopAsG : CallT := stopC tabAsG stopB
theorem stopAsG_ok : ∀ f args h K, stopAsG f args h K → CallSem noW Tryz.prog f args h K := stopC_ok tabAsG_ok stopB_ok
end Go.SX.Y
