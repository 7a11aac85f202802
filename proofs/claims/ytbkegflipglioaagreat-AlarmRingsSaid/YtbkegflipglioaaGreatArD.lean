/- What Go functions come to (lifted). -/
import Derived.Test.YtbkegflipglioaaGreatArC
set_option maxRecDepth 20000
namespace Go.SX.Y
open Go.Proofs Go.RowKit
noncomputable def h_U1 (b : Mo.Bd) : List Ob := [.cells 227 [.mp 1], .mapo [.agg [.il .u32 33554432, .il .u32 49152], .agg [.il .u32 268500992, .il .u32 256], .agg [.il .u32 268566528, .il .u32 20], .agg [.il .u32 268632064, .il .u32 16], .agg [.il .u32 268697600, .il .u32 36], .agg [.il .u32 268763136, .il .u32 12]] [.ifc 107 (.ptr 2 (.l 0)), .ifc 110 (.ptr 3 (.l 0)), .ifc 119 (.ptr 4 (.l 0)), .ifc 125 (.ptr 5 (.l 0)), .ifc 44 (.ptr 6 (.l 0)), .ifc 127 (.ptr 7 (.l 0))], .cells 183 (Mo.Cl.cells (Mo.Bd.k b)), .cells 188 [.sli 8 (.l 0) (.l 1) (.lit (.l 1)) false], .cells 194 (Mo.Wd.cells (Mo.Bd.w b)), .cells 200 (Mo.Rs.cells (Mo.Bd.r b)), .cells 190 (Mo.Rt.cells (Mo.Bd.t b)), .cells 204 (Mo.Ln.cells (Mo.Bd.l b)), .row 185 1 (.l 1) [.ptr 9 (.l 0)], .cells 246 (Mo.Cnt.cells (Mo.Bd.c b))]
def t_U1 : List OTm := [.cells 227 [.mp 1], .mapo [.agg [.same (.il .u32 33554432), .same (.il .u32 49152)], .agg [.same (.il .u32 268500992), .same (.il .u32 256)], .agg [.same (.il .u32 268566528), .same (.il .u32 20)], .agg [.same (.il .u32 268632064), .same (.il .u32 16)], .agg [.same (.il .u32 268697600), .same (.il .u32 36)], .agg [.same (.il .u32 268763136), .same (.il .u32 12)]] [.ifc 107 (.ptr 2), .ifc 110 (.ptr 3), .ifc 119 (.ptr 4), .ifc 125 (.ptr 5), .ifc 44 (.ptr 6), .ifc 127 (.ptr 7)], .cellsV 183, .cells 188 [.same (.sli 8 (.l 0) (.l 1) (.lit (.l 1)) false)], .cellsV 194, .cellsV 200, .cellsV 190, .cellsV 204, .row 185 1 1 [.ptr 9], .cellsV 246]
noncomputable def h_B1n (dv : Int) (b : Mo.Bd) : List Ob := [.cells 131 [.ptr 1 (.l 0), .ptr 2 (.l 0), .ptr 3 (.l 0), .ptr 4 (.l 0), .ptr 5 (.l 0), .ptr 6 (.l 0), .ptr 7 (.l 0), .iv .i64 1, .iv .i64 1, .iv .u32 dv, .raw (.slice none 0 0)], .cells 183 (Mo.Cl.cells (Mo.Bd.k b)), .cells 188 [.sli 8 (.l 0) (.l 1) (.lit (.l 1)) false], .cells 194 (Mo.Wd.cells (Mo.Bd.w b)), .cells 190 (Mo.Rt.cells (Mo.Bd.t b)), .cells 200 (Mo.Rs.cells (Mo.Bd.r b)), .cells 204 (Mo.Ln.cells (Mo.Bd.l b)), .cells 227 [.mp 9], .row 185 1 (.l 1) [.ptr 10 (.l 0)], .mapo [.agg [.il .u32 33554432, .il .u32 49152], .agg [.il .u32 268500992, .il .u32 256], .agg [.il .u32 268566528, .il .u32 20], .agg [.il .u32 268632064, .il .u32 16], .agg [.il .u32 268697600, .il .u32 36], .agg [.il .u32 268763136, .il .u32 12]] [.ifc 107 (.ptr 1 (.l 0)), .ifc 110 (.ptr 2 (.l 0)), .ifc 119 (.ptr 3 (.l 0)), .ifc 125 (.ptr 5 (.l 0)), .ifc 44 (.ptr 4 (.l 0)), .ifc 127 (.ptr 6 (.l 0))], .cells 246 (Mo.Cnt.cells (Mo.Bd.c b))]
def t_B1n : List OTm := [.cells 131 [.ptr 1, .ptr 2, .ptr 3, .ptr 4, .ptr 5, .ptr 6, .ptr 7, .eqI .i64 1, .eqI .i64 1, .int .u32, .same (.raw (.slice none 0 0))], .cellsV 183, .cells 188 [.same (.sli 8 (.l 0) (.l 1) (.lit (.l 1)) false)], .cellsV 194, .cellsV 190, .cellsV 200, .cellsV 204, .cells 227 [.mp 9], .row 185 1 1 [.ptr 10], .mapo [.agg [.same (.il .u32 33554432), .same (.il .u32 49152)], .agg [.same (.il .u32 268500992), .same (.il .u32 256)], .agg [.same (.il .u32 268566528), .same (.il .u32 20)], .agg [.same (.il .u32 268632064), .same (.il .u32 16)], .agg [.same (.il .u32 268697600), .same (.il .u32 36)], .agg [.same (.il .u32 268763136), .same (.il .u32 12)]] [.ifc 107 (.ptr 1), .ifc 110 (.ptr 2), .ifc 119 (.ptr 3), .ifc 125 (.ptr 5), .ifc 44 (.ptr 4), .ifc 127 (.ptr 6)], .cellsV 246]
noncomputable def h_B1r (dv : Int) (rn : Int) (b : Mo.Bd) (rm : Int) (rs : List S) : List Ob := [.cells 131 [.ptr 1 (.l 0), .ptr 2 (.l 0), .ptr 3 (.l 0), .ptr 4 (.l 0), .ptr 5 (.l 0), .ptr 6 (.l 0), .ptr 7 (.l 0), .iv .i64 1, .iv .i64 1, .iv .u32 dv, .sli 8 (.l 0) (.v rn.toNat) (.rest (.l 0)) false], .cells 183 (Mo.Cl.cells (Mo.Bd.k b)), .cells 188 [.sli 9 (.l 0) (.l 1) (.lit (.l 1)) false], .cells 194 (Mo.Wd.cells (Mo.Bd.w b)), .cells 190 (Mo.Rt.cells (Mo.Bd.t b)), .cells 200 (Mo.Rs.cells (Mo.Bd.r b)), .cells 204 (Mo.Ln.cells (Mo.Bd.l b)), .cells 227 [.mp 10], .row 73 2 (.v rm.toNat) rs, .row 185 1 (.l 1) [.ptr 11 (.l 0)], .mapo [.agg [.il .u32 33554432, .il .u32 49152], .agg [.il .u32 268500992, .il .u32 256], .agg [.il .u32 268566528, .il .u32 20], .agg [.il .u32 268632064, .il .u32 16], .agg [.il .u32 268697600, .il .u32 36], .agg [.il .u32 268763136, .il .u32 12]] [.ifc 107 (.ptr 1 (.l 0)), .ifc 110 (.ptr 2 (.l 0)), .ifc 119 (.ptr 3 (.l 0)), .ifc 125 (.ptr 5 (.l 0)), .ifc 44 (.ptr 4 (.l 0)), .ifc 127 (.ptr 6 (.l 0))], .cells 246 (Mo.Cnt.cells (Mo.Bd.c b))]
def t_B1r : List OTm := [.cells 131 [.ptr 1, .ptr 2, .ptr 3, .ptr 4, .ptr 5, .ptr 6, .ptr 7, .eqI .i64 1, .eqI .i64 1, .int .u32, .sli 8], .cellsV 183, .cells 188 [.same (.sli 9 (.l 0) (.l 1) (.lit (.l 1)) false)], .cellsV 194, .cellsV 190, .cellsV 200, .cellsV 204, .cells 227 [.mp 10], .rowV 73 2, .row 185 1 1 [.ptr 11], .mapo [.agg [.same (.il .u32 33554432), .same (.il .u32 49152)], .agg [.same (.il .u32 268500992), .same (.il .u32 256)], .agg [.same (.il .u32 268566528), .same (.il .u32 20)], .agg [.same (.il .u32 268632064), .same (.il .u32 16)], .agg [.same (.il .u32 268697600), .same (.il .u32 36)], .agg [.same (.il .u32 268763136), .same (.il .u32 12)]] [.ifc 107 (.ptr 1), .ifc 110 (.ptr 2), .ifc 119 (.ptr 3), .ifc 125 (.ptr 5), .ifc 44 (.ptr 4), .ifc 127 (.ptr 6)], .cellsV 246]
noncomputable def Mo.uStore8_v1 (v : Int) (b : Mo.Bd) : Mo.Bd := (Mo.Bd.mk (Mo.Bd.k b) (Mo.Bd.w b) (Mo.tStore8_v1 v (Mo.Bd.t b)) (Mo.Bd.r b) (Mo.Bd.l b) (Mo.Bd.c b))
noncomputable def uStore8_tree (v : Int) (b : Mo.Bd) (K : S → List Ob → Prop) : Prop := (True ∧ K (.il .i64 0) (h_U1 (Mo.Bd.mk (Mo.Bd.k b) (Mo.Bd.w b) (Mo.tStore8_v1 v (Mo.Bd.t b)) (Mo.Bd.r b) (Mo.Bd.l b) (Mo.Bd.c b))))
theorem uStore8_run (v : Int) (b : Mo.Bd) (K : S → List Ob → Prop) : callL (std noW) tt ffArC stopArC noL 100 91 [.ptr 0 (.l 0), .il .u32 268697608, .iv .u32 v] (h_U1 b) (gcK 10 (ivK false K)) = uStore8_tree v b K := by kernel_rfl
noncomputable def uStore8_T (v : Int) (b : Mo.Bd) (K : S → List Ob → Prop) : Prop := True ∧ K (.il .i64 0) (h_U1 (Mo.uStore8_v1 v b))
theorem uStore8_all (v : Int) (b : Mo.Bd) (K : S → List Ob → Prop) (h : uStore8_T v b K) : uStore8_tree v b K := by
  unfold uStore8_T at h; obtain ⟨h0, h⟩ := h; unfold uStore8_tree
  try simp only [Mo.uStore8_v1] at h0 h
  refine ⟨?_, ?_⟩
  trivial
  first | exact h | contradiction | (simp only [if_true, if_false, Bool.false_eq_true] at h; exact h)
theorem uStore8_sem (v : Int) (b : Mo.Bd) (K : S → List Ob → Prop) (h : uStore8_T v b K) : CallSem noW Tryz.prog 91 [.ptr 0 (.l 0), .il .u32 268697608, .iv .u32 v] (h_U1 b) K := iv_call (callL_ok tok (by kernel_rfl) ffArCok stopArC_ok _ _ _ _ (Eq.mpr (uStore8_run v b K) (uStore8_all v b K h)))
noncomputable def uStore8_con : Con := ⟨[.ptr 0, .same (.il .u32 268697608), .int .u32], t_U1, fun a K => match a with | ⟨[v], [], [], [cs_b_k, cs_b_w, cs_b_r, cs_b_t, cs_b_l, cs_b_c]⟩ => (match Mo.Cl.is cs_b_k with | true => (match Mo.Wd.is cs_b_w with | true => (match Mo.Rt.is cs_b_t with | true => (match Mo.Rs.is cs_b_r with | true => (match Mo.Ln.is cs_b_l with | true => (match Mo.Cnt.is cs_b_c with | true => uStore8_T v (Mo.Bd.mk (Mo.Cl.of cs_b_k) (Mo.Wd.of cs_b_w) (Mo.Rt.of cs_b_t) (Mo.Rs.of cs_b_r) (Mo.Ln.of cs_b_l) (Mo.Cnt.of cs_b_c)) K | false => False) | false => False) | false => False) | false => False) | false => False) | false => False) | _ => False⟩
theorem uStore8_ok : uStore8_con.ok noW Tryz.prog 91 := by
  intro a K h
  simp only [uStore8_con] at h
  split at h
  case h_2 => exact h.elim
  split at h
  case h_2 => exact h.elim
  rename_i is_b_k
  split at h
  case h_2 => exact h.elim
  rename_i is_b_w
  split at h
  case h_2 => exact h.elim
  rename_i is_b_t
  split at h
  case h_2 => exact h.elim
  rename_i is_b_r
  split at h
  case h_2 => exact h.elim
  rename_i is_b_l
  split at h
  case h_2 => exact h.elim
  rename_i is_b_c
  exact CallSem.objs (uStore8_sem _ _ K h) (fun _ _ _ h => h) ⟨WkO.same (fun cs h => by cases h), WkO.same (fun cs h => by cases h), WkO.cells (Mo.Cl.is_ok is_b_k), WkO.same (fun cs h => by cases h), WkO.cells (Mo.Wd.is_ok is_b_w), WkO.cells (Mo.Rs.is_ok is_b_r), WkO.cells (Mo.Rt.is_ok is_b_t), WkO.cells (Mo.Ln.is_ok is_b_l), WkO.same (fun cs h => by cases h), WkO.cells (Mo.Cnt.is_ok is_b_c), trivial⟩
noncomputable def Mo.uStore12_v1 (v : Int) (b : Mo.Bd) : Mo.Bd := (Mo.Bd.mk (Mo.Bd.k b) (Mo.Bd.w b) (Mo.tStore12_v1 v (Mo.Bd.t b)) (Mo.Bd.r b) (Mo.Bd.l b) (Mo.Bd.c b))
noncomputable def uStore12_tree (v : Int) (b : Mo.Bd) (K : S → List Ob → Prop) : Prop := (True ∧ K (.il .i64 0) (h_U1 (Mo.Bd.mk (Mo.Bd.k b) (Mo.Bd.w b) (Mo.tStore12_v1 v (Mo.Bd.t b)) (Mo.Bd.r b) (Mo.Bd.l b) (Mo.Bd.c b))))
theorem uStore12_run (v : Int) (b : Mo.Bd) (K : S → List Ob → Prop) : callL (std noW) tt ffArC stopArC noL 100 91 [.ptr 0 (.l 0), .il .u32 268697612, .iv .u32 v] (h_U1 b) (gcK 10 (ivK false K)) = uStore12_tree v b K := by kernel_rfl
noncomputable def uStore12_T (v : Int) (b : Mo.Bd) (K : S → List Ob → Prop) : Prop := True ∧ K (.il .i64 0) (h_U1 (Mo.uStore12_v1 v b))
theorem uStore12_all (v : Int) (b : Mo.Bd) (K : S → List Ob → Prop) (h : uStore12_T v b K) : uStore12_tree v b K := by
  unfold uStore12_T at h; obtain ⟨h0, h⟩ := h; unfold uStore12_tree
  try simp only [Mo.uStore12_v1] at h0 h
  refine ⟨?_, ?_⟩
  trivial
  first | exact h | contradiction | (simp only [if_true, if_false, Bool.false_eq_true] at h; exact h)
theorem uStore12_sem (v : Int) (b : Mo.Bd) (K : S → List Ob → Prop) (h : uStore12_T v b K) : CallSem noW Tryz.prog 91 [.ptr 0 (.l 0), .il .u32 268697612, .iv .u32 v] (h_U1 b) K := iv_call (callL_ok tok (by kernel_rfl) ffArCok stopArC_ok _ _ _ _ (Eq.mpr (uStore12_run v b K) (uStore12_all v b K h)))
noncomputable def uStore12_con : Con := ⟨[.ptr 0, .same (.il .u32 268697612), .int .u32], t_U1, fun a K => match a with | ⟨[v], [], [], [cs_b_k, cs_b_w, cs_b_r, cs_b_t, cs_b_l, cs_b_c]⟩ => (match Mo.Cl.is cs_b_k with | true => (match Mo.Wd.is cs_b_w with | true => (match Mo.Rt.is cs_b_t with | true => (match Mo.Rs.is cs_b_r with | true => (match Mo.Ln.is cs_b_l with | true => (match Mo.Cnt.is cs_b_c with | true => uStore12_T v (Mo.Bd.mk (Mo.Cl.of cs_b_k) (Mo.Wd.of cs_b_w) (Mo.Rt.of cs_b_t) (Mo.Rs.of cs_b_r) (Mo.Ln.of cs_b_l) (Mo.Cnt.of cs_b_c)) K | false => False) | false => False) | false => False) | false => False) | false => False) | false => False) | _ => False⟩
theorem uStore12_ok : uStore12_con.ok noW Tryz.prog 91 := by
  intro a K h
  simp only [uStore12_con] at h
  split at h
  case h_2 => exact h.elim
  split at h
  case h_2 => exact h.elim
  rename_i is_b_k
  split at h
  case h_2 => exact h.elim
  rename_i is_b_w
  split at h
  case h_2 => exact h.elim
  rename_i is_b_t
  split at h
  case h_2 => exact h.elim
  rename_i is_b_r
  split at h
  case h_2 => exact h.elim
  rename_i is_b_l
  split at h
  case h_2 => exact h.elim
  rename_i is_b_c
  exact CallSem.objs (uStore12_sem _ _ K h) (fun _ _ _ h => h) ⟨WkO.same (fun cs h => by cases h), WkO.same (fun cs h => by cases h), WkO.cells (Mo.Cl.is_ok is_b_k), WkO.same (fun cs h => by cases h), WkO.cells (Mo.Wd.is_ok is_b_w), WkO.cells (Mo.Rs.is_ok is_b_r), WkO.cells (Mo.Rt.is_ok is_b_t), WkO.cells (Mo.Ln.is_ok is_b_l), WkO.same (fun cs h => by cases h), WkO.cells (Mo.Cnt.is_ok is_b_c), trivial⟩
noncomputable def Mo.uStore16_v1 (v : Int) (b : Mo.Bd) : Mo.Bd := (Mo.Bd.mk (Mo.Bd.k b) (Mo.Bd.w b) (Mo.tStore16_v1 v (Mo.Bd.t b)) (Mo.Bd.r b) (Mo.Bd.l b) (Mo.Bd.c b))
noncomputable def uStore16_tree (v : Int) (b : Mo.Bd) (K : S → List Ob → Prop) : Prop := (True ∧ K (.il .i64 0) (h_U1 (Mo.Bd.mk (Mo.Bd.k b) (Mo.Bd.w b) (Mo.tStore16_v1 v (Mo.Bd.t b)) (Mo.Bd.r b) (Mo.Bd.l b) (Mo.Bd.c b))))
theorem uStore16_run (v : Int) (b : Mo.Bd) (K : S → List Ob → Prop) : callL (std noW) tt ffArC stopArC noL 100 91 [.ptr 0 (.l 0), .il .u32 268697616, .iv .u32 v] (h_U1 b) (gcK 10 (ivK false K)) = uStore16_tree v b K := by kernel_rfl
noncomputable def uStore16_T (v : Int) (b : Mo.Bd) (K : S → List Ob → Prop) : Prop := True ∧ K (.il .i64 0) (h_U1 (Mo.uStore16_v1 v b))
theorem uStore16_all (v : Int) (b : Mo.Bd) (K : S → List Ob → Prop) (h : uStore16_T v b K) : uStore16_tree v b K := by
  unfold uStore16_T at h; obtain ⟨h0, h⟩ := h; unfold uStore16_tree
  try simp only [Mo.uStore16_v1] at h0 h
  refine ⟨?_, ?_⟩
  trivial
  first | exact h | contradiction | (simp only [if_true, if_false, Bool.false_eq_true] at h; exact h)
theorem uStore16_sem (v : Int) (b : Mo.Bd) (K : S → List Ob → Prop) (h : uStore16_T v b K) : CallSem noW Tryz.prog 91 [.ptr 0 (.l 0), .il .u32 268697616, .iv .u32 v] (h_U1 b) K := iv_call (callL_ok tok (by kernel_rfl) ffArCok stopArC_ok _ _ _ _ (Eq.mpr (uStore16_run v b K) (uStore16_all v b K h)))
noncomputable def uStore16_con : Con := ⟨[.ptr 0, .same (.il .u32 268697616), .int .u32], t_U1, fun a K => match a with | ⟨[v], [], [], [cs_b_k, cs_b_w, cs_b_r, cs_b_t, cs_b_l, cs_b_c]⟩ => (match Mo.Cl.is cs_b_k with | true => (match Mo.Wd.is cs_b_w with | true => (match Mo.Rt.is cs_b_t with | true => (match Mo.Rs.is cs_b_r with | true => (match Mo.Ln.is cs_b_l with | true => (match Mo.Cnt.is cs_b_c with | true => uStore16_T v (Mo.Bd.mk (Mo.Cl.of cs_b_k) (Mo.Wd.of cs_b_w) (Mo.Rt.of cs_b_t) (Mo.Rs.of cs_b_r) (Mo.Ln.of cs_b_l) (Mo.Cnt.of cs_b_c)) K | false => False) | false => False) | false => False) | false => False) | false => False) | false => False) | _ => False⟩
theorem uStore16_ok : uStore16_con.ok noW Tryz.prog 91 := by
  intro a K h
  simp only [uStore16_con] at h
  split at h
  case h_2 => exact h.elim
  split at h
  case h_2 => exact h.elim
  rename_i is_b_k
  split at h
  case h_2 => exact h.elim
  rename_i is_b_w
  split at h
  case h_2 => exact h.elim
  rename_i is_b_t
  split at h
  case h_2 => exact h.elim
  rename_i is_b_r
  split at h
  case h_2 => exact h.elim
  rename_i is_b_l
  split at h
  case h_2 => exact h.elim
  rename_i is_b_c
  exact CallSem.objs (uStore16_sem _ _ K h) (fun _ _ _ h => h) ⟨WkO.same (fun cs h => by cases h), WkO.same (fun cs h => by cases h), WkO.cells (Mo.Cl.is_ok is_b_k), WkO.same (fun cs h => by cases h), WkO.cells (Mo.Wd.is_ok is_b_w), WkO.cells (Mo.Rs.is_ok is_b_r), WkO.cells (Mo.Rt.is_ok is_b_t), WkO.cells (Mo.Ln.is_ok is_b_l), WkO.same (fun cs h => by cases h), WkO.cells (Mo.Cnt.is_ok is_b_c), trivial⟩
noncomputable def Mo.uStore20_v1 (v : Int) (b : Mo.Bd) : Mo.Bd := (Mo.Bd.mk (Mo.Bd.k b) (Mo.Bd.w b) (Mo.tStore20_v1 v (Mo.Bd.t b)) (Mo.Bd.r b) (Mo.Bd.l b) (Mo.Bd.c b))
noncomputable def uStore20_tree (v : Int) (b : Mo.Bd) (K : S → List Ob → Prop) : Prop := (True ∧ K (.il .i64 0) (h_U1 (Mo.Bd.mk (Mo.Bd.k b) (Mo.Bd.w b) (Mo.tStore20_v1 v (Mo.Bd.t b)) (Mo.Bd.r b) (Mo.Bd.l b) (Mo.Bd.c b))))
theorem uStore20_run (v : Int) (b : Mo.Bd) (K : S → List Ob → Prop) : callL (std noW) tt ffArC stopArC noL 100 91 [.ptr 0 (.l 0), .il .u32 268697620, .iv .u32 v] (h_U1 b) (gcK 10 (ivK false K)) = uStore20_tree v b K := by kernel_rfl
noncomputable def uStore20_T (v : Int) (b : Mo.Bd) (K : S → List Ob → Prop) : Prop := True ∧ K (.il .i64 0) (h_U1 (Mo.uStore20_v1 v b))
theorem uStore20_all (v : Int) (b : Mo.Bd) (K : S → List Ob → Prop) (h : uStore20_T v b K) : uStore20_tree v b K := by
  unfold uStore20_T at h; obtain ⟨h0, h⟩ := h; unfold uStore20_tree
  try simp only [Mo.uStore20_v1] at h0 h
  refine ⟨?_, ?_⟩
  trivial
  first | exact h | contradiction | (simp only [if_true, if_false, Bool.false_eq_true] at h; exact h)
theorem uStore20_sem (v : Int) (b : Mo.Bd) (K : S → List Ob → Prop) (h : uStore20_T v b K) : CallSem noW Tryz.prog 91 [.ptr 0 (.l 0), .il .u32 268697620, .iv .u32 v] (h_U1 b) K := iv_call (callL_ok tok (by kernel_rfl) ffArCok stopArC_ok _ _ _ _ (Eq.mpr (uStore20_run v b K) (uStore20_all v b K h)))
noncomputable def uStore20_con : Con := ⟨[.ptr 0, .same (.il .u32 268697620), .int .u32], t_U1, fun a K => match a with | ⟨[v], [], [], [cs_b_k, cs_b_w, cs_b_r, cs_b_t, cs_b_l, cs_b_c]⟩ => (match Mo.Cl.is cs_b_k with | true => (match Mo.Wd.is cs_b_w with | true => (match Mo.Rt.is cs_b_t with | true => (match Mo.Rs.is cs_b_r with | true => (match Mo.Ln.is cs_b_l with | true => (match Mo.Cnt.is cs_b_c with | true => uStore20_T v (Mo.Bd.mk (Mo.Cl.of cs_b_k) (Mo.Wd.of cs_b_w) (Mo.Rt.of cs_b_t) (Mo.Rs.of cs_b_r) (Mo.Ln.of cs_b_l) (Mo.Cnt.of cs_b_c)) K | false => False) | false => False) | false => False) | false => False) | false => False) | false => False) | _ => False⟩
theorem uStore20_ok : uStore20_con.ok noW Tryz.prog 91 := by
  intro a K h
  simp only [uStore20_con] at h
  split at h
  case h_2 => exact h.elim
  split at h
  case h_2 => exact h.elim
  rename_i is_b_k
  split at h
  case h_2 => exact h.elim
  rename_i is_b_w
  split at h
  case h_2 => exact h.elim
  rename_i is_b_t
  split at h
  case h_2 => exact h.elim
  rename_i is_b_r
  split at h
  case h_2 => exact h.elim
  rename_i is_b_l
  split at h
  case h_2 => exact h.elim
  rename_i is_b_c
  exact CallSem.objs (uStore20_sem _ _ K h) (fun _ _ _ h => h) ⟨WkO.same (fun cs h => by cases h), WkO.same (fun cs h => by cases h), WkO.cells (Mo.Cl.is_ok is_b_k), WkO.same (fun cs h => by cases h), WkO.cells (Mo.Wd.is_ok is_b_w), WkO.cells (Mo.Rs.is_ok is_b_r), WkO.cells (Mo.Rt.is_ok is_b_t), WkO.cells (Mo.Ln.is_ok is_b_l), WkO.same (fun cs h => by cases h), WkO.cells (Mo.Cnt.is_ok is_b_c), trivial⟩
noncomputable def Mo.uStore24_v1 (v : Int) (b : Mo.Bd) : Mo.Bd := (Mo.Bd.mk (Mo.Bd.k b) (Mo.Bd.w b) (Mo.tStore24_v1 v (Mo.Bd.t b)) (Mo.Bd.r b) (Mo.Bd.l b) (Mo.Bd.c b))
noncomputable def uStore24_tree (v : Int) (b : Mo.Bd) (K : S → List Ob → Prop) : Prop := (True ∧ K (.il .i64 0) (h_U1 (Mo.Bd.mk (Mo.Bd.k b) (Mo.Bd.w b) (Mo.tStore24_v1 v (Mo.Bd.t b)) (Mo.Bd.r b) (Mo.Bd.l b) (Mo.Bd.c b))))
theorem uStore24_run (v : Int) (b : Mo.Bd) (K : S → List Ob → Prop) : callL (std noW) tt ffArC stopArC noL 100 91 [.ptr 0 (.l 0), .il .u32 268697624, .iv .u32 v] (h_U1 b) (gcK 10 (ivK false K)) = uStore24_tree v b K := by kernel_rfl
noncomputable def uStore24_T (v : Int) (b : Mo.Bd) (K : S → List Ob → Prop) : Prop := True ∧ K (.il .i64 0) (h_U1 (Mo.uStore24_v1 v b))
theorem uStore24_all (v : Int) (b : Mo.Bd) (K : S → List Ob → Prop) (h : uStore24_T v b K) : uStore24_tree v b K := by
  unfold uStore24_T at h; obtain ⟨h0, h⟩ := h; unfold uStore24_tree
  try simp only [Mo.uStore24_v1] at h0 h
  refine ⟨?_, ?_⟩
  trivial
  first | exact h | contradiction | (simp only [if_true, if_false, Bool.false_eq_true] at h; exact h)
theorem uStore24_sem (v : Int) (b : Mo.Bd) (K : S → List Ob → Prop) (h : uStore24_T v b K) : CallSem noW Tryz.prog 91 [.ptr 0 (.l 0), .il .u32 268697624, .iv .u32 v] (h_U1 b) K := iv_call (callL_ok tok (by kernel_rfl) ffArCok stopArC_ok _ _ _ _ (Eq.mpr (uStore24_run v b K) (uStore24_all v b K h)))
noncomputable def uStore24_con : Con := ⟨[.ptr 0, .same (.il .u32 268697624), .int .u32], t_U1, fun a K => match a with | ⟨[v], [], [], [cs_b_k, cs_b_w, cs_b_r, cs_b_t, cs_b_l, cs_b_c]⟩ => (match Mo.Cl.is cs_b_k with | true => (match Mo.Wd.is cs_b_w with | true => (match Mo.Rt.is cs_b_t with | true => (match Mo.Rs.is cs_b_r with | true => (match Mo.Ln.is cs_b_l with | true => (match Mo.Cnt.is cs_b_c with | true => uStore24_T v (Mo.Bd.mk (Mo.Cl.of cs_b_k) (Mo.Wd.of cs_b_w) (Mo.Rt.of cs_b_t) (Mo.Rs.of cs_b_r) (Mo.Ln.of cs_b_l) (Mo.Cnt.of cs_b_c)) K | false => False) | false => False) | false => False) | false => False) | false => False) | false => False) | _ => False⟩
theorem uStore24_ok : uStore24_con.ok noW Tryz.prog 91 := by
  intro a K h
  simp only [uStore24_con] at h
  split at h
  case h_2 => exact h.elim
  split at h
  case h_2 => exact h.elim
  rename_i is_b_k
  split at h
  case h_2 => exact h.elim
  rename_i is_b_w
  split at h
  case h_2 => exact h.elim
  rename_i is_b_t
  split at h
  case h_2 => exact h.elim
  rename_i is_b_r
  split at h
  case h_2 => exact h.elim
  rename_i is_b_l
  split at h
  case h_2 => exact h.elim
  rename_i is_b_c
  exact CallSem.objs (uStore24_sem _ _ K h) (fun _ _ _ h => h) ⟨WkO.same (fun cs h => by cases h), WkO.same (fun cs h => by cases h), WkO.cells (Mo.Cl.is_ok is_b_k), WkO.same (fun cs h => by cases h), WkO.cells (Mo.Wd.is_ok is_b_w), WkO.cells (Mo.Rs.is_ok is_b_r), WkO.cells (Mo.Rt.is_ok is_b_t), WkO.cells (Mo.Ln.is_ok is_b_l), WkO.same (fun cs h => by cases h), WkO.cells (Mo.Cnt.is_ok is_b_c), trivial⟩
noncomputable def Mo.uStore28_v1 (v : Int) (b : Mo.Bd) : Mo.Bd := (Mo.Bd.mk (Mo.Bd.k b) (Mo.Bd.w b) (Mo.tStore28_v1 v (Mo.Bd.t b)) (Mo.Bd.r b) (Mo.Bd.l b) (Mo.Bd.c b))
noncomputable def uStore28_tree (v : Int) (b : Mo.Bd) (K : S → List Ob → Prop) : Prop := (True ∧ K (.il .i64 0) (h_U1 (Mo.Bd.mk (Mo.Bd.k b) (Mo.Bd.w b) (Mo.tStore28_v1 v (Mo.Bd.t b)) (Mo.Bd.r b) (Mo.Bd.l b) (Mo.Bd.c b))))
theorem uStore28_run (v : Int) (b : Mo.Bd) (K : S → List Ob → Prop) : callL (std noW) tt ffArC stopArC noL 100 91 [.ptr 0 (.l 0), .il .u32 268697628, .iv .u32 v] (h_U1 b) (gcK 10 (ivK false K)) = uStore28_tree v b K := by kernel_rfl
noncomputable def uStore28_T (v : Int) (b : Mo.Bd) (K : S → List Ob → Prop) : Prop := True ∧ K (.il .i64 0) (h_U1 (Mo.uStore28_v1 v b))
theorem uStore28_all (v : Int) (b : Mo.Bd) (K : S → List Ob → Prop) (h : uStore28_T v b K) : uStore28_tree v b K := by
  unfold uStore28_T at h; obtain ⟨h0, h⟩ := h; unfold uStore28_tree
  try simp only [Mo.uStore28_v1] at h0 h
  refine ⟨?_, ?_⟩
  trivial
  first | exact h | contradiction | (simp only [if_true, if_false, Bool.false_eq_true] at h; exact h)
theorem uStore28_sem (v : Int) (b : Mo.Bd) (K : S → List Ob → Prop) (h : uStore28_T v b K) : CallSem noW Tryz.prog 91 [.ptr 0 (.l 0), .il .u32 268697628, .iv .u32 v] (h_U1 b) K := iv_call (callL_ok tok (by kernel_rfl) ffArCok stopArC_ok _ _ _ _ (Eq.mpr (uStore28_run v b K) (uStore28_all v b K h)))
noncomputable def uStore28_con : Con := ⟨[.ptr 0, .same (.il .u32 268697628), .int .u32], t_U1, fun a K => match a with | ⟨[v], [], [], [cs_b_k, cs_b_w, cs_b_r, cs_b_t, cs_b_l, cs_b_c]⟩ => (match Mo.Cl.is cs_b_k with | true => (match Mo.Wd.is cs_b_w with | true => (match Mo.Rt.is cs_b_t with | true => (match Mo.Rs.is cs_b_r with | true => (match Mo.Ln.is cs_b_l with | true => (match Mo.Cnt.is cs_b_c with | true => uStore28_T v (Mo.Bd.mk (Mo.Cl.of cs_b_k) (Mo.Wd.of cs_b_w) (Mo.Rt.of cs_b_t) (Mo.Rs.of cs_b_r) (Mo.Ln.of cs_b_l) (Mo.Cnt.of cs_b_c)) K | false => False) | false => False) | false => False) | false => False) | false => False) | false => False) | _ => False⟩
theorem uStore28_ok : uStore28_con.ok noW Tryz.prog 91 := by
  intro a K h
  simp only [uStore28_con] at h
  split at h
  case h_2 => exact h.elim
  split at h
  case h_2 => exact h.elim
  rename_i is_b_k
  split at h
  case h_2 => exact h.elim
  rename_i is_b_w
  split at h
  case h_2 => exact h.elim
  rename_i is_b_t
  split at h
  case h_2 => exact h.elim
  rename_i is_b_r
  split at h
  case h_2 => exact h.elim
  rename_i is_b_l
  split at h
  case h_2 => exact h.elim
  rename_i is_b_c
  exact CallSem.objs (uStore28_sem _ _ K h) (fun _ _ _ h => h) ⟨WkO.same (fun cs h => by cases h), WkO.same (fun cs h => by cases h), WkO.cells (Mo.Cl.is_ok is_b_k), WkO.same (fun cs h => by cases h), WkO.cells (Mo.Wd.is_ok is_b_w), WkO.cells (Mo.Rs.is_ok is_b_r), WkO.cells (Mo.Rt.is_ok is_b_t), WkO.cells (Mo.Ln.is_ok is_b_l), WkO.same (fun cs h => by cases h), WkO.cells (Mo.Cnt.is_ok is_b_c), trivial⟩
noncomputable def uLoad0_tree (b : Mo.Bd) (K : S → List Ob → Prop) : Prop := (True ∧ K (.tup [(.iv .u32 (cvw (Mo.Rt.sec (Mo.Bd.t b)) 0)), (.il .i64 0)]) (h_U1 b))
theorem uLoad0_run (b : Mo.Bd) (K : S → List Ob → Prop) : callL (std noW) tt ffArC stopArC noL 100 129 [.ptr 0 (.l 0), .il .u32 268697600] (h_U1 b) (gcK 10 (ivK false K)) = uLoad0_tree b K := by kernel_rfl
noncomputable def uLoad0_T (b : Mo.Bd) (K : S → List Ob → Prop) : Prop := True ∧ K (.tup [(.iv .u32 (cvw (Mo.Rt.sec (Mo.Bd.t b)) 0)), (.il .i64 0)]) (h_U1 b)
theorem uLoad0_all (b : Mo.Bd) (K : S → List Ob → Prop) (h : uLoad0_T b K) : uLoad0_tree b K := by
  unfold uLoad0_T at h; obtain ⟨h0, h⟩ := h; unfold uLoad0_tree
  refine ⟨?_, ?_⟩
  trivial
  first | exact h | contradiction | (simp only [if_true, if_false, Bool.false_eq_true] at h; exact h)
theorem uLoad0_sem (b : Mo.Bd) (K : S → List Ob → Prop) (h : uLoad0_T b K) : CallSem noW Tryz.prog 129 [.ptr 0 (.l 0), .il .u32 268697600] (h_U1 b) K := iv_call (callL_ok tok (by kernel_rfl) ffArCok stopArC_ok _ _ _ _ (Eq.mpr (uLoad0_run b K) (uLoad0_all b K h)))
noncomputable def uLoad0_con : Con := ⟨[.ptr 0, .same (.il .u32 268697600)], t_U1, fun a K => match a with | ⟨[], [], [], [cs_b_k, cs_b_w, cs_b_r, cs_b_t, cs_b_l, cs_b_c]⟩ => (match Mo.Cl.is cs_b_k with | true => (match Mo.Wd.is cs_b_w with | true => (match Mo.Rt.is cs_b_t with | true => (match Mo.Rs.is cs_b_r with | true => (match Mo.Ln.is cs_b_l with | true => (match Mo.Cnt.is cs_b_c with | true => uLoad0_T (Mo.Bd.mk (Mo.Cl.of cs_b_k) (Mo.Wd.of cs_b_w) (Mo.Rt.of cs_b_t) (Mo.Rs.of cs_b_r) (Mo.Ln.of cs_b_l) (Mo.Cnt.of cs_b_c)) K | false => False) | false => False) | false => False) | false => False) | false => False) | false => False) | _ => False⟩
theorem uLoad0_ok : uLoad0_con.ok noW Tryz.prog 129 := by
  intro a K h
  simp only [uLoad0_con] at h
  split at h
  case h_2 => exact h.elim
  split at h
  case h_2 => exact h.elim
  rename_i is_b_k
  split at h
  case h_2 => exact h.elim
  rename_i is_b_w
  split at h
  case h_2 => exact h.elim
  rename_i is_b_t
  split at h
  case h_2 => exact h.elim
  rename_i is_b_r
  split at h
  case h_2 => exact h.elim
  rename_i is_b_l
  split at h
  case h_2 => exact h.elim
  rename_i is_b_c
  exact CallSem.objs (uLoad0_sem _ K h) (fun _ _ _ h => h) ⟨WkO.same (fun cs h => by cases h), WkO.same (fun cs h => by cases h), WkO.cells (Mo.Cl.is_ok is_b_k), WkO.same (fun cs h => by cases h), WkO.cells (Mo.Wd.is_ok is_b_w), WkO.cells (Mo.Rs.is_ok is_b_r), WkO.cells (Mo.Rt.is_ok is_b_t), WkO.cells (Mo.Ln.is_ok is_b_l), WkO.same (fun cs h => by cases h), WkO.cells (Mo.Cnt.is_ok is_b_c), trivial⟩
noncomputable def uLoad4_tree (b : Mo.Bd) (K : S → List Ob → Prop) : Prop := (True ∧ K (.tup [(.iv .u32 (cvw (srq (Mo.Rt.sec (Mo.Bd.t b)) 32) 0)), (.il .i64 0)]) (h_U1 b))
theorem uLoad4_run (b : Mo.Bd) (K : S → List Ob → Prop) : callL (std noW) tt ffArC stopArC noL 100 129 [.ptr 0 (.l 0), .il .u32 268697604] (h_U1 b) (gcK 10 (ivK false K)) = uLoad4_tree b K := by kernel_rfl
noncomputable def uLoad4_T (b : Mo.Bd) (K : S → List Ob → Prop) : Prop := True ∧ K (.tup [(.iv .u32 (cvw (srq (Mo.Rt.sec (Mo.Bd.t b)) 32) 0)), (.il .i64 0)]) (h_U1 b)
theorem uLoad4_all (b : Mo.Bd) (K : S → List Ob → Prop) (h : uLoad4_T b K) : uLoad4_tree b K := by
  unfold uLoad4_T at h; obtain ⟨h0, h⟩ := h; unfold uLoad4_tree
  refine ⟨?_, ?_⟩
  trivial
  first | exact h | contradiction | (simp only [if_true, if_false, Bool.false_eq_true] at h; exact h)
theorem uLoad4_sem (b : Mo.Bd) (K : S → List Ob → Prop) (h : uLoad4_T b K) : CallSem noW Tryz.prog 129 [.ptr 0 (.l 0), .il .u32 268697604] (h_U1 b) K := iv_call (callL_ok tok (by kernel_rfl) ffArCok stopArC_ok _ _ _ _ (Eq.mpr (uLoad4_run b K) (uLoad4_all b K h)))
noncomputable def uLoad4_con : Con := ⟨[.ptr 0, .same (.il .u32 268697604)], t_U1, fun a K => match a with | ⟨[], [], [], [cs_b_k, cs_b_w, cs_b_r, cs_b_t, cs_b_l, cs_b_c]⟩ => (match Mo.Cl.is cs_b_k with | true => (match Mo.Wd.is cs_b_w with | true => (match Mo.Rt.is cs_b_t with | true => (match Mo.Rs.is cs_b_r with | true => (match Mo.Ln.is cs_b_l with | true => (match Mo.Cnt.is cs_b_c with | true => uLoad4_T (Mo.Bd.mk (Mo.Cl.of cs_b_k) (Mo.Wd.of cs_b_w) (Mo.Rt.of cs_b_t) (Mo.Rs.of cs_b_r) (Mo.Ln.of cs_b_l) (Mo.Cnt.of cs_b_c)) K | false => False) | false => False) | false => False) | false => False) | false => False) | false => False) | _ => False⟩
theorem uLoad4_ok : uLoad4_con.ok noW Tryz.prog 129 := by
  intro a K h
  simp only [uLoad4_con] at h
  split at h
  case h_2 => exact h.elim
  split at h
  case h_2 => exact h.elim
  rename_i is_b_k
  split at h
  case h_2 => exact h.elim
  rename_i is_b_w
  split at h
  case h_2 => exact h.elim
  rename_i is_b_t
  split at h
  case h_2 => exact h.elim
  rename_i is_b_r
  split at h
  case h_2 => exact h.elim
  rename_i is_b_l
  split at h
  case h_2 => exact h.elim
  rename_i is_b_c
  exact CallSem.objs (uLoad4_sem _ K h) (fun _ _ _ h => h) ⟨WkO.same (fun cs h => by cases h), WkO.same (fun cs h => by cases h), WkO.cells (Mo.Cl.is_ok is_b_k), WkO.same (fun cs h => by cases h), WkO.cells (Mo.Wd.is_ok is_b_w), WkO.cells (Mo.Rs.is_ok is_b_r), WkO.cells (Mo.Rt.is_ok is_b_t), WkO.cells (Mo.Ln.is_ok is_b_l), WkO.same (fun cs h => by cases h), WkO.cells (Mo.Cnt.is_ok is_b_c), trivial⟩
noncomputable def uLoad28_tree (b : Mo.Bd) (K : S → List Ob → Prop) : Prop := (True ∧ K (.tup [(.iv .u32 (Mo.tLoad28_v1 (Mo.Bd.t b))), (.il .i64 0)]) (h_U1 b))
theorem uLoad28_run (b : Mo.Bd) (K : S → List Ob → Prop) : callL (std noW) tt ffArC stopArC noL 100 129 [.ptr 0 (.l 0), .il .u32 268697628] (h_U1 b) (gcK 10 (ivK false K)) = uLoad28_tree b K := by kernel_rfl
noncomputable def uLoad28_T (b : Mo.Bd) (K : S → List Ob → Prop) : Prop := True ∧ K (.tup [(.iv .u32 (Mo.tLoad28_v1 (Mo.Bd.t b))), (.il .i64 0)]) (h_U1 b)
theorem uLoad28_all (b : Mo.Bd) (K : S → List Ob → Prop) (h : uLoad28_T b K) : uLoad28_tree b K := by
  unfold uLoad28_T at h; obtain ⟨h0, h⟩ := h; unfold uLoad28_tree
  refine ⟨?_, ?_⟩
  trivial
  first | exact h | contradiction | (simp only [if_true, if_false, Bool.false_eq_true] at h; exact h)
theorem uLoad28_sem (b : Mo.Bd) (K : S → List Ob → Prop) (h : uLoad28_T b K) : CallSem noW Tryz.prog 129 [.ptr 0 (.l 0), .il .u32 268697628] (h_U1 b) K := iv_call (callL_ok tok (by kernel_rfl) ffArCok stopArC_ok _ _ _ _ (Eq.mpr (uLoad28_run b K) (uLoad28_all b K h)))
noncomputable def uLoad28_con : Con := ⟨[.ptr 0, .same (.il .u32 268697628)], t_U1, fun a K => match a with | ⟨[], [], [], [cs_b_k, cs_b_w, cs_b_r, cs_b_t, cs_b_l, cs_b_c]⟩ => (match Mo.Cl.is cs_b_k with | true => (match Mo.Wd.is cs_b_w with | true => (match Mo.Rt.is cs_b_t with | true => (match Mo.Rs.is cs_b_r with | true => (match Mo.Ln.is cs_b_l with | true => (match Mo.Cnt.is cs_b_c with | true => uLoad28_T (Mo.Bd.mk (Mo.Cl.of cs_b_k) (Mo.Wd.of cs_b_w) (Mo.Rt.of cs_b_t) (Mo.Rs.of cs_b_r) (Mo.Ln.of cs_b_l) (Mo.Cnt.of cs_b_c)) K | false => False) | false => False) | false => False) | false => False) | false => False) | false => False) | _ => False⟩
theorem uLoad28_ok : uLoad28_con.ok noW Tryz.prog 129 := by
  intro a K h
  simp only [uLoad28_con] at h
  split at h
  case h_2 => exact h.elim
  split at h
  case h_2 => exact h.elim
  rename_i is_b_k
  split at h
  case h_2 => exact h.elim
  rename_i is_b_w
  split at h
  case h_2 => exact h.elim
  rename_i is_b_t
  split at h
  case h_2 => exact h.elim
  rename_i is_b_r
  split at h
  case h_2 => exact h.elim
  rename_i is_b_l
  split at h
  case h_2 => exact h.elim
  rename_i is_b_c
  exact CallSem.objs (uLoad28_sem _ K h) (fun _ _ _ h => h) ⟨WkO.same (fun cs h => by cases h), WkO.same (fun cs h => by cases h), WkO.cells (Mo.Cl.is_ok is_b_k), WkO.same (fun cs h => by cases h), WkO.cells (Mo.Wd.is_ok is_b_w), WkO.cells (Mo.Rs.is_ok is_b_r), WkO.cells (Mo.Rt.is_ok is_b_t), WkO.cells (Mo.Ln.is_ok is_b_l), WkO.same (fun cs h => by cases h), WkO.cells (Mo.Cnt.is_ok is_b_c), trivial⟩
noncomputable def Mo.dWire_v1 (b : Mo.Bd) : Mo.Bd := (if ((Mo.kLine_v1 0 (Mo.Bd.k b)) = true) then (if ((Mo.kSoft_v1 0 (Mo.Bd.k b)) = true) then (if ((Mo.Rt.raised (Mo.Bd.t b)) = true) then (Mo.Bd.mk (Mo.Bd.k b) (Mo.Bd.w b) (Mo.Bd.t b) (Mo.Bd.r b) (Mo.lAll_v1 (Mo.bPut1_v1 (Mo.bPut1_v1 (Mo.bPut1_v1 (slw (Mo.nLines_v1 (Mo.Bd.c b)) 8) 0) 24) 16) (Mo.Bd.l b)) (Mo.Bd.c b)) else (Mo.Bd.mk (Mo.Bd.k b) (Mo.Bd.w b) (Mo.Bd.t b) (Mo.Bd.r b) (Mo.lAll_v1 (Mo.bPut1_v1 (Mo.bPut1_v1 (slw (Mo.nLines_v1 (Mo.Bd.c b)) 8) 0) 24) (Mo.Bd.l b)) (Mo.Bd.c b))) else (if ((Mo.Rt.raised (Mo.Bd.t b)) = true) then (Mo.Bd.mk (Mo.Bd.k b) (Mo.Bd.w b) (Mo.Bd.t b) (Mo.Bd.r b) (Mo.lAll_v1 (Mo.bPut1_v1 (Mo.bPut1_v1 (slw (Mo.nLines_v1 (Mo.Bd.c b)) 8) 0) 16) (Mo.Bd.l b)) (Mo.Bd.c b)) else (Mo.Bd.mk (Mo.Bd.k b) (Mo.Bd.w b) (Mo.Bd.t b) (Mo.Bd.r b) (Mo.lAll_v1 (Mo.bPut1_v1 (slw (Mo.nLines_v1 (Mo.Bd.c b)) 8) 0) (Mo.Bd.l b)) (Mo.Bd.c b)))) else (if ((Mo.kSoft_v1 0 (Mo.Bd.k b)) = true) then (if ((Mo.Rt.raised (Mo.Bd.t b)) = true) then (Mo.Bd.mk (Mo.Bd.k b) (Mo.Bd.w b) (Mo.Bd.t b) (Mo.Bd.r b) (Mo.lAll_v1 (Mo.bPut1_v1 (Mo.bPut1_v1 (slw (Mo.nLines_v1 (Mo.Bd.c b)) 8) 24) 16) (Mo.Bd.l b)) (Mo.Bd.c b)) else (Mo.Bd.mk (Mo.Bd.k b) (Mo.Bd.w b) (Mo.Bd.t b) (Mo.Bd.r b) (Mo.lAll_v1 (Mo.bPut1_v1 (slw (Mo.nLines_v1 (Mo.Bd.c b)) 8) 24) (Mo.Bd.l b)) (Mo.Bd.c b))) else (if ((Mo.Rt.raised (Mo.Bd.t b)) = true) then (Mo.Bd.mk (Mo.Bd.k b) (Mo.Bd.w b) (Mo.Bd.t b) (Mo.Bd.r b) (Mo.lAll_v1 (Mo.bPut1_v1 (slw (Mo.nLines_v1 (Mo.Bd.c b)) 8) 16) (Mo.Bd.l b)) (Mo.Bd.c b)) else (Mo.Bd.mk (Mo.Bd.k b) (Mo.Bd.w b) (Mo.Bd.t b) (Mo.Bd.r b) (Mo.lAll_v1 (slw (Mo.nLines_v1 (Mo.Bd.c b)) 8) (Mo.Bd.l b)) (Mo.Bd.c b)))))
noncomputable def Mo.dWire_pre (b : Mo.Bd) : Prop := ((Mo.nLines_pre (Mo.Bd.c b)) ∧ ((Mo.kLine_pre 0 (Mo.Bd.k b)) ∧ (if ((Mo.kLine_v1 0 (Mo.Bd.k b)) = true) then ((Mo.bPut1_pre 0) ∧ ((Mo.kSoft_pre 0 (Mo.Bd.k b)) ∧ (if ((Mo.kSoft_v1 0 (Mo.Bd.k b)) = true) then ((Mo.bPut1_pre 24) ∧ (if ((Mo.Rt.raised (Mo.Bd.t b)) = true) then (Mo.bPut1_pre 16) else True)) else (if ((Mo.Rt.raised (Mo.Bd.t b)) = true) then (Mo.bPut1_pre 16) else True)))) else ((Mo.kSoft_pre 0 (Mo.Bd.k b)) ∧ (if ((Mo.kSoft_v1 0 (Mo.Bd.k b)) = true) then ((Mo.bPut1_pre 24) ∧ (if ((Mo.Rt.raised (Mo.Bd.t b)) = true) then (Mo.bPut1_pre 16) else True)) else (if ((Mo.Rt.raised (Mo.Bd.t b)) = true) then (Mo.bPut1_pre 16) else True))))))
noncomputable def dWire_tree (dv : Int) (b : Mo.Bd) (K : S → List Ob → Prop) : Prop := ((Mo.nLines_pre (Mo.Bd.c b)) ∧ ((Mo.kLine_pre 0 (Mo.Bd.k b)) ∧ (if ((Mo.kLine_v1 0 (Mo.Bd.k b)) = true) then ((Mo.bPut1_pre 0) ∧ ((Mo.kSoft_pre 0 (Mo.Bd.k b)) ∧ (if ((Mo.kSoft_v1 0 (Mo.Bd.k b)) = true) then ((Mo.bPut1_pre 24) ∧ (True ∧ (if ((Mo.Rt.raised (Mo.Bd.t b)) = true) then ((Mo.bPut1_pre 16) ∧ (True ∧ K (.tup []) (h_B1n dv (Mo.Bd.mk (Mo.Bd.k b) (Mo.Bd.w b) (Mo.Bd.t b) (Mo.Bd.r b) (Mo.lAll_v1 (Mo.bPut1_v1 (Mo.bPut1_v1 (Mo.bPut1_v1 (slw (Mo.nLines_v1 (Mo.Bd.c b)) 8) 0) 24) 16) (Mo.Bd.l b)) (Mo.Bd.c b))))) else (True ∧ K (.tup []) (h_B1n dv (Mo.Bd.mk (Mo.Bd.k b) (Mo.Bd.w b) (Mo.Bd.t b) (Mo.Bd.r b) (Mo.lAll_v1 (Mo.bPut1_v1 (Mo.bPut1_v1 (slw (Mo.nLines_v1 (Mo.Bd.c b)) 8) 0) 24) (Mo.Bd.l b)) (Mo.Bd.c b))))))) else (True ∧ (if ((Mo.Rt.raised (Mo.Bd.t b)) = true) then ((Mo.bPut1_pre 16) ∧ (True ∧ K (.tup []) (h_B1n dv (Mo.Bd.mk (Mo.Bd.k b) (Mo.Bd.w b) (Mo.Bd.t b) (Mo.Bd.r b) (Mo.lAll_v1 (Mo.bPut1_v1 (Mo.bPut1_v1 (slw (Mo.nLines_v1 (Mo.Bd.c b)) 8) 0) 16) (Mo.Bd.l b)) (Mo.Bd.c b))))) else (True ∧ K (.tup []) (h_B1n dv (Mo.Bd.mk (Mo.Bd.k b) (Mo.Bd.w b) (Mo.Bd.t b) (Mo.Bd.r b) (Mo.lAll_v1 (Mo.bPut1_v1 (slw (Mo.nLines_v1 (Mo.Bd.c b)) 8) 0) (Mo.Bd.l b)) (Mo.Bd.c b))))))))) else ((Mo.kSoft_pre 0 (Mo.Bd.k b)) ∧ (if ((Mo.kSoft_v1 0 (Mo.Bd.k b)) = true) then ((Mo.bPut1_pre 24) ∧ (True ∧ (if ((Mo.Rt.raised (Mo.Bd.t b)) = true) then ((Mo.bPut1_pre 16) ∧ (True ∧ K (.tup []) (h_B1n dv (Mo.Bd.mk (Mo.Bd.k b) (Mo.Bd.w b) (Mo.Bd.t b) (Mo.Bd.r b) (Mo.lAll_v1 (Mo.bPut1_v1 (Mo.bPut1_v1 (slw (Mo.nLines_v1 (Mo.Bd.c b)) 8) 24) 16) (Mo.Bd.l b)) (Mo.Bd.c b))))) else (True ∧ K (.tup []) (h_B1n dv (Mo.Bd.mk (Mo.Bd.k b) (Mo.Bd.w b) (Mo.Bd.t b) (Mo.Bd.r b) (Mo.lAll_v1 (Mo.bPut1_v1 (slw (Mo.nLines_v1 (Mo.Bd.c b)) 8) 24) (Mo.Bd.l b)) (Mo.Bd.c b))))))) else (True ∧ (if ((Mo.Rt.raised (Mo.Bd.t b)) = true) then ((Mo.bPut1_pre 16) ∧ (True ∧ K (.tup []) (h_B1n dv (Mo.Bd.mk (Mo.Bd.k b) (Mo.Bd.w b) (Mo.Bd.t b) (Mo.Bd.r b) (Mo.lAll_v1 (Mo.bPut1_v1 (slw (Mo.nLines_v1 (Mo.Bd.c b)) 8) 16) (Mo.Bd.l b)) (Mo.Bd.c b))))) else (True ∧ K (.tup []) (h_B1n dv (Mo.Bd.mk (Mo.Bd.k b) (Mo.Bd.w b) (Mo.Bd.t b) (Mo.Bd.r b) (Mo.lAll_v1 (slw (Mo.nLines_v1 (Mo.Bd.c b)) 8) (Mo.Bd.l b)) (Mo.Bd.c b)))))))))))
theorem dWire_run (dv : Int) (b : Mo.Bd) (K : S → List Ob → Prop) : callL (std noW) tt ffArC stopArC noL 100 116 [.ptr 0 (.l 0)] (h_B1n dv b) (gcK 11 (ivK false K)) = dWire_tree dv b K := by kernel_rfl
noncomputable def dWire_T (dv : Int) (b : Mo.Bd) (K : S → List Ob → Prop) : Prop := Mo.dWire_pre b ∧ K (.tup []) (h_B1n dv (Mo.dWire_v1 b))
theorem dWire_all (dv : Int) (b : Mo.Bd) (K : S → List Ob → Prop) (h : dWire_T dv b K) : dWire_tree dv b K := by
  unfold dWire_T at h; obtain ⟨h0, h⟩ := h; unfold dWire_tree
  try simp only [Mo.dWire_v1] at h0 h
  try simp only [Mo.dWire_pre] at h0 h
  refine ⟨h0.1, ?_⟩; replace h0 := h0.2
  refine ⟨h0.1, ?_⟩; replace h0 := h0.2
  refine ite_intro (fun c0 => ?_) (fun c0 => ?_)
  try simp only [if_pos c0] at h0 h
  refine ⟨h0.1, ?_⟩; replace h0 := h0.2
  refine ⟨h0.1, ?_⟩; replace h0 := h0.2
  refine ite_intro (fun c1 => ?_) (fun c1 => ?_)
  try simp only [if_pos c1] at h0 h
  refine ⟨h0.1, ?_⟩; replace h0 := h0.2
  refine ⟨?_, ?_⟩
  trivial
  refine ite_intro (fun c2 => ?_) (fun c2 => ?_)
  try simp only [if_pos c2] at h0 h
  refine ⟨h0, ?_⟩
  refine ⟨?_, ?_⟩
  trivial
  first | exact h | contradiction | (simp only [if_true, if_false, Bool.false_eq_true] at h; exact h)
  try simp only [if_neg c2] at h0 h
  refine ⟨?_, ?_⟩
  trivial
  first | exact h | contradiction | (simp only [if_true, if_false, Bool.false_eq_true] at h; exact h)
  try simp only [if_neg c1] at h0 h
  refine ⟨?_, ?_⟩
  trivial
  refine ite_intro (fun c2 => ?_) (fun c2 => ?_)
  try simp only [if_pos c2] at h0 h
  refine ⟨h0, ?_⟩
  refine ⟨?_, ?_⟩
  trivial
  first | exact h | contradiction | (simp only [if_true, if_false, Bool.false_eq_true] at h; exact h)
  try simp only [if_neg c2] at h0 h
  refine ⟨?_, ?_⟩
  trivial
  first | exact h | contradiction | (simp only [if_true, if_false, Bool.false_eq_true] at h; exact h)
  try simp only [if_neg c0] at h0 h
  refine ⟨h0.1, ?_⟩; replace h0 := h0.2
  refine ite_intro (fun c1 => ?_) (fun c1 => ?_)
  try simp only [if_pos c1] at h0 h
  refine ⟨h0.1, ?_⟩; replace h0 := h0.2
  refine ⟨?_, ?_⟩
  trivial
  refine ite_intro (fun c2 => ?_) (fun c2 => ?_)
  try simp only [if_pos c2] at h0 h
  refine ⟨h0, ?_⟩
  refine ⟨?_, ?_⟩
  trivial
  first | exact h | contradiction | (simp only [if_true, if_false, Bool.false_eq_true] at h; exact h)
  try simp only [if_neg c2] at h0 h
  refine ⟨?_, ?_⟩
  trivial
  first | exact h | contradiction | (simp only [if_true, if_false, Bool.false_eq_true] at h; exact h)
  try simp only [if_neg c1] at h0 h
  refine ⟨?_, ?_⟩
  trivial
  refine ite_intro (fun c2 => ?_) (fun c2 => ?_)
  try simp only [if_pos c2] at h0 h
  refine ⟨h0, ?_⟩
  refine ⟨?_, ?_⟩
  trivial
  first | exact h | contradiction | (simp only [if_true, if_false, Bool.false_eq_true] at h; exact h)
  try simp only [if_neg c2] at h0 h
  refine ⟨?_, ?_⟩
  trivial
  first | exact h | contradiction | (simp only [if_true, if_false, Bool.false_eq_true] at h; exact h)
theorem dWire_sem (dv : Int) (b : Mo.Bd) (K : S → List Ob → Prop) (h : dWire_T dv b K) : CallSem noW Tryz.prog 116 [.ptr 0 (.l 0)] (h_B1n dv b) K := iv_call (callL_ok tok (by kernel_rfl) ffArCok stopArC_ok _ _ _ _ (Eq.mpr (dWire_run dv b K) (dWire_all dv b K h)))
noncomputable def dWire_con : Con := ⟨[.ptr 0], t_B1n, fun a K => match a with | ⟨[dv], [], [], [cs_b_k, cs_b_w, cs_b_t, cs_b_r, cs_b_l, cs_b_c]⟩ => (match Mo.Cl.is cs_b_k with | true => (match Mo.Wd.is cs_b_w with | true => (match Mo.Rt.is cs_b_t with | true => (match Mo.Rs.is cs_b_r with | true => (match Mo.Ln.is cs_b_l with | true => (match Mo.Cnt.is cs_b_c with | true => dWire_T dv (Mo.Bd.mk (Mo.Cl.of cs_b_k) (Mo.Wd.of cs_b_w) (Mo.Rt.of cs_b_t) (Mo.Rs.of cs_b_r) (Mo.Ln.of cs_b_l) (Mo.Cnt.of cs_b_c)) K | false => False) | false => False) | false => False) | false => False) | false => False) | false => False) | _ => False⟩
theorem dWire_ok : dWire_con.ok noW Tryz.prog 116 := by
  intro a K h
  simp only [dWire_con] at h
  split at h
  case h_2 => exact h.elim
  split at h
  case h_2 => exact h.elim
  rename_i is_b_k
  split at h
  case h_2 => exact h.elim
  rename_i is_b_w
  split at h
  case h_2 => exact h.elim
  rename_i is_b_t
  split at h
  case h_2 => exact h.elim
  rename_i is_b_r
  split at h
  case h_2 => exact h.elim
  rename_i is_b_l
  split at h
  case h_2 => exact h.elim
  rename_i is_b_c
  exact CallSem.objs (dWire_sem _ _ K h) (fun _ _ _ h => h) ⟨WkO.same (fun cs h => by cases h), WkO.cells (Mo.Cl.is_ok is_b_k), WkO.same (fun cs h => by cases h), WkO.cells (Mo.Wd.is_ok is_b_w), WkO.cells (Mo.Rt.is_ok is_b_t), WkO.cells (Mo.Rs.is_ok is_b_r), WkO.cells (Mo.Ln.is_ok is_b_l), WkO.same (fun cs h => by cases h), WkO.same (fun cs h => by cases h), WkO.same (fun cs h => by cases h), WkO.cells (Mo.Cnt.is_ok is_b_c), trivial⟩
noncomputable def tabArD (n : Nat) : List Con := match Nat.beq n 91 with | true => [uStore8_con, uStore12_con, uStore16_con, uStore20_con, uStore24_con, uStore28_con] | false => match Nat.beq n 129 with | true => [uLoad0_con, uLoad4_con, uLoad28_con] | false => match Nat.beq n 116 with | true => [dWire_con] | false => tabArC n
theorem tabArD_ok : ∀ f, ∀ c ∈ tabArD f, c.ok noW Tryz.prog f := by
  intro f c hc
  unfold tabArD at hc
  split at hc
  · rename_i hf; have := Nat.eq_of_beq_eq_true hf; subst this
    simp only [List.mem_cons, List.not_mem_nil, or_false] at hc
    rcases hc with rfl | rfl | rfl | rfl | rfl | rfl
    · exact uStore8_ok
    · exact uStore12_ok
    · exact uStore16_ok
    · exact uStore20_ok
    · exact uStore24_ok
    · exact uStore28_ok
  split at hc
  · rename_i hf; have := Nat.eq_of_beq_eq_true hf; subst this
    simp only [List.mem_cons, List.not_mem_nil, or_false] at hc
    rcases hc with rfl | rfl | rfl
    · exact uLoad0_ok
    · exact uLoad4_ok
    · exact uLoad28_ok
  split at hc
  · rename_i hf; have := Nat.eq_of_beq_eq_true hf; subst this
    simp only [List.mem_cons, List.not_mem_nil, or_false] at hc
    subst hc; exact dWire_ok
  exact tabArC_ok f c hc
noncomputable def ffArD (n : Nat) : Option FI := match Nat.beq n 91 with | true => none | false => match Nat.beq n 129 with | true => none | false => match Nat.beq n 116 with | true => none | false => ffArC n
theorem ffArDok : FOk Tryz.prog ffArD := fun f fi hf => by
  unfold ffArD at hf
  split at hf
  · cases hf
  split at hf
  · cases hf
  split at hf
  · cases hf
  exact ffArCok f fi hf
noncomputable def stopArD : CallT := stopC tabArD stopB
theorem stopArD_ok : ∀ f args h K, stopArD f args h K → CallSem noW Tryz.prog f args h K := stopC_ok tabArD_ok stopB_ok
end Go.SX.Y
