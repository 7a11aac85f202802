/- What Go functions come to (lifted). -/
import Derived.Test.YtbkegflipglioaaGreatTrC
set_option maxRecDepth 20000
namespace Go.SX.Y
open Go.Proofs Go.RowKit
noncomputable def h_U1 (b : Mo.Bd) : List Ob := [.cells 227 [.mp 1], .mapo [.agg [.il .u32 33554432, .il .u32 49152], .agg [.il .u32 268500992, .il .u32 256], .agg [.il .u32 268566528, .il .u32 20], .agg [.il .u32 268632064, .il .u32 16], .agg [.il .u32 268697600, .il .u32 36], .agg [.il .u32 268763136, .il .u32 12]] [.ifc 107 (.ptr 2 (.l 0)), .ifc 110 (.ptr 3 (.l 0)), .ifc 119 (.ptr 4 (.l 0)), .ifc 125 (.ptr 5 (.l 0)), .ifc 44 (.ptr 6 (.l 0)), .ifc 127 (.ptr 7 (.l 0))], .cells 183 (Mo.Cl.cells (Mo.Bd.k b)), .cells 188 [.sli 8 (.l 0) (.l 2) (.lit (.l 2)) false], .cells 194 (Mo.Wd.cells (Mo.Bd.w b)), .cells 200 (Mo.Rs.cells (Mo.Bd.r b)), .cells 190 (Mo.Rt.cells (Mo.Bd.t b)), .cells 204 (Mo.Ln.cells (Mo.Bd.l b)), .row 185 1 (.l 2) [.ptr 9 (.l 0), .ptr 10 (.l 0)], .cells 246 (Mo.Cnt.cells (Mo.Bd.c0 b)), .cells 246 (Mo.Cnt.cells (Mo.Bd.c1 b))]
def t_U1 : List OTm := [.cells 227 [.mp 1], .mapo [.agg [.same (.il .u32 33554432), .same (.il .u32 49152)], .agg [.same (.il .u32 268500992), .same (.il .u32 256)], .agg [.same (.il .u32 268566528), .same (.il .u32 20)], .agg [.same (.il .u32 268632064), .same (.il .u32 16)], .agg [.same (.il .u32 268697600), .same (.il .u32 36)], .agg [.same (.il .u32 268763136), .same (.il .u32 12)]] [.ifc 107 (.ptr 2), .ifc 110 (.ptr 3), .ifc 119 (.ptr 4), .ifc 125 (.ptr 5), .ifc 44 (.ptr 6), .ifc 127 (.ptr 7)], .cellsV 183, .cells 188 [.same (.sli 8 (.l 0) (.l 2) (.lit (.l 2)) false)], .cellsV 194, .cellsV 200, .cellsV 190, .cellsV 204, .row 185 1 2 [.ptr 9, .ptr 10], .cellsV 246, .cellsV 246]
noncomputable def h_B1n (dv : Int) (b : Mo.Bd) : List Ob := [.cells 131 [.ptr 1 (.l 0), .ptr 2 (.l 0), .ptr 3 (.l 0), .ptr 4 (.l 0), .ptr 5 (.l 0), .ptr 6 (.l 0), .ptr 7 (.l 0), .iv .i64 1, .iv .i64 2, .iv .u32 dv, .raw (.slice none 0 0)], .cells 183 (Mo.Cl.cells (Mo.Bd.k b)), .cells 188 [.sli 8 (.l 0) (.l 2) (.lit (.l 2)) false], .cells 194 (Mo.Wd.cells (Mo.Bd.w b)), .cells 190 (Mo.Rt.cells (Mo.Bd.t b)), .cells 200 (Mo.Rs.cells (Mo.Bd.r b)), .cells 204 (Mo.Ln.cells (Mo.Bd.l b)), .cells 227 [.mp 9], .row 185 1 (.l 2) [.ptr 10 (.l 0), .ptr 11 (.l 0)], .mapo [.agg [.il .u32 33554432, .il .u32 49152], .agg [.il .u32 268500992, .il .u32 256], .agg [.il .u32 268566528, .il .u32 20], .agg [.il .u32 268632064, .il .u32 16], .agg [.il .u32 268697600, .il .u32 36], .agg [.il .u32 268763136, .il .u32 12]] [.ifc 107 (.ptr 1 (.l 0)), .ifc 110 (.ptr 2 (.l 0)), .ifc 119 (.ptr 3 (.l 0)), .ifc 125 (.ptr 5 (.l 0)), .ifc 44 (.ptr 4 (.l 0)), .ifc 127 (.ptr 6 (.l 0))], .cells 246 (Mo.Cnt.cells (Mo.Bd.c0 b)), .cells 246 (Mo.Cnt.cells (Mo.Bd.c1 b))]
def t_B1n : List OTm := [.cells 131 [.ptr 1, .ptr 2, .ptr 3, .ptr 4, .ptr 5, .ptr 6, .ptr 7, .eqI .i64 1, .eqI .i64 2, .int .u32, .same (.raw (.slice none 0 0))], .cellsV 183, .cells 188 [.same (.sli 8 (.l 0) (.l 2) (.lit (.l 2)) false)], .cellsV 194, .cellsV 190, .cellsV 200, .cellsV 204, .cells 227 [.mp 9], .row 185 1 2 [.ptr 10, .ptr 11], .mapo [.agg [.same (.il .u32 33554432), .same (.il .u32 49152)], .agg [.same (.il .u32 268500992), .same (.il .u32 256)], .agg [.same (.il .u32 268566528), .same (.il .u32 20)], .agg [.same (.il .u32 268632064), .same (.il .u32 16)], .agg [.same (.il .u32 268697600), .same (.il .u32 36)], .agg [.same (.il .u32 268763136), .same (.il .u32 12)]] [.ifc 107 (.ptr 1), .ifc 110 (.ptr 2), .ifc 119 (.ptr 3), .ifc 125 (.ptr 5), .ifc 44 (.ptr 4), .ifc 127 (.ptr 6)], .cellsV 246, .cellsV 246]
noncomputable def Mo.uStore0_v1 (v : Int) (b : Mo.Bd) : Mo.Bd := { b with c1 := { (Mo.Bd.c1 b) with ld := v } }
noncomputable def uStore0_tree (v : Int) (b : Mo.Bd) (K : S → List Ob → Prop) : Prop := K (.il .i64 0) (h_U1 { b with c1 := { (Mo.Bd.c1 b) with ld := v } })
theorem uStore0_run (v : Int) (b : Mo.Bd) (K : S → List Ob → Prop) : callX (std noW) tt ffTrC stopTrC (lpB noW Tryz.prog) noL 100 91 [.ptr 0 (.l 0), .il .u32 268501024, .iv .u32 v] (h_U1 b) (gcK 11 (ivK false K)) = uStore0_tree v b K := by kernel_rfl
noncomputable def uStore0_T (v : Int) (b : Mo.Bd) (K : S → List Ob → Prop) : Prop := True ∧ K (.il .i64 0) (h_U1 (Mo.uStore0_v1 v b))
theorem uStore0_all (v : Int) (b : Mo.Bd) (K : S → List Ob → Prop) (h : uStore0_T v b K) : uStore0_tree v b K := by
  unfold uStore0_T at h; obtain ⟨h0, h⟩ := h; unfold uStore0_tree
  try simp only [Mo.uStore0_v1] at h0 h
  repeat' first | exact h | (refine ite_intro (fun c => ?_) fun c => ?_) <;> first | simp only [if_pos c] at h0 h | simp only [if_neg c] at h0 h | skip
theorem uStore0_sem (v : Int) (b : Mo.Bd) (K : S → List Ob → Prop) (h : uStore0_T v b K) : CallSem noW Tryz.prog 91 [.ptr 0 (.l 0), .il .u32 268501024, .iv .u32 v] (h_U1 b) K := iv_call (callX_ok tok (by kernel_rfl) ffTrCok stopTrC_ok _ _ _ _ (Eq.mpr (uStore0_run v b K) (uStore0_all v b K h)))
noncomputable def uStore0_con : Con := ⟨[.ptr 0, .same (.il .u32 268501024), .int .u32], t_U1, [], fun a K => match a with | ⟨[v], [], [], [cs_b_k, cs_b_w, cs_b_r, cs_b_t, cs_b_l, cs_b_c0, cs_b_c1], []⟩ => (match Mo.Cl.is cs_b_k with | true => (match Mo.Wd.is cs_b_w with | true => (match Mo.Rs.is cs_b_r with | true => (match Mo.Rt.is cs_b_t with | true => (match Mo.Ln.is cs_b_l with | true => (match Mo.Cnt.is cs_b_c0 with | true => (match Mo.Cnt.is cs_b_c1 with | true => uStore0_T v (Mo.Bd.mk (Mo.Cl.of cs_b_k) (Mo.Wd.of cs_b_w) (Mo.Rt.of cs_b_t) (Mo.Rs.of cs_b_r) (Mo.Ln.of cs_b_l) (Mo.Cnt.of cs_b_c0) (Mo.Cnt.of cs_b_c1)) K | false => False) | false => False) | false => False) | false => False) | false => False) | false => False) | false => False) | _ => False⟩
theorem uStore0_ok : uStore0_con.ok noW Tryz.prog 91 := by
  intro a K h
  simp only [uStore0_con] at h
  split at h
  case h_2 => exact h.elim
  split at h
  case h_2 => exact h.elim
  rename_i is_b_k
  split at h
  case h_2 => exact h.elim
  rename_i is_b_w
  split at h
  case h_2 => exact h.elim
  rename_i is_b_r
  split at h
  case h_2 => exact h.elim
  rename_i is_b_t
  split at h
  case h_2 => exact h.elim
  rename_i is_b_l
  split at h
  case h_2 => exact h.elim
  rename_i is_b_c0
  split at h
  case h_2 => exact h.elim
  rename_i is_b_c1
  exact CallSem.objs (uStore0_sem _ _ K h) (fun _ _ _ h => h) ⟨WkO.same, WkO.same, WkO.cells (Mo.Cl.is_ok is_b_k), WkO.same, WkO.cells (Mo.Wd.is_ok is_b_w), WkO.cells (Mo.Rs.is_ok is_b_r), WkO.cells (Mo.Rt.is_ok is_b_t), WkO.cells (Mo.Ln.is_ok is_b_l), WkO.same, WkO.cells (Mo.Cnt.is_ok is_b_c0), WkO.cells (Mo.Cnt.is_ok is_b_c1), trivial⟩
noncomputable def Mo.uStore8_v1 (v : Int) (b : Mo.Bd) : Mo.Bd := (if ((iN (anw (anw v 65287) 1) 0) = true) then (if ((stdQ QO.not (iN (anw (Mo.Cnt.ct (Mo.Bd.c1 b)) 1) 0) (iN (anw (Mo.Cnt.ct (Mo.Bd.c1 b)) 1) 0)) = true) then { b with c1 := { (Mo.Bd.c1 b) with va := (Mo.Cnt.ld (Mo.Bd.c1 b)), ct := (anw v 65287), ph := 0 } } else { b with c1 := { (Mo.Bd.c1 b) with ct := (anw v 65287), ph := 0 } }) else { b with c1 := { (Mo.Bd.c1 b) with ct := (anw v 65287), ph := 0 } })
noncomputable def uStore8_tree (v : Int) (b : Mo.Bd) (K : S → List Ob → Prop) : Prop := (if ((iN (anw (anw v 65287) 1) 0) = true) then (if ((stdQ QO.not (iN (anw (Mo.Cnt.ct (Mo.Bd.c1 b)) 1) 0) (iN (anw (Mo.Cnt.ct (Mo.Bd.c1 b)) 1) 0)) = true) then K (.il .i64 0) (h_U1 { b with c1 := { (Mo.Bd.c1 b) with va := (Mo.Cnt.ld (Mo.Bd.c1 b)), ct := (anw v 65287), ph := 0 } }) else K (.il .i64 0) (h_U1 { b with c1 := { (Mo.Bd.c1 b) with ct := (anw v 65287), ph := 0 } })) else K (.il .i64 0) (h_U1 { b with c1 := { (Mo.Bd.c1 b) with ct := (anw v 65287), ph := 0 } }))
theorem uStore8_run (v : Int) (b : Mo.Bd) (K : S → List Ob → Prop) : callX (std noW) tt ffTrC stopTrC (lpB noW Tryz.prog) noL 100 91 [.ptr 0 (.l 0), .il .u32 268501032, .iv .u32 v] (h_U1 b) (gcK 11 (ivK false K)) = uStore8_tree v b K := by kernel_rfl
noncomputable def uStore8_T (v : Int) (b : Mo.Bd) (K : S → List Ob → Prop) : Prop := True ∧ K (.il .i64 0) (h_U1 (Mo.uStore8_v1 v b))
theorem uStore8_all (v : Int) (b : Mo.Bd) (K : S → List Ob → Prop) (h : uStore8_T v b K) : uStore8_tree v b K := by
  unfold uStore8_T at h; obtain ⟨h0, h⟩ := h; unfold uStore8_tree
  try simp only [Mo.uStore8_v1] at h0 h
  repeat' first | exact h | (refine ite_intro (fun c => ?_) fun c => ?_) <;> first | simp only [if_pos c] at h0 h | simp only [if_neg c] at h0 h | skip
theorem uStore8_sem (v : Int) (b : Mo.Bd) (K : S → List Ob → Prop) (h : uStore8_T v b K) : CallSem noW Tryz.prog 91 [.ptr 0 (.l 0), .il .u32 268501032, .iv .u32 v] (h_U1 b) K := iv_call (callX_ok tok (by kernel_rfl) ffTrCok stopTrC_ok _ _ _ _ (Eq.mpr (uStore8_run v b K) (uStore8_all v b K h)))
noncomputable def uStore8_con : Con := ⟨[.ptr 0, .same (.il .u32 268501032), .int .u32], t_U1, [], fun a K => match a with | ⟨[v], [], [], [cs_b_k, cs_b_w, cs_b_r, cs_b_t, cs_b_l, cs_b_c0, cs_b_c1], []⟩ => (match Mo.Cl.is cs_b_k with | true => (match Mo.Wd.is cs_b_w with | true => (match Mo.Rs.is cs_b_r with | true => (match Mo.Rt.is cs_b_t with | true => (match Mo.Ln.is cs_b_l with | true => (match Mo.Cnt.is cs_b_c0 with | true => (match Mo.Cnt.is cs_b_c1 with | true => uStore8_T v (Mo.Bd.mk (Mo.Cl.of cs_b_k) (Mo.Wd.of cs_b_w) (Mo.Rt.of cs_b_t) (Mo.Rs.of cs_b_r) (Mo.Ln.of cs_b_l) (Mo.Cnt.of cs_b_c0) (Mo.Cnt.of cs_b_c1)) K | false => False) | false => False) | false => False) | false => False) | false => False) | false => False) | false => False) | _ => False⟩
theorem uStore8_ok : uStore8_con.ok noW Tryz.prog 91 := by
  intro a K h
  simp only [uStore8_con] at h
  split at h
  case h_2 => exact h.elim
  split at h
  case h_2 => exact h.elim
  rename_i is_b_k
  split at h
  case h_2 => exact h.elim
  rename_i is_b_w
  split at h
  case h_2 => exact h.elim
  rename_i is_b_r
  split at h
  case h_2 => exact h.elim
  rename_i is_b_t
  split at h
  case h_2 => exact h.elim
  rename_i is_b_l
  split at h
  case h_2 => exact h.elim
  rename_i is_b_c0
  split at h
  case h_2 => exact h.elim
  rename_i is_b_c1
  exact CallSem.objs (uStore8_sem _ _ K h) (fun _ _ _ h => h) ⟨WkO.same, WkO.same, WkO.cells (Mo.Cl.is_ok is_b_k), WkO.same, WkO.cells (Mo.Wd.is_ok is_b_w), WkO.cells (Mo.Rs.is_ok is_b_r), WkO.cells (Mo.Rt.is_ok is_b_t), WkO.cells (Mo.Ln.is_ok is_b_l), WkO.same, WkO.cells (Mo.Cnt.is_ok is_b_c0), WkO.cells (Mo.Cnt.is_ok is_b_c1), trivial⟩
noncomputable def Mo.uStore12_v1 (v : Int) (b : Mo.Bd) : Mo.Bd := { b with c1 := { (Mo.Bd.c1 b) with st := (nnw (Mo.Cnt.st (Mo.Bd.c1 b)) (anw v 1)) } }
noncomputable def uStore12_tree (v : Int) (b : Mo.Bd) (K : S → List Ob → Prop) : Prop := K (.il .i64 0) (h_U1 { b with c1 := { (Mo.Bd.c1 b) with st := (nnw (Mo.Cnt.st (Mo.Bd.c1 b)) (anw v 1)) } })
theorem uStore12_run (v : Int) (b : Mo.Bd) (K : S → List Ob → Prop) : callX (std noW) tt ffTrC stopTrC (lpB noW Tryz.prog) noL 100 91 [.ptr 0 (.l 0), .il .u32 268501036, .iv .u32 v] (h_U1 b) (gcK 11 (ivK false K)) = uStore12_tree v b K := by kernel_rfl
noncomputable def uStore12_T (v : Int) (b : Mo.Bd) (K : S → List Ob → Prop) : Prop := True ∧ K (.il .i64 0) (h_U1 (Mo.uStore12_v1 v b))
theorem uStore12_all (v : Int) (b : Mo.Bd) (K : S → List Ob → Prop) (h : uStore12_T v b K) : uStore12_tree v b K := by
  unfold uStore12_T at h; obtain ⟨h0, h⟩ := h; unfold uStore12_tree
  try simp only [Mo.uStore12_v1] at h0 h
  repeat' first | exact h | (refine ite_intro (fun c => ?_) fun c => ?_) <;> first | simp only [if_pos c] at h0 h | simp only [if_neg c] at h0 h | skip
theorem uStore12_sem (v : Int) (b : Mo.Bd) (K : S → List Ob → Prop) (h : uStore12_T v b K) : CallSem noW Tryz.prog 91 [.ptr 0 (.l 0), .il .u32 268501036, .iv .u32 v] (h_U1 b) K := iv_call (callX_ok tok (by kernel_rfl) ffTrCok stopTrC_ok _ _ _ _ (Eq.mpr (uStore12_run v b K) (uStore12_all v b K h)))
noncomputable def uStore12_con : Con := ⟨[.ptr 0, .same (.il .u32 268501036), .int .u32], t_U1, [], fun a K => match a with | ⟨[v], [], [], [cs_b_k, cs_b_w, cs_b_r, cs_b_t, cs_b_l, cs_b_c0, cs_b_c1], []⟩ => (match Mo.Cl.is cs_b_k with | true => (match Mo.Wd.is cs_b_w with | true => (match Mo.Rs.is cs_b_r with | true => (match Mo.Rt.is cs_b_t with | true => (match Mo.Ln.is cs_b_l with | true => (match Mo.Cnt.is cs_b_c0 with | true => (match Mo.Cnt.is cs_b_c1 with | true => uStore12_T v (Mo.Bd.mk (Mo.Cl.of cs_b_k) (Mo.Wd.of cs_b_w) (Mo.Rt.of cs_b_t) (Mo.Rs.of cs_b_r) (Mo.Ln.of cs_b_l) (Mo.Cnt.of cs_b_c0) (Mo.Cnt.of cs_b_c1)) K | false => False) | false => False) | false => False) | false => False) | false => False) | false => False) | false => False) | _ => False⟩
theorem uStore12_ok : uStore12_con.ok noW Tryz.prog 91 := by
  intro a K h
  simp only [uStore12_con] at h
  split at h
  case h_2 => exact h.elim
  split at h
  case h_2 => exact h.elim
  rename_i is_b_k
  split at h
  case h_2 => exact h.elim
  rename_i is_b_w
  split at h
  case h_2 => exact h.elim
  rename_i is_b_r
  split at h
  case h_2 => exact h.elim
  rename_i is_b_t
  split at h
  case h_2 => exact h.elim
  rename_i is_b_l
  split at h
  case h_2 => exact h.elim
  rename_i is_b_c0
  split at h
  case h_2 => exact h.elim
  rename_i is_b_c1
  exact CallSem.objs (uStore12_sem _ _ K h) (fun _ _ _ h => h) ⟨WkO.same, WkO.same, WkO.cells (Mo.Cl.is_ok is_b_k), WkO.same, WkO.cells (Mo.Wd.is_ok is_b_w), WkO.cells (Mo.Rs.is_ok is_b_r), WkO.cells (Mo.Rt.is_ok is_b_t), WkO.cells (Mo.Ln.is_ok is_b_l), WkO.same, WkO.cells (Mo.Cnt.is_ok is_b_c0), WkO.cells (Mo.Cnt.is_ok is_b_c1), trivial⟩
noncomputable def uLoad8_tree (b : Mo.Bd) (K : S → List Ob → Prop) : Prop := K (.tup [(.iv .u32 (Mo.Cnt.ct (Mo.Bd.c1 b))), (.il .i64 0)]) (h_U1 b)
theorem uLoad8_run (b : Mo.Bd) (K : S → List Ob → Prop) : callX (std noW) tt ffTrC stopTrC (lpB noW Tryz.prog) noL 100 129 [.ptr 0 (.l 0), .il .u32 268501032] (h_U1 b) (gcK 11 (ivK false K)) = uLoad8_tree b K := by kernel_rfl
noncomputable def uLoad8_T (b : Mo.Bd) (K : S → List Ob → Prop) : Prop := True ∧ K (.tup [(.iv .u32 (Mo.Cnt.ct (Mo.Bd.c1 b))), (.il .i64 0)]) (h_U1 b)
theorem uLoad8_all (b : Mo.Bd) (K : S → List Ob → Prop) (h : uLoad8_T b K) : uLoad8_tree b K := by
  unfold uLoad8_T at h; obtain ⟨h0, h⟩ := h; unfold uLoad8_tree
  repeat' first | exact h | (refine ite_intro (fun c => ?_) fun c => ?_) <;> first | simp only [if_pos c] at h0 h | simp only [if_neg c] at h0 h | skip
theorem uLoad8_sem (b : Mo.Bd) (K : S → List Ob → Prop) (h : uLoad8_T b K) : CallSem noW Tryz.prog 129 [.ptr 0 (.l 0), .il .u32 268501032] (h_U1 b) K := iv_call (callX_ok tok (by kernel_rfl) ffTrCok stopTrC_ok _ _ _ _ (Eq.mpr (uLoad8_run b K) (uLoad8_all b K h)))
noncomputable def uLoad8_con : Con := ⟨[.ptr 0, .same (.il .u32 268501032)], t_U1, [], fun a K => match a with | ⟨[], [], [], [cs_b_k, cs_b_w, cs_b_r, cs_b_t, cs_b_l, cs_b_c0, cs_b_c1], []⟩ => (match Mo.Cl.is cs_b_k with | true => (match Mo.Wd.is cs_b_w with | true => (match Mo.Rs.is cs_b_r with | true => (match Mo.Rt.is cs_b_t with | true => (match Mo.Ln.is cs_b_l with | true => (match Mo.Cnt.is cs_b_c0 with | true => (match Mo.Cnt.is cs_b_c1 with | true => uLoad8_T (Mo.Bd.mk (Mo.Cl.of cs_b_k) (Mo.Wd.of cs_b_w) (Mo.Rt.of cs_b_t) (Mo.Rs.of cs_b_r) (Mo.Ln.of cs_b_l) (Mo.Cnt.of cs_b_c0) (Mo.Cnt.of cs_b_c1)) K | false => False) | false => False) | false => False) | false => False) | false => False) | false => False) | false => False) | _ => False⟩
theorem uLoad8_ok : uLoad8_con.ok noW Tryz.prog 129 := by
  intro a K h
  simp only [uLoad8_con] at h
  split at h
  case h_2 => exact h.elim
  split at h
  case h_2 => exact h.elim
  rename_i is_b_k
  split at h
  case h_2 => exact h.elim
  rename_i is_b_w
  split at h
  case h_2 => exact h.elim
  rename_i is_b_r
  split at h
  case h_2 => exact h.elim
  rename_i is_b_t
  split at h
  case h_2 => exact h.elim
  rename_i is_b_l
  split at h
  case h_2 => exact h.elim
  rename_i is_b_c0
  split at h
  case h_2 => exact h.elim
  rename_i is_b_c1
  exact CallSem.objs (uLoad8_sem _ K h) (fun _ _ _ h => h) ⟨WkO.same, WkO.same, WkO.cells (Mo.Cl.is_ok is_b_k), WkO.same, WkO.cells (Mo.Wd.is_ok is_b_w), WkO.cells (Mo.Rs.is_ok is_b_r), WkO.cells (Mo.Rt.is_ok is_b_t), WkO.cells (Mo.Ln.is_ok is_b_l), WkO.same, WkO.cells (Mo.Cnt.is_ok is_b_c0), WkO.cells (Mo.Cnt.is_ok is_b_c1), trivial⟩
noncomputable def uLoad12_tree (b : Mo.Bd) (K : S → List Ob → Prop) : Prop := K (.tup [(.iv .u32 (Mo.Cnt.st (Mo.Bd.c1 b))), (.il .i64 0)]) (h_U1 b)
theorem uLoad12_run (b : Mo.Bd) (K : S → List Ob → Prop) : callX (std noW) tt ffTrC stopTrC (lpB noW Tryz.prog) noL 100 129 [.ptr 0 (.l 0), .il .u32 268501036] (h_U1 b) (gcK 11 (ivK false K)) = uLoad12_tree b K := by kernel_rfl
noncomputable def uLoad12_T (b : Mo.Bd) (K : S → List Ob → Prop) : Prop := True ∧ K (.tup [(.iv .u32 (Mo.Cnt.st (Mo.Bd.c1 b))), (.il .i64 0)]) (h_U1 b)
theorem uLoad12_all (b : Mo.Bd) (K : S → List Ob → Prop) (h : uLoad12_T b K) : uLoad12_tree b K := by
  unfold uLoad12_T at h; obtain ⟨h0, h⟩ := h; unfold uLoad12_tree
  repeat' first | exact h | (refine ite_intro (fun c => ?_) fun c => ?_) <;> first | simp only [if_pos c] at h0 h | simp only [if_neg c] at h0 h | skip
theorem uLoad12_sem (b : Mo.Bd) (K : S → List Ob → Prop) (h : uLoad12_T b K) : CallSem noW Tryz.prog 129 [.ptr 0 (.l 0), .il .u32 268501036] (h_U1 b) K := iv_call (callX_ok tok (by kernel_rfl) ffTrCok stopTrC_ok _ _ _ _ (Eq.mpr (uLoad12_run b K) (uLoad12_all b K h)))
noncomputable def uLoad12_con : Con := ⟨[.ptr 0, .same (.il .u32 268501036)], t_U1, [], fun a K => match a with | ⟨[], [], [], [cs_b_k, cs_b_w, cs_b_r, cs_b_t, cs_b_l, cs_b_c0, cs_b_c1], []⟩ => (match Mo.Cl.is cs_b_k with | true => (match Mo.Wd.is cs_b_w with | true => (match Mo.Rs.is cs_b_r with | true => (match Mo.Rt.is cs_b_t with | true => (match Mo.Ln.is cs_b_l with | true => (match Mo.Cnt.is cs_b_c0 with | true => (match Mo.Cnt.is cs_b_c1 with | true => uLoad12_T (Mo.Bd.mk (Mo.Cl.of cs_b_k) (Mo.Wd.of cs_b_w) (Mo.Rt.of cs_b_t) (Mo.Rs.of cs_b_r) (Mo.Ln.of cs_b_l) (Mo.Cnt.of cs_b_c0) (Mo.Cnt.of cs_b_c1)) K | false => False) | false => False) | false => False) | false => False) | false => False) | false => False) | false => False) | _ => False⟩
theorem uLoad12_ok : uLoad12_con.ok noW Tryz.prog 129 := by
  intro a K h
  simp only [uLoad12_con] at h
  split at h
  case h_2 => exact h.elim
  split at h
  case h_2 => exact h.elim
  rename_i is_b_k
  split at h
  case h_2 => exact h.elim
  rename_i is_b_w
  split at h
  case h_2 => exact h.elim
  rename_i is_b_r
  split at h
  case h_2 => exact h.elim
  rename_i is_b_t
  split at h
  case h_2 => exact h.elim
  rename_i is_b_l
  split at h
  case h_2 => exact h.elim
  rename_i is_b_c0
  split at h
  case h_2 => exact h.elim
  rename_i is_b_c1
  exact CallSem.objs (uLoad12_sem _ K h) (fun _ _ _ h => h) ⟨WkO.same, WkO.same, WkO.cells (Mo.Cl.is_ok is_b_k), WkO.same, WkO.cells (Mo.Wd.is_ok is_b_w), WkO.cells (Mo.Rs.is_ok is_b_r), WkO.cells (Mo.Rt.is_ok is_b_t), WkO.cells (Mo.Ln.is_ok is_b_l), WkO.same, WkO.cells (Mo.Cnt.is_ok is_b_c0), WkO.cells (Mo.Cnt.is_ok is_b_c1), trivial⟩
noncomputable def Mo.dWire_v1 (b : Mo.Bd) : Mo.Bd := (if ((Mo.kLine_v1 0 (Mo.Bd.k b)) = true) then (if ((Mo.kSoft_v1 0 (Mo.Bd.k b)) = true) then (if ((Mo.Rt.raised (Mo.Bd.t b)) = true) then { b with l := (Mo.lAll_v1 (Mo.bPut1_v1 (Mo.bPut1_v1 (Mo.bPut1_v1 (slw (Mo.nLines_v1 (Mo.Bd.c0 b) (Mo.Bd.c1 b)) 8) 0) 24) 16) (Mo.Bd.l b)) } else { b with l := (Mo.lAll_v1 (Mo.bPut1_v1 (Mo.bPut1_v1 (slw (Mo.nLines_v1 (Mo.Bd.c0 b) (Mo.Bd.c1 b)) 8) 0) 24) (Mo.Bd.l b)) }) else (if ((Mo.Rt.raised (Mo.Bd.t b)) = true) then { b with l := (Mo.lAll_v1 (Mo.bPut1_v1 (Mo.bPut1_v1 (slw (Mo.nLines_v1 (Mo.Bd.c0 b) (Mo.Bd.c1 b)) 8) 0) 16) (Mo.Bd.l b)) } else { b with l := (Mo.lAll_v1 (Mo.bPut1_v1 (slw (Mo.nLines_v1 (Mo.Bd.c0 b) (Mo.Bd.c1 b)) 8) 0) (Mo.Bd.l b)) })) else (if ((Mo.kSoft_v1 0 (Mo.Bd.k b)) = true) then (if ((Mo.Rt.raised (Mo.Bd.t b)) = true) then { b with l := (Mo.lAll_v1 (Mo.bPut1_v1 (Mo.bPut1_v1 (slw (Mo.nLines_v1 (Mo.Bd.c0 b) (Mo.Bd.c1 b)) 8) 24) 16) (Mo.Bd.l b)) } else { b with l := (Mo.lAll_v1 (Mo.bPut1_v1 (slw (Mo.nLines_v1 (Mo.Bd.c0 b) (Mo.Bd.c1 b)) 8) 24) (Mo.Bd.l b)) }) else (if ((Mo.Rt.raised (Mo.Bd.t b)) = true) then { b with l := (Mo.lAll_v1 (Mo.bPut1_v1 (slw (Mo.nLines_v1 (Mo.Bd.c0 b) (Mo.Bd.c1 b)) 8) 16) (Mo.Bd.l b)) } else { b with l := (Mo.lAll_v1 (slw (Mo.nLines_v1 (Mo.Bd.c0 b) (Mo.Bd.c1 b)) 8) (Mo.Bd.l b)) })))
noncomputable def Mo.dWire_pre (b : Mo.Bd) : Prop := ((Mo.nLines_pre (Mo.Bd.c0 b) (Mo.Bd.c1 b)) ∧ ((Mo.kLine_pre 0 (Mo.Bd.k b)) ∧ (if ((Mo.kLine_v1 0 (Mo.Bd.k b)) = true) then ((Mo.bPut1_pre 0) ∧ ((Mo.kSoft_pre 0 (Mo.Bd.k b)) ∧ (if ((Mo.kSoft_v1 0 (Mo.Bd.k b)) = true) then ((Mo.bPut1_pre 24) ∧ (if ((Mo.Rt.raised (Mo.Bd.t b)) = true) then (Mo.bPut1_pre 16) else True)) else (if ((Mo.Rt.raised (Mo.Bd.t b)) = true) then (Mo.bPut1_pre 16) else True)))) else ((Mo.kSoft_pre 0 (Mo.Bd.k b)) ∧ (if ((Mo.kSoft_v1 0 (Mo.Bd.k b)) = true) then ((Mo.bPut1_pre 24) ∧ (if ((Mo.Rt.raised (Mo.Bd.t b)) = true) then (Mo.bPut1_pre 16) else True)) else (if ((Mo.Rt.raised (Mo.Bd.t b)) = true) then (Mo.bPut1_pre 16) else True))))))
noncomputable def dWire_tree (dv : Int) (b : Mo.Bd) (K : S → List Ob → Prop) : Prop := ((Mo.nLines_pre (Mo.Bd.c0 b) (Mo.Bd.c1 b)) ∧ ((Mo.kLine_pre 0 (Mo.Bd.k b)) ∧ (if ((Mo.kLine_v1 0 (Mo.Bd.k b)) = true) then ((Mo.bPut1_pre 0) ∧ ((Mo.kSoft_pre 0 (Mo.Bd.k b)) ∧ (if ((Mo.kSoft_v1 0 (Mo.Bd.k b)) = true) then ((Mo.bPut1_pre 24) ∧ (True ∧ (if ((Mo.Rt.raised (Mo.Bd.t b)) = true) then ((Mo.bPut1_pre 16) ∧ (True ∧ K (.tup []) (h_B1n dv { b with l := (Mo.lAll_v1 (Mo.bPut1_v1 (Mo.bPut1_v1 (Mo.bPut1_v1 (slw (Mo.nLines_v1 (Mo.Bd.c0 b) (Mo.Bd.c1 b)) 8) 0) 24) 16) (Mo.Bd.l b)) }))) else (True ∧ K (.tup []) (h_B1n dv { b with l := (Mo.lAll_v1 (Mo.bPut1_v1 (Mo.bPut1_v1 (slw (Mo.nLines_v1 (Mo.Bd.c0 b) (Mo.Bd.c1 b)) 8) 0) 24) (Mo.Bd.l b)) }))))) else (True ∧ (if ((Mo.Rt.raised (Mo.Bd.t b)) = true) then ((Mo.bPut1_pre 16) ∧ (True ∧ K (.tup []) (h_B1n dv { b with l := (Mo.lAll_v1 (Mo.bPut1_v1 (Mo.bPut1_v1 (slw (Mo.nLines_v1 (Mo.Bd.c0 b) (Mo.Bd.c1 b)) 8) 0) 16) (Mo.Bd.l b)) }))) else (True ∧ K (.tup []) (h_B1n dv { b with l := (Mo.lAll_v1 (Mo.bPut1_v1 (slw (Mo.nLines_v1 (Mo.Bd.c0 b) (Mo.Bd.c1 b)) 8) 0) (Mo.Bd.l b)) }))))))) else ((Mo.kSoft_pre 0 (Mo.Bd.k b)) ∧ (if ((Mo.kSoft_v1 0 (Mo.Bd.k b)) = true) then ((Mo.bPut1_pre 24) ∧ (True ∧ (if ((Mo.Rt.raised (Mo.Bd.t b)) = true) then ((Mo.bPut1_pre 16) ∧ (True ∧ K (.tup []) (h_B1n dv { b with l := (Mo.lAll_v1 (Mo.bPut1_v1 (Mo.bPut1_v1 (slw (Mo.nLines_v1 (Mo.Bd.c0 b) (Mo.Bd.c1 b)) 8) 24) 16) (Mo.Bd.l b)) }))) else (True ∧ K (.tup []) (h_B1n dv { b with l := (Mo.lAll_v1 (Mo.bPut1_v1 (slw (Mo.nLines_v1 (Mo.Bd.c0 b) (Mo.Bd.c1 b)) 8) 24) (Mo.Bd.l b)) }))))) else (True ∧ (if ((Mo.Rt.raised (Mo.Bd.t b)) = true) then ((Mo.bPut1_pre 16) ∧ (True ∧ K (.tup []) (h_B1n dv { b with l := (Mo.lAll_v1 (Mo.bPut1_v1 (slw (Mo.nLines_v1 (Mo.Bd.c0 b) (Mo.Bd.c1 b)) 8) 16) (Mo.Bd.l b)) }))) else (True ∧ K (.tup []) (h_B1n dv { b with l := (Mo.lAll_v1 (slw (Mo.nLines_v1 (Mo.Bd.c0 b) (Mo.Bd.c1 b)) 8) (Mo.Bd.l b)) })))))))))
theorem dWire_run (dv : Int) (b : Mo.Bd) (K : S → List Ob → Prop) : callX (std noW) tt ffTrC stopTrC (lpB noW Tryz.prog) noL 100 116 [.ptr 0 (.l 0)] (h_B1n dv b) (gcK 12 (ivK false K)) = dWire_tree dv b K := by kernel_rfl
noncomputable def dWire_T (dv : Int) (b : Mo.Bd) (K : S → List Ob → Prop) : Prop := Mo.dWire_pre b ∧ K (.tup []) (h_B1n dv (Mo.dWire_v1 b))
theorem dWire_all (dv : Int) (b : Mo.Bd) (K : S → List Ob → Prop) (h : dWire_T dv b K) : dWire_tree dv b K := by
  unfold dWire_T at h; obtain ⟨h0, h⟩ := h; unfold dWire_tree
  try simp only [Mo.dWire_v1] at h0 h
  try simp only [Mo.dWire_pre] at h0 h
  repeat' (first | (refine ite_intro (fun c => ?_) (fun c => ?_) <;> first | simp only [if_pos c] at h0 h | simp only [if_neg c] at h0 h | skip) | with_reducible (replace h0 := (h0 : True ∧ _).2) | with_reducible (refine ⟨rfl, ?_⟩) | with_reducible (refine ⟨h0.1, ?_⟩; replace h0 := h0.2) | with_reducible (refine ⟨h0, ?_⟩) | (refine ⟨h0.1, ?_⟩; replace h0 := h0.2) | refine ⟨h0, ?_⟩ | refine ⟨rfl, ?_⟩ | refine ⟨trivial, ?_⟩ | refine ⟨by assumption, ?_⟩ | refine ⟨Eq.symm (by assumption), ?_⟩ | exact h | refine ⟨?_, ?_⟩ | exact h0.elim | trivial | contradiction | (simp only [if_true, if_false, Bool.false_eq_true] at h; exact h))
theorem dWire_sem (dv : Int) (b : Mo.Bd) (K : S → List Ob → Prop) (h : dWire_T dv b K) : CallSem noW Tryz.prog 116 [.ptr 0 (.l 0)] (h_B1n dv b) K := iv_call (callX_ok tok (by kernel_rfl) ffTrCok stopTrC_ok _ _ _ _ (Eq.mpr (dWire_run dv b K) (dWire_all dv b K h)))
noncomputable def dWire_con : Con := ⟨[.ptr 0], t_B1n, [], fun a K => match a with | ⟨[dv], [], [], [cs_b_k, cs_b_w, cs_b_t, cs_b_r, cs_b_l, cs_b_c0, cs_b_c1], []⟩ => (match Mo.Cl.is cs_b_k with | true => (match Mo.Wd.is cs_b_w with | true => (match Mo.Rt.is cs_b_t with | true => (match Mo.Rs.is cs_b_r with | true => (match Mo.Ln.is cs_b_l with | true => (match Mo.Cnt.is cs_b_c0 with | true => (match Mo.Cnt.is cs_b_c1 with | true => dWire_T dv (Mo.Bd.mk (Mo.Cl.of cs_b_k) (Mo.Wd.of cs_b_w) (Mo.Rt.of cs_b_t) (Mo.Rs.of cs_b_r) (Mo.Ln.of cs_b_l) (Mo.Cnt.of cs_b_c0) (Mo.Cnt.of cs_b_c1)) K | false => False) | false => False) | false => False) | false => False) | false => False) | false => False) | false => False) | _ => False⟩
theorem dWire_ok : dWire_con.ok noW Tryz.prog 116 := by
  intro a K h
  simp only [dWire_con] at h
  split at h
  case h_2 => exact h.elim
  split at h
  case h_2 => exact h.elim
  rename_i is_b_k
  split at h
  case h_2 => exact h.elim
  rename_i is_b_w
  split at h
  case h_2 => exact h.elim
  rename_i is_b_t
  split at h
  case h_2 => exact h.elim
  rename_i is_b_r
  split at h
  case h_2 => exact h.elim
  rename_i is_b_l
  split at h
  case h_2 => exact h.elim
  rename_i is_b_c0
  split at h
  case h_2 => exact h.elim
  rename_i is_b_c1
  exact CallSem.objs (dWire_sem _ _ K h) (fun _ _ _ h => h) ⟨WkO.same, WkO.cells (Mo.Cl.is_ok is_b_k), WkO.same, WkO.cells (Mo.Wd.is_ok is_b_w), WkO.cells (Mo.Rt.is_ok is_b_t), WkO.cells (Mo.Rs.is_ok is_b_r), WkO.cells (Mo.Ln.is_ok is_b_l), WkO.same, WkO.same, WkO.same, WkO.cells (Mo.Cnt.is_ok is_b_c0), WkO.cells (Mo.Cnt.is_ok is_b_c1), trivial⟩
noncomputable def tabTrD (n : Nat) : List Con := match Nat.beq n 91 with | true => [uStore0_con, uStore8_con, uStore12_con] | false => match Nat.beq n 129 with | true => [uLoad8_con, uLoad12_con] | false => match Nat.beq n 116 with | true => [dWire_con] | false => tabTrC n
theorem tabTrD_ok : ∀ f, ∀ c ∈ tabTrD f, c.ok noW Tryz.prog f := by
  intro f c hc
  unfold tabTrD at hc
  split at hc
  · rename_i hf; have := Nat.eq_of_beq_eq_true hf; subst this
    simp only [List.mem_cons, List.not_mem_nil, or_false] at hc
    rcases hc with rfl | rfl | rfl
    · exact uStore0_ok
    · exact uStore8_ok
    · exact uStore12_ok
  split at hc
  · rename_i hf; have := Nat.eq_of_beq_eq_true hf; subst this
    simp only [List.mem_cons, List.not_mem_nil, or_false] at hc
    rcases hc with rfl | rfl
    · exact uLoad8_ok
    · exact uLoad12_ok
  split at hc
  · rename_i hf; have := Nat.eq_of_beq_eq_true hf; subst this
    simp only [List.mem_cons, List.not_mem_nil, or_false] at hc
    subst hc; exact dWire_ok
  exact tabTrC_ok f c hc
noncomputable def ffTrD (n : Nat) : Option FI := match Nat.beq n 91 with | true => none | false => match Nat.beq n 129 with | true => none | false => match Nat.beq n 116 with | true => none | false => ffTrC n
theorem ffTrDok : FOk Tryz.prog ffTrD := fun f fi hf => by
  unfold ffTrD at hf
  split at hf
  · cases hf
  split at hf
  · cases hf
  split at hf
  · cases hf
  exact ffTrCok f fi hf
noncomputable def stopTrD : CallT := stopC tabTrD stopB
theorem stopTrD_ok : ∀ f args h K, stopTrD f args h K → CallSem noW Tryz.prog f args h K := stopC_ok tabTrD_ok stopB_ok
end Go.SX.Y
