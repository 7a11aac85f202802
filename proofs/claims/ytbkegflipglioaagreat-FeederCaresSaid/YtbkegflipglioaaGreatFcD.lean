/- What Go functions come to (lifted). -/
import Derived.Test.YtbkegflipglioaaGreatFcC
set_option maxRecDepth 20000
namespace Go.SX.Y
open Go.Proofs Go.RowKit
noncomputable def h_U1 (b : Mo.Bd) : List Ob := [.cells 227 [.mp 1], .mapo [.agg [.il .u32 33554432, .il .u32 49152], .agg [.il .u32 268500992, .il .u32 256], .agg [.il .u32 268566528, .il .u32 20], .agg [.il .u32 268632064, .il .u32 16], .agg [.il .u32 268697600, .il .u32 36], .agg [.il .u32 268763136, .il .u32 12]] [.ifc 107 (.ptr 2 (.l 0)), .ifc 110 (.ptr 3 (.l 0)), .ifc 119 (.ptr 4 (.l 0)), .ifc 125 (.ptr 5 (.l 0)), .ifc 44 (.ptr 6 (.l 0)), .ifc 127 (.ptr 7 (.l 0))], .cells 183 (Mo.Cl.cells (Mo.Bd.k b)), .cells 188 [.sli 8 (.l 0) (.l 1) (.lit (.l 1)) false], .cells 194 (Mo.Wd.cells (Mo.Bd.w b)), .cells 200 (Mo.Rs.cells (Mo.Bd.r b)), .cells 190 (Mo.Rt.cells (Mo.Bd.t b)), .cells 204 (Mo.Ln.cells (Mo.Bd.l b)), .row 185 1 (.l 1) [.ptr 9 (.l 0)], .cells 246 (Mo.Cnt.cells (Mo.Bd.c b))]
def t_U1 : List OTm := [.cells 227 [.mp 1], .mapo [.agg [.same (.il .u32 33554432), .same (.il .u32 49152)], .agg [.same (.il .u32 268500992), .same (.il .u32 256)], .agg [.same (.il .u32 268566528), .same (.il .u32 20)], .agg [.same (.il .u32 268632064), .same (.il .u32 16)], .agg [.same (.il .u32 268697600), .same (.il .u32 36)], .agg [.same (.il .u32 268763136), .same (.il .u32 12)]] [.ifc 107 (.ptr 2), .ifc 110 (.ptr 3), .ifc 119 (.ptr 4), .ifc 125 (.ptr 5), .ifc 44 (.ptr 6), .ifc 127 (.ptr 7)], .cellsV 183, .cells 188 [.same (.sli 8 (.l 0) (.l 1) (.lit (.l 1)) false)], .cellsV 194, .cellsV 200, .cellsV 190, .cellsV 204, .row 185 1 1 [.ptr 9], .cellsV 246]
noncomputable def h_BD (dv : Int) (b : Mo.Bd) (rs : List (List Int)) : List Ob := [.cells 131 [.ptr 1 (.l 0), .ptr 2 (.l 0), .ptr 3 (.l 0), .ptr 4 (.l 0), .ptr 5 (.l 0), .ptr 6 (.l 0), .ptr 7 (.l 0), .iv .i64 1, .iv .i64 1, .iv .u32 dv, .nsl 8 (.v (lenR rs)) false false], .cells 183 (Mo.Cl.cells (Mo.Bd.k b)), .cells 188 [.sli 9 (.l 0) (.l 1) (.lit (.l 1)) false], .cells 194 (Mo.Wd.cells (Mo.Bd.w b)), .cells 190 (Mo.Rt.cells (Mo.Bd.t b)), .cells 200 (Mo.Rs.cells (Mo.Bd.r b)), .cells 204 (Mo.Ln.cells (Mo.Bd.l b)), .cells 227 [.mp 10], .nrow 73 [.i .u64, .i .i64] rs, .row 185 1 (.l 1) [.ptr 11 (.l 0)], .mapo [.agg [.il .u32 33554432, .il .u32 49152], .agg [.il .u32 268500992, .il .u32 256], .agg [.il .u32 268566528, .il .u32 20], .agg [.il .u32 268632064, .il .u32 16], .agg [.il .u32 268697600, .il .u32 36], .agg [.il .u32 268763136, .il .u32 12]] [.ifc 107 (.ptr 1 (.l 0)), .ifc 110 (.ptr 2 (.l 0)), .ifc 119 (.ptr 3 (.l 0)), .ifc 125 (.ptr 5 (.l 0)), .ifc 44 (.ptr 4 (.l 0)), .ifc 127 (.ptr 6 (.l 0))], .cells 246 (Mo.Cnt.cells (Mo.Bd.c b))]
def t_BD : List OTm := [.cells 131 [.ptr 1, .ptr 2, .ptr 3, .ptr 4, .ptr 5, .ptr 6, .ptr 7, .eqI .i64 1, .eqI .i64 1, .int .u32, .nsl 8 0 false], .cellsV 183, .cells 188 [.same (.sli 9 (.l 0) (.l 1) (.lit (.l 1)) false)], .cellsV 194, .cellsV 190, .cellsV 200, .cellsV 204, .cells 227 [.mp 10], .nrow 73 [.i .u64, .i .i64], .row 185 1 1 [.ptr 11], .mapo [.agg [.same (.il .u32 33554432), .same (.il .u32 49152)], .agg [.same (.il .u32 268500992), .same (.il .u32 256)], .agg [.same (.il .u32 268566528), .same (.il .u32 20)], .agg [.same (.il .u32 268632064), .same (.il .u32 16)], .agg [.same (.il .u32 268697600), .same (.il .u32 36)], .agg [.same (.il .u32 268763136), .same (.il .u32 12)]] [.ifc 107 (.ptr 1), .ifc 110 (.ptr 2), .ifc 119 (.ptr 3), .ifc 125 (.ptr 5), .ifc 44 (.ptr 4), .ifc 127 (.ptr 6)], .cellsV 246]
noncomputable def uStore0_s1 (v : Int) (b : Mo.Bd) (K : S → List Ob → Prop) : Prop := (if ((Mo.Wd.en (Mo.Bd.w b)) = true) then K (.il .i64 0) (h_U1 { b with w := { (Mo.Bd.w b) with en := false, lk := (iE (srw (anw v 2) 1) 1), ar := false, since := 0 } }) else K (.il .i64 0) (h_U1 { b with w := { (Mo.Bd.w b) with lk := (iE (srw (anw v 2) 1) 1) } }))
noncomputable def uStore0_s2 (v : Int) (b : Mo.Bd) (K : S → List Ob → Prop) : Prop := (if ((stdQ QO.not (iE (srw (anw v 1) 0) 1) (iE (srw (anw v 1) 0) 1)) = true) then (uStore0_s1 v b K) else K (.il .i64 0) (h_U1 { b with w := { (Mo.Bd.w b) with lk := (iE (srw (anw v 2) 1) 1) } }))
noncomputable def uStore0_s3 (v : Int) (b : Mo.Bd) (K : S → List Ob → Prop) : Prop := (if ((iL (Mo.Wd.shut (Mo.Bd.w b)) (Mo.Wd.all (Mo.Bd.w b))) = true) then K (.il .i64 0) (h_U1 { b with w := { (Mo.Bd.w b) with en := true, lk := (iE (srw (anw v 2) 1) 1), ar := false, since := 0 } }) else (uStore0_s2 v b K))
noncomputable def uStore0_s4 (v : Int) (b : Mo.Bd) (K : S → List Ob → Prop) : Prop := (if ((stdQ QO.not (Mo.Wd.en (Mo.Bd.w b)) (Mo.Wd.en (Mo.Bd.w b))) = true) then (uStore0_s3 v b K) else (uStore0_s2 v b K))
noncomputable def uStore0_s5 (v : Int) (b : Mo.Bd) (K : S → List Ob → Prop) : Prop := (if ((iE (srw (anw v 1) 0) 1) = true) then (uStore0_s4 v b K) else (uStore0_s2 v b K))
noncomputable def uStore0_s6 (v : Int) (b : Mo.Bd) (K : S → List Ob → Prop) : Prop := (if ((Mo.Wd.lk (Mo.Bd.w b)) = true) then K (.il .i64 0) (h_U1 b) else (uStore0_s5 v b K))
noncomputable def Mo.uStore0_v1 (v : Int) (b : Mo.Bd) : Mo.Bd := (if ((iN (Mo.Wd.fault (Mo.Bd.w b)) 0) = true) then b else (if ((Mo.Wd.lk (Mo.Bd.w b)) = true) then b else (if ((iE (srw (anw v 1) 0) 1) = true) then (if ((stdQ QO.not (Mo.Wd.en (Mo.Bd.w b)) (Mo.Wd.en (Mo.Bd.w b))) = true) then (if ((iL (Mo.Wd.shut (Mo.Bd.w b)) (Mo.Wd.all (Mo.Bd.w b))) = true) then { b with w := { (Mo.Bd.w b) with en := true, lk := (iE (srw (anw v 2) 1) 1), ar := false, since := 0 } } else (if ((stdQ QO.not (iE (srw (anw v 1) 0) 1) (iE (srw (anw v 1) 0) 1)) = true) then (if ((Mo.Wd.en (Mo.Bd.w b)) = true) then { b with w := { (Mo.Bd.w b) with en := false, lk := (iE (srw (anw v 2) 1) 1), ar := false, since := 0 } } else { b with w := { (Mo.Bd.w b) with lk := (iE (srw (anw v 2) 1) 1) } }) else { b with w := { (Mo.Bd.w b) with lk := (iE (srw (anw v 2) 1) 1) } })) else (if ((stdQ QO.not (iE (srw (anw v 1) 0) 1) (iE (srw (anw v 1) 0) 1)) = true) then (if ((Mo.Wd.en (Mo.Bd.w b)) = true) then { b with w := { (Mo.Bd.w b) with en := false, lk := (iE (srw (anw v 2) 1) 1), ar := false, since := 0 } } else { b with w := { (Mo.Bd.w b) with lk := (iE (srw (anw v 2) 1) 1) } }) else { b with w := { (Mo.Bd.w b) with lk := (iE (srw (anw v 2) 1) 1) } })) else (if ((stdQ QO.not (iE (srw (anw v 1) 0) 1) (iE (srw (anw v 1) 0) 1)) = true) then (if ((Mo.Wd.en (Mo.Bd.w b)) = true) then { b with w := { (Mo.Bd.w b) with en := false, lk := (iE (srw (anw v 2) 1) 1), ar := false, since := 0 } } else { b with w := { (Mo.Bd.w b) with lk := (iE (srw (anw v 2) 1) 1) } }) else { b with w := { (Mo.Bd.w b) with lk := (iE (srw (anw v 2) 1) 1) } }))))
noncomputable def uStore0_tree (v : Int) (b : Mo.Bd) (K : S → List Ob → Prop) : Prop := (if ((iN (Mo.Wd.fault (Mo.Bd.w b)) 0) = true) then K (.il .i64 0) (h_U1 b) else (if ((stdQ QO.not (Mo.Wd.lk (Mo.Bd.w b)) (Mo.Wd.lk (Mo.Bd.w b))) = true) then (uStore0_s6 v b K) else (uStore0_s6 v b K)))
theorem uStore0_run (v : Int) (b : Mo.Bd) (K : S → List Ob → Prop) : callX (std noW) tt ffFcC stopFcC (lpB noW Tryz.prog) noL 100 91 [.ptr 0 (.l 0), .il .u32 268566528, .iv .u32 v] (h_U1 b) (gcK 10 (ivK false K)) = uStore0_tree v b K := by kernel_rfl
noncomputable def uStore0_T (v : Int) (b : Mo.Bd) (K : S → List Ob → Prop) : Prop := True ∧ K (.il .i64 0) (h_U1 (Mo.uStore0_v1 v b))
theorem uStore0_all (v : Int) (b : Mo.Bd) (K : S → List Ob → Prop) (h : uStore0_T v b K) : uStore0_tree v b K := by
  unfold uStore0_T at h; obtain ⟨h0, h⟩ := h; unfold uStore0_tree
  try simp only [Mo.uStore0_v1] at h0 h
  repeat' (first | (refine ite_intro (fun c => ?_) (fun c => ?_) <;> first | simp only [if_pos c] at h0 h | simp only [if_neg c] at h0 h | skip) | with_reducible (replace h0 := (h0 : True ∧ _).2) | with_reducible (refine ⟨rfl, ?_⟩) | with_reducible (refine ⟨h0.1, ?_⟩; replace h0 := h0.2) | with_reducible (refine ⟨h0, ?_⟩) | (refine ⟨h0.1, ?_⟩; replace h0 := h0.2) | refine ⟨h0, ?_⟩ | refine ⟨rfl, ?_⟩ | refine ⟨trivial, ?_⟩ | refine ⟨by assumption, ?_⟩ | refine ⟨Eq.symm (by assumption), ?_⟩ | exact h | refine ⟨?_, ?_⟩ | unfold uStore0_s1 | unfold uStore0_s2 | unfold uStore0_s3 | unfold uStore0_s4 | unfold uStore0_s5 | unfold uStore0_s6 | exact h0.elim | trivial | contradiction | (simp only [if_true, if_false, Bool.false_eq_true] at h; exact h))
theorem uStore0_sem (v : Int) (b : Mo.Bd) (K : S → List Ob → Prop) (h : uStore0_T v b K) : CallSem noW Tryz.prog 91 [.ptr 0 (.l 0), .il .u32 268566528, .iv .u32 v] (h_U1 b) K := iv_call (callX_ok tok (by kernel_rfl) ffFcCok stopFcC_ok _ _ _ _ (Eq.mpr (uStore0_run v b K) (uStore0_all v b K h)))
noncomputable def uStore0_con : Con := ⟨[.ptr 0, .same (.il .u32 268566528), .int .u32], t_U1, [], fun a K => match a with | ⟨[v], [], [], [cs_b_k, cs_b_w, cs_b_r, cs_b_t, cs_b_l, cs_b_c], []⟩ => (match Mo.Cl.is cs_b_k with | true => (match Mo.Wd.is cs_b_w with | true => (match Mo.Rs.is cs_b_r with | true => (match Mo.Rt.is cs_b_t with | true => (match Mo.Ln.is cs_b_l with | true => (match Mo.Cnt.is cs_b_c with | true => uStore0_T v (Mo.Bd.mk (Mo.Cl.of cs_b_k) (Mo.Wd.of cs_b_w) (Mo.Rt.of cs_b_t) (Mo.Rs.of cs_b_r) (Mo.Ln.of cs_b_l) (Mo.Cnt.of cs_b_c)) K | false => False) | false => False) | false => False) | false => False) | false => False) | false => False) | _ => False⟩
theorem uStore0_ok : uStore0_con.ok noW Tryz.prog 91 := by
  intro a K h
  simp only [uStore0_con] at h
  split at h
  case h_2 => exact h.elim
  split at h
  case h_2 => exact h.elim
  rename_i is_b_k
  split at h
  case h_2 => exact h.elim
  rename_i is_b_w
  split at h
  case h_2 => exact h.elim
  rename_i is_b_r
  split at h
  case h_2 => exact h.elim
  rename_i is_b_t
  split at h
  case h_2 => exact h.elim
  rename_i is_b_l
  split at h
  case h_2 => exact h.elim
  rename_i is_b_c
  exact CallSem.objs (uStore0_sem _ _ K h) (fun _ _ _ h => h) ⟨WkO.same, WkO.same, WkO.cells (Mo.Cl.is_ok is_b_k), WkO.same, WkO.cells (Mo.Wd.is_ok is_b_w), WkO.cells (Mo.Rs.is_ok is_b_r), WkO.cells (Mo.Rt.is_ok is_b_t), WkO.cells (Mo.Ln.is_ok is_b_l), WkO.same, WkO.cells (Mo.Cnt.is_ok is_b_c), trivial⟩
noncomputable def Mo.uStore4_v1 (v : Int) (b : Mo.Bd) : Mo.Bd := (if ((iN (Mo.Wd.fault (Mo.Bd.w b)) 0) = true) then b else (if ((stdQ QO.not (Mo.Wd.lk (Mo.Bd.w b)) (Mo.Wd.lk (Mo.Bd.w b))) = true) then (if ((stdQ QO.not (Mo.Wd.en (Mo.Bd.w b)) (Mo.Wd.en (Mo.Bd.w b))) = true) then { b with w := { (Mo.Bd.w b) with shut := v } } else b) else b))
noncomputable def uStore4_tree (v : Int) (b : Mo.Bd) (K : S → List Ob → Prop) : Prop := (if ((iN (Mo.Wd.fault (Mo.Bd.w b)) 0) = true) then K (.il .i64 0) (h_U1 b) else (if ((stdQ QO.not (Mo.Wd.lk (Mo.Bd.w b)) (Mo.Wd.lk (Mo.Bd.w b))) = true) then (if ((stdQ QO.not (Mo.Wd.en (Mo.Bd.w b)) (Mo.Wd.en (Mo.Bd.w b))) = true) then K (.il .i64 0) (h_U1 { b with w := { (Mo.Bd.w b) with shut := v } }) else K (.il .i64 0) (h_U1 b)) else K (.il .i64 0) (h_U1 b)))
theorem uStore4_run (v : Int) (b : Mo.Bd) (K : S → List Ob → Prop) : callX (std noW) tt ffFcC stopFcC (lpB noW Tryz.prog) noL 100 91 [.ptr 0 (.l 0), .il .u32 268566532, .iv .u32 v] (h_U1 b) (gcK 10 (ivK false K)) = uStore4_tree v b K := by kernel_rfl
noncomputable def uStore4_T (v : Int) (b : Mo.Bd) (K : S → List Ob → Prop) : Prop := True ∧ K (.il .i64 0) (h_U1 (Mo.uStore4_v1 v b))
theorem uStore4_all (v : Int) (b : Mo.Bd) (K : S → List Ob → Prop) (h : uStore4_T v b K) : uStore4_tree v b K := by
  unfold uStore4_T at h; obtain ⟨h0, h⟩ := h; unfold uStore4_tree
  try simp only [Mo.uStore4_v1] at h0 h
  repeat' first | exact h | (refine ite_intro (fun c => ?_) fun c => ?_) <;> first | simp only [if_pos c] at h0 h | simp only [if_neg c] at h0 h | skip
theorem uStore4_sem (v : Int) (b : Mo.Bd) (K : S → List Ob → Prop) (h : uStore4_T v b K) : CallSem noW Tryz.prog 91 [.ptr 0 (.l 0), .il .u32 268566532, .iv .u32 v] (h_U1 b) K := iv_call (callX_ok tok (by kernel_rfl) ffFcCok stopFcC_ok _ _ _ _ (Eq.mpr (uStore4_run v b K) (uStore4_all v b K h)))
noncomputable def uStore4_con : Con := ⟨[.ptr 0, .same (.il .u32 268566532), .int .u32], t_U1, [], fun a K => match a with | ⟨[v], [], [], [cs_b_k, cs_b_w, cs_b_r, cs_b_t, cs_b_l, cs_b_c], []⟩ => (match Mo.Cl.is cs_b_k with | true => (match Mo.Wd.is cs_b_w with | true => (match Mo.Rs.is cs_b_r with | true => (match Mo.Rt.is cs_b_t with | true => (match Mo.Ln.is cs_b_l with | true => (match Mo.Cnt.is cs_b_c with | true => uStore4_T v (Mo.Bd.mk (Mo.Cl.of cs_b_k) (Mo.Wd.of cs_b_w) (Mo.Rt.of cs_b_t) (Mo.Rs.of cs_b_r) (Mo.Ln.of cs_b_l) (Mo.Cnt.of cs_b_c)) K | false => False) | false => False) | false => False) | false => False) | false => False) | false => False) | _ => False⟩
theorem uStore4_ok : uStore4_con.ok noW Tryz.prog 91 := by
  intro a K h
  simp only [uStore4_con] at h
  split at h
  case h_2 => exact h.elim
  split at h
  case h_2 => exact h.elim
  rename_i is_b_k
  split at h
  case h_2 => exact h.elim
  rename_i is_b_w
  split at h
  case h_2 => exact h.elim
  rename_i is_b_r
  split at h
  case h_2 => exact h.elim
  rename_i is_b_t
  split at h
  case h_2 => exact h.elim
  rename_i is_b_l
  split at h
  case h_2 => exact h.elim
  rename_i is_b_c
  exact CallSem.objs (uStore4_sem _ _ K h) (fun _ _ _ h => h) ⟨WkO.same, WkO.same, WkO.cells (Mo.Cl.is_ok is_b_k), WkO.same, WkO.cells (Mo.Wd.is_ok is_b_w), WkO.cells (Mo.Rs.is_ok is_b_r), WkO.cells (Mo.Rt.is_ok is_b_t), WkO.cells (Mo.Ln.is_ok is_b_l), WkO.same, WkO.cells (Mo.Cnt.is_ok is_b_c), trivial⟩
noncomputable def Mo.uStore8_v1 (v : Int) (b : Mo.Bd) : Mo.Bd := (if ((iN (Mo.Wd.fault (Mo.Bd.w b)) 0) = true) then b else (if ((stdQ QO.not (Mo.Wd.lk (Mo.Bd.w b)) (Mo.Wd.lk (Mo.Bd.w b))) = true) then (if ((stdQ QO.not (Mo.Wd.en (Mo.Bd.w b)) (Mo.Wd.en (Mo.Bd.w b))) = true) then { b with w := { (Mo.Bd.w b) with all := v } } else b) else b))
noncomputable def uStore8_tree (v : Int) (b : Mo.Bd) (K : S → List Ob → Prop) : Prop := (if ((iN (Mo.Wd.fault (Mo.Bd.w b)) 0) = true) then K (.il .i64 0) (h_U1 b) else (if ((stdQ QO.not (Mo.Wd.lk (Mo.Bd.w b)) (Mo.Wd.lk (Mo.Bd.w b))) = true) then (if ((stdQ QO.not (Mo.Wd.en (Mo.Bd.w b)) (Mo.Wd.en (Mo.Bd.w b))) = true) then K (.il .i64 0) (h_U1 { b with w := { (Mo.Bd.w b) with all := v } }) else K (.il .i64 0) (h_U1 b)) else K (.il .i64 0) (h_U1 b)))
theorem uStore8_run (v : Int) (b : Mo.Bd) (K : S → List Ob → Prop) : callX (std noW) tt ffFcC stopFcC (lpB noW Tryz.prog) noL 100 91 [.ptr 0 (.l 0), .il .u32 268566536, .iv .u32 v] (h_U1 b) (gcK 10 (ivK false K)) = uStore8_tree v b K := by kernel_rfl
noncomputable def uStore8_T (v : Int) (b : Mo.Bd) (K : S → List Ob → Prop) : Prop := True ∧ K (.il .i64 0) (h_U1 (Mo.uStore8_v1 v b))
theorem uStore8_all (v : Int) (b : Mo.Bd) (K : S → List Ob → Prop) (h : uStore8_T v b K) : uStore8_tree v b K := by
  unfold uStore8_T at h; obtain ⟨h0, h⟩ := h; unfold uStore8_tree
  try simp only [Mo.uStore8_v1] at h0 h
  repeat' first | exact h | (refine ite_intro (fun c => ?_) fun c => ?_) <;> first | simp only [if_pos c] at h0 h | simp only [if_neg c] at h0 h | skip
theorem uStore8_sem (v : Int) (b : Mo.Bd) (K : S → List Ob → Prop) (h : uStore8_T v b K) : CallSem noW Tryz.prog 91 [.ptr 0 (.l 0), .il .u32 268566536, .iv .u32 v] (h_U1 b) K := iv_call (callX_ok tok (by kernel_rfl) ffFcCok stopFcC_ok _ _ _ _ (Eq.mpr (uStore8_run v b K) (uStore8_all v b K h)))
noncomputable def uStore8_con : Con := ⟨[.ptr 0, .same (.il .u32 268566536), .int .u32], t_U1, [], fun a K => match a with | ⟨[v], [], [], [cs_b_k, cs_b_w, cs_b_r, cs_b_t, cs_b_l, cs_b_c], []⟩ => (match Mo.Cl.is cs_b_k with | true => (match Mo.Wd.is cs_b_w with | true => (match Mo.Rs.is cs_b_r with | true => (match Mo.Rt.is cs_b_t with | true => (match Mo.Ln.is cs_b_l with | true => (match Mo.Cnt.is cs_b_c with | true => uStore8_T v (Mo.Bd.mk (Mo.Cl.of cs_b_k) (Mo.Wd.of cs_b_w) (Mo.Rt.of cs_b_t) (Mo.Rs.of cs_b_r) (Mo.Ln.of cs_b_l) (Mo.Cnt.of cs_b_c)) K | false => False) | false => False) | false => False) | false => False) | false => False) | false => False) | _ => False⟩
theorem uStore8_ok : uStore8_con.ok noW Tryz.prog 91 := by
  intro a K h
  simp only [uStore8_con] at h
  split at h
  case h_2 => exact h.elim
  split at h
  case h_2 => exact h.elim
  rename_i is_b_k
  split at h
  case h_2 => exact h.elim
  rename_i is_b_w
  split at h
  case h_2 => exact h.elim
  rename_i is_b_r
  split at h
  case h_2 => exact h.elim
  rename_i is_b_t
  split at h
  case h_2 => exact h.elim
  rename_i is_b_l
  split at h
  case h_2 => exact h.elim
  rename_i is_b_c
  exact CallSem.objs (uStore8_sem _ _ K h) (fun _ _ _ h => h) ⟨WkO.same, WkO.same, WkO.cells (Mo.Cl.is_ok is_b_k), WkO.same, WkO.cells (Mo.Wd.is_ok is_b_w), WkO.cells (Mo.Rs.is_ok is_b_r), WkO.cells (Mo.Rt.is_ok is_b_t), WkO.cells (Mo.Ln.is_ok is_b_l), WkO.same, WkO.cells (Mo.Cnt.is_ok is_b_c), trivial⟩
noncomputable def uStore12_s1 (b : Mo.Bd) (K : S → List Ob → Prop) : Prop := (if ((iL (Mo.Wd.since (Mo.Bd.w b)) (cvq (Mo.Wd.shut (Mo.Bd.w b)) 0)) = true) then K (.il .i64 0) (h_U1 { b with w := { (Mo.Bd.w b) with fault := 4 } }) else K (.il .i64 0) (h_U1 { b with w := { (Mo.Bd.w b) with en := true, ar := false, since := 0 } }))
noncomputable def uStore12_s2 (b : Mo.Bd) (K : S → List Ob → Prop) : Prop := (if ((iL (Mo.Wd.since (Mo.Bd.w b)) (cvq (Mo.Wd.shut (Mo.Bd.w b)) 0)) = true) then K (.il .i64 0) (h_U1 { b with w := { (Mo.Bd.w b) with fault := 8 } }) else K (.il .i64 0) (h_U1 { b with w := { (Mo.Bd.w b) with ar := false } }))
noncomputable def uStore12_s3 (b : Mo.Bd) (K : S → List Ob → Prop) : Prop := (if ((Mo.Wd.ar (Mo.Bd.w b)) = true) then (uStore12_s1 b K) else (uStore12_s2 b K))
noncomputable def uStore12_s4 (v : Int) (b : Mo.Bd) (K : S → List Ob → Prop) : Prop := (if ((iE v 42405) = true) then (uStore12_s3 b K) else (uStore12_s2 b K))
noncomputable def uStore12_s5 (v : Int) (b : Mo.Bd) (K : S → List Ob → Prop) : Prop := (if ((iE v 23130) = true) then K (.il .i64 0) (h_U1 { b with w := { (Mo.Bd.w b) with ar := true } }) else (uStore12_s4 v b K))
noncomputable def uStore12_s6 (v : Int) (b : Mo.Bd) (K : S → List Ob → Prop) : Prop := (if ((stdQ QO.not (Mo.Wd.en (Mo.Bd.w b)) (Mo.Wd.en (Mo.Bd.w b))) = true) then K (.il .i64 0) (h_U1 b) else (uStore12_s5 v b K))
noncomputable def Mo.uStore12_v1 (v : Int) (b : Mo.Bd) : Mo.Bd := (if ((iN (Mo.Wd.fault (Mo.Bd.w b)) 0) = true) then b else (if ((stdQ QO.not (Mo.Wd.en (Mo.Bd.w b)) (Mo.Wd.en (Mo.Bd.w b))) = true) then b else (if ((iE v 23130) = true) then { b with w := { (Mo.Bd.w b) with ar := true } } else (if ((iE v 42405) = true) then (if ((Mo.Wd.ar (Mo.Bd.w b)) = true) then (if ((iL (Mo.Wd.since (Mo.Bd.w b)) (cvq (Mo.Wd.shut (Mo.Bd.w b)) 0)) = true) then { b with w := { (Mo.Bd.w b) with fault := 4 } } else { b with w := { (Mo.Bd.w b) with en := true, ar := false, since := 0 } }) else (if ((iL (Mo.Wd.since (Mo.Bd.w b)) (cvq (Mo.Wd.shut (Mo.Bd.w b)) 0)) = true) then { b with w := { (Mo.Bd.w b) with fault := 8 } } else { b with w := { (Mo.Bd.w b) with ar := false } })) else (if ((iL (Mo.Wd.since (Mo.Bd.w b)) (cvq (Mo.Wd.shut (Mo.Bd.w b)) 0)) = true) then { b with w := { (Mo.Bd.w b) with fault := 8 } } else { b with w := { (Mo.Bd.w b) with ar := false } })))))
noncomputable def uStore12_tree (v : Int) (b : Mo.Bd) (K : S → List Ob → Prop) : Prop := (if ((iN (Mo.Wd.fault (Mo.Bd.w b)) 0) = true) then K (.il .i64 0) (h_U1 b) else (if ((stdQ QO.not (Mo.Wd.lk (Mo.Bd.w b)) (Mo.Wd.lk (Mo.Bd.w b))) = true) then (uStore12_s6 v b K) else (uStore12_s6 v b K)))
theorem uStore12_run (v : Int) (b : Mo.Bd) (K : S → List Ob → Prop) : callX (std noW) tt ffFcC stopFcC (lpB noW Tryz.prog) noL 100 91 [.ptr 0 (.l 0), .il .u32 268566540, .iv .u32 v] (h_U1 b) (gcK 10 (ivK false K)) = uStore12_tree v b K := by kernel_rfl
noncomputable def uStore12_T (v : Int) (b : Mo.Bd) (K : S → List Ob → Prop) : Prop := True ∧ K (.il .i64 0) (h_U1 (Mo.uStore12_v1 v b))
theorem uStore12_all (v : Int) (b : Mo.Bd) (K : S → List Ob → Prop) (h : uStore12_T v b K) : uStore12_tree v b K := by
  unfold uStore12_T at h; obtain ⟨h0, h⟩ := h; unfold uStore12_tree
  try simp only [Mo.uStore12_v1] at h0 h
  repeat' (first | (refine ite_intro (fun c => ?_) (fun c => ?_) <;> first | simp only [if_pos c] at h0 h | simp only [if_neg c] at h0 h | skip) | with_reducible (replace h0 := (h0 : True ∧ _).2) | with_reducible (refine ⟨rfl, ?_⟩) | with_reducible (refine ⟨h0.1, ?_⟩; replace h0 := h0.2) | with_reducible (refine ⟨h0, ?_⟩) | (refine ⟨h0.1, ?_⟩; replace h0 := h0.2) | refine ⟨h0, ?_⟩ | refine ⟨rfl, ?_⟩ | refine ⟨trivial, ?_⟩ | refine ⟨by assumption, ?_⟩ | refine ⟨Eq.symm (by assumption), ?_⟩ | exact h | refine ⟨?_, ?_⟩ | unfold uStore12_s1 | unfold uStore12_s2 | unfold uStore12_s3 | unfold uStore12_s4 | unfold uStore12_s5 | unfold uStore12_s6 | exact h0.elim | trivial | contradiction | (simp only [if_true, if_false, Bool.false_eq_true] at h; exact h))
theorem uStore12_sem (v : Int) (b : Mo.Bd) (K : S → List Ob → Prop) (h : uStore12_T v b K) : CallSem noW Tryz.prog 91 [.ptr 0 (.l 0), .il .u32 268566540, .iv .u32 v] (h_U1 b) K := iv_call (callX_ok tok (by kernel_rfl) ffFcCok stopFcC_ok _ _ _ _ (Eq.mpr (uStore12_run v b K) (uStore12_all v b K h)))
noncomputable def uStore12_con : Con := ⟨[.ptr 0, .same (.il .u32 268566540), .int .u32], t_U1, [], fun a K => match a with | ⟨[v], [], [], [cs_b_k, cs_b_w, cs_b_r, cs_b_t, cs_b_l, cs_b_c], []⟩ => (match Mo.Cl.is cs_b_k with | true => (match Mo.Wd.is cs_b_w with | true => (match Mo.Rs.is cs_b_r with | true => (match Mo.Rt.is cs_b_t with | true => (match Mo.Ln.is cs_b_l with | true => (match Mo.Cnt.is cs_b_c with | true => uStore12_T v (Mo.Bd.mk (Mo.Cl.of cs_b_k) (Mo.Wd.of cs_b_w) (Mo.Rt.of cs_b_t) (Mo.Rs.of cs_b_r) (Mo.Ln.of cs_b_l) (Mo.Cnt.of cs_b_c)) K | false => False) | false => False) | false => False) | false => False) | false => False) | false => False) | _ => False⟩
theorem uStore12_ok : uStore12_con.ok noW Tryz.prog 91 := by
  intro a K h
  simp only [uStore12_con] at h
  split at h
  case h_2 => exact h.elim
  split at h
  case h_2 => exact h.elim
  rename_i is_b_k
  split at h
  case h_2 => exact h.elim
  rename_i is_b_w
  split at h
  case h_2 => exact h.elim
  rename_i is_b_r
  split at h
  case h_2 => exact h.elim
  rename_i is_b_t
  split at h
  case h_2 => exact h.elim
  rename_i is_b_l
  split at h
  case h_2 => exact h.elim
  rename_i is_b_c
  exact CallSem.objs (uStore12_sem _ _ K h) (fun _ _ _ h => h) ⟨WkO.same, WkO.same, WkO.cells (Mo.Cl.is_ok is_b_k), WkO.same, WkO.cells (Mo.Wd.is_ok is_b_w), WkO.cells (Mo.Rs.is_ok is_b_r), WkO.cells (Mo.Rt.is_ok is_b_t), WkO.cells (Mo.Ln.is_ok is_b_l), WkO.same, WkO.cells (Mo.Cnt.is_ok is_b_c), trivial⟩
noncomputable def Mo.uLoad0_v1 (b : Mo.Bd) : Int := (if ((Mo.Wd.en (Mo.Bd.w b)) = true) then (if ((Mo.Wd.lk (Mo.Bd.w b)) = true) then (Mo.bPut1_v1 (Mo.bPut1_v1 0 0) 1) else (Mo.bPut1_v1 0 0)) else (if ((Mo.Wd.lk (Mo.Bd.w b)) = true) then (Mo.bPut1_v1 0 1) else 0))
noncomputable def Mo.uLoad0_pre (b : Mo.Bd) : Prop := (if ((Mo.Wd.en (Mo.Bd.w b)) = true) then ((Mo.bPut1_pre 0) ∧ (if ((Mo.Wd.lk (Mo.Bd.w b)) = true) then (Mo.bPut1_pre 1) else True)) else (if ((Mo.Wd.lk (Mo.Bd.w b)) = true) then (Mo.bPut1_pre 1) else True))
noncomputable def uLoad0_tree (b : Mo.Bd) (K : S → List Ob → Prop) : Prop := (if ((Mo.Wd.en (Mo.Bd.w b)) = true) then ((Mo.bPut1_pre 0) ∧ (if ((Mo.Wd.lk (Mo.Bd.w b)) = true) then ((Mo.bPut1_pre 1) ∧ (((some (S.iv IntKind.u32 (Mo.Wd.all (Mo.Bd.w b)))) = (some (S.iv IntKind.u32 (Mo.Wd.all (Mo.Bd.w b))))) ∧ (((some (S.iv IntKind.u32 (Mo.Wd.shut (Mo.Bd.w b)))) = (some (S.iv IntKind.u32 (Mo.Wd.shut (Mo.Bd.w b))))) ∧ K (.tup [(.iv .u32 (Mo.bPut1_v1 (Mo.bPut1_v1 0 0) 1)), (.iv .i64 0)]) (h_U1 b)))) else (((some (S.iv IntKind.u32 (Mo.Wd.all (Mo.Bd.w b)))) = (some (S.iv IntKind.u32 (Mo.Wd.all (Mo.Bd.w b))))) ∧ (((some (S.iv IntKind.u32 (Mo.Wd.shut (Mo.Bd.w b)))) = (some (S.iv IntKind.u32 (Mo.Wd.shut (Mo.Bd.w b))))) ∧ K (.tup [(.iv .u32 (Mo.bPut1_v1 0 0)), (.iv .i64 0)]) (h_U1 b))))) else (if ((Mo.Wd.lk (Mo.Bd.w b)) = true) then ((Mo.bPut1_pre 1) ∧ (((some (S.iv IntKind.u32 (Mo.Wd.all (Mo.Bd.w b)))) = (some (S.iv IntKind.u32 (Mo.Wd.all (Mo.Bd.w b))))) ∧ (((some (S.iv IntKind.u32 (Mo.Wd.shut (Mo.Bd.w b)))) = (some (S.iv IntKind.u32 (Mo.Wd.shut (Mo.Bd.w b))))) ∧ K (.tup [(.iv .u32 (Mo.bPut1_v1 0 1)), (.iv .i64 0)]) (h_U1 b)))) else (((some (S.iv IntKind.u32 (Mo.Wd.all (Mo.Bd.w b)))) = (some (S.iv IntKind.u32 (Mo.Wd.all (Mo.Bd.w b))))) ∧ (((some (S.iv IntKind.u32 (Mo.Wd.shut (Mo.Bd.w b)))) = (some (S.iv IntKind.u32 (Mo.Wd.shut (Mo.Bd.w b))))) ∧ K (.tup [(.iv .u32 0), (.iv .i64 0)]) (h_U1 b)))))
theorem uLoad0_run (b : Mo.Bd) (K : S → List Ob → Prop) : callX (std noW) tt ffFcC stopFcC (lpB noW Tryz.prog) noL 100 129 [.ptr 0 (.l 0), .il .u32 268566528] (h_U1 b) (gcK 10 (ivK true K)) = uLoad0_tree b K := by kernel_rfl
noncomputable def uLoad0_T (b : Mo.Bd) (K : S → List Ob → Prop) : Prop := Mo.uLoad0_pre b ∧ K (.tup [(.iv .u32 (Mo.uLoad0_v1 b)), (.iv .i64 0)]) (h_U1 b)
theorem uLoad0_all (b : Mo.Bd) (K : S → List Ob → Prop) (h : uLoad0_T b K) : uLoad0_tree b K := by
  unfold uLoad0_T at h; obtain ⟨h0, h⟩ := h; unfold uLoad0_tree
  try simp only [Mo.uLoad0_v1] at h0 h
  try simp only [Mo.uLoad0_pre] at h0 h
  repeat' first | exact h | refine ⟨rfl, ?_⟩ | (refine ⟨h0.1, ?_⟩; replace h0 := h0.2) | refine ⟨h0, ?_⟩ | exact h0.elim | (refine ite_intro (fun c => ?_) fun c => ?_) <;> first | simp only [if_pos c] at h0 h | simp only [if_neg c] at h0 h | skip
theorem uLoad0_sem (b : Mo.Bd) (K : S → List Ob → Prop) (h : uLoad0_T b K) : CallSem noW Tryz.prog 129 [.ptr 0 (.l 0), .il .u32 268566528] (h_U1 b) K := iv_call (callX_ok tok (by kernel_rfl) ffFcCok stopFcC_ok _ _ _ _ (Eq.mpr (uLoad0_run b K) (uLoad0_all b K h)))
noncomputable def uLoad0_con : Con := ⟨[.ptr 0, .same (.il .u32 268566528)], t_U1, [], fun a K => match a with | ⟨[], [], [], [cs_b_k, cs_b_w, cs_b_r, cs_b_t, cs_b_l, cs_b_c], []⟩ => (match Mo.Cl.is cs_b_k with | true => (match Mo.Wd.is cs_b_w with | true => (match Mo.Rs.is cs_b_r with | true => (match Mo.Rt.is cs_b_t with | true => (match Mo.Ln.is cs_b_l with | true => (match Mo.Cnt.is cs_b_c with | true => uLoad0_T (Mo.Bd.mk (Mo.Cl.of cs_b_k) (Mo.Wd.of cs_b_w) (Mo.Rt.of cs_b_t) (Mo.Rs.of cs_b_r) (Mo.Ln.of cs_b_l) (Mo.Cnt.of cs_b_c)) K | false => False) | false => False) | false => False) | false => False) | false => False) | false => False) | _ => False⟩
theorem uLoad0_ok : uLoad0_con.ok noW Tryz.prog 129 := by
  intro a K h
  simp only [uLoad0_con] at h
  split at h
  case h_2 => exact h.elim
  split at h
  case h_2 => exact h.elim
  rename_i is_b_k
  split at h
  case h_2 => exact h.elim
  rename_i is_b_w
  split at h
  case h_2 => exact h.elim
  rename_i is_b_r
  split at h
  case h_2 => exact h.elim
  rename_i is_b_t
  split at h
  case h_2 => exact h.elim
  rename_i is_b_l
  split at h
  case h_2 => exact h.elim
  rename_i is_b_c
  exact CallSem.objs (uLoad0_sem _ K h) (fun _ _ _ h => h) ⟨WkO.same, WkO.same, WkO.cells (Mo.Cl.is_ok is_b_k), WkO.same, WkO.cells (Mo.Wd.is_ok is_b_w), WkO.cells (Mo.Rs.is_ok is_b_r), WkO.cells (Mo.Rt.is_ok is_b_t), WkO.cells (Mo.Ln.is_ok is_b_l), WkO.same, WkO.cells (Mo.Cnt.is_ok is_b_c), trivial⟩
noncomputable def uLoad4_s1 (b : Mo.Bd) (K : S → List Ob → Prop) : Prop := (((some (S.iv IntKind.u32 (Mo.Wd.all (Mo.Bd.w b)))) = (some (S.iv IntKind.u32 (Mo.Wd.all (Mo.Bd.w b))))) ∧ (((some (S.iv IntKind.u32 (Mo.Wd.shut (Mo.Bd.w b)))) = (some (S.iv IntKind.u32 (Mo.Wd.shut (Mo.Bd.w b))))) ∧ K (.tup [(.iv .u32 (Mo.Wd.shut (Mo.Bd.w b))), (.il .i64 0)]) (h_U1 b)))
noncomputable def uLoad4_s2 (b : Mo.Bd) (K : S → List Ob → Prop) : Prop := ((Mo.bPut1_pre 1) ∧ (uLoad4_s1 b K))
noncomputable def uLoad4_s3 (b : Mo.Bd) (K : S → List Ob → Prop) : Prop := (if ((Mo.Wd.lk (Mo.Bd.w b)) = true) then (uLoad4_s2 b K) else (uLoad4_s1 b K))
noncomputable def Mo.uLoad4_pre (b : Mo.Bd) : Prop := (if ((Mo.Wd.en (Mo.Bd.w b)) = true) then ((Mo.bPut1_pre 0) ∧ (if ((Mo.Wd.lk (Mo.Bd.w b)) = true) then (Mo.bPut1_pre 1) else True)) else (if ((Mo.Wd.lk (Mo.Bd.w b)) = true) then (Mo.bPut1_pre 1) else True))
noncomputable def uLoad4_tree (b : Mo.Bd) (K : S → List Ob → Prop) : Prop := (if ((Mo.Wd.en (Mo.Bd.w b)) = true) then ((Mo.bPut1_pre 0) ∧ (uLoad4_s3 b K)) else (uLoad4_s3 b K))
theorem uLoad4_run (b : Mo.Bd) (K : S → List Ob → Prop) : callX (std noW) tt ffFcC stopFcC (lpB noW Tryz.prog) noL 100 129 [.ptr 0 (.l 0), .il .u32 268566532] (h_U1 b) (gcK 10 (ivK false K)) = uLoad4_tree b K := by kernel_rfl
noncomputable def uLoad4_T (b : Mo.Bd) (K : S → List Ob → Prop) : Prop := Mo.uLoad4_pre b ∧ K (.tup [(.iv .u32 (Mo.Wd.shut (Mo.Bd.w b))), (.il .i64 0)]) (h_U1 b)
theorem uLoad4_all (b : Mo.Bd) (K : S → List Ob → Prop) (h : uLoad4_T b K) : uLoad4_tree b K := by
  unfold uLoad4_T at h; obtain ⟨h0, h⟩ := h; unfold uLoad4_tree
  try simp only [Mo.uLoad4_pre] at h0 h
  repeat' (first | (refine ite_intro (fun c => ?_) (fun c => ?_) <;> first | simp only [if_pos c] at h0 h | simp only [if_neg c] at h0 h | skip) | with_reducible (replace h0 := (h0 : True ∧ _).2) | with_reducible (refine ⟨rfl, ?_⟩) | with_reducible (refine ⟨h0.1, ?_⟩; replace h0 := h0.2) | with_reducible (refine ⟨h0, ?_⟩) | (refine ⟨h0.1, ?_⟩; replace h0 := h0.2) | refine ⟨h0, ?_⟩ | refine ⟨rfl, ?_⟩ | refine ⟨trivial, ?_⟩ | refine ⟨by assumption, ?_⟩ | refine ⟨Eq.symm (by assumption), ?_⟩ | exact h | refine ⟨?_, ?_⟩ | unfold uLoad4_s1 | unfold uLoad4_s2 | unfold uLoad4_s3 | exact h0.elim | trivial | contradiction | (simp only [if_true, if_false, Bool.false_eq_true] at h; exact h))
theorem uLoad4_sem (b : Mo.Bd) (K : S → List Ob → Prop) (h : uLoad4_T b K) : CallSem noW Tryz.prog 129 [.ptr 0 (.l 0), .il .u32 268566532] (h_U1 b) K := iv_call (callX_ok tok (by kernel_rfl) ffFcCok stopFcC_ok _ _ _ _ (Eq.mpr (uLoad4_run b K) (uLoad4_all b K h)))
noncomputable def uLoad4_con : Con := ⟨[.ptr 0, .same (.il .u32 268566532)], t_U1, [], fun a K => match a with | ⟨[], [], [], [cs_b_k, cs_b_w, cs_b_r, cs_b_t, cs_b_l, cs_b_c], []⟩ => (match Mo.Cl.is cs_b_k with | true => (match Mo.Wd.is cs_b_w with | true => (match Mo.Rs.is cs_b_r with | true => (match Mo.Rt.is cs_b_t with | true => (match Mo.Ln.is cs_b_l with | true => (match Mo.Cnt.is cs_b_c with | true => uLoad4_T (Mo.Bd.mk (Mo.Cl.of cs_b_k) (Mo.Wd.of cs_b_w) (Mo.Rt.of cs_b_t) (Mo.Rs.of cs_b_r) (Mo.Ln.of cs_b_l) (Mo.Cnt.of cs_b_c)) K | false => False) | false => False) | false => False) | false => False) | false => False) | false => False) | _ => False⟩
theorem uLoad4_ok : uLoad4_con.ok noW Tryz.prog 129 := by
  intro a K h
  simp only [uLoad4_con] at h
  split at h
  case h_2 => exact h.elim
  split at h
  case h_2 => exact h.elim
  rename_i is_b_k
  split at h
  case h_2 => exact h.elim
  rename_i is_b_w
  split at h
  case h_2 => exact h.elim
  rename_i is_b_r
  split at h
  case h_2 => exact h.elim
  rename_i is_b_t
  split at h
  case h_2 => exact h.elim
  rename_i is_b_l
  split at h
  case h_2 => exact h.elim
  rename_i is_b_c
  exact CallSem.objs (uLoad4_sem _ K h) (fun _ _ _ h => h) ⟨WkO.same, WkO.same, WkO.cells (Mo.Cl.is_ok is_b_k), WkO.same, WkO.cells (Mo.Wd.is_ok is_b_w), WkO.cells (Mo.Rs.is_ok is_b_r), WkO.cells (Mo.Rt.is_ok is_b_t), WkO.cells (Mo.Ln.is_ok is_b_l), WkO.same, WkO.cells (Mo.Cnt.is_ok is_b_c), trivial⟩
noncomputable def uLoad8_s1 (b : Mo.Bd) (K : S → List Ob → Prop) : Prop := (((some (S.iv IntKind.u32 (Mo.Wd.all (Mo.Bd.w b)))) = (some (S.iv IntKind.u32 (Mo.Wd.all (Mo.Bd.w b))))) ∧ (((some (S.iv IntKind.u32 (Mo.Wd.shut (Mo.Bd.w b)))) = (some (S.iv IntKind.u32 (Mo.Wd.shut (Mo.Bd.w b))))) ∧ K (.tup [(.iv .u32 (Mo.Wd.all (Mo.Bd.w b))), (.il .i64 0)]) (h_U1 b)))
noncomputable def uLoad8_s2 (b : Mo.Bd) (K : S → List Ob → Prop) : Prop := ((Mo.bPut1_pre 1) ∧ (uLoad8_s1 b K))
noncomputable def uLoad8_s3 (b : Mo.Bd) (K : S → List Ob → Prop) : Prop := (if ((Mo.Wd.lk (Mo.Bd.w b)) = true) then (uLoad8_s2 b K) else (uLoad8_s1 b K))
noncomputable def Mo.uLoad8_pre (b : Mo.Bd) : Prop := (if ((Mo.Wd.en (Mo.Bd.w b)) = true) then ((Mo.bPut1_pre 0) ∧ (if ((Mo.Wd.lk (Mo.Bd.w b)) = true) then (Mo.bPut1_pre 1) else True)) else (if ((Mo.Wd.lk (Mo.Bd.w b)) = true) then (Mo.bPut1_pre 1) else True))
noncomputable def uLoad8_tree (b : Mo.Bd) (K : S → List Ob → Prop) : Prop := (if ((Mo.Wd.en (Mo.Bd.w b)) = true) then ((Mo.bPut1_pre 0) ∧ (uLoad8_s3 b K)) else (uLoad8_s3 b K))
theorem uLoad8_run (b : Mo.Bd) (K : S → List Ob → Prop) : callX (std noW) tt ffFcC stopFcC (lpB noW Tryz.prog) noL 100 129 [.ptr 0 (.l 0), .il .u32 268566536] (h_U1 b) (gcK 10 (ivK false K)) = uLoad8_tree b K := by kernel_rfl
noncomputable def uLoad8_T (b : Mo.Bd) (K : S → List Ob → Prop) : Prop := Mo.uLoad8_pre b ∧ K (.tup [(.iv .u32 (Mo.Wd.all (Mo.Bd.w b))), (.il .i64 0)]) (h_U1 b)
theorem uLoad8_all (b : Mo.Bd) (K : S → List Ob → Prop) (h : uLoad8_T b K) : uLoad8_tree b K := by
  unfold uLoad8_T at h; obtain ⟨h0, h⟩ := h; unfold uLoad8_tree
  try simp only [Mo.uLoad8_pre] at h0 h
  repeat' (first | (refine ite_intro (fun c => ?_) (fun c => ?_) <;> first | simp only [if_pos c] at h0 h | simp only [if_neg c] at h0 h | skip) | with_reducible (replace h0 := (h0 : True ∧ _).2) | with_reducible (refine ⟨rfl, ?_⟩) | with_reducible (refine ⟨h0.1, ?_⟩; replace h0 := h0.2) | with_reducible (refine ⟨h0, ?_⟩) | (refine ⟨h0.1, ?_⟩; replace h0 := h0.2) | refine ⟨h0, ?_⟩ | refine ⟨rfl, ?_⟩ | refine ⟨trivial, ?_⟩ | refine ⟨by assumption, ?_⟩ | refine ⟨Eq.symm (by assumption), ?_⟩ | exact h | refine ⟨?_, ?_⟩ | unfold uLoad8_s1 | unfold uLoad8_s2 | unfold uLoad8_s3 | exact h0.elim | trivial | contradiction | (simp only [if_true, if_false, Bool.false_eq_true] at h; exact h))
theorem uLoad8_sem (b : Mo.Bd) (K : S → List Ob → Prop) (h : uLoad8_T b K) : CallSem noW Tryz.prog 129 [.ptr 0 (.l 0), .il .u32 268566536] (h_U1 b) K := iv_call (callX_ok tok (by kernel_rfl) ffFcCok stopFcC_ok _ _ _ _ (Eq.mpr (uLoad8_run b K) (uLoad8_all b K h)))
noncomputable def uLoad8_con : Con := ⟨[.ptr 0, .same (.il .u32 268566536)], t_U1, [], fun a K => match a with | ⟨[], [], [], [cs_b_k, cs_b_w, cs_b_r, cs_b_t, cs_b_l, cs_b_c], []⟩ => (match Mo.Cl.is cs_b_k with | true => (match Mo.Wd.is cs_b_w with | true => (match Mo.Rs.is cs_b_r with | true => (match Mo.Rt.is cs_b_t with | true => (match Mo.Ln.is cs_b_l with | true => (match Mo.Cnt.is cs_b_c with | true => uLoad8_T (Mo.Bd.mk (Mo.Cl.of cs_b_k) (Mo.Wd.of cs_b_w) (Mo.Rt.of cs_b_t) (Mo.Rs.of cs_b_r) (Mo.Ln.of cs_b_l) (Mo.Cnt.of cs_b_c)) K | false => False) | false => False) | false => False) | false => False) | false => False) | false => False) | _ => False⟩
theorem uLoad8_ok : uLoad8_con.ok noW Tryz.prog 129 := by
  intro a K h
  simp only [uLoad8_con] at h
  split at h
  case h_2 => exact h.elim
  split at h
  case h_2 => exact h.elim
  rename_i is_b_k
  split at h
  case h_2 => exact h.elim
  rename_i is_b_w
  split at h
  case h_2 => exact h.elim
  rename_i is_b_r
  split at h
  case h_2 => exact h.elim
  rename_i is_b_t
  split at h
  case h_2 => exact h.elim
  rename_i is_b_l
  split at h
  case h_2 => exact h.elim
  rename_i is_b_c
  exact CallSem.objs (uLoad8_sem _ K h) (fun _ _ _ h => h) ⟨WkO.same, WkO.same, WkO.cells (Mo.Cl.is_ok is_b_k), WkO.same, WkO.cells (Mo.Wd.is_ok is_b_w), WkO.cells (Mo.Rs.is_ok is_b_r), WkO.cells (Mo.Rt.is_ok is_b_t), WkO.cells (Mo.Ln.is_ok is_b_l), WkO.same, WkO.cells (Mo.Cnt.is_ok is_b_c), trivial⟩
noncomputable def uLoad16_s1 (b : Mo.Bd) (K : S → List Ob → Prop) : Prop := (((some (S.iv IntKind.u32 (Mo.Wd.all (Mo.Bd.w b)))) = (some (S.iv IntKind.u32 (Mo.Wd.all (Mo.Bd.w b))))) ∧ (((some (S.iv IntKind.u32 (Mo.Wd.shut (Mo.Bd.w b)))) = (some (S.iv IntKind.u32 (Mo.Wd.shut (Mo.Bd.w b))))) ∧ K (.tup [(.iv .u32 (cvw (Mo.Wd.since (Mo.Bd.w b)) 0)), (.il .i64 0)]) (h_U1 b)))
noncomputable def uLoad16_s2 (b : Mo.Bd) (K : S → List Ob → Prop) : Prop := ((Mo.bPut1_pre 1) ∧ (uLoad16_s1 b K))
noncomputable def uLoad16_s3 (b : Mo.Bd) (K : S → List Ob → Prop) : Prop := (if ((Mo.Wd.lk (Mo.Bd.w b)) = true) then (uLoad16_s2 b K) else (uLoad16_s1 b K))
noncomputable def Mo.uLoad16_pre (b : Mo.Bd) : Prop := (if ((Mo.Wd.en (Mo.Bd.w b)) = true) then ((Mo.bPut1_pre 0) ∧ (if ((Mo.Wd.lk (Mo.Bd.w b)) = true) then (Mo.bPut1_pre 1) else True)) else (if ((Mo.Wd.lk (Mo.Bd.w b)) = true) then (Mo.bPut1_pre 1) else True))
noncomputable def uLoad16_tree (b : Mo.Bd) (K : S → List Ob → Prop) : Prop := (if ((Mo.Wd.en (Mo.Bd.w b)) = true) then ((Mo.bPut1_pre 0) ∧ (uLoad16_s3 b K)) else (uLoad16_s3 b K))
theorem uLoad16_run (b : Mo.Bd) (K : S → List Ob → Prop) : callX (std noW) tt ffFcC stopFcC (lpB noW Tryz.prog) noL 100 129 [.ptr 0 (.l 0), .il .u32 268566544] (h_U1 b) (gcK 10 (ivK false K)) = uLoad16_tree b K := by kernel_rfl
noncomputable def uLoad16_T (b : Mo.Bd) (K : S → List Ob → Prop) : Prop := Mo.uLoad16_pre b ∧ K (.tup [(.iv .u32 (cvw (Mo.Wd.since (Mo.Bd.w b)) 0)), (.il .i64 0)]) (h_U1 b)
theorem uLoad16_all (b : Mo.Bd) (K : S → List Ob → Prop) (h : uLoad16_T b K) : uLoad16_tree b K := by
  unfold uLoad16_T at h; obtain ⟨h0, h⟩ := h; unfold uLoad16_tree
  try simp only [Mo.uLoad16_pre] at h0 h
  repeat' (first | (refine ite_intro (fun c => ?_) (fun c => ?_) <;> first | simp only [if_pos c] at h0 h | simp only [if_neg c] at h0 h | skip) | with_reducible (replace h0 := (h0 : True ∧ _).2) | with_reducible (refine ⟨rfl, ?_⟩) | with_reducible (refine ⟨h0.1, ?_⟩; replace h0 := h0.2) | with_reducible (refine ⟨h0, ?_⟩) | (refine ⟨h0.1, ?_⟩; replace h0 := h0.2) | refine ⟨h0, ?_⟩ | refine ⟨rfl, ?_⟩ | refine ⟨trivial, ?_⟩ | refine ⟨by assumption, ?_⟩ | refine ⟨Eq.symm (by assumption), ?_⟩ | exact h | refine ⟨?_, ?_⟩ | unfold uLoad16_s1 | unfold uLoad16_s2 | unfold uLoad16_s3 | exact h0.elim | trivial | contradiction | (simp only [if_true, if_false, Bool.false_eq_true] at h; exact h))
theorem uLoad16_sem (b : Mo.Bd) (K : S → List Ob → Prop) (h : uLoad16_T b K) : CallSem noW Tryz.prog 129 [.ptr 0 (.l 0), .il .u32 268566544] (h_U1 b) K := iv_call (callX_ok tok (by kernel_rfl) ffFcCok stopFcC_ok _ _ _ _ (Eq.mpr (uLoad16_run b K) (uLoad16_all b K h)))
noncomputable def uLoad16_con : Con := ⟨[.ptr 0, .same (.il .u32 268566544)], t_U1, [], fun a K => match a with | ⟨[], [], [], [cs_b_k, cs_b_w, cs_b_r, cs_b_t, cs_b_l, cs_b_c], []⟩ => (match Mo.Cl.is cs_b_k with | true => (match Mo.Wd.is cs_b_w with | true => (match Mo.Rs.is cs_b_r with | true => (match Mo.Rt.is cs_b_t with | true => (match Mo.Ln.is cs_b_l with | true => (match Mo.Cnt.is cs_b_c with | true => uLoad16_T (Mo.Bd.mk (Mo.Cl.of cs_b_k) (Mo.Wd.of cs_b_w) (Mo.Rt.of cs_b_t) (Mo.Rs.of cs_b_r) (Mo.Ln.of cs_b_l) (Mo.Cnt.of cs_b_c)) K | false => False) | false => False) | false => False) | false => False) | false => False) | false => False) | _ => False⟩
theorem uLoad16_ok : uLoad16_con.ok noW Tryz.prog 129 := by
  intro a K h
  simp only [uLoad16_con] at h
  split at h
  case h_2 => exact h.elim
  split at h
  case h_2 => exact h.elim
  rename_i is_b_k
  split at h
  case h_2 => exact h.elim
  rename_i is_b_w
  split at h
  case h_2 => exact h.elim
  rename_i is_b_r
  split at h
  case h_2 => exact h.elim
  rename_i is_b_t
  split at h
  case h_2 => exact h.elim
  rename_i is_b_l
  split at h
  case h_2 => exact h.elim
  rename_i is_b_c
  exact CallSem.objs (uLoad16_sem _ K h) (fun _ _ _ h => h) ⟨WkO.same, WkO.same, WkO.cells (Mo.Cl.is_ok is_b_k), WkO.same, WkO.cells (Mo.Wd.is_ok is_b_w), WkO.cells (Mo.Rs.is_ok is_b_r), WkO.cells (Mo.Rt.is_ok is_b_t), WkO.cells (Mo.Ln.is_ok is_b_l), WkO.same, WkO.cells (Mo.Cnt.is_ok is_b_c), trivial⟩
noncomputable def Mo.dWire_v1 (b : Mo.Bd) : Mo.Bd := (if ((Mo.kLine_v1 0 (Mo.Bd.k b)) = true) then (if ((Mo.kSoft_v1 0 (Mo.Bd.k b)) = true) then (if ((Mo.Rt.raised (Mo.Bd.t b)) = true) then { b with l := (Mo.lAll_v1 (Mo.bPut1_v1 (Mo.bPut1_v1 (Mo.bPut1_v1 (slw (Mo.nLines_v1 (Mo.Bd.c b)) 8) 0) 24) 16) (Mo.Bd.l b)) } else { b with l := (Mo.lAll_v1 (Mo.bPut1_v1 (Mo.bPut1_v1 (slw (Mo.nLines_v1 (Mo.Bd.c b)) 8) 0) 24) (Mo.Bd.l b)) }) else (if ((Mo.Rt.raised (Mo.Bd.t b)) = true) then { b with l := (Mo.lAll_v1 (Mo.bPut1_v1 (Mo.bPut1_v1 (slw (Mo.nLines_v1 (Mo.Bd.c b)) 8) 0) 16) (Mo.Bd.l b)) } else { b with l := (Mo.lAll_v1 (Mo.bPut1_v1 (slw (Mo.nLines_v1 (Mo.Bd.c b)) 8) 0) (Mo.Bd.l b)) })) else (if ((Mo.kSoft_v1 0 (Mo.Bd.k b)) = true) then (if ((Mo.Rt.raised (Mo.Bd.t b)) = true) then { b with l := (Mo.lAll_v1 (Mo.bPut1_v1 (Mo.bPut1_v1 (slw (Mo.nLines_v1 (Mo.Bd.c b)) 8) 24) 16) (Mo.Bd.l b)) } else { b with l := (Mo.lAll_v1 (Mo.bPut1_v1 (slw (Mo.nLines_v1 (Mo.Bd.c b)) 8) 24) (Mo.Bd.l b)) }) else (if ((Mo.Rt.raised (Mo.Bd.t b)) = true) then { b with l := (Mo.lAll_v1 (Mo.bPut1_v1 (slw (Mo.nLines_v1 (Mo.Bd.c b)) 8) 16) (Mo.Bd.l b)) } else { b with l := (Mo.lAll_v1 (slw (Mo.nLines_v1 (Mo.Bd.c b)) 8) (Mo.Bd.l b)) })))
noncomputable def Mo.dWire_pre (b : Mo.Bd) : Prop := ((Mo.nLines_pre (Mo.Bd.c b)) ∧ ((Mo.kLine_pre 0 (Mo.Bd.k b)) ∧ (if ((Mo.kLine_v1 0 (Mo.Bd.k b)) = true) then ((Mo.bPut1_pre 0) ∧ ((Mo.kSoft_pre 0 (Mo.Bd.k b)) ∧ (if ((Mo.kSoft_v1 0 (Mo.Bd.k b)) = true) then ((Mo.bPut1_pre 24) ∧ (if ((Mo.Rt.raised (Mo.Bd.t b)) = true) then (Mo.bPut1_pre 16) else True)) else (if ((Mo.Rt.raised (Mo.Bd.t b)) = true) then (Mo.bPut1_pre 16) else True)))) else ((Mo.kSoft_pre 0 (Mo.Bd.k b)) ∧ (if ((Mo.kSoft_v1 0 (Mo.Bd.k b)) = true) then ((Mo.bPut1_pre 24) ∧ (if ((Mo.Rt.raised (Mo.Bd.t b)) = true) then (Mo.bPut1_pre 16) else True)) else (if ((Mo.Rt.raised (Mo.Bd.t b)) = true) then (Mo.bPut1_pre 16) else True))))))
noncomputable def dWire_tree (dv : Int) (b : Mo.Bd) (rs : List (List Int)) (K : S → List Ob → Prop) : Prop := ((Mo.nLines_pre (Mo.Bd.c b)) ∧ ((Mo.kLine_pre 0 (Mo.Bd.k b)) ∧ (if ((Mo.kLine_v1 0 (Mo.Bd.k b)) = true) then ((Mo.bPut1_pre 0) ∧ ((Mo.kSoft_pre 0 (Mo.Bd.k b)) ∧ (if ((Mo.kSoft_v1 0 (Mo.Bd.k b)) = true) then ((Mo.bPut1_pre 24) ∧ (True ∧ (if ((Mo.Rt.raised (Mo.Bd.t b)) = true) then ((Mo.bPut1_pre 16) ∧ (True ∧ K (.tup []) (h_BD dv { b with l := (Mo.lAll_v1 (Mo.bPut1_v1 (Mo.bPut1_v1 (Mo.bPut1_v1 (slw (Mo.nLines_v1 (Mo.Bd.c b)) 8) 0) 24) 16) (Mo.Bd.l b)) } rs))) else (True ∧ K (.tup []) (h_BD dv { b with l := (Mo.lAll_v1 (Mo.bPut1_v1 (Mo.bPut1_v1 (slw (Mo.nLines_v1 (Mo.Bd.c b)) 8) 0) 24) (Mo.Bd.l b)) } rs))))) else (True ∧ (if ((Mo.Rt.raised (Mo.Bd.t b)) = true) then ((Mo.bPut1_pre 16) ∧ (True ∧ K (.tup []) (h_BD dv { b with l := (Mo.lAll_v1 (Mo.bPut1_v1 (Mo.bPut1_v1 (slw (Mo.nLines_v1 (Mo.Bd.c b)) 8) 0) 16) (Mo.Bd.l b)) } rs))) else (True ∧ K (.tup []) (h_BD dv { b with l := (Mo.lAll_v1 (Mo.bPut1_v1 (slw (Mo.nLines_v1 (Mo.Bd.c b)) 8) 0) (Mo.Bd.l b)) } rs))))))) else ((Mo.kSoft_pre 0 (Mo.Bd.k b)) ∧ (if ((Mo.kSoft_v1 0 (Mo.Bd.k b)) = true) then ((Mo.bPut1_pre 24) ∧ (True ∧ (if ((Mo.Rt.raised (Mo.Bd.t b)) = true) then ((Mo.bPut1_pre 16) ∧ (True ∧ K (.tup []) (h_BD dv { b with l := (Mo.lAll_v1 (Mo.bPut1_v1 (Mo.bPut1_v1 (slw (Mo.nLines_v1 (Mo.Bd.c b)) 8) 24) 16) (Mo.Bd.l b)) } rs))) else (True ∧ K (.tup []) (h_BD dv { b with l := (Mo.lAll_v1 (Mo.bPut1_v1 (slw (Mo.nLines_v1 (Mo.Bd.c b)) 8) 24) (Mo.Bd.l b)) } rs))))) else (True ∧ (if ((Mo.Rt.raised (Mo.Bd.t b)) = true) then ((Mo.bPut1_pre 16) ∧ (True ∧ K (.tup []) (h_BD dv { b with l := (Mo.lAll_v1 (Mo.bPut1_v1 (slw (Mo.nLines_v1 (Mo.Bd.c b)) 8) 16) (Mo.Bd.l b)) } rs))) else (True ∧ K (.tup []) (h_BD dv { b with l := (Mo.lAll_v1 (slw (Mo.nLines_v1 (Mo.Bd.c b)) 8) (Mo.Bd.l b)) } rs)))))))))
theorem dWire_run (dv : Int) (b : Mo.Bd) (rs : List (List Int)) (K : S → List Ob → Prop) : callX (std noW) tt ffFcC stopFcC (lpB noW Tryz.prog) noL 100 116 [.ptr 0 (.l 0)] (h_BD dv b rs) (gcK 12 (ivK false K)) = dWire_tree dv b rs K := by kernel_rfl
noncomputable def dWire_T (dv : Int) (b : Mo.Bd) (rs : List (List Int)) (K : S → List Ob → Prop) : Prop := Mo.dWire_pre b ∧ K (.tup []) (h_BD dv (Mo.dWire_v1 b) rs)
theorem dWire_all (dv : Int) (b : Mo.Bd) (rs : List (List Int)) (K : S → List Ob → Prop) (h : dWire_T dv b rs K) : dWire_tree dv b rs K := by
  unfold dWire_T at h; obtain ⟨h0, h⟩ := h; unfold dWire_tree
  try simp only [Mo.dWire_v1] at h0 h
  try simp only [Mo.dWire_pre] at h0 h
  repeat' (first | (refine ite_intro (fun c => ?_) (fun c => ?_) <;> first | simp only [if_pos c] at h0 h | simp only [if_neg c] at h0 h | skip) | with_reducible (replace h0 := (h0 : True ∧ _).2) | with_reducible (refine ⟨rfl, ?_⟩) | with_reducible (refine ⟨h0.1, ?_⟩; replace h0 := h0.2) | with_reducible (refine ⟨h0, ?_⟩) | (refine ⟨h0.1, ?_⟩; replace h0 := h0.2) | refine ⟨h0, ?_⟩ | refine ⟨rfl, ?_⟩ | refine ⟨trivial, ?_⟩ | refine ⟨by assumption, ?_⟩ | refine ⟨Eq.symm (by assumption), ?_⟩ | exact h | refine ⟨?_, ?_⟩ | exact h0.elim | trivial | contradiction | (simp only [if_true, if_false, Bool.false_eq_true] at h; exact h))
theorem dWire_sem (dv : Int) (b : Mo.Bd) (rs : List (List Int)) (K : S → List Ob → Prop) (h : dWire_T dv b rs K) : CallSem noW Tryz.prog 116 [.ptr 0 (.l 0)] (h_BD dv b rs) K := iv_call (callX_ok tok (by kernel_rfl) ffFcCok stopFcC_ok _ _ _ _ (Eq.mpr (dWire_run dv b rs K) (dWire_all dv b rs K h)))
noncomputable def dWire_con : Con := ⟨[.ptr 0], t_BD, [], fun a K => match a with | ⟨[dv], [], [], [cs_b_k, cs_b_w, cs_b_t, cs_b_r, cs_b_l, cs_b_c], [rs]⟩ => (match Mo.Cl.is cs_b_k with | true => (match Mo.Wd.is cs_b_w with | true => (match Mo.Rt.is cs_b_t with | true => (match Mo.Rs.is cs_b_r with | true => (match Mo.Ln.is cs_b_l with | true => (match Mo.Cnt.is cs_b_c with | true => dWire_T dv (Mo.Bd.mk (Mo.Cl.of cs_b_k) (Mo.Wd.of cs_b_w) (Mo.Rt.of cs_b_t) (Mo.Rs.of cs_b_r) (Mo.Ln.of cs_b_l) (Mo.Cnt.of cs_b_c)) rs K | false => False) | false => False) | false => False) | false => False) | false => False) | false => False) | _ => False⟩
theorem dWire_ok : dWire_con.ok noW Tryz.prog 116 := by
  intro a K h
  simp only [dWire_con] at h
  split at h
  case h_2 => exact h.elim
  split at h
  case h_2 => exact h.elim
  rename_i is_b_k
  split at h
  case h_2 => exact h.elim
  rename_i is_b_w
  split at h
  case h_2 => exact h.elim
  rename_i is_b_t
  split at h
  case h_2 => exact h.elim
  rename_i is_b_r
  split at h
  case h_2 => exact h.elim
  rename_i is_b_l
  split at h
  case h_2 => exact h.elim
  rename_i is_b_c
  exact CallSem.objs (dWire_sem _ _ _ K h) (fun _ _ _ h => h) ⟨WkO.same, WkO.cells (Mo.Cl.is_ok is_b_k), WkO.same, WkO.cells (Mo.Wd.is_ok is_b_w), WkO.cells (Mo.Rt.is_ok is_b_t), WkO.cells (Mo.Rs.is_ok is_b_r), WkO.cells (Mo.Ln.is_ok is_b_l), WkO.same, WkO.same, WkO.same, WkO.same, WkO.cells (Mo.Cnt.is_ok is_b_c), trivial⟩
noncomputable def hm_FcD_1 (x1 : Int) (x2 : List (List Int)) (x3 : Mo.Bd) : List Ob := [(.cells 131 [(.ptr 1 (.l 0)), (.ptr 2 (.l 0)), (.ptr 3 (.l 0)), (.ptr 4 (.l 0)), (.ptr 5 (.l 0)), (.ptr 6 (.l 0)), (.ptr 7 (.l 0)), (.iv .i64 1), (.iv .i64 1), (.iv .u32 x1), (.nsl 12 (.v (lenR x2)) false false)]), (.cells 183 (Mo.Cl.cells (Mo.Bd.k x3))), (.cells 188 [(.sli 9 (.l 0) (.l 1) (.lit (.l 1)) false)]), (.cells 194 (Mo.Wd.cells (Mo.Bd.w x3))), (.cells 190 (Mo.Rt.cells (Mo.Bd.t x3))), (.cells 200 (Mo.Rs.cells (Mo.Bd.r x3))), (.cells 204 (Mo.Ln.cells (Mo.Bd.l x3))), (.cells 227 [(.mp 10)]), .dead, (.row 185 1 (.l 1) [(.ptr 11 (.l 0))]), (.mapo [(.agg [(.il .u32 33554432), (.il .u32 49152)]), (.agg [(.il .u32 268500992), (.il .u32 256)]), (.agg [(.il .u32 268566528), (.il .u32 20)]), (.agg [(.il .u32 268632064), (.il .u32 16)]), (.agg [(.il .u32 268697600), (.il .u32 36)]), (.agg [(.il .u32 268763136), (.il .u32 12)])] [(.ifc 107 (.ptr 1 (.l 0))), (.ifc 110 (.ptr 2 (.l 0))), (.ifc 119 (.ptr 3 (.l 0))), (.ifc 125 (.ptr 5 (.l 0))), (.ifc 44 (.ptr 4 (.l 0))), (.ifc 127 (.ptr 6 (.l 0)))]), (.cells 246 (Mo.Cnt.cells (Mo.Bd.c x3))), (.nrow 73 [.i .u64, .i .i64] x2)]
noncomputable def Mo.dReset_v1 (cause : Int) (b : Mo.Bd) (rs : List (List Int)) : List (List Int) := (if ((stdQ QO.not (Mo.rLatch_v1 cause) (Mo.rLatch_v1 cause)) = true) then rs else (apI rs (((Mo.Cl.time (Mo.kReset_v1 (Mo.Bd.k b))) :: (cause :: List.nil)) :: List.nil)))
noncomputable def Mo.dReset_v2 (cause : Int) (b : Mo.Bd) : Mo.Bd := (if ((stdQ QO.not (Mo.rLatch_v1 cause) (Mo.rLatch_v1 cause)) = true) then { b with r := (Mo.rLatch_v2 cause (Mo.Bd.r b)) } else (Mo.Bd.mk (Mo.kReset_v1 (Mo.Bd.k b)) (Mo.wReset_v1) (Mo.tReset_v1 (Mo.Bd.t b)) (Mo.rLatch_v2 cause (Mo.Bd.r b)) (Mo.lReset_v1 (Mo.Bd.l b)) (Mo.cReset_v1 (Mo.Bd.c b))))
noncomputable def Mo.dReset_pre (cause : Int) (b : Mo.Bd) (rs : List (List Int)) : Prop := (if ((stdQ QO.not (Mo.rLatch_v1 cause) (Mo.rLatch_v1 cause)) = true) then True else (if ((iM (castI (stdN NO.mul (lenR (apI rs (((Mo.Cl.time (Mo.kReset_v1 (Mo.Bd.k b))) :: (cause :: List.nil)) :: List.nil))) (16 + 1))) 140737488355328) = true) then True else False))
noncomputable def dReset_tree (cause : Int) (dv : Int) (b : Mo.Bd) (rs : List (List Int)) (K : S → List Ob → Prop) : Prop := (True ∧ (if ((stdQ QO.not (Mo.rLatch_v1 cause) (Mo.rLatch_v1 cause)) = true) then K (.tup []) (hm_FcD_1 dv rs { b with r := (Mo.rLatch_v2 cause (Mo.Bd.r b)) }) else (True ∧ (True ∧ (True ∧ (True ∧ (True ∧ (True ∧ (((some (S.nsl 8 (NN.v (lenR rs)) false false)) = (some (S.nsl 8 (NN.v (lenR rs)) false false))) ∧ (((some (S.nsl 8 (NN.v (lenR rs)) false false)) = (some (S.nsl 8 (NN.v (lenR rs)) false false))) ∧ (if ((iM (castI (stdN NO.mul (lenR (apI rs (((Mo.Cl.time (Mo.kReset_v1 (Mo.Bd.k b))) :: (cause :: List.nil)) :: List.nil))) (16 + 1))) 140737488355328) = true) then K (.tup []) (hm_FcD_1 dv (apI rs (((Mo.Cl.time (Mo.kReset_v1 (Mo.Bd.k b))) :: (cause :: List.nil)) :: List.nil)) (Mo.Bd.mk (Mo.kReset_v1 (Mo.Bd.k b)) (Mo.wReset_v1) (Mo.tReset_v1 (Mo.Bd.t b)) (Mo.rLatch_v2 cause (Mo.Bd.r b)) (Mo.lReset_v1 (Mo.Bd.l b)) (Mo.cReset_v1 (Mo.Bd.c b)))) else False)))))))))))
theorem dReset_run (cause : Int) (dv : Int) (b : Mo.Bd) (rs : List (List Int)) (K : S → List Ob → Prop) : callX (std noW) tt ffFcC stopFcC (lpB noW Tryz.prog) noL 100 124 [.ptr 0 (.l 0), .iv .i64 cause] (h_BD dv b rs) (gcK 12 (nilK none (mvsK [8] (optK [] (ivK false K))))) = dReset_tree cause dv b rs K := by kernel_rfl
noncomputable def dReset_T (cause : Int) (dv : Int) (b : Mo.Bd) (rs : List (List Int)) (K : S → List Ob → Prop) : Prop := Mo.dReset_pre cause b rs ∧ K (.tup []) (hm_FcD_1 dv (Mo.dReset_v1 cause b rs) (Mo.dReset_v2 cause b))
theorem dReset_all (cause : Int) (dv : Int) (b : Mo.Bd) (rs : List (List Int)) (K : S → List Ob → Prop) (h : dReset_T cause dv b rs K) : dReset_tree cause dv b rs K := by
  unfold dReset_T at h; obtain ⟨h0, h⟩ := h; unfold dReset_tree
  try simp only [Mo.dReset_v1] at h0 h
  try simp only [Mo.dReset_v2] at h0 h
  try simp only [Mo.dReset_pre] at h0 h
  repeat' (first | (refine ite_intro (fun c => ?_) (fun c => ?_) <;> first | simp only [if_pos c] at h0 h | simp only [if_neg c] at h0 h | skip) | with_reducible (replace h0 := (h0 : True ∧ _).2) | with_reducible (refine ⟨rfl, ?_⟩) | with_reducible (refine ⟨h0.1, ?_⟩; replace h0 := h0.2) | with_reducible (refine ⟨h0, ?_⟩) | (refine ⟨h0.1, ?_⟩; replace h0 := h0.2) | refine ⟨h0, ?_⟩ | refine ⟨rfl, ?_⟩ | refine ⟨trivial, ?_⟩ | refine ⟨by assumption, ?_⟩ | refine ⟨Eq.symm (by assumption), ?_⟩ | exact h | refine ⟨?_, ?_⟩ | exact h0.elim | trivial | contradiction | (simp only [if_true, if_false, Bool.false_eq_true] at h; exact h))
theorem dReset_sem (cause : Int) (dv : Int) (b : Mo.Bd) (rs : List (List Int)) (K : S → List Ob → Prop) (h : dReset_T cause dv b rs K) : CallSem noW Tryz.prog 124 [.ptr 0 (.l 0), .iv .i64 cause] (h_BD dv b rs) K := all_call (callX_ok tok (by kernel_rfl) ffFcCok stopFcC_ok _ _ _ _ (Eq.mpr (dReset_run cause dv b rs K) (dReset_all cause dv b rs K h)))
noncomputable def dReset_con : Con := ⟨[.ptr 0, .int .i64], t_BD, [], fun a K => match a with | ⟨[cause, dv], [], [], [cs_b_k, cs_b_w, cs_b_t, cs_b_r, cs_b_l, cs_b_c], [rs]⟩ => (match Mo.Cl.is cs_b_k with | true => (match Mo.Wd.is cs_b_w with | true => (match Mo.Rt.is cs_b_t with | true => (match Mo.Rs.is cs_b_r with | true => (match Mo.Ln.is cs_b_l with | true => (match Mo.Cnt.is cs_b_c with | true => dReset_T cause dv (Mo.Bd.mk (Mo.Cl.of cs_b_k) (Mo.Wd.of cs_b_w) (Mo.Rt.of cs_b_t) (Mo.Rs.of cs_b_r) (Mo.Ln.of cs_b_l) (Mo.Cnt.of cs_b_c)) rs K | false => False) | false => False) | false => False) | false => False) | false => False) | false => False) | _ => False⟩
theorem dReset_ok : dReset_con.ok noW Tryz.prog 124 := by
  intro a K h
  simp only [dReset_con] at h
  split at h
  case h_2 => exact h.elim
  split at h
  case h_2 => exact h.elim
  rename_i is_b_k
  split at h
  case h_2 => exact h.elim
  rename_i is_b_w
  split at h
  case h_2 => exact h.elim
  rename_i is_b_t
  split at h
  case h_2 => exact h.elim
  rename_i is_b_r
  split at h
  case h_2 => exact h.elim
  rename_i is_b_l
  split at h
  case h_2 => exact h.elim
  rename_i is_b_c
  exact CallSem.objs (dReset_sem _ _ _ _ K h) (fun _ _ _ h => h) ⟨WkO.same, WkO.cells (Mo.Cl.is_ok is_b_k), WkO.same, WkO.cells (Mo.Wd.is_ok is_b_w), WkO.cells (Mo.Rt.is_ok is_b_t), WkO.cells (Mo.Rs.is_ok is_b_r), WkO.cells (Mo.Ln.is_ok is_b_l), WkO.same, WkO.same, WkO.same, WkO.same, WkO.cells (Mo.Cnt.is_ok is_b_c), trivial⟩
noncomputable def tabFcD (n : Nat) : List Con := match Nat.beq n 91 with | true => [uStore0_con, uStore4_con, uStore8_con, uStore12_con] | false => match Nat.beq n 129 with | true => [uLoad0_con, uLoad4_con, uLoad8_con, uLoad16_con] | false => match Nat.beq n 116 with | true => [dWire_con] | false => match Nat.beq n 124 with | true => [dReset_con] | false => tabFcC n
theorem tabFcD_ok : ∀ f, ∀ c ∈ tabFcD f, c.ok noW Tryz.prog f := by
  intro f c hc
  unfold tabFcD at hc
  split at hc
  · rename_i hf; have := Nat.eq_of_beq_eq_true hf; subst this
    simp only [List.mem_cons, List.not_mem_nil, or_false] at hc
    rcases hc with rfl | rfl | rfl | rfl
    · exact uStore0_ok
    · exact uStore4_ok
    · exact uStore8_ok
    · exact uStore12_ok
  split at hc
  · rename_i hf; have := Nat.eq_of_beq_eq_true hf; subst this
    simp only [List.mem_cons, List.not_mem_nil, or_false] at hc
    rcases hc with rfl | rfl | rfl | rfl
    · exact uLoad0_ok
    · exact uLoad4_ok
    · exact uLoad8_ok
    · exact uLoad16_ok
  split at hc
  · rename_i hf; have := Nat.eq_of_beq_eq_true hf; subst this
    simp only [List.mem_cons, List.not_mem_nil, or_false] at hc
    subst hc; exact dWire_ok
  split at hc
  · rename_i hf; have := Nat.eq_of_beq_eq_true hf; subst this
    simp only [List.mem_cons, List.not_mem_nil, or_false] at hc
    subst hc; exact dReset_ok
  exact tabFcC_ok f c hc
noncomputable def ffFcD (n : Nat) : Option FI := match Nat.beq n 91 with | true => none | false => match Nat.beq n 129 with | true => none | false => match Nat.beq n 116 with | true => none | false => match Nat.beq n 124 with | true => none | false => ffFcC n
theorem ffFcDok : FOk Tryz.prog ffFcD := fun f fi hf => by
  unfold ffFcD at hf
  split at hf
  · cases hf
  split at hf
  · cases hf
  split at hf
  · cases hf
  split at hf
  · cases hf
  exact ffFcCok f fi hf
noncomputable def stopFcD : CallT := stopC tabFcD stopB
theorem stopFcD_ok : ∀ f args h K, stopFcD f args h K → CallSem noW Tryz.prog f args h K := stopC_ok tabFcD_ok stopB_ok
end Go.SX.Y
