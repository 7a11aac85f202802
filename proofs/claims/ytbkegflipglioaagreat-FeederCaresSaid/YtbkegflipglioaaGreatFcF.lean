/- What Go functions come to (lifted). -/
import Derived.Test.YtbkegflipglioaaGreatFcE
set_option maxRecDepth 20000
namespace Go.SX.Y
open Go.Proofs Go.RowKit
noncomputable def hm_FcF_1 (x1 : Int) (x2 : List (List Int)) (x3 : Mo.Bd) : List Ob := [(.cells 131 [(.ptr 1 (.l 0)), (.ptr 2 (.l 0)), (.ptr 3 (.l 0)), (.ptr 4 (.l 0)), (.ptr 5 (.l 0)), (.ptr 6 (.l 0)), (.ptr 7 (.l 0)), (.iv .i64 1), (.iv .i64 1), (.iv .u32 x1), (.nsl 12 (.v (lenR x2)) false false)]), (.cells 183 (Mo.Cl.cells (Mo.Bd.k x3))), (.cells 188 [(.sli 9 (.l 0) (.l 1) (.lit (.l 1)) false)]), (.cells 194 (Mo.Wd.cells (Mo.Bd.w x3))), (.cells 190 (Mo.Rt.cells (Mo.Bd.t x3))), (.cells 200 (Mo.Rs.cells (Mo.Bd.r x3))), (.cells 204 (Mo.Ln.cells (Mo.Bd.l x3))), (.cells 227 [(.mp 10)]), .dead, (.row 185 1 (.l 1) [(.ptr 11 (.l 0))]), (.mapo [(.agg [(.il .u32 33554432), (.il .u32 49152)]), (.agg [(.il .u32 268500992), (.il .u32 256)]), (.agg [(.il .u32 268566528), (.il .u32 20)]), (.agg [(.il .u32 268632064), (.il .u32 16)]), (.agg [(.il .u32 268697600), (.il .u32 36)]), (.agg [(.il .u32 268763136), (.il .u32 12)])] [(.ifc 107 (.ptr 1 (.l 0))), (.ifc 110 (.ptr 2 (.l 0))), (.ifc 119 (.ptr 3 (.l 0))), (.ifc 125 (.ptr 5 (.l 0))), (.ifc 44 (.ptr 4 (.l 0))), (.ifc 127 (.ptr 6 (.l 0)))]), (.cells 246 (Mo.Cnt.cells (Mo.Bd.c x3))), (.nrow 73 [.i .u64, .i .i64] x2)]
noncomputable def Mo.dTick_e1 (n : Int) (b : Mo.Bd) : Mo.Bd := Mo.dSettle_v2 { b with k := (Mo.kTick_v1 (Mo.wTick_v1 n (Mo.Bd.w b)) (Mo.Bd.k b)), w := (Mo.wTick_v2 n (Mo.Bd.w b)), t := (Mo.tTick_v1 (Mo.wTick_v1 n (Mo.Bd.w b)) (Mo.Bd.t b)), c := (Mo.cTick_v1 (Mo.wTick_v1 n (Mo.Bd.w b)) (Mo.Bd.c b)) }
noncomputable def Mo.dTick_e2 (n : Int) (b : Mo.Bd) : Int := Mo.wTick_v1 (sbq n (Mo.wTick_v1 n (Mo.Bd.w b))) (Mo.Bd.w (Mo.dTick_e1 n b))
noncomputable def Mo.dTick_e3 (n : Int) (b : Mo.Bd) : Mo.Wd := Mo.wTick_v2 (sbq n (Mo.wTick_v1 n (Mo.Bd.w b))) (Mo.Bd.w (Mo.dTick_e1 n b))
noncomputable def Mo.dTick_e4 (n : Int) (b : Mo.Bd) (rs : List (List Int)) : List (List Int) := Mo.dSettle_v1 { b with k := (Mo.kTick_v1 (Mo.wTick_v1 n (Mo.Bd.w b)) (Mo.Bd.k b)), w := (Mo.wTick_v2 n (Mo.Bd.w b)), t := (Mo.tTick_v1 (Mo.wTick_v1 n (Mo.Bd.w b)) (Mo.Bd.t b)), c := (Mo.cTick_v1 (Mo.wTick_v1 n (Mo.Bd.w b)) (Mo.Bd.c b)) } rs
noncomputable def Mo.dTick_e5 (n : Int) (b : Mo.Bd) : Mo.Bd := Mo.dSettle_v2 { (Mo.dTick_e1 n b) with k := (Mo.kTick_v1 (Mo.dTick_e2 n b) (Mo.Bd.k (Mo.dTick_e1 n b))), w := (Mo.dTick_e3 n b), t := (Mo.tTick_v1 (Mo.dTick_e2 n b) (Mo.Bd.t (Mo.dTick_e1 n b))), c := (Mo.cTick_v1 (Mo.dTick_e2 n b) (Mo.Bd.c (Mo.dTick_e1 n b))) }
noncomputable def Mo.dTick_e6 (n : Int) (b : Mo.Bd) (rs : List (List Int)) : List (List Int) := Mo.dSettle_v1 { (Mo.dTick_e1 n b) with k := (Mo.kTick_v1 (Mo.dTick_e2 n b) (Mo.Bd.k (Mo.dTick_e1 n b))), w := (Mo.dTick_e3 n b), t := (Mo.tTick_v1 (Mo.dTick_e2 n b) (Mo.Bd.t (Mo.dTick_e1 n b))), c := (Mo.cTick_v1 (Mo.dTick_e2 n b) (Mo.Bd.c (Mo.dTick_e1 n b))) } (Mo.dTick_e4 n b rs)
noncomputable def Mo.dTick_v1 (n : Int) (b : Mo.Bd) (rs : List (List Int)) : List (List Int) := (if ((iE (Mo.Wd.fault (Mo.wTick_v2 n (Mo.Bd.w b))) 0) = true) then (Mo.dTick_e4 n b rs) else (Mo.dTick_e6 n b rs))
noncomputable def Mo.dTick_v2 (n : Int) (b : Mo.Bd) : Mo.Bd := (if ((iE (Mo.Wd.fault (Mo.wTick_v2 n (Mo.Bd.w b))) 0) = true) then (Mo.dTick_e1 n b) else (Mo.dTick_e5 n b))
noncomputable def Mo.dTick_pre (n : Int) (b : Mo.Bd) (rs : List (List Int)) : Prop := ((Mo.kTick_pre (Mo.wTick_v1 n (Mo.Bd.w b)) (Mo.Bd.k b)) ∧ ((Mo.nTick_pre (Mo.wTick_v1 n (Mo.Bd.w b)) (Mo.Bd.c b)) ∧ ((Mo.tTick_pre (Mo.wTick_v1 n (Mo.Bd.w b)) (Mo.Bd.t b)) ∧ (if ((iE (Mo.Wd.fault (Mo.wTick_v2 n (Mo.Bd.w b))) 0) = true) then (Mo.dSettle_pre { b with k := (Mo.kTick_v1 (Mo.wTick_v1 n (Mo.Bd.w b)) (Mo.Bd.k b)), w := (Mo.wTick_v2 n (Mo.Bd.w b)), t := (Mo.tTick_v1 (Mo.wTick_v1 n (Mo.Bd.w b)) (Mo.Bd.t b)), c := (Mo.cTick_v1 (Mo.wTick_v1 n (Mo.Bd.w b)) (Mo.Bd.c b)) } rs) else ((Mo.dSettle_pre { b with k := (Mo.kTick_v1 (Mo.wTick_v1 n (Mo.Bd.w b)) (Mo.Bd.k b)), w := (Mo.wTick_v2 n (Mo.Bd.w b)), t := (Mo.tTick_v1 (Mo.wTick_v1 n (Mo.Bd.w b)) (Mo.Bd.t b)), c := (Mo.cTick_v1 (Mo.wTick_v1 n (Mo.Bd.w b)) (Mo.Bd.c b)) } rs) ∧ ((Mo.kTick_pre (Mo.dTick_e2 n b) (Mo.Bd.k (Mo.dTick_e1 n b))) ∧ ((Mo.nTick_pre (Mo.dTick_e2 n b) (Mo.Bd.c (Mo.dTick_e1 n b))) ∧ ((Mo.tTick_pre (Mo.dTick_e2 n b) (Mo.Bd.t (Mo.dTick_e1 n b))) ∧ (if ((iE (Mo.Wd.fault (Mo.dTick_e3 n b)) 0) = true) then (Mo.dSettle_pre { (Mo.dTick_e1 n b) with k := (Mo.kTick_v1 (Mo.dTick_e2 n b) (Mo.Bd.k (Mo.dTick_e1 n b))), w := (Mo.dTick_e3 n b), t := (Mo.tTick_v1 (Mo.dTick_e2 n b) (Mo.Bd.t (Mo.dTick_e1 n b))), c := (Mo.cTick_v1 (Mo.dTick_e2 n b) (Mo.Bd.c (Mo.dTick_e1 n b))) } (Mo.dTick_e4 n b rs)) else ((Mo.dSettle_pre { (Mo.dTick_e1 n b) with k := (Mo.kTick_v1 (Mo.dTick_e2 n b) (Mo.Bd.k (Mo.dTick_e1 n b))), w := (Mo.dTick_e3 n b), t := (Mo.tTick_v1 (Mo.dTick_e2 n b) (Mo.Bd.t (Mo.dTick_e1 n b))), c := (Mo.cTick_v1 (Mo.dTick_e2 n b) (Mo.Bd.c (Mo.dTick_e1 n b))) } (Mo.dTick_e4 n b rs)) ∧ False))))))))))
noncomputable def dTick_tree (n : Int) (dv : Int) (b : Mo.Bd) (rs : List (List Int)) (K : S → List Ob → Prop) : Prop := (True ∧ ((Mo.kTick_pre (Mo.wTick_v1 n (Mo.Bd.w b)) (Mo.Bd.k b)) ∧ ((Mo.nTick_pre (Mo.wTick_v1 n (Mo.Bd.w b)) (Mo.Bd.c b)) ∧ ((Mo.tTick_pre (Mo.wTick_v1 n (Mo.Bd.w b)) (Mo.Bd.t b)) ∧ (True ∧ (if ((iE (Mo.Wd.fault (Mo.wTick_v2 n (Mo.Bd.w b))) 0) = true) then (((lenR rs) = (lenR rs)) ∧ (((1 : Int) = 1) ∧ (((1 : Int) = 1) ∧ ((Mo.dSettle_pre { b with k := (Mo.kTick_v1 (Mo.wTick_v1 n (Mo.Bd.w b)) (Mo.Bd.k b)), w := (Mo.wTick_v2 n (Mo.Bd.w b)), t := (Mo.tTick_v1 (Mo.wTick_v1 n (Mo.Bd.w b)) (Mo.Bd.t b)), c := (Mo.cTick_v1 (Mo.wTick_v1 n (Mo.Bd.w b)) (Mo.Bd.c b)) } rs) ∧ K (.tup []) (hm_FcF_1 dv (Mo.dTick_e4 n b rs) (Mo.dTick_e1 n b)))))) else (((lenR rs) = (lenR rs)) ∧ (((1 : Int) = 1) ∧ (((1 : Int) = 1) ∧ ((Mo.dSettle_pre { b with k := (Mo.kTick_v1 (Mo.wTick_v1 n (Mo.Bd.w b)) (Mo.Bd.k b)), w := (Mo.wTick_v2 n (Mo.Bd.w b)), t := (Mo.tTick_v1 (Mo.wTick_v1 n (Mo.Bd.w b)) (Mo.Bd.t b)), c := (Mo.cTick_v1 (Mo.wTick_v1 n (Mo.Bd.w b)) (Mo.Bd.c b)) } rs) ∧ (True ∧ ((Mo.kTick_pre (Mo.dTick_e2 n b) (Mo.Bd.k (Mo.dTick_e1 n b))) ∧ ((Mo.nTick_pre (Mo.dTick_e2 n b) (Mo.Bd.c (Mo.dTick_e1 n b))) ∧ ((Mo.tTick_pre (Mo.dTick_e2 n b) (Mo.Bd.t (Mo.dTick_e1 n b))) ∧ (True ∧ (if ((iE (Mo.Wd.fault (Mo.dTick_e3 n b)) 0) = true) then (((lenR (Mo.dTick_e4 n b rs)) = (lenR (Mo.dTick_e4 n b rs))) ∧ (((1 : Int) = 1) ∧ (((1 : Int) = 1) ∧ ((Mo.dSettle_pre { (Mo.dTick_e1 n b) with k := (Mo.kTick_v1 (Mo.dTick_e2 n b) (Mo.Bd.k (Mo.dTick_e1 n b))), w := (Mo.dTick_e3 n b), t := (Mo.tTick_v1 (Mo.dTick_e2 n b) (Mo.Bd.t (Mo.dTick_e1 n b))), c := (Mo.cTick_v1 (Mo.dTick_e2 n b) (Mo.Bd.c (Mo.dTick_e1 n b))) } (Mo.dTick_e4 n b rs)) ∧ K (.tup []) (hm_FcF_1 dv (Mo.dTick_e6 n b rs) (Mo.dTick_e5 n b)))))) else (((lenR (Mo.dTick_e4 n b rs)) = (lenR (Mo.dTick_e4 n b rs))) ∧ (((1 : Int) = 1) ∧ (((1 : Int) = 1) ∧ ((Mo.dSettle_pre { (Mo.dTick_e1 n b) with k := (Mo.kTick_v1 (Mo.dTick_e2 n b) (Mo.Bd.k (Mo.dTick_e1 n b))), w := (Mo.dTick_e3 n b), t := (Mo.tTick_v1 (Mo.dTick_e2 n b) (Mo.Bd.t (Mo.dTick_e1 n b))), c := (Mo.cTick_v1 (Mo.dTick_e2 n b) (Mo.Bd.c (Mo.dTick_e1 n b))) } (Mo.dTick_e4 n b rs)) ∧ False))))))))))))))))))))
theorem dTick_run (n : Int) (dv : Int) (b : Mo.Bd) (rs : List (List Int)) (K : S → List Ob → Prop) : callX (std noW) tt ffFcE stopFcE (lpB noW Tryz.prog) noL 3 17 [.ptr 0 (.l 0), .iv .u64 n] (h_BD dv b rs) (gcK 12 (nilK none (mvsK [8] (optK [] (ivK false K))))) = dTick_tree n dv b rs K := by kernel_rfl
noncomputable def dTick_T (n : Int) (dv : Int) (b : Mo.Bd) (rs : List (List Int)) (K : S → List Ob → Prop) : Prop := Mo.dTick_pre n b rs ∧ K (.tup []) (hm_FcF_1 dv (Mo.dTick_v1 n b rs) (Mo.dTick_v2 n b))
theorem dTick_all (n : Int) (dv : Int) (b : Mo.Bd) (rs : List (List Int)) (K : S → List Ob → Prop) (h : dTick_T n dv b rs K) : dTick_tree n dv b rs K := by
  unfold dTick_T at h; obtain ⟨h0, h⟩ := h; unfold dTick_tree
  try simp only [Mo.dTick_v1] at h0 h
  try simp only [Mo.dTick_v2] at h0 h
  try simp only [Mo.dTick_pre] at h0 h
  repeat' (first | (refine ite_intro (fun c => ?_) (fun c => ?_) <;> first | simp only [if_pos c] at h0 h | simp only [if_neg c] at h0 h | skip) | with_reducible (replace h0 := (h0 : True ∧ _).2) | with_reducible (refine ⟨rfl, ?_⟩) | with_reducible (refine ⟨h0.1, ?_⟩; replace h0 := h0.2) | with_reducible (refine ⟨h0, ?_⟩) | (refine ⟨h0.1, ?_⟩; replace h0 := h0.2) | refine ⟨h0, ?_⟩ | refine ⟨rfl, ?_⟩ | refine ⟨trivial, ?_⟩ | refine ⟨by assumption, ?_⟩ | refine ⟨Eq.symm (by assumption), ?_⟩ | exact h | refine ⟨?_, ?_⟩ | exact h0.elim | trivial | contradiction | (simp only [if_true, if_false, Bool.false_eq_true] at h; exact h))
theorem dTick_sem (n : Int) (dv : Int) (b : Mo.Bd) (rs : List (List Int)) (K : S → List Ob → Prop) (h : dTick_T n dv b rs K) : CallSem noW Tryz.prog 17 [.ptr 0 (.l 0), .iv .u64 n] (h_BD dv b rs) K := all_call (callX_ok tok (by kernel_rfl) ffFcEok stopFcE_ok _ _ _ _ (Eq.mpr (dTick_run n dv b rs K) (dTick_all n dv b rs K h)))
noncomputable def dTick_con : Con := ⟨[.ptr 0, .int .u64], t_BD, [], fun a K => match a with | ⟨[n, dv], [], [], [cs_b_k, cs_b_w, cs_b_t, cs_b_r, cs_b_l, cs_b_c], [rs]⟩ => (match Mo.Cl.is cs_b_k with | true => (match Mo.Wd.is cs_b_w with | true => (match Mo.Rt.is cs_b_t with | true => (match Mo.Rs.is cs_b_r with | true => (match Mo.Ln.is cs_b_l with | true => (match Mo.Cnt.is cs_b_c with | true => dTick_T n dv (Mo.Bd.mk (Mo.Cl.of cs_b_k) (Mo.Wd.of cs_b_w) (Mo.Rt.of cs_b_t) (Mo.Rs.of cs_b_r) (Mo.Ln.of cs_b_l) (Mo.Cnt.of cs_b_c)) rs K | false => False) | false => False) | false => False) | false => False) | false => False) | false => False) | _ => False⟩
theorem dTick_ok : dTick_con.ok noW Tryz.prog 17 := by
  intro a K h
  simp only [dTick_con] at h
  split at h
  case h_2 => exact h.elim
  split at h
  case h_2 => exact h.elim
  rename_i is_b_k
  split at h
  case h_2 => exact h.elim
  rename_i is_b_w
  split at h
  case h_2 => exact h.elim
  rename_i is_b_t
  split at h
  case h_2 => exact h.elim
  rename_i is_b_r
  split at h
  case h_2 => exact h.elim
  rename_i is_b_l
  split at h
  case h_2 => exact h.elim
  rename_i is_b_c
  exact CallSem.objs (dTick_sem _ _ _ _ K h) (fun _ _ _ h => h) ⟨WkO.same, WkO.cells (Mo.Cl.is_ok is_b_k), WkO.same, WkO.cells (Mo.Wd.is_ok is_b_w), WkO.cells (Mo.Rt.is_ok is_b_t), WkO.cells (Mo.Rs.is_ok is_b_r), WkO.cells (Mo.Ln.is_ok is_b_l), WkO.same, WkO.same, WkO.same, WkO.same, WkO.cells (Mo.Cnt.is_ok is_b_c), trivial⟩
noncomputable def Mo.dStore0_v1 (v : Int) (b : Mo.Bd) : Mo.Bd := (Mo.dSettle_v2 (Mo.uStore0_v1 v b))
noncomputable def Mo.dStore0_pre (v : Int) (b : Mo.Bd) (rs : List (List Int)) : Prop := (Mo.dSettle_pre (Mo.uStore0_v1 v b) rs)
noncomputable def dStore0_tree (v : Int) (dv : Int) (b : Mo.Bd) (rs : List (List Int)) (K : S → List Ob → Prop) : Prop := (True ∧ (((lenR rs) = (lenR rs)) ∧ (((1 : Int) = 1) ∧ (((1 : Int) = 1) ∧ ((Mo.dSettle_pre (Mo.uStore0_v1 v b) rs) ∧ K (.il .i64 0) (hm_FcF_1 dv (Mo.dSettle_v1 (Mo.uStore0_v1 v b) rs) (Mo.dSettle_v2 (Mo.uStore0_v1 v b))))))))
theorem dStore0_run (v : Int) (dv : Int) (b : Mo.Bd) (rs : List (List Int)) (K : S → List Ob → Prop) : callX (std noW) tt ffFcE stopFcE (lpB noW Tryz.prog) noL 6 25 [.ptr 0 (.l 0), .il .u32 268566528, .iv .u32 v] (h_BD dv b rs) (gcK 12 (nilK none (mvsK [8] (optK [] (ivK false K))))) = dStore0_tree v dv b rs K := by kernel_rfl
noncomputable def dStore0_T (v : Int) (dv : Int) (b : Mo.Bd) (rs : List (List Int)) (K : S → List Ob → Prop) : Prop := Mo.dStore0_pre v b rs ∧ K (.il .i64 0) (hm_FcF_1 dv (Mo.dSettle_v1 (Mo.uStore0_v1 v b) rs) (Mo.dStore0_v1 v b))
theorem dStore0_all (v : Int) (dv : Int) (b : Mo.Bd) (rs : List (List Int)) (K : S → List Ob → Prop) (h : dStore0_T v dv b rs K) : dStore0_tree v dv b rs K := by
  unfold dStore0_T at h; obtain ⟨h0, h⟩ := h; unfold dStore0_tree
  try simp only [Mo.dStore0_v1] at h0 h
  try simp only [Mo.dStore0_pre] at h0 h
  repeat' (first | (refine ite_intro (fun c => ?_) (fun c => ?_) <;> first | simp only [if_pos c] at h0 h | simp only [if_neg c] at h0 h | skip) | with_reducible (replace h0 := (h0 : True ∧ _).2) | with_reducible (refine ⟨rfl, ?_⟩) | with_reducible (refine ⟨h0.1, ?_⟩; replace h0 := h0.2) | with_reducible (refine ⟨h0, ?_⟩) | (refine ⟨h0.1, ?_⟩; replace h0 := h0.2) | refine ⟨h0, ?_⟩ | refine ⟨rfl, ?_⟩ | refine ⟨trivial, ?_⟩ | refine ⟨by assumption, ?_⟩ | refine ⟨Eq.symm (by assumption), ?_⟩ | exact h | refine ⟨?_, ?_⟩ | exact h0.elim | trivial | contradiction | (simp only [if_true, if_false, Bool.false_eq_true] at h; exact h))
theorem dStore0_sem (v : Int) (dv : Int) (b : Mo.Bd) (rs : List (List Int)) (K : S → List Ob → Prop) (h : dStore0_T v dv b rs K) : CallSem noW Tryz.prog 25 [.ptr 0 (.l 0), .il .u32 268566528, .iv .u32 v] (h_BD dv b rs) K := all_call (callX_ok tok (by kernel_rfl) ffFcEok stopFcE_ok _ _ _ _ (Eq.mpr (dStore0_run v dv b rs K) (dStore0_all v dv b rs K h)))
noncomputable def dStore0_con : Con := ⟨[.ptr 0, .same (.il .u32 268566528), .int .u32], t_BD, [], fun a K => match a with | ⟨[v, dv], [], [], [cs_b_k, cs_b_w, cs_b_t, cs_b_r, cs_b_l, cs_b_c], [rs]⟩ => (match Mo.Cl.is cs_b_k with | true => (match Mo.Wd.is cs_b_w with | true => (match Mo.Rt.is cs_b_t with | true => (match Mo.Rs.is cs_b_r with | true => (match Mo.Ln.is cs_b_l with | true => (match Mo.Cnt.is cs_b_c with | true => dStore0_T v dv (Mo.Bd.mk (Mo.Cl.of cs_b_k) (Mo.Wd.of cs_b_w) (Mo.Rt.of cs_b_t) (Mo.Rs.of cs_b_r) (Mo.Ln.of cs_b_l) (Mo.Cnt.of cs_b_c)) rs K | false => False) | false => False) | false => False) | false => False) | false => False) | false => False) | _ => False⟩
theorem dStore0_ok : dStore0_con.ok noW Tryz.prog 25 := by
  intro a K h
  simp only [dStore0_con] at h
  split at h
  case h_2 => exact h.elim
  split at h
  case h_2 => exact h.elim
  rename_i is_b_k
  split at h
  case h_2 => exact h.elim
  rename_i is_b_w
  split at h
  case h_2 => exact h.elim
  rename_i is_b_t
  split at h
  case h_2 => exact h.elim
  rename_i is_b_r
  split at h
  case h_2 => exact h.elim
  rename_i is_b_l
  split at h
  case h_2 => exact h.elim
  rename_i is_b_c
  exact CallSem.objs (dStore0_sem _ _ _ _ K h) (fun _ _ _ h => h) ⟨WkO.same, WkO.cells (Mo.Cl.is_ok is_b_k), WkO.same, WkO.cells (Mo.Wd.is_ok is_b_w), WkO.cells (Mo.Rt.is_ok is_b_t), WkO.cells (Mo.Rs.is_ok is_b_r), WkO.cells (Mo.Ln.is_ok is_b_l), WkO.same, WkO.same, WkO.same, WkO.same, WkO.cells (Mo.Cnt.is_ok is_b_c), trivial⟩
noncomputable def Mo.dStore4_v1 (v : Int) (b : Mo.Bd) : Mo.Bd := (Mo.dSettle_v2 (Mo.uStore4_v1 v b))
noncomputable def Mo.dStore4_pre (v : Int) (b : Mo.Bd) (rs : List (List Int)) : Prop := (Mo.dSettle_pre (Mo.uStore4_v1 v b) rs)
noncomputable def dStore4_tree (v : Int) (dv : Int) (b : Mo.Bd) (rs : List (List Int)) (K : S → List Ob → Prop) : Prop := (True ∧ (((lenR rs) = (lenR rs)) ∧ (((1 : Int) = 1) ∧ (((1 : Int) = 1) ∧ ((Mo.dSettle_pre (Mo.uStore4_v1 v b) rs) ∧ K (.il .i64 0) (hm_FcF_1 dv (Mo.dSettle_v1 (Mo.uStore4_v1 v b) rs) (Mo.dSettle_v2 (Mo.uStore4_v1 v b))))))))
theorem dStore4_run (v : Int) (dv : Int) (b : Mo.Bd) (rs : List (List Int)) (K : S → List Ob → Prop) : callX (std noW) tt ffFcE stopFcE (lpB noW Tryz.prog) noL 6 25 [.ptr 0 (.l 0), .il .u32 268566532, .iv .u32 v] (h_BD dv b rs) (gcK 12 (nilK none (mvsK [8] (optK [] (ivK false K))))) = dStore4_tree v dv b rs K := by kernel_rfl
noncomputable def dStore4_T (v : Int) (dv : Int) (b : Mo.Bd) (rs : List (List Int)) (K : S → List Ob → Prop) : Prop := Mo.dStore4_pre v b rs ∧ K (.il .i64 0) (hm_FcF_1 dv (Mo.dSettle_v1 (Mo.uStore4_v1 v b) rs) (Mo.dStore4_v1 v b))
theorem dStore4_all (v : Int) (dv : Int) (b : Mo.Bd) (rs : List (List Int)) (K : S → List Ob → Prop) (h : dStore4_T v dv b rs K) : dStore4_tree v dv b rs K := by
  unfold dStore4_T at h; obtain ⟨h0, h⟩ := h; unfold dStore4_tree
  try simp only [Mo.dStore4_v1] at h0 h
  try simp only [Mo.dStore4_pre] at h0 h
  repeat' (first | (refine ite_intro (fun c => ?_) (fun c => ?_) <;> first | simp only [if_pos c] at h0 h | simp only [if_neg c] at h0 h | skip) | with_reducible (replace h0 := (h0 : True ∧ _).2) | with_reducible (refine ⟨rfl, ?_⟩) | with_reducible (refine ⟨h0.1, ?_⟩; replace h0 := h0.2) | with_reducible (refine ⟨h0, ?_⟩) | (refine ⟨h0.1, ?_⟩; replace h0 := h0.2) | refine ⟨h0, ?_⟩ | refine ⟨rfl, ?_⟩ | refine ⟨trivial, ?_⟩ | refine ⟨by assumption, ?_⟩ | refine ⟨Eq.symm (by assumption), ?_⟩ | exact h | refine ⟨?_, ?_⟩ | exact h0.elim | trivial | contradiction | (simp only [if_true, if_false, Bool.false_eq_true] at h; exact h))
theorem dStore4_sem (v : Int) (dv : Int) (b : Mo.Bd) (rs : List (List Int)) (K : S → List Ob → Prop) (h : dStore4_T v dv b rs K) : CallSem noW Tryz.prog 25 [.ptr 0 (.l 0), .il .u32 268566532, .iv .u32 v] (h_BD dv b rs) K := all_call (callX_ok tok (by kernel_rfl) ffFcEok stopFcE_ok _ _ _ _ (Eq.mpr (dStore4_run v dv b rs K) (dStore4_all v dv b rs K h)))
noncomputable def dStore4_con : Con := ⟨[.ptr 0, .same (.il .u32 268566532), .int .u32], t_BD, [], fun a K => match a with | ⟨[v, dv], [], [], [cs_b_k, cs_b_w, cs_b_t, cs_b_r, cs_b_l, cs_b_c], [rs]⟩ => (match Mo.Cl.is cs_b_k with | true => (match Mo.Wd.is cs_b_w with | true => (match Mo.Rt.is cs_b_t with | true => (match Mo.Rs.is cs_b_r with | true => (match Mo.Ln.is cs_b_l with | true => (match Mo.Cnt.is cs_b_c with | true => dStore4_T v dv (Mo.Bd.mk (Mo.Cl.of cs_b_k) (Mo.Wd.of cs_b_w) (Mo.Rt.of cs_b_t) (Mo.Rs.of cs_b_r) (Mo.Ln.of cs_b_l) (Mo.Cnt.of cs_b_c)) rs K | false => False) | false => False) | false => False) | false => False) | false => False) | false => False) | _ => False⟩
theorem dStore4_ok : dStore4_con.ok noW Tryz.prog 25 := by
  intro a K h
  simp only [dStore4_con] at h
  split at h
  case h_2 => exact h.elim
  split at h
  case h_2 => exact h.elim
  rename_i is_b_k
  split at h
  case h_2 => exact h.elim
  rename_i is_b_w
  split at h
  case h_2 => exact h.elim
  rename_i is_b_t
  split at h
  case h_2 => exact h.elim
  rename_i is_b_r
  split at h
  case h_2 => exact h.elim
  rename_i is_b_l
  split at h
  case h_2 => exact h.elim
  rename_i is_b_c
  exact CallSem.objs (dStore4_sem _ _ _ _ K h) (fun _ _ _ h => h) ⟨WkO.same, WkO.cells (Mo.Cl.is_ok is_b_k), WkO.same, WkO.cells (Mo.Wd.is_ok is_b_w), WkO.cells (Mo.Rt.is_ok is_b_t), WkO.cells (Mo.Rs.is_ok is_b_r), WkO.cells (Mo.Ln.is_ok is_b_l), WkO.same, WkO.same, WkO.same, WkO.same, WkO.cells (Mo.Cnt.is_ok is_b_c), trivial⟩
noncomputable def Mo.dStore8_v1 (v : Int) (b : Mo.Bd) : Mo.Bd := (Mo.dSettle_v2 (Mo.uStore8_v1 v b))
noncomputable def Mo.dStore8_pre (v : Int) (b : Mo.Bd) (rs : List (List Int)) : Prop := (Mo.dSettle_pre (Mo.uStore8_v1 v b) rs)
noncomputable def dStore8_tree (v : Int) (dv : Int) (b : Mo.Bd) (rs : List (List Int)) (K : S → List Ob → Prop) : Prop := (True ∧ (((lenR rs) = (lenR rs)) ∧ (((1 : Int) = 1) ∧ (((1 : Int) = 1) ∧ ((Mo.dSettle_pre (Mo.uStore8_v1 v b) rs) ∧ K (.il .i64 0) (hm_FcF_1 dv (Mo.dSettle_v1 (Mo.uStore8_v1 v b) rs) (Mo.dSettle_v2 (Mo.uStore8_v1 v b))))))))
theorem dStore8_run (v : Int) (dv : Int) (b : Mo.Bd) (rs : List (List Int)) (K : S → List Ob → Prop) : callX (std noW) tt ffFcE stopFcE (lpB noW Tryz.prog) noL 6 25 [.ptr 0 (.l 0), .il .u32 268566536, .iv .u32 v] (h_BD dv b rs) (gcK 12 (nilK none (mvsK [8] (optK [] (ivK false K))))) = dStore8_tree v dv b rs K := by kernel_rfl
noncomputable def dStore8_T (v : Int) (dv : Int) (b : Mo.Bd) (rs : List (List Int)) (K : S → List Ob → Prop) : Prop := Mo.dStore8_pre v b rs ∧ K (.il .i64 0) (hm_FcF_1 dv (Mo.dSettle_v1 (Mo.uStore8_v1 v b) rs) (Mo.dStore8_v1 v b))
theorem dStore8_all (v : Int) (dv : Int) (b : Mo.Bd) (rs : List (List Int)) (K : S → List Ob → Prop) (h : dStore8_T v dv b rs K) : dStore8_tree v dv b rs K := by
  unfold dStore8_T at h; obtain ⟨h0, h⟩ := h; unfold dStore8_tree
  try simp only [Mo.dStore8_v1] at h0 h
  try simp only [Mo.dStore8_pre] at h0 h
  repeat' (first | (refine ite_intro (fun c => ?_) (fun c => ?_) <;> first | simp only [if_pos c] at h0 h | simp only [if_neg c] at h0 h | skip) | with_reducible (replace h0 := (h0 : True ∧ _).2) | with_reducible (refine ⟨rfl, ?_⟩) | with_reducible (refine ⟨h0.1, ?_⟩; replace h0 := h0.2) | with_reducible (refine ⟨h0, ?_⟩) | (refine ⟨h0.1, ?_⟩; replace h0 := h0.2) | refine ⟨h0, ?_⟩ | refine ⟨rfl, ?_⟩ | refine ⟨trivial, ?_⟩ | refine ⟨by assumption, ?_⟩ | refine ⟨Eq.symm (by assumption), ?_⟩ | exact h | refine ⟨?_, ?_⟩ | exact h0.elim | trivial | contradiction | (simp only [if_true, if_false, Bool.false_eq_true] at h; exact h))
theorem dStore8_sem (v : Int) (dv : Int) (b : Mo.Bd) (rs : List (List Int)) (K : S → List Ob → Prop) (h : dStore8_T v dv b rs K) : CallSem noW Tryz.prog 25 [.ptr 0 (.l 0), .il .u32 268566536, .iv .u32 v] (h_BD dv b rs) K := all_call (callX_ok tok (by kernel_rfl) ffFcEok stopFcE_ok _ _ _ _ (Eq.mpr (dStore8_run v dv b rs K) (dStore8_all v dv b rs K h)))
noncomputable def dStore8_con : Con := ⟨[.ptr 0, .same (.il .u32 268566536), .int .u32], t_BD, [], fun a K => match a with | ⟨[v, dv], [], [], [cs_b_k, cs_b_w, cs_b_t, cs_b_r, cs_b_l, cs_b_c], [rs]⟩ => (match Mo.Cl.is cs_b_k with | true => (match Mo.Wd.is cs_b_w with | true => (match Mo.Rt.is cs_b_t with | true => (match Mo.Rs.is cs_b_r with | true => (match Mo.Ln.is cs_b_l with | true => (match Mo.Cnt.is cs_b_c with | true => dStore8_T v dv (Mo.Bd.mk (Mo.Cl.of cs_b_k) (Mo.Wd.of cs_b_w) (Mo.Rt.of cs_b_t) (Mo.Rs.of cs_b_r) (Mo.Ln.of cs_b_l) (Mo.Cnt.of cs_b_c)) rs K | false => False) | false => False) | false => False) | false => False) | false => False) | false => False) | _ => False⟩
theorem dStore8_ok : dStore8_con.ok noW Tryz.prog 25 := by
  intro a K h
  simp only [dStore8_con] at h
  split at h
  case h_2 => exact h.elim
  split at h
  case h_2 => exact h.elim
  rename_i is_b_k
  split at h
  case h_2 => exact h.elim
  rename_i is_b_w
  split at h
  case h_2 => exact h.elim
  rename_i is_b_t
  split at h
  case h_2 => exact h.elim
  rename_i is_b_r
  split at h
  case h_2 => exact h.elim
  rename_i is_b_l
  split at h
  case h_2 => exact h.elim
  rename_i is_b_c
  exact CallSem.objs (dStore8_sem _ _ _ _ K h) (fun _ _ _ h => h) ⟨WkO.same, WkO.cells (Mo.Cl.is_ok is_b_k), WkO.same, WkO.cells (Mo.Wd.is_ok is_b_w), WkO.cells (Mo.Rt.is_ok is_b_t), WkO.cells (Mo.Rs.is_ok is_b_r), WkO.cells (Mo.Ln.is_ok is_b_l), WkO.same, WkO.same, WkO.same, WkO.same, WkO.cells (Mo.Cnt.is_ok is_b_c), trivial⟩
noncomputable def Mo.dStore12_v1 (v : Int) (b : Mo.Bd) : Mo.Bd := (Mo.dSettle_v2 (Mo.uStore12_v1 v b))
noncomputable def Mo.dStore12_pre (v : Int) (b : Mo.Bd) (rs : List (List Int)) : Prop := (Mo.dSettle_pre (Mo.uStore12_v1 v b) rs)
noncomputable def dStore12_tree (v : Int) (dv : Int) (b : Mo.Bd) (rs : List (List Int)) (K : S → List Ob → Prop) : Prop := (True ∧ (((lenR rs) = (lenR rs)) ∧ (((1 : Int) = 1) ∧ (((1 : Int) = 1) ∧ ((Mo.dSettle_pre (Mo.uStore12_v1 v b) rs) ∧ K (.il .i64 0) (hm_FcF_1 dv (Mo.dSettle_v1 (Mo.uStore12_v1 v b) rs) (Mo.dSettle_v2 (Mo.uStore12_v1 v b))))))))
theorem dStore12_run (v : Int) (dv : Int) (b : Mo.Bd) (rs : List (List Int)) (K : S → List Ob → Prop) : callX (std noW) tt ffFcE stopFcE (lpB noW Tryz.prog) noL 6 25 [.ptr 0 (.l 0), .il .u32 268566540, .iv .u32 v] (h_BD dv b rs) (gcK 12 (nilK none (mvsK [8] (optK [] (ivK false K))))) = dStore12_tree v dv b rs K := by kernel_rfl
noncomputable def dStore12_T (v : Int) (dv : Int) (b : Mo.Bd) (rs : List (List Int)) (K : S → List Ob → Prop) : Prop := Mo.dStore12_pre v b rs ∧ K (.il .i64 0) (hm_FcF_1 dv (Mo.dSettle_v1 (Mo.uStore12_v1 v b) rs) (Mo.dStore12_v1 v b))
theorem dStore12_all (v : Int) (dv : Int) (b : Mo.Bd) (rs : List (List Int)) (K : S → List Ob → Prop) (h : dStore12_T v dv b rs K) : dStore12_tree v dv b rs K := by
  unfold dStore12_T at h; obtain ⟨h0, h⟩ := h; unfold dStore12_tree
  try simp only [Mo.dStore12_v1] at h0 h
  try simp only [Mo.dStore12_pre] at h0 h
  repeat' (first | (refine ite_intro (fun c => ?_) (fun c => ?_) <;> first | simp only [if_pos c] at h0 h | simp only [if_neg c] at h0 h | skip) | with_reducible (replace h0 := (h0 : True ∧ _).2) | with_reducible (refine ⟨rfl, ?_⟩) | with_reducible (refine ⟨h0.1, ?_⟩; replace h0 := h0.2) | with_reducible (refine ⟨h0, ?_⟩) | (refine ⟨h0.1, ?_⟩; replace h0 := h0.2) | refine ⟨h0, ?_⟩ | refine ⟨rfl, ?_⟩ | refine ⟨trivial, ?_⟩ | refine ⟨by assumption, ?_⟩ | refine ⟨Eq.symm (by assumption), ?_⟩ | exact h | refine ⟨?_, ?_⟩ | exact h0.elim | trivial | contradiction | (simp only [if_true, if_false, Bool.false_eq_true] at h; exact h))
theorem dStore12_sem (v : Int) (dv : Int) (b : Mo.Bd) (rs : List (List Int)) (K : S → List Ob → Prop) (h : dStore12_T v dv b rs K) : CallSem noW Tryz.prog 25 [.ptr 0 (.l 0), .il .u32 268566540, .iv .u32 v] (h_BD dv b rs) K := all_call (callX_ok tok (by kernel_rfl) ffFcEok stopFcE_ok _ _ _ _ (Eq.mpr (dStore12_run v dv b rs K) (dStore12_all v dv b rs K h)))
noncomputable def dStore12_con : Con := ⟨[.ptr 0, .same (.il .u32 268566540), .int .u32], t_BD, [], fun a K => match a with | ⟨[v, dv], [], [], [cs_b_k, cs_b_w, cs_b_t, cs_b_r, cs_b_l, cs_b_c], [rs]⟩ => (match Mo.Cl.is cs_b_k with | true => (match Mo.Wd.is cs_b_w with | true => (match Mo.Rt.is cs_b_t with | true => (match Mo.Rs.is cs_b_r with | true => (match Mo.Ln.is cs_b_l with | true => (match Mo.Cnt.is cs_b_c with | true => dStore12_T v dv (Mo.Bd.mk (Mo.Cl.of cs_b_k) (Mo.Wd.of cs_b_w) (Mo.Rt.of cs_b_t) (Mo.Rs.of cs_b_r) (Mo.Ln.of cs_b_l) (Mo.Cnt.of cs_b_c)) rs K | false => False) | false => False) | false => False) | false => False) | false => False) | false => False) | _ => False⟩
theorem dStore12_ok : dStore12_con.ok noW Tryz.prog 25 := by
  intro a K h
  simp only [dStore12_con] at h
  split at h
  case h_2 => exact h.elim
  split at h
  case h_2 => exact h.elim
  rename_i is_b_k
  split at h
  case h_2 => exact h.elim
  rename_i is_b_w
  split at h
  case h_2 => exact h.elim
  rename_i is_b_t
  split at h
  case h_2 => exact h.elim
  rename_i is_b_r
  split at h
  case h_2 => exact h.elim
  rename_i is_b_l
  split at h
  case h_2 => exact h.elim
  rename_i is_b_c
  exact CallSem.objs (dStore12_sem _ _ _ _ K h) (fun _ _ _ h => h) ⟨WkO.same, WkO.cells (Mo.Cl.is_ok is_b_k), WkO.same, WkO.cells (Mo.Wd.is_ok is_b_w), WkO.cells (Mo.Rt.is_ok is_b_t), WkO.cells (Mo.Rs.is_ok is_b_r), WkO.cells (Mo.Ln.is_ok is_b_l), WkO.same, WkO.same, WkO.same, WkO.same, WkO.cells (Mo.Cnt.is_ok is_b_c), trivial⟩
noncomputable def Mo.dLoad0_pre (b : Mo.Bd) : Prop := (Mo.uLoad0_pre b)
noncomputable def dLoad0_tree (dv : Int) (b : Mo.Bd) (rs : List (List Int)) (K : S → List Ob → Prop) : Prop := ((Mo.uLoad0_pre b) ∧ K (.tup [(.iv .u32 (Mo.uLoad0_v1 b)), (.iv .i64 0)]) (h_BD dv b rs))
theorem dLoad0_run (dv : Int) (b : Mo.Bd) (rs : List (List Int)) (K : S → List Ob → Prop) : callX (std noW) tt ffFcE stopFcE (lpB noW Tryz.prog) noL 6 90 [.ptr 0 (.l 0), .il .u32 268566528] (h_BD dv b rs) (gcK 12 (ivK false K)) = dLoad0_tree dv b rs K := by kernel_rfl
noncomputable def dLoad0_T (dv : Int) (b : Mo.Bd) (rs : List (List Int)) (K : S → List Ob → Prop) : Prop := Mo.dLoad0_pre b ∧ K (.tup [(.iv .u32 (Mo.uLoad0_v1 b)), (.iv .i64 0)]) (h_BD dv b rs)
theorem dLoad0_all (dv : Int) (b : Mo.Bd) (rs : List (List Int)) (K : S → List Ob → Prop) (h : dLoad0_T dv b rs K) : dLoad0_tree dv b rs K := by
  unfold dLoad0_T at h; obtain ⟨h0, h⟩ := h; unfold dLoad0_tree
  try simp only [Mo.dLoad0_pre] at h0 h
  repeat' first | exact h | refine ⟨rfl, ?_⟩ | (refine ⟨h0.1, ?_⟩; replace h0 := h0.2) | refine ⟨h0, ?_⟩ | exact h0.elim | (refine ite_intro (fun c => ?_) fun c => ?_) <;> first | simp only [if_pos c] at h0 h | simp only [if_neg c] at h0 h | skip
theorem dLoad0_sem (dv : Int) (b : Mo.Bd) (rs : List (List Int)) (K : S → List Ob → Prop) (h : dLoad0_T dv b rs K) : CallSem noW Tryz.prog 90 [.ptr 0 (.l 0), .il .u32 268566528] (h_BD dv b rs) K := iv_call (callX_ok tok (by kernel_rfl) ffFcEok stopFcE_ok _ _ _ _ (Eq.mpr (dLoad0_run dv b rs K) (dLoad0_all dv b rs K h)))
noncomputable def dLoad0_con : Con := ⟨[.ptr 0, .same (.il .u32 268566528)], t_BD, [], fun a K => match a with | ⟨[dv], [], [], [cs_b_k, cs_b_w, cs_b_t, cs_b_r, cs_b_l, cs_b_c], [rs]⟩ => (match Mo.Cl.is cs_b_k with | true => (match Mo.Wd.is cs_b_w with | true => (match Mo.Rt.is cs_b_t with | true => (match Mo.Rs.is cs_b_r with | true => (match Mo.Ln.is cs_b_l with | true => (match Mo.Cnt.is cs_b_c with | true => dLoad0_T dv (Mo.Bd.mk (Mo.Cl.of cs_b_k) (Mo.Wd.of cs_b_w) (Mo.Rt.of cs_b_t) (Mo.Rs.of cs_b_r) (Mo.Ln.of cs_b_l) (Mo.Cnt.of cs_b_c)) rs K | false => False) | false => False) | false => False) | false => False) | false => False) | false => False) | _ => False⟩
theorem dLoad0_ok : dLoad0_con.ok noW Tryz.prog 90 := by
  intro a K h
  simp only [dLoad0_con] at h
  split at h
  case h_2 => exact h.elim
  split at h
  case h_2 => exact h.elim
  rename_i is_b_k
  split at h
  case h_2 => exact h.elim
  rename_i is_b_w
  split at h
  case h_2 => exact h.elim
  rename_i is_b_t
  split at h
  case h_2 => exact h.elim
  rename_i is_b_r
  split at h
  case h_2 => exact h.elim
  rename_i is_b_l
  split at h
  case h_2 => exact h.elim
  rename_i is_b_c
  exact CallSem.objs (dLoad0_sem _ _ _ K h) (fun _ _ _ h => h) ⟨WkO.same, WkO.cells (Mo.Cl.is_ok is_b_k), WkO.same, WkO.cells (Mo.Wd.is_ok is_b_w), WkO.cells (Mo.Rt.is_ok is_b_t), WkO.cells (Mo.Rs.is_ok is_b_r), WkO.cells (Mo.Ln.is_ok is_b_l), WkO.same, WkO.same, WkO.same, WkO.same, WkO.cells (Mo.Cnt.is_ok is_b_c), trivial⟩
noncomputable def Mo.dLoad4_pre (b : Mo.Bd) : Prop := (Mo.uLoad4_pre b)
noncomputable def dLoad4_tree (dv : Int) (b : Mo.Bd) (rs : List (List Int)) (K : S → List Ob → Prop) : Prop := ((Mo.uLoad4_pre b) ∧ K (.tup [(.iv .u32 (Mo.Wd.shut (Mo.Bd.w b))), (.il .i64 0)]) (h_BD dv b rs))
theorem dLoad4_run (dv : Int) (b : Mo.Bd) (rs : List (List Int)) (K : S → List Ob → Prop) : callX (std noW) tt ffFcE stopFcE (lpB noW Tryz.prog) noL 6 90 [.ptr 0 (.l 0), .il .u32 268566532] (h_BD dv b rs) (gcK 12 (ivK false K)) = dLoad4_tree dv b rs K := by kernel_rfl
noncomputable def dLoad4_T (dv : Int) (b : Mo.Bd) (rs : List (List Int)) (K : S → List Ob → Prop) : Prop := Mo.dLoad4_pre b ∧ K (.tup [(.iv .u32 (Mo.Wd.shut (Mo.Bd.w b))), (.il .i64 0)]) (h_BD dv b rs)
theorem dLoad4_all (dv : Int) (b : Mo.Bd) (rs : List (List Int)) (K : S → List Ob → Prop) (h : dLoad4_T dv b rs K) : dLoad4_tree dv b rs K := by
  unfold dLoad4_T at h; obtain ⟨h0, h⟩ := h; unfold dLoad4_tree
  try simp only [Mo.dLoad4_pre] at h0 h
  repeat' first | exact h | refine ⟨rfl, ?_⟩ | (refine ⟨h0.1, ?_⟩; replace h0 := h0.2) | refine ⟨h0, ?_⟩ | exact h0.elim | (refine ite_intro (fun c => ?_) fun c => ?_) <;> first | simp only [if_pos c] at h0 h | simp only [if_neg c] at h0 h | skip
theorem dLoad4_sem (dv : Int) (b : Mo.Bd) (rs : List (List Int)) (K : S → List Ob → Prop) (h : dLoad4_T dv b rs K) : CallSem noW Tryz.prog 90 [.ptr 0 (.l 0), .il .u32 268566532] (h_BD dv b rs) K := iv_call (callX_ok tok (by kernel_rfl) ffFcEok stopFcE_ok _ _ _ _ (Eq.mpr (dLoad4_run dv b rs K) (dLoad4_all dv b rs K h)))
noncomputable def dLoad4_con : Con := ⟨[.ptr 0, .same (.il .u32 268566532)], t_BD, [], fun a K => match a with | ⟨[dv], [], [], [cs_b_k, cs_b_w, cs_b_t, cs_b_r, cs_b_l, cs_b_c], [rs]⟩ => (match Mo.Cl.is cs_b_k with | true => (match Mo.Wd.is cs_b_w with | true => (match Mo.Rt.is cs_b_t with | true => (match Mo.Rs.is cs_b_r with | true => (match Mo.Ln.is cs_b_l with | true => (match Mo.Cnt.is cs_b_c with | true => dLoad4_T dv (Mo.Bd.mk (Mo.Cl.of cs_b_k) (Mo.Wd.of cs_b_w) (Mo.Rt.of cs_b_t) (Mo.Rs.of cs_b_r) (Mo.Ln.of cs_b_l) (Mo.Cnt.of cs_b_c)) rs K | false => False) | false => False) | false => False) | false => False) | false => False) | false => False) | _ => False⟩
theorem dLoad4_ok : dLoad4_con.ok noW Tryz.prog 90 := by
  intro a K h
  simp only [dLoad4_con] at h
  split at h
  case h_2 => exact h.elim
  split at h
  case h_2 => exact h.elim
  rename_i is_b_k
  split at h
  case h_2 => exact h.elim
  rename_i is_b_w
  split at h
  case h_2 => exact h.elim
  rename_i is_b_t
  split at h
  case h_2 => exact h.elim
  rename_i is_b_r
  split at h
  case h_2 => exact h.elim
  rename_i is_b_l
  split at h
  case h_2 => exact h.elim
  rename_i is_b_c
  exact CallSem.objs (dLoad4_sem _ _ _ K h) (fun _ _ _ h => h) ⟨WkO.same, WkO.cells (Mo.Cl.is_ok is_b_k), WkO.same, WkO.cells (Mo.Wd.is_ok is_b_w), WkO.cells (Mo.Rt.is_ok is_b_t), WkO.cells (Mo.Rs.is_ok is_b_r), WkO.cells (Mo.Ln.is_ok is_b_l), WkO.same, WkO.same, WkO.same, WkO.same, WkO.cells (Mo.Cnt.is_ok is_b_c), trivial⟩
noncomputable def Mo.dLoad8_pre (b : Mo.Bd) : Prop := (Mo.uLoad8_pre b)
noncomputable def dLoad8_tree (dv : Int) (b : Mo.Bd) (rs : List (List Int)) (K : S → List Ob → Prop) : Prop := ((Mo.uLoad8_pre b) ∧ K (.tup [(.iv .u32 (Mo.Wd.all (Mo.Bd.w b))), (.il .i64 0)]) (h_BD dv b rs))
theorem dLoad8_run (dv : Int) (b : Mo.Bd) (rs : List (List Int)) (K : S → List Ob → Prop) : callX (std noW) tt ffFcE stopFcE (lpB noW Tryz.prog) noL 6 90 [.ptr 0 (.l 0), .il .u32 268566536] (h_BD dv b rs) (gcK 12 (ivK false K)) = dLoad8_tree dv b rs K := by kernel_rfl
noncomputable def dLoad8_T (dv : Int) (b : Mo.Bd) (rs : List (List Int)) (K : S → List Ob → Prop) : Prop := Mo.dLoad8_pre b ∧ K (.tup [(.iv .u32 (Mo.Wd.all (Mo.Bd.w b))), (.il .i64 0)]) (h_BD dv b rs)
theorem dLoad8_all (dv : Int) (b : Mo.Bd) (rs : List (List Int)) (K : S → List Ob → Prop) (h : dLoad8_T dv b rs K) : dLoad8_tree dv b rs K := by
  unfold dLoad8_T at h; obtain ⟨h0, h⟩ := h; unfold dLoad8_tree
  try simp only [Mo.dLoad8_pre] at h0 h
  repeat' first | exact h | refine ⟨rfl, ?_⟩ | (refine ⟨h0.1, ?_⟩; replace h0 := h0.2) | refine ⟨h0, ?_⟩ | exact h0.elim | (refine ite_intro (fun c => ?_) fun c => ?_) <;> first | simp only [if_pos c] at h0 h | simp only [if_neg c] at h0 h | skip
theorem dLoad8_sem (dv : Int) (b : Mo.Bd) (rs : List (List Int)) (K : S → List Ob → Prop) (h : dLoad8_T dv b rs K) : CallSem noW Tryz.prog 90 [.ptr 0 (.l 0), .il .u32 268566536] (h_BD dv b rs) K := iv_call (callX_ok tok (by kernel_rfl) ffFcEok stopFcE_ok _ _ _ _ (Eq.mpr (dLoad8_run dv b rs K) (dLoad8_all dv b rs K h)))
noncomputable def dLoad8_con : Con := ⟨[.ptr 0, .same (.il .u32 268566536)], t_BD, [], fun a K => match a with | ⟨[dv], [], [], [cs_b_k, cs_b_w, cs_b_t, cs_b_r, cs_b_l, cs_b_c], [rs]⟩ => (match Mo.Cl.is cs_b_k with | true => (match Mo.Wd.is cs_b_w with | true => (match Mo.Rt.is cs_b_t with | true => (match Mo.Rs.is cs_b_r with | true => (match Mo.Ln.is cs_b_l with | true => (match Mo.Cnt.is cs_b_c with | true => dLoad8_T dv (Mo.Bd.mk (Mo.Cl.of cs_b_k) (Mo.Wd.of cs_b_w) (Mo.Rt.of cs_b_t) (Mo.Rs.of cs_b_r) (Mo.Ln.of cs_b_l) (Mo.Cnt.of cs_b_c)) rs K | false => False) | false => False) | false => False) | false => False) | false => False) | false => False) | _ => False⟩
theorem dLoad8_ok : dLoad8_con.ok noW Tryz.prog 90 := by
  intro a K h
  simp only [dLoad8_con] at h
  split at h
  case h_2 => exact h.elim
  split at h
  case h_2 => exact h.elim
  rename_i is_b_k
  split at h
  case h_2 => exact h.elim
  rename_i is_b_w
  split at h
  case h_2 => exact h.elim
  rename_i is_b_t
  split at h
  case h_2 => exact h.elim
  rename_i is_b_r
  split at h
  case h_2 => exact h.elim
  rename_i is_b_l
  split at h
  case h_2 => exact h.elim
  rename_i is_b_c
  exact CallSem.objs (dLoad8_sem _ _ _ K h) (fun _ _ _ h => h) ⟨WkO.same, WkO.cells (Mo.Cl.is_ok is_b_k), WkO.same, WkO.cells (Mo.Wd.is_ok is_b_w), WkO.cells (Mo.Rt.is_ok is_b_t), WkO.cells (Mo.Rs.is_ok is_b_r), WkO.cells (Mo.Ln.is_ok is_b_l), WkO.same, WkO.same, WkO.same, WkO.same, WkO.cells (Mo.Cnt.is_ok is_b_c), trivial⟩
noncomputable def Mo.dLoad16_pre (b : Mo.Bd) : Prop := (Mo.uLoad16_pre b)
noncomputable def dLoad16_tree (dv : Int) (b : Mo.Bd) (rs : List (List Int)) (K : S → List Ob → Prop) : Prop := ((Mo.uLoad16_pre b) ∧ K (.tup [(.iv .u32 (cvw (Mo.Wd.since (Mo.Bd.w b)) 0)), (.il .i64 0)]) (h_BD dv b rs))
theorem dLoad16_run (dv : Int) (b : Mo.Bd) (rs : List (List Int)) (K : S → List Ob → Prop) : callX (std noW) tt ffFcE stopFcE (lpB noW Tryz.prog) noL 6 90 [.ptr 0 (.l 0), .il .u32 268566544] (h_BD dv b rs) (gcK 12 (ivK false K)) = dLoad16_tree dv b rs K := by kernel_rfl
noncomputable def dLoad16_T (dv : Int) (b : Mo.Bd) (rs : List (List Int)) (K : S → List Ob → Prop) : Prop := Mo.dLoad16_pre b ∧ K (.tup [(.iv .u32 (cvw (Mo.Wd.since (Mo.Bd.w b)) 0)), (.il .i64 0)]) (h_BD dv b rs)
theorem dLoad16_all (dv : Int) (b : Mo.Bd) (rs : List (List Int)) (K : S → List Ob → Prop) (h : dLoad16_T dv b rs K) : dLoad16_tree dv b rs K := by
  unfold dLoad16_T at h; obtain ⟨h0, h⟩ := h; unfold dLoad16_tree
  try simp only [Mo.dLoad16_pre] at h0 h
  repeat' first | exact h | refine ⟨rfl, ?_⟩ | (refine ⟨h0.1, ?_⟩; replace h0 := h0.2) | refine ⟨h0, ?_⟩ | exact h0.elim | (refine ite_intro (fun c => ?_) fun c => ?_) <;> first | simp only [if_pos c] at h0 h | simp only [if_neg c] at h0 h | skip
theorem dLoad16_sem (dv : Int) (b : Mo.Bd) (rs : List (List Int)) (K : S → List Ob → Prop) (h : dLoad16_T dv b rs K) : CallSem noW Tryz.prog 90 [.ptr 0 (.l 0), .il .u32 268566544] (h_BD dv b rs) K := iv_call (callX_ok tok (by kernel_rfl) ffFcEok stopFcE_ok _ _ _ _ (Eq.mpr (dLoad16_run dv b rs K) (dLoad16_all dv b rs K h)))
noncomputable def dLoad16_con : Con := ⟨[.ptr 0, .same (.il .u32 268566544)], t_BD, [], fun a K => match a with | ⟨[dv], [], [], [cs_b_k, cs_b_w, cs_b_t, cs_b_r, cs_b_l, cs_b_c], [rs]⟩ => (match Mo.Cl.is cs_b_k with | true => (match Mo.Wd.is cs_b_w with | true => (match Mo.Rt.is cs_b_t with | true => (match Mo.Rs.is cs_b_r with | true => (match Mo.Ln.is cs_b_l with | true => (match Mo.Cnt.is cs_b_c with | true => dLoad16_T dv (Mo.Bd.mk (Mo.Cl.of cs_b_k) (Mo.Wd.of cs_b_w) (Mo.Rt.of cs_b_t) (Mo.Rs.of cs_b_r) (Mo.Ln.of cs_b_l) (Mo.Cnt.of cs_b_c)) rs K | false => False) | false => False) | false => False) | false => False) | false => False) | false => False) | _ => False⟩
theorem dLoad16_ok : dLoad16_con.ok noW Tryz.prog 90 := by
  intro a K h
  simp only [dLoad16_con] at h
  split at h
  case h_2 => exact h.elim
  split at h
  case h_2 => exact h.elim
  rename_i is_b_k
  split at h
  case h_2 => exact h.elim
  rename_i is_b_w
  split at h
  case h_2 => exact h.elim
  rename_i is_b_t
  split at h
  case h_2 => exact h.elim
  rename_i is_b_r
  split at h
  case h_2 => exact h.elim
  rename_i is_b_l
  split at h
  case h_2 => exact h.elim
  rename_i is_b_c
  exact CallSem.objs (dLoad16_sem _ _ _ K h) (fun _ _ _ h => h) ⟨WkO.same, WkO.cells (Mo.Cl.is_ok is_b_k), WkO.same, WkO.cells (Mo.Wd.is_ok is_b_w), WkO.cells (Mo.Rt.is_ok is_b_t), WkO.cells (Mo.Rs.is_ok is_b_r), WkO.cells (Mo.Ln.is_ok is_b_l), WkO.same, WkO.same, WkO.same, WkO.same, WkO.cells (Mo.Cnt.is_ok is_b_c), trivial⟩
noncomputable def hm_FcF_2 (x1 : Int) (x2 : List (List Int)) (x3 : Mo.Bd) (x4 : List (List Int)) : List Ob := [(.cells 131 [(.ptr 1 (.l 0)), (.ptr 2 (.l 0)), (.ptr 3 (.l 0)), (.ptr 4 (.l 0)), (.ptr 5 (.l 0)), (.ptr 6 (.l 0)), (.ptr 7 (.l 0)), (.iv .i64 1), (.iv .i64 1), (.iv .u32 x1), (.nsl 8 (.v (lenR x2)) false false)]), (.cells 183 (Mo.Cl.cells (Mo.Bd.k x3))), (.cells 188 [(.sli 9 (.l 0) (.l 1) (.lit (.l 1)) false)]), (.cells 194 (Mo.Wd.cells (Mo.Bd.w x3))), (.cells 190 (Mo.Rt.cells (Mo.Bd.t x3))), (.cells 200 (Mo.Rs.cells (Mo.Bd.r x3))), (.cells 204 (Mo.Ln.cells (Mo.Bd.l x3))), (.cells 227 [(.mp 10)]), (.nrow 73 [.i .u64, .i .i64] x2), (.row 185 1 (.l 1) [(.ptr 11 (.l 0))]), (.mapo [(.agg [(.il .u32 33554432), (.il .u32 49152)]), (.agg [(.il .u32 268500992), (.il .u32 256)]), (.agg [(.il .u32 268566528), (.il .u32 20)]), (.agg [(.il .u32 268632064), (.il .u32 16)]), (.agg [(.il .u32 268697600), (.il .u32 36)]), (.agg [(.il .u32 268763136), (.il .u32 12)])] [(.ifc 107 (.ptr 1 (.l 0))), (.ifc 110 (.ptr 2 (.l 0))), (.ifc 119 (.ptr 3 (.l 0))), (.ifc 125 (.ptr 5 (.l 0))), (.ifc 44 (.ptr 4 (.l 0))), (.ifc 127 (.ptr 6 (.l 0)))]), (.cells 246 (Mo.Cnt.cells (Mo.Bd.c x3))), (.nrow 73 [.i .u64, .i .i64] x4)]
noncomputable def hm_FcF_3 (x1 : Int) (x2 : List (List Int)) (x3 : Mo.Bd) : List Ob := [(.cells 131 [(.ptr 1 (.l 0)), (.ptr 2 (.l 0)), (.ptr 3 (.l 0)), (.ptr 4 (.l 0)), (.ptr 5 (.l 0)), (.ptr 6 (.l 0)), (.ptr 7 (.l 0)), (.iv .i64 1), (.iv .i64 1), (.iv .u32 x1), (.nsl 8 (.v (lenR x2)) false false)]), (.cells 183 (Mo.Cl.cells (Mo.Bd.k x3))), (.cells 188 [(.sli 9 (.l 0) (.l 1) (.lit (.l 1)) false)]), (.cells 194 (Mo.Wd.cells (Mo.Bd.w x3))), (.cells 190 (Mo.Rt.cells (Mo.Bd.t x3))), (.cells 200 (Mo.Rs.cells (Mo.Bd.r x3))), (.cells 204 (Mo.Ln.cells (Mo.Bd.l x3))), (.cells 227 [(.mp 10)]), (.nrow 73 [.i .u64, .i .i64] x2), (.row 185 1 (.l 1) [(.ptr 11 (.l 0))]), (.mapo [(.agg [(.il .u32 33554432), (.il .u32 49152)]), (.agg [(.il .u32 268500992), (.il .u32 256)]), (.agg [(.il .u32 268566528), (.il .u32 20)]), (.agg [(.il .u32 268632064), (.il .u32 16)]), (.agg [(.il .u32 268697600), (.il .u32 36)]), (.agg [(.il .u32 268763136), (.il .u32 12)])] [(.ifc 107 (.ptr 1 (.l 0))), (.ifc 110 (.ptr 2 (.l 0))), (.ifc 119 (.ptr 3 (.l 0))), (.ifc 125 (.ptr 5 (.l 0))), (.ifc 44 (.ptr 4 (.l 0))), (.ifc 127 (.ptr 6 (.l 0)))]), (.cells 246 (Mo.Cnt.cells (Mo.Bd.c x3))), (.nrow 73 [.i .u64, .i .i64] x2)]
noncomputable def Mo.dResets_v1 (rs : List (List Int)) : List (List Int) := (if ((iE (castI (lenR rs)) 0) = true) then List.nil else rs)
noncomputable def Mo.dResets_pre (rs : List (List Int)) : Prop := (if ((iE (castI (lenR rs)) 0) = true) then True else (if ((iM (castI (stdN NO.mul (lenR rs) (16 + 1))) 140737488355328) = true) then True else False))
noncomputable def dResets_tree (dv : Int) (b : Mo.Bd) (rs : List (List Int)) (K : S → List Ob → Prop) : Prop := (if ((iE (castI (lenR rs)) 0) = true) then K (.nsl 12 (.v (lenR List.nil)) false true) (hm_FcF_2 dv rs b List.nil) else (if ((iM (castI (stdN NO.mul (lenR rs) (16 + 1))) 140737488355328) = true) then K (.nsl 12 (.v (lenR rs)) false true) (hm_FcF_3 dv rs b) else False))
theorem dResets_run (dv : Int) (b : Mo.Bd) (rs : List (List Int)) (K : S → List Ob → Prop) : callX (std noW) tt ffFcE stopFcE (lpB noW Tryz.prog) noL 8 45 [.ptr 0 (.l 0)] (h_BD dv b rs) (gcK 12 (nilK (some (73, [.i .u64, .i .i64])) (mvsK [] (optK [] (ivK false K))))) = dResets_tree dv b rs K := by kernel_rfl
noncomputable def dResets_T (dv : Int) (b : Mo.Bd) (rs : List (List Int)) (K : S → List Ob → Prop) : Prop := Mo.dResets_pre rs ∧ K (.nsl 12 (.v (lenR (Mo.dResets_v1 rs))) false true) (hm_FcF_2 dv rs b (Mo.dResets_v1 rs))
theorem dResets_all (dv : Int) (b : Mo.Bd) (rs : List (List Int)) (K : S → List Ob → Prop) (h : dResets_T dv b rs K) : dResets_tree dv b rs K := by
  unfold dResets_T at h; obtain ⟨h0, h⟩ := h; unfold dResets_tree
  try simp only [Mo.dResets_v1] at h0 h
  try simp only [Mo.dResets_pre] at h0 h
  repeat' first | exact h | (refine ite_intro (fun c => ?_) fun c => ?_) <;> first | simp only [if_pos c] at h0 h | simp only [if_neg c] at h0 h | skip
theorem dResets_sem (dv : Int) (b : Mo.Bd) (rs : List (List Int)) (K : S → List Ob → Prop) (h : dResets_T dv b rs K) : CallSem noW Tryz.prog 45 [.ptr 0 (.l 0)] (h_BD dv b rs) K := all_call (callX_ok tok (by kernel_rfl) ffFcEok stopFcE_ok _ _ _ _ (Eq.mpr (dResets_run dv b rs K) (dResets_all dv b rs K h)))
noncomputable def dResets_con : Con := ⟨[.ptr 0], t_BD, [], fun a K => match a with | ⟨[dv], [], [], [cs_b_k, cs_b_w, cs_b_t, cs_b_r, cs_b_l, cs_b_c], [rs]⟩ => (match Mo.Cl.is cs_b_k with | true => (match Mo.Wd.is cs_b_w with | true => (match Mo.Rt.is cs_b_t with | true => (match Mo.Rs.is cs_b_r with | true => (match Mo.Ln.is cs_b_l with | true => (match Mo.Cnt.is cs_b_c with | true => dResets_T dv (Mo.Bd.mk (Mo.Cl.of cs_b_k) (Mo.Wd.of cs_b_w) (Mo.Rt.of cs_b_t) (Mo.Rs.of cs_b_r) (Mo.Ln.of cs_b_l) (Mo.Cnt.of cs_b_c)) rs K | false => False) | false => False) | false => False) | false => False) | false => False) | false => False) | _ => False⟩
theorem dResets_ok : dResets_con.ok noW Tryz.prog 45 := by
  intro a K h
  simp only [dResets_con] at h
  split at h
  case h_2 => exact h.elim
  split at h
  case h_2 => exact h.elim
  rename_i is_b_k
  split at h
  case h_2 => exact h.elim
  rename_i is_b_w
  split at h
  case h_2 => exact h.elim
  rename_i is_b_t
  split at h
  case h_2 => exact h.elim
  rename_i is_b_r
  split at h
  case h_2 => exact h.elim
  rename_i is_b_l
  split at h
  case h_2 => exact h.elim
  rename_i is_b_c
  exact CallSem.objs (dResets_sem _ _ _ K h) (fun _ _ _ h => h) ⟨WkO.same, WkO.cells (Mo.Cl.is_ok is_b_k), WkO.same, WkO.cells (Mo.Wd.is_ok is_b_w), WkO.cells (Mo.Rt.is_ok is_b_t), WkO.cells (Mo.Rs.is_ok is_b_r), WkO.cells (Mo.Ln.is_ok is_b_l), WkO.same, WkO.same, WkO.same, WkO.same, WkO.cells (Mo.Cnt.is_ok is_b_c), trivial⟩
noncomputable def tabFcF (n : Nat) : List Con := match Nat.beq n 17 with | true => [dTick_con] | false => match Nat.beq n 25 with | true => [dStore0_con, dStore4_con, dStore8_con, dStore12_con] | false => match Nat.beq n 90 with | true => [dLoad0_con, dLoad4_con, dLoad8_con, dLoad16_con] | false => match Nat.beq n 45 with | true => [dResets_con] | false => tabFcE n
theorem tabFcF_ok : ∀ f, ∀ c ∈ tabFcF f, c.ok noW Tryz.prog f := by
  intro f c hc
  unfold tabFcF at hc
  split at hc
  · rename_i hf; have := Nat.eq_of_beq_eq_true hf; subst this
    simp only [List.mem_cons, List.not_mem_nil, or_false] at hc
    subst hc; exact dTick_ok
  split at hc
  · rename_i hf; have := Nat.eq_of_beq_eq_true hf; subst this
    simp only [List.mem_cons, List.not_mem_nil, or_false] at hc
    rcases hc with rfl | rfl | rfl | rfl
    · exact dStore0_ok
    · exact dStore4_ok
    · exact dStore8_ok
    · exact dStore12_ok
  split at hc
  · rename_i hf; have := Nat.eq_of_beq_eq_true hf; subst this
    simp only [List.mem_cons, List.not_mem_nil, or_false] at hc
    rcases hc with rfl | rfl | rfl | rfl
    · exact dLoad0_ok
    · exact dLoad4_ok
    · exact dLoad8_ok
    · exact dLoad16_ok
  split at hc
  · rename_i hf; have := Nat.eq_of_beq_eq_true hf; subst this
    simp only [List.mem_cons, List.not_mem_nil, or_false] at hc
    subst hc; exact dResets_ok
  exact tabFcE_ok f c hc
noncomputable def ffFcF (n : Nat) : Option FI := match Nat.beq n 17 with | true => none | false => match Nat.beq n 25 with | true => none | false => match Nat.beq n 90 with | true => none | false => match Nat.beq n 45 with | true => none | false => ffFcE n
theorem ffFcFok : FOk Tryz.prog ffFcF := fun f fi hf => by
  unfold ffFcF at hf
  split at hf
  · cases hf
  split at hf
  · cases hf
  split at hf
  · cases hf
  split at hf
  · cases hf
  exact ffFcEok f fi hf
noncomputable def stopFcF : CallT := stopC tabFcF stopB
theorem stopFcF_ok : ∀ f args h K, stopFcF f args h K → CallSem noW Tryz.prog f args h K := stopC_ok tabFcF_ok stopB_ok
end Go.SX.Y
