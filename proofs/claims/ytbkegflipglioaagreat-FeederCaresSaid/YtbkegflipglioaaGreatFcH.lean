/- What Go functions come to (lifted). -/
import Derived.Test.YtbkegflipglioaaGreatFcG
set_option maxRecDepth 20000
namespace Go.SX.Y
open Go.Proofs Go.RowKit
noncomputable def hm_FcH_1 (x1 : Int) (x2 : Int) (x3 : Int) (x4 : Int) (x5 : List (List Int)) (x6 : Mo.Bd) : List Ob := [(.cells 135 [(.iv .i64 x1), (.iv .u64 x2), (.iv .i64 x3), (.ptr 1 (.l 0)), (.raw (.slice none 0 0))]), (.cells 131 [(.ptr 2 (.l 0)), (.ptr 3 (.l 0)), (.ptr 4 (.l 0)), (.ptr 5 (.l 0)), (.ptr 6 (.l 0)), (.ptr 7 (.l 0)), (.ptr 8 (.l 0)), (.iv .i64 1), (.iv .i64 1), (.iv .u32 x4), (.nsl 13 (.v (lenR x5)) false false)]), (.cells 183 (Mo.Cl.cells (Mo.Bd.k x6))), (.cells 188 [(.sli 10 (.l 0) (.l 1) (.lit (.l 1)) false)]), (.cells 194 (Mo.Wd.cells (Mo.Bd.w x6))), (.cells 190 (Mo.Rt.cells (Mo.Bd.t x6))), (.cells 200 (Mo.Rs.cells (Mo.Bd.r x6))), (.cells 204 (Mo.Ln.cells (Mo.Bd.l x6))), (.cells 227 [(.mp 11)]), .dead, (.row 185 1 (.l 1) [(.ptr 12 (.l 0))]), (.mapo [(.agg [(.il .u32 33554432), (.il .u32 49152)]), (.agg [(.il .u32 268500992), (.il .u32 256)]), (.agg [(.il .u32 268566528), (.il .u32 20)]), (.agg [(.il .u32 268632064), (.il .u32 16)]), (.agg [(.il .u32 268697600), (.il .u32 36)]), (.agg [(.il .u32 268763136), (.il .u32 12)])] [(.ifc 107 (.ptr 2 (.l 0))), (.ifc 110 (.ptr 3 (.l 0))), (.ifc 119 (.ptr 4 (.l 0))), (.ifc 125 (.ptr 6 (.l 0))), (.ifc 44 (.ptr 5 (.l 0))), (.ifc 127 (.ptr 7 (.l 0)))]), (.cells 246 (Mo.Cnt.cells (Mo.Bd.c x6))), (.nrow 73 [.i .u64, .i .i64] x5)]
noncomputable def Mo.pStore0_v1 (v : Int) (b : Mo.Bd) : Mo.Bd := (Mo.dStore0_v1 v (Mo.pgap_v2 b))
noncomputable def Mo.pStore0_pre (v : Int) (spent : Int) (seen : Int) (b : Mo.Bd) (rs : List (List Int)) : Prop := ((Mo.pDown_pre rs) ∧ (if ((iN (castI (lenR (Mo.dResets_v1 rs))) seen) = true) then False else ((Mo.pgap_pre spent b rs) ∧ ((Mo.pDown_pre (Mo.dTick_v1 0 b rs)) ∧ (if ((iN (castI (lenR (Mo.dResets_v1 (Mo.dTick_v1 0 b rs)))) seen) = true) then False else ((Mo.dStore0_pre v (Mo.pgap_v2 b) (Mo.dTick_v1 0 b rs)) ∧ ((Mo.pDown_pre (Mo.dSettle_v1 (Mo.uStore0_v1 v (Mo.pgap_v2 b)) (Mo.dTick_v1 0 b rs))) ∧ (if ((iN (castI (lenR (Mo.dResets_v1 (Mo.dSettle_v1 (Mo.uStore0_v1 v (Mo.pgap_v2 b)) (Mo.dTick_v1 0 b rs))))) seen) = true) then False else True))))))))
noncomputable def pStore0_tree (v : Int) (made : Int) (spent : Int) (seen : Int) (dv : Int) (b : Mo.Bd) (rs : List (List Int)) (K : S → List Ob → Prop) : Prop := (((lenR rs) = (lenR rs)) ∧ (((1 : Int) = 1) ∧ (((1 : Int) = 1) ∧ ((Mo.pDown_pre rs) ∧ (if ((iN (castI (lenR (Mo.dResets_v1 rs))) seen) = true) then K (.il .i64 13) (hm_FcH_1 made spent seen dv rs b) else (((lenR rs) = (lenR rs)) ∧ (((1 : Int) = 1) ∧ (((1 : Int) = 1) ∧ ((Mo.pgap_pre spent b rs) ∧ (((lenR (Mo.dTick_v1 0 b rs)) = (lenR (Mo.dTick_v1 0 b rs))) ∧ (((1 : Int) = 1) ∧ (((1 : Int) = 1) ∧ ((Mo.pDown_pre (Mo.dTick_v1 0 b rs)) ∧ (if ((iN (castI (lenR (Mo.dResets_v1 (Mo.dTick_v1 0 b rs)))) seen) = true) then K (.il .i64 13) (hm_FcH_1 (adi made 1) (Mo.pgap_v1 spent) seen dv (Mo.dTick_v1 0 b rs) (Mo.pgap_v2 b)) else (((lenR (Mo.dTick_v1 0 b rs)) = (lenR (Mo.dTick_v1 0 b rs))) ∧ (((1 : Int) = 1) ∧ (((1 : Int) = 1) ∧ ((Mo.dStore0_pre v (Mo.pgap_v2 b) (Mo.dTick_v1 0 b rs)) ∧ (((lenR (Mo.dSettle_v1 (Mo.uStore0_v1 v (Mo.pgap_v2 b)) (Mo.dTick_v1 0 b rs))) = (lenR (Mo.dSettle_v1 (Mo.uStore0_v1 v (Mo.pgap_v2 b)) (Mo.dTick_v1 0 b rs)))) ∧ (((1 : Int) = 1) ∧ (((1 : Int) = 1) ∧ ((Mo.pDown_pre (Mo.dSettle_v1 (Mo.uStore0_v1 v (Mo.pgap_v2 b)) (Mo.dTick_v1 0 b rs))) ∧ (if ((iN (castI (lenR (Mo.dResets_v1 (Mo.dSettle_v1 (Mo.uStore0_v1 v (Mo.pgap_v2 b)) (Mo.dTick_v1 0 b rs))))) seen) = true) then K (.il .i64 13) (hm_FcH_1 (adi made 1) (Mo.pgap_v1 spent) seen dv (Mo.dSettle_v1 (Mo.uStore0_v1 v (Mo.pgap_v2 b)) (Mo.dTick_v1 0 b rs)) (Mo.dStore0_v1 v (Mo.pgap_v2 b))) else K (.il .i64 0) (hm_FcH_1 (adi made 1) (Mo.pgap_v1 spent) seen dv (Mo.dSettle_v1 (Mo.uStore0_v1 v (Mo.pgap_v2 b)) (Mo.dTick_v1 0 b rs)) (Mo.dStore0_v1 v (Mo.pgap_v2 b))))))))))))))))))))))))))
theorem pStore0_run (v : Int) (made : Int) (spent : Int) (seen : Int) (dv : Int) (b : Mo.Bd) (rs : List (List Int)) (K : S → List Ob → Prop) : callX (std noW) tt ffFcG stopFcG (lpB noW Tryz.prog) noL 8 63 [.ptr 0 (.l 0), .il .u32 268566528, .iv .u32 v] (h_PT made spent seen dv b rs) (gcK 13 (nilK none (mvsK [9] (optK [] (ivK false K))))) = pStore0_tree v made spent seen dv b rs K := by kernel_rfl
noncomputable def pStore0_T (v : Int) (made : Int) (spent : Int) (seen : Int) (dv : Int) (b : Mo.Bd) (rs : List (List Int)) (K : S → List Ob → Prop) : Prop := Mo.pStore0_pre v spent seen b rs ∧ K (.il .i64 0) (hm_FcH_1 (adi made 1) (Mo.pgap_v1 spent) seen dv (Mo.dSettle_v1 (Mo.uStore0_v1 v (Mo.pgap_v2 b)) (Mo.dTick_v1 0 b rs)) (Mo.pStore0_v1 v b))
theorem pStore0_all (v : Int) (made : Int) (spent : Int) (seen : Int) (dv : Int) (b : Mo.Bd) (rs : List (List Int)) (K : S → List Ob → Prop) (h : pStore0_T v made spent seen dv b rs K) : pStore0_tree v made spent seen dv b rs K := by
  unfold pStore0_T at h; obtain ⟨h0, h⟩ := h; unfold pStore0_tree
  try simp only [Mo.pStore0_v1] at h0 h
  try simp only [Mo.pStore0_pre] at h0 h
  repeat' first | exact h | refine ⟨rfl, ?_⟩ | (refine ⟨h0.1, ?_⟩; replace h0 := h0.2) | refine ⟨h0, ?_⟩ | exact h0.elim | (refine ite_intro (fun c => ?_) fun c => ?_) <;> first | simp only [if_pos c] at h0 h | simp only [if_neg c] at h0 h | skip
theorem pStore0_sem (v : Int) (made : Int) (spent : Int) (seen : Int) (dv : Int) (b : Mo.Bd) (rs : List (List Int)) (K : S → List Ob → Prop) (h : pStore0_T v made spent seen dv b rs K) : CallSem noW Tryz.prog 63 [.ptr 0 (.l 0), .il .u32 268566528, .iv .u32 v] (h_PT made spent seen dv b rs) K := all_call (callX_ok tok (by kernel_rfl) ffFcGok stopFcG_ok _ _ _ _ (Eq.mpr (pStore0_run v made spent seen dv b rs K) (pStore0_all v made spent seen dv b rs K h)))
noncomputable def pStore0_con : Con := ⟨[.ptr 0, .same (.il .u32 268566528), .int .u32], t_PT, [], fun a K => match a with | ⟨[v, made, spent, seen, dv], [], [], [cs_b_k, cs_b_w, cs_b_t, cs_b_r, cs_b_l, cs_b_c], [rs]⟩ => (match Mo.Cl.is cs_b_k with | true => (match Mo.Wd.is cs_b_w with | true => (match Mo.Rt.is cs_b_t with | true => (match Mo.Rs.is cs_b_r with | true => (match Mo.Ln.is cs_b_l with | true => (match Mo.Cnt.is cs_b_c with | true => pStore0_T v made spent seen dv (Mo.Bd.mk (Mo.Cl.of cs_b_k) (Mo.Wd.of cs_b_w) (Mo.Rt.of cs_b_t) (Mo.Rs.of cs_b_r) (Mo.Ln.of cs_b_l) (Mo.Cnt.of cs_b_c)) rs K | false => False) | false => False) | false => False) | false => False) | false => False) | false => False) | _ => False⟩
theorem pStore0_ok : pStore0_con.ok noW Tryz.prog 63 := by
  intro a K h
  simp only [pStore0_con] at h
  split at h
  case h_2 => exact h.elim
  split at h
  case h_2 => exact h.elim
  rename_i is_b_k
  split at h
  case h_2 => exact h.elim
  rename_i is_b_w
  split at h
  case h_2 => exact h.elim
  rename_i is_b_t
  split at h
  case h_2 => exact h.elim
  rename_i is_b_r
  split at h
  case h_2 => exact h.elim
  rename_i is_b_l
  split at h
  case h_2 => exact h.elim
  rename_i is_b_c
  exact CallSem.objs (pStore0_sem _ _ _ _ _ _ _ K h) (fun _ _ _ h => h) ⟨WkO.same, WkO.same, WkO.cells (Mo.Cl.is_ok is_b_k), WkO.same, WkO.cells (Mo.Wd.is_ok is_b_w), WkO.cells (Mo.Rt.is_ok is_b_t), WkO.cells (Mo.Rs.is_ok is_b_r), WkO.cells (Mo.Ln.is_ok is_b_l), WkO.same, WkO.same, WkO.same, WkO.same, WkO.cells (Mo.Cnt.is_ok is_b_c), trivial⟩
noncomputable def Mo.pStore4_v1 (v : Int) (b : Mo.Bd) : Mo.Bd := (Mo.dStore4_v1 v (Mo.pgap_v2 b))
noncomputable def Mo.pStore4_pre (v : Int) (spent : Int) (seen : Int) (b : Mo.Bd) (rs : List (List Int)) : Prop := ((Mo.pDown_pre rs) ∧ (if ((iN (castI (lenR (Mo.dResets_v1 rs))) seen) = true) then False else ((Mo.pgap_pre spent b rs) ∧ ((Mo.pDown_pre (Mo.dTick_v1 0 b rs)) ∧ (if ((iN (castI (lenR (Mo.dResets_v1 (Mo.dTick_v1 0 b rs)))) seen) = true) then False else ((Mo.dStore4_pre v (Mo.pgap_v2 b) (Mo.dTick_v1 0 b rs)) ∧ ((Mo.pDown_pre (Mo.dSettle_v1 (Mo.uStore4_v1 v (Mo.pgap_v2 b)) (Mo.dTick_v1 0 b rs))) ∧ (if ((iN (castI (lenR (Mo.dResets_v1 (Mo.dSettle_v1 (Mo.uStore4_v1 v (Mo.pgap_v2 b)) (Mo.dTick_v1 0 b rs))))) seen) = true) then False else True))))))))
noncomputable def pStore4_tree (v : Int) (made : Int) (spent : Int) (seen : Int) (dv : Int) (b : Mo.Bd) (rs : List (List Int)) (K : S → List Ob → Prop) : Prop := (((lenR rs) = (lenR rs)) ∧ (((1 : Int) = 1) ∧ (((1 : Int) = 1) ∧ ((Mo.pDown_pre rs) ∧ (if ((iN (castI (lenR (Mo.dResets_v1 rs))) seen) = true) then K (.il .i64 13) (hm_FcH_1 made spent seen dv rs b) else (((lenR rs) = (lenR rs)) ∧ (((1 : Int) = 1) ∧ (((1 : Int) = 1) ∧ ((Mo.pgap_pre spent b rs) ∧ (((lenR (Mo.dTick_v1 0 b rs)) = (lenR (Mo.dTick_v1 0 b rs))) ∧ (((1 : Int) = 1) ∧ (((1 : Int) = 1) ∧ ((Mo.pDown_pre (Mo.dTick_v1 0 b rs)) ∧ (if ((iN (castI (lenR (Mo.dResets_v1 (Mo.dTick_v1 0 b rs)))) seen) = true) then K (.il .i64 13) (hm_FcH_1 (adi made 1) (Mo.pgap_v1 spent) seen dv (Mo.dTick_v1 0 b rs) (Mo.pgap_v2 b)) else (((lenR (Mo.dTick_v1 0 b rs)) = (lenR (Mo.dTick_v1 0 b rs))) ∧ (((1 : Int) = 1) ∧ (((1 : Int) = 1) ∧ (((lenR (Mo.dTick_v1 0 b rs)) = (lenR (Mo.dTick_v1 0 b rs))) ∧ (((1 : Int) = 1) ∧ (((1 : Int) = 1) ∧ ((Mo.dStore4_pre v (Mo.pgap_v2 b) (Mo.dTick_v1 0 b rs)) ∧ (((lenR (Mo.dSettle_v1 (Mo.uStore4_v1 v (Mo.pgap_v2 b)) (Mo.dTick_v1 0 b rs))) = (lenR (Mo.dSettle_v1 (Mo.uStore4_v1 v (Mo.pgap_v2 b)) (Mo.dTick_v1 0 b rs)))) ∧ (((1 : Int) = 1) ∧ (((1 : Int) = 1) ∧ ((Mo.pDown_pre (Mo.dSettle_v1 (Mo.uStore4_v1 v (Mo.pgap_v2 b)) (Mo.dTick_v1 0 b rs))) ∧ (if ((iN (castI (lenR (Mo.dResets_v1 (Mo.dSettle_v1 (Mo.uStore4_v1 v (Mo.pgap_v2 b)) (Mo.dTick_v1 0 b rs))))) seen) = true) then K (.il .i64 13) (hm_FcH_1 (adi made 1) (Mo.pgap_v1 spent) seen dv (Mo.dSettle_v1 (Mo.uStore4_v1 v (Mo.pgap_v2 b)) (Mo.dTick_v1 0 b rs)) (Mo.dStore4_v1 v (Mo.pgap_v2 b))) else K (.il .i64 0) (hm_FcH_1 (adi made 1) (Mo.pgap_v1 spent) seen dv (Mo.dSettle_v1 (Mo.uStore4_v1 v (Mo.pgap_v2 b)) (Mo.dTick_v1 0 b rs)) (Mo.dStore4_v1 v (Mo.pgap_v2 b)))))))))))))))))))))))))))))
theorem pStore4_run (v : Int) (made : Int) (spent : Int) (seen : Int) (dv : Int) (b : Mo.Bd) (rs : List (List Int)) (K : S → List Ob → Prop) : callX (std noW) tt ffFcG stopFcG (lpB noW Tryz.prog) noL 8 63 [.ptr 0 (.l 0), .il .u32 268566532, .iv .u32 v] (h_PT made spent seen dv b rs) (gcK 13 (nilK none (mvsK [9] (optK [] (ivK false K))))) = pStore4_tree v made spent seen dv b rs K := by kernel_rfl
noncomputable def pStore4_T (v : Int) (made : Int) (spent : Int) (seen : Int) (dv : Int) (b : Mo.Bd) (rs : List (List Int)) (K : S → List Ob → Prop) : Prop := Mo.pStore4_pre v spent seen b rs ∧ K (.il .i64 0) (hm_FcH_1 (adi made 1) (Mo.pgap_v1 spent) seen dv (Mo.dSettle_v1 (Mo.uStore4_v1 v (Mo.pgap_v2 b)) (Mo.dTick_v1 0 b rs)) (Mo.pStore4_v1 v b))
theorem pStore4_all (v : Int) (made : Int) (spent : Int) (seen : Int) (dv : Int) (b : Mo.Bd) (rs : List (List Int)) (K : S → List Ob → Prop) (h : pStore4_T v made spent seen dv b rs K) : pStore4_tree v made spent seen dv b rs K := by
  unfold pStore4_T at h; obtain ⟨h0, h⟩ := h; unfold pStore4_tree
  try simp only [Mo.pStore4_v1] at h0 h
  try simp only [Mo.pStore4_pre] at h0 h
  repeat' first | exact h | refine ⟨rfl, ?_⟩ | (refine ⟨h0.1, ?_⟩; replace h0 := h0.2) | refine ⟨h0, ?_⟩ | exact h0.elim | (refine ite_intro (fun c => ?_) fun c => ?_) <;> first | simp only [if_pos c] at h0 h | simp only [if_neg c] at h0 h | skip
theorem pStore4_sem (v : Int) (made : Int) (spent : Int) (seen : Int) (dv : Int) (b : Mo.Bd) (rs : List (List Int)) (K : S → List Ob → Prop) (h : pStore4_T v made spent seen dv b rs K) : CallSem noW Tryz.prog 63 [.ptr 0 (.l 0), .il .u32 268566532, .iv .u32 v] (h_PT made spent seen dv b rs) K := all_call (callX_ok tok (by kernel_rfl) ffFcGok stopFcG_ok _ _ _ _ (Eq.mpr (pStore4_run v made spent seen dv b rs K) (pStore4_all v made spent seen dv b rs K h)))
noncomputable def pStore4_con : Con := ⟨[.ptr 0, .same (.il .u32 268566532), .int .u32], t_PT, [], fun a K => match a with | ⟨[v, made, spent, seen, dv], [], [], [cs_b_k, cs_b_w, cs_b_t, cs_b_r, cs_b_l, cs_b_c], [rs]⟩ => (match Mo.Cl.is cs_b_k with | true => (match Mo.Wd.is cs_b_w with | true => (match Mo.Rt.is cs_b_t with | true => (match Mo.Rs.is cs_b_r with | true => (match Mo.Ln.is cs_b_l with | true => (match Mo.Cnt.is cs_b_c with | true => pStore4_T v made spent seen dv (Mo.Bd.mk (Mo.Cl.of cs_b_k) (Mo.Wd.of cs_b_w) (Mo.Rt.of cs_b_t) (Mo.Rs.of cs_b_r) (Mo.Ln.of cs_b_l) (Mo.Cnt.of cs_b_c)) rs K | false => False) | false => False) | false => False) | false => False) | false => False) | false => False) | _ => False⟩
theorem pStore4_ok : pStore4_con.ok noW Tryz.prog 63 := by
  intro a K h
  simp only [pStore4_con] at h
  split at h
  case h_2 => exact h.elim
  split at h
  case h_2 => exact h.elim
  rename_i is_b_k
  split at h
  case h_2 => exact h.elim
  rename_i is_b_w
  split at h
  case h_2 => exact h.elim
  rename_i is_b_t
  split at h
  case h_2 => exact h.elim
  rename_i is_b_r
  split at h
  case h_2 => exact h.elim
  rename_i is_b_l
  split at h
  case h_2 => exact h.elim
  rename_i is_b_c
  exact CallSem.objs (pStore4_sem _ _ _ _ _ _ _ K h) (fun _ _ _ h => h) ⟨WkO.same, WkO.same, WkO.cells (Mo.Cl.is_ok is_b_k), WkO.same, WkO.cells (Mo.Wd.is_ok is_b_w), WkO.cells (Mo.Rt.is_ok is_b_t), WkO.cells (Mo.Rs.is_ok is_b_r), WkO.cells (Mo.Ln.is_ok is_b_l), WkO.same, WkO.same, WkO.same, WkO.same, WkO.cells (Mo.Cnt.is_ok is_b_c), trivial⟩
noncomputable def Mo.pStore8_v1 (v : Int) (b : Mo.Bd) : Mo.Bd := (Mo.dStore8_v1 v (Mo.pgap_v2 b))
noncomputable def Mo.pStore8_pre (v : Int) (spent : Int) (seen : Int) (b : Mo.Bd) (rs : List (List Int)) : Prop := ((Mo.pDown_pre rs) ∧ (if ((iN (castI (lenR (Mo.dResets_v1 rs))) seen) = true) then False else ((Mo.pgap_pre spent b rs) ∧ ((Mo.pDown_pre (Mo.dTick_v1 0 b rs)) ∧ (if ((iN (castI (lenR (Mo.dResets_v1 (Mo.dTick_v1 0 b rs)))) seen) = true) then False else ((Mo.dStore8_pre v (Mo.pgap_v2 b) (Mo.dTick_v1 0 b rs)) ∧ ((Mo.pDown_pre (Mo.dSettle_v1 (Mo.uStore8_v1 v (Mo.pgap_v2 b)) (Mo.dTick_v1 0 b rs))) ∧ (if ((iN (castI (lenR (Mo.dResets_v1 (Mo.dSettle_v1 (Mo.uStore8_v1 v (Mo.pgap_v2 b)) (Mo.dTick_v1 0 b rs))))) seen) = true) then False else True))))))))
noncomputable def pStore8_tree (v : Int) (made : Int) (spent : Int) (seen : Int) (dv : Int) (b : Mo.Bd) (rs : List (List Int)) (K : S → List Ob → Prop) : Prop := (((lenR rs) = (lenR rs)) ∧ (((1 : Int) = 1) ∧ (((1 : Int) = 1) ∧ ((Mo.pDown_pre rs) ∧ (if ((iN (castI (lenR (Mo.dResets_v1 rs))) seen) = true) then K (.il .i64 13) (hm_FcH_1 made spent seen dv rs b) else (((lenR rs) = (lenR rs)) ∧ (((1 : Int) = 1) ∧ (((1 : Int) = 1) ∧ ((Mo.pgap_pre spent b rs) ∧ (((lenR (Mo.dTick_v1 0 b rs)) = (lenR (Mo.dTick_v1 0 b rs))) ∧ (((1 : Int) = 1) ∧ (((1 : Int) = 1) ∧ ((Mo.pDown_pre (Mo.dTick_v1 0 b rs)) ∧ (if ((iN (castI (lenR (Mo.dResets_v1 (Mo.dTick_v1 0 b rs)))) seen) = true) then K (.il .i64 13) (hm_FcH_1 (adi made 1) (Mo.pgap_v1 spent) seen dv (Mo.dTick_v1 0 b rs) (Mo.pgap_v2 b)) else (((lenR (Mo.dTick_v1 0 b rs)) = (lenR (Mo.dTick_v1 0 b rs))) ∧ (((1 : Int) = 1) ∧ (((1 : Int) = 1) ∧ (((lenR (Mo.dTick_v1 0 b rs)) = (lenR (Mo.dTick_v1 0 b rs))) ∧ (((1 : Int) = 1) ∧ (((1 : Int) = 1) ∧ (((lenR (Mo.dTick_v1 0 b rs)) = (lenR (Mo.dTick_v1 0 b rs))) ∧ (((1 : Int) = 1) ∧ (((1 : Int) = 1) ∧ ((Mo.dStore8_pre v (Mo.pgap_v2 b) (Mo.dTick_v1 0 b rs)) ∧ (((lenR (Mo.dSettle_v1 (Mo.uStore8_v1 v (Mo.pgap_v2 b)) (Mo.dTick_v1 0 b rs))) = (lenR (Mo.dSettle_v1 (Mo.uStore8_v1 v (Mo.pgap_v2 b)) (Mo.dTick_v1 0 b rs)))) ∧ (((1 : Int) = 1) ∧ (((1 : Int) = 1) ∧ ((Mo.pDown_pre (Mo.dSettle_v1 (Mo.uStore8_v1 v (Mo.pgap_v2 b)) (Mo.dTick_v1 0 b rs))) ∧ (if ((iN (castI (lenR (Mo.dResets_v1 (Mo.dSettle_v1 (Mo.uStore8_v1 v (Mo.pgap_v2 b)) (Mo.dTick_v1 0 b rs))))) seen) = true) then K (.il .i64 13) (hm_FcH_1 (adi made 1) (Mo.pgap_v1 spent) seen dv (Mo.dSettle_v1 (Mo.uStore8_v1 v (Mo.pgap_v2 b)) (Mo.dTick_v1 0 b rs)) (Mo.dStore8_v1 v (Mo.pgap_v2 b))) else K (.il .i64 0) (hm_FcH_1 (adi made 1) (Mo.pgap_v1 spent) seen dv (Mo.dSettle_v1 (Mo.uStore8_v1 v (Mo.pgap_v2 b)) (Mo.dTick_v1 0 b rs)) (Mo.dStore8_v1 v (Mo.pgap_v2 b))))))))))))))))))))))))))))))))
theorem pStore8_run (v : Int) (made : Int) (spent : Int) (seen : Int) (dv : Int) (b : Mo.Bd) (rs : List (List Int)) (K : S → List Ob → Prop) : callX (std noW) tt ffFcG stopFcG (lpB noW Tryz.prog) noL 8 63 [.ptr 0 (.l 0), .il .u32 268566536, .iv .u32 v] (h_PT made spent seen dv b rs) (gcK 13 (nilK none (mvsK [9] (optK [] (ivK false K))))) = pStore8_tree v made spent seen dv b rs K := by kernel_rfl
noncomputable def pStore8_T (v : Int) (made : Int) (spent : Int) (seen : Int) (dv : Int) (b : Mo.Bd) (rs : List (List Int)) (K : S → List Ob → Prop) : Prop := Mo.pStore8_pre v spent seen b rs ∧ K (.il .i64 0) (hm_FcH_1 (adi made 1) (Mo.pgap_v1 spent) seen dv (Mo.dSettle_v1 (Mo.uStore8_v1 v (Mo.pgap_v2 b)) (Mo.dTick_v1 0 b rs)) (Mo.pStore8_v1 v b))
theorem pStore8_all (v : Int) (made : Int) (spent : Int) (seen : Int) (dv : Int) (b : Mo.Bd) (rs : List (List Int)) (K : S → List Ob → Prop) (h : pStore8_T v made spent seen dv b rs K) : pStore8_tree v made spent seen dv b rs K := by
  unfold pStore8_T at h; obtain ⟨h0, h⟩ := h; unfold pStore8_tree
  try simp only [Mo.pStore8_v1] at h0 h
  try simp only [Mo.pStore8_pre] at h0 h
  repeat' first | exact h | refine ⟨rfl, ?_⟩ | (refine ⟨h0.1, ?_⟩; replace h0 := h0.2) | refine ⟨h0, ?_⟩ | exact h0.elim | (refine ite_intro (fun c => ?_) fun c => ?_) <;> first | simp only [if_pos c] at h0 h | simp only [if_neg c] at h0 h | skip
theorem pStore8_sem (v : Int) (made : Int) (spent : Int) (seen : Int) (dv : Int) (b : Mo.Bd) (rs : List (List Int)) (K : S → List Ob → Prop) (h : pStore8_T v made spent seen dv b rs K) : CallSem noW Tryz.prog 63 [.ptr 0 (.l 0), .il .u32 268566536, .iv .u32 v] (h_PT made spent seen dv b rs) K := all_call (callX_ok tok (by kernel_rfl) ffFcGok stopFcG_ok _ _ _ _ (Eq.mpr (pStore8_run v made spent seen dv b rs K) (pStore8_all v made spent seen dv b rs K h)))
noncomputable def pStore8_con : Con := ⟨[.ptr 0, .same (.il .u32 268566536), .int .u32], t_PT, [], fun a K => match a with | ⟨[v, made, spent, seen, dv], [], [], [cs_b_k, cs_b_w, cs_b_t, cs_b_r, cs_b_l, cs_b_c], [rs]⟩ => (match Mo.Cl.is cs_b_k with | true => (match Mo.Wd.is cs_b_w with | true => (match Mo.Rt.is cs_b_t with | true => (match Mo.Rs.is cs_b_r with | true => (match Mo.Ln.is cs_b_l with | true => (match Mo.Cnt.is cs_b_c with | true => pStore8_T v made spent seen dv (Mo.Bd.mk (Mo.Cl.of cs_b_k) (Mo.Wd.of cs_b_w) (Mo.Rt.of cs_b_t) (Mo.Rs.of cs_b_r) (Mo.Ln.of cs_b_l) (Mo.Cnt.of cs_b_c)) rs K | false => False) | false => False) | false => False) | false => False) | false => False) | false => False) | _ => False⟩
theorem pStore8_ok : pStore8_con.ok noW Tryz.prog 63 := by
  intro a K h
  simp only [pStore8_con] at h
  split at h
  case h_2 => exact h.elim
  split at h
  case h_2 => exact h.elim
  rename_i is_b_k
  split at h
  case h_2 => exact h.elim
  rename_i is_b_w
  split at h
  case h_2 => exact h.elim
  rename_i is_b_t
  split at h
  case h_2 => exact h.elim
  rename_i is_b_r
  split at h
  case h_2 => exact h.elim
  rename_i is_b_l
  split at h
  case h_2 => exact h.elim
  rename_i is_b_c
  exact CallSem.objs (pStore8_sem _ _ _ _ _ _ _ K h) (fun _ _ _ h => h) ⟨WkO.same, WkO.same, WkO.cells (Mo.Cl.is_ok is_b_k), WkO.same, WkO.cells (Mo.Wd.is_ok is_b_w), WkO.cells (Mo.Rt.is_ok is_b_t), WkO.cells (Mo.Rs.is_ok is_b_r), WkO.cells (Mo.Ln.is_ok is_b_l), WkO.same, WkO.same, WkO.same, WkO.same, WkO.cells (Mo.Cnt.is_ok is_b_c), trivial⟩
noncomputable def Mo.pStore12_v1 (v : Int) (b : Mo.Bd) : Mo.Bd := (Mo.dStore12_v1 v (Mo.pgap_v2 b))
noncomputable def Mo.pStore12_pre (v : Int) (spent : Int) (seen : Int) (b : Mo.Bd) (rs : List (List Int)) : Prop := ((Mo.pDown_pre rs) ∧ (if ((iN (castI (lenR (Mo.dResets_v1 rs))) seen) = true) then False else ((Mo.pgap_pre spent b rs) ∧ ((Mo.pDown_pre (Mo.dTick_v1 0 b rs)) ∧ (if ((iN (castI (lenR (Mo.dResets_v1 (Mo.dTick_v1 0 b rs)))) seen) = true) then False else ((Mo.dStore12_pre v (Mo.pgap_v2 b) (Mo.dTick_v1 0 b rs)) ∧ ((Mo.pDown_pre (Mo.dSettle_v1 (Mo.uStore12_v1 v (Mo.pgap_v2 b)) (Mo.dTick_v1 0 b rs))) ∧ (if ((iN (castI (lenR (Mo.dResets_v1 (Mo.dSettle_v1 (Mo.uStore12_v1 v (Mo.pgap_v2 b)) (Mo.dTick_v1 0 b rs))))) seen) = true) then False else True))))))))
noncomputable def pStore12_tree (v : Int) (made : Int) (spent : Int) (seen : Int) (dv : Int) (b : Mo.Bd) (rs : List (List Int)) (K : S → List Ob → Prop) : Prop := (((lenR rs) = (lenR rs)) ∧ (((1 : Int) = 1) ∧ (((1 : Int) = 1) ∧ ((Mo.pDown_pre rs) ∧ (if ((iN (castI (lenR (Mo.dResets_v1 rs))) seen) = true) then K (.il .i64 13) (hm_FcH_1 made spent seen dv rs b) else (((lenR rs) = (lenR rs)) ∧ (((1 : Int) = 1) ∧ (((1 : Int) = 1) ∧ ((Mo.pgap_pre spent b rs) ∧ (((lenR (Mo.dTick_v1 0 b rs)) = (lenR (Mo.dTick_v1 0 b rs))) ∧ (((1 : Int) = 1) ∧ (((1 : Int) = 1) ∧ ((Mo.pDown_pre (Mo.dTick_v1 0 b rs)) ∧ (if ((iN (castI (lenR (Mo.dResets_v1 (Mo.dTick_v1 0 b rs)))) seen) = true) then K (.il .i64 13) (hm_FcH_1 (adi made 1) (Mo.pgap_v1 spent) seen dv (Mo.dTick_v1 0 b rs) (Mo.pgap_v2 b)) else (((lenR (Mo.dTick_v1 0 b rs)) = (lenR (Mo.dTick_v1 0 b rs))) ∧ (((1 : Int) = 1) ∧ (((1 : Int) = 1) ∧ (((lenR (Mo.dTick_v1 0 b rs)) = (lenR (Mo.dTick_v1 0 b rs))) ∧ (((1 : Int) = 1) ∧ (((1 : Int) = 1) ∧ (((lenR (Mo.dTick_v1 0 b rs)) = (lenR (Mo.dTick_v1 0 b rs))) ∧ (((1 : Int) = 1) ∧ (((1 : Int) = 1) ∧ (((lenR (Mo.dTick_v1 0 b rs)) = (lenR (Mo.dTick_v1 0 b rs))) ∧ (((1 : Int) = 1) ∧ (((1 : Int) = 1) ∧ ((Mo.dStore12_pre v (Mo.pgap_v2 b) (Mo.dTick_v1 0 b rs)) ∧ (((lenR (Mo.dSettle_v1 (Mo.uStore12_v1 v (Mo.pgap_v2 b)) (Mo.dTick_v1 0 b rs))) = (lenR (Mo.dSettle_v1 (Mo.uStore12_v1 v (Mo.pgap_v2 b)) (Mo.dTick_v1 0 b rs)))) ∧ (((1 : Int) = 1) ∧ (((1 : Int) = 1) ∧ ((Mo.pDown_pre (Mo.dSettle_v1 (Mo.uStore12_v1 v (Mo.pgap_v2 b)) (Mo.dTick_v1 0 b rs))) ∧ (if ((iN (castI (lenR (Mo.dResets_v1 (Mo.dSettle_v1 (Mo.uStore12_v1 v (Mo.pgap_v2 b)) (Mo.dTick_v1 0 b rs))))) seen) = true) then K (.il .i64 13) (hm_FcH_1 (adi made 1) (Mo.pgap_v1 spent) seen dv (Mo.dSettle_v1 (Mo.uStore12_v1 v (Mo.pgap_v2 b)) (Mo.dTick_v1 0 b rs)) (Mo.dStore12_v1 v (Mo.pgap_v2 b))) else K (.il .i64 0) (hm_FcH_1 (adi made 1) (Mo.pgap_v1 spent) seen dv (Mo.dSettle_v1 (Mo.uStore12_v1 v (Mo.pgap_v2 b)) (Mo.dTick_v1 0 b rs)) (Mo.dStore12_v1 v (Mo.pgap_v2 b)))))))))))))))))))))))))))))))))))
theorem pStore12_run (v : Int) (made : Int) (spent : Int) (seen : Int) (dv : Int) (b : Mo.Bd) (rs : List (List Int)) (K : S → List Ob → Prop) : callX (std noW) tt ffFcG stopFcG (lpB noW Tryz.prog) noL 8 63 [.ptr 0 (.l 0), .il .u32 268566540, .iv .u32 v] (h_PT made spent seen dv b rs) (gcK 13 (nilK none (mvsK [9] (optK [] (ivK false K))))) = pStore12_tree v made spent seen dv b rs K := by kernel_rfl
noncomputable def pStore12_T (v : Int) (made : Int) (spent : Int) (seen : Int) (dv : Int) (b : Mo.Bd) (rs : List (List Int)) (K : S → List Ob → Prop) : Prop := Mo.pStore12_pre v spent seen b rs ∧ K (.il .i64 0) (hm_FcH_1 (adi made 1) (Mo.pgap_v1 spent) seen dv (Mo.dSettle_v1 (Mo.uStore12_v1 v (Mo.pgap_v2 b)) (Mo.dTick_v1 0 b rs)) (Mo.pStore12_v1 v b))
theorem pStore12_all (v : Int) (made : Int) (spent : Int) (seen : Int) (dv : Int) (b : Mo.Bd) (rs : List (List Int)) (K : S → List Ob → Prop) (h : pStore12_T v made spent seen dv b rs K) : pStore12_tree v made spent seen dv b rs K := by
  unfold pStore12_T at h; obtain ⟨h0, h⟩ := h; unfold pStore12_tree
  try simp only [Mo.pStore12_v1] at h0 h
  try simp only [Mo.pStore12_pre] at h0 h
  repeat' first | exact h | refine ⟨rfl, ?_⟩ | (refine ⟨h0.1, ?_⟩; replace h0 := h0.2) | refine ⟨h0, ?_⟩ | exact h0.elim | (refine ite_intro (fun c => ?_) fun c => ?_) <;> first | simp only [if_pos c] at h0 h | simp only [if_neg c] at h0 h | skip
theorem pStore12_sem (v : Int) (made : Int) (spent : Int) (seen : Int) (dv : Int) (b : Mo.Bd) (rs : List (List Int)) (K : S → List Ob → Prop) (h : pStore12_T v made spent seen dv b rs K) : CallSem noW Tryz.prog 63 [.ptr 0 (.l 0), .il .u32 268566540, .iv .u32 v] (h_PT made spent seen dv b rs) K := all_call (callX_ok tok (by kernel_rfl) ffFcGok stopFcG_ok _ _ _ _ (Eq.mpr (pStore12_run v made spent seen dv b rs K) (pStore12_all v made spent seen dv b rs K h)))
noncomputable def pStore12_con : Con := ⟨[.ptr 0, .same (.il .u32 268566540), .int .u32], t_PT, [], fun a K => match a with | ⟨[v, made, spent, seen, dv], [], [], [cs_b_k, cs_b_w, cs_b_t, cs_b_r, cs_b_l, cs_b_c], [rs]⟩ => (match Mo.Cl.is cs_b_k with | true => (match Mo.Wd.is cs_b_w with | true => (match Mo.Rt.is cs_b_t with | true => (match Mo.Rs.is cs_b_r with | true => (match Mo.Ln.is cs_b_l with | true => (match Mo.Cnt.is cs_b_c with | true => pStore12_T v made spent seen dv (Mo.Bd.mk (Mo.Cl.of cs_b_k) (Mo.Wd.of cs_b_w) (Mo.Rt.of cs_b_t) (Mo.Rs.of cs_b_r) (Mo.Ln.of cs_b_l) (Mo.Cnt.of cs_b_c)) rs K | false => False) | false => False) | false => False) | false => False) | false => False) | false => False) | _ => False⟩
theorem pStore12_ok : pStore12_con.ok noW Tryz.prog 63 := by
  intro a K h
  simp only [pStore12_con] at h
  split at h
  case h_2 => exact h.elim
  split at h
  case h_2 => exact h.elim
  rename_i is_b_k
  split at h
  case h_2 => exact h.elim
  rename_i is_b_w
  split at h
  case h_2 => exact h.elim
  rename_i is_b_t
  split at h
  case h_2 => exact h.elim
  rename_i is_b_r
  split at h
  case h_2 => exact h.elim
  rename_i is_b_l
  split at h
  case h_2 => exact h.elim
  rename_i is_b_c
  exact CallSem.objs (pStore12_sem _ _ _ _ _ _ _ K h) (fun _ _ _ h => h) ⟨WkO.same, WkO.same, WkO.cells (Mo.Cl.is_ok is_b_k), WkO.same, WkO.cells (Mo.Wd.is_ok is_b_w), WkO.cells (Mo.Rt.is_ok is_b_t), WkO.cells (Mo.Rs.is_ok is_b_r), WkO.cells (Mo.Ln.is_ok is_b_l), WkO.same, WkO.same, WkO.same, WkO.same, WkO.cells (Mo.Cnt.is_ok is_b_c), trivial⟩
noncomputable def Mo.pLoad0_v1 (b : Mo.Bd) : Mo.Bd := (Mo.pgap_v2 b)
noncomputable def Mo.pLoad0_pre (spent : Int) (seen : Int) (b : Mo.Bd) (rs : List (List Int)) : Prop := ((Mo.pDown_pre rs) ∧ (if ((iN (castI (lenR (Mo.dResets_v1 rs))) seen) = true) then False else ((Mo.pgap_pre spent b rs) ∧ ((Mo.pDown_pre (Mo.dTick_v1 0 b rs)) ∧ (if ((iN (castI (lenR (Mo.dResets_v1 (Mo.dTick_v1 0 b rs)))) seen) = true) then False else ((Mo.dLoad0_pre (Mo.pgap_v2 b)) ∧ (Mo.pDown_pre (Mo.dTick_v1 0 b rs))))))))
noncomputable def pLoad0_tree (made : Int) (spent : Int) (seen : Int) (dv : Int) (b : Mo.Bd) (rs : List (List Int)) (K : S → List Ob → Prop) : Prop := (((lenR rs) = (lenR rs)) ∧ (((1 : Int) = 1) ∧ (((1 : Int) = 1) ∧ ((Mo.pDown_pre rs) ∧ (if ((iN (castI (lenR (Mo.dResets_v1 rs))) seen) = true) then K (.tup [(.il .u32 0), (.il .i64 13)]) (hm_FcH_1 made spent seen dv rs b) else (((lenR rs) = (lenR rs)) ∧ (((1 : Int) = 1) ∧ (((1 : Int) = 1) ∧ ((Mo.pgap_pre spent b rs) ∧ (((lenR (Mo.dTick_v1 0 b rs)) = (lenR (Mo.dTick_v1 0 b rs))) ∧ (((1 : Int) = 1) ∧ (((1 : Int) = 1) ∧ ((Mo.pDown_pre (Mo.dTick_v1 0 b rs)) ∧ (if ((iN (castI (lenR (Mo.dResets_v1 (Mo.dTick_v1 0 b rs)))) seen) = true) then K (.tup [(.il .u32 0), (.il .i64 13)]) (hm_FcH_1 (adi made 1) (Mo.pgap_v1 spent) seen dv (Mo.dTick_v1 0 b rs) (Mo.pgap_v2 b)) else (((lenR (Mo.dTick_v1 0 b rs)) = (lenR (Mo.dTick_v1 0 b rs))) ∧ (((1 : Int) = 1) ∧ (((1 : Int) = 1) ∧ ((Mo.dLoad0_pre (Mo.pgap_v2 b)) ∧ (((lenR (Mo.dTick_v1 0 b rs)) = (lenR (Mo.dTick_v1 0 b rs))) ∧ (((1 : Int) = 1) ∧ (((1 : Int) = 1) ∧ ((Mo.pDown_pre (Mo.dTick_v1 0 b rs)) ∧ (if ((iN (castI (lenR (Mo.dResets_v1 (Mo.dTick_v1 0 b rs)))) seen) = true) then K (.tup [(.iv .u32 (Mo.uLoad0_v1 (Mo.pgap_v2 b))), (.il .i64 13)]) (hm_FcH_1 (adi made 1) (Mo.pgap_v1 spent) seen dv (Mo.dTick_v1 0 b rs) (Mo.pgap_v2 b)) else K (.tup [(.iv .u32 (Mo.uLoad0_v1 (Mo.pgap_v2 b))), (.iv .i64 0)]) (hm_FcH_1 (adi made 1) (Mo.pgap_v1 spent) seen dv (Mo.dTick_v1 0 b rs) (Mo.pgap_v2 b)))))))))))))))))))))))))
theorem pLoad0_run (made : Int) (spent : Int) (seen : Int) (dv : Int) (b : Mo.Bd) (rs : List (List Int)) (K : S → List Ob → Prop) : callX (std noW) tt ffFcG stopFcG (lpB noW Tryz.prog) noL 8 62 [.ptr 0 (.l 0), .il .u32 268566528] (h_PT made spent seen dv b rs) (gcK 13 (nilK none (mvsK [9] (optK [] (ivK false K))))) = pLoad0_tree made spent seen dv b rs K := by kernel_rfl
noncomputable def pLoad0_T (made : Int) (spent : Int) (seen : Int) (dv : Int) (b : Mo.Bd) (rs : List (List Int)) (K : S → List Ob → Prop) : Prop := Mo.pLoad0_pre spent seen b rs ∧ K (.tup [(.iv .u32 (Mo.uLoad0_v1 (Mo.pgap_v2 b))), (.iv .i64 0)]) (hm_FcH_1 (adi made 1) (Mo.pgap_v1 spent) seen dv (Mo.dTick_v1 0 b rs) (Mo.pLoad0_v1 b))
theorem pLoad0_all (made : Int) (spent : Int) (seen : Int) (dv : Int) (b : Mo.Bd) (rs : List (List Int)) (K : S → List Ob → Prop) (h : pLoad0_T made spent seen dv b rs K) : pLoad0_tree made spent seen dv b rs K := by
  unfold pLoad0_T at h; obtain ⟨h0, h⟩ := h; unfold pLoad0_tree
  try simp only [Mo.pLoad0_v1] at h0 h
  try simp only [Mo.pLoad0_pre] at h0 h
  repeat' (first | (refine ite_intro (fun c => ?_) (fun c => ?_) <;> first | simp only [if_pos c] at h0 h | simp only [if_neg c] at h0 h | skip) | with_reducible (replace h0 := (h0 : True ∧ _).2) | with_reducible (refine ⟨rfl, ?_⟩) | with_reducible (refine ⟨h0.1, ?_⟩; replace h0 := h0.2) | with_reducible (refine ⟨h0, ?_⟩) | (refine ⟨h0.1, ?_⟩; replace h0 := h0.2) | refine ⟨h0, ?_⟩ | refine ⟨rfl, ?_⟩ | refine ⟨trivial, ?_⟩ | refine ⟨by assumption, ?_⟩ | refine ⟨Eq.symm (by assumption), ?_⟩ | exact h | refine ⟨?_, ?_⟩ | exact h0.elim | trivial | contradiction | (simp only [if_true, if_false, Bool.false_eq_true] at h; exact h))
theorem pLoad0_sem (made : Int) (spent : Int) (seen : Int) (dv : Int) (b : Mo.Bd) (rs : List (List Int)) (K : S → List Ob → Prop) (h : pLoad0_T made spent seen dv b rs K) : CallSem noW Tryz.prog 62 [.ptr 0 (.l 0), .il .u32 268566528] (h_PT made spent seen dv b rs) K := all_call (callX_ok tok (by kernel_rfl) ffFcGok stopFcG_ok _ _ _ _ (Eq.mpr (pLoad0_run made spent seen dv b rs K) (pLoad0_all made spent seen dv b rs K h)))
noncomputable def pLoad0_con : Con := ⟨[.ptr 0, .same (.il .u32 268566528)], t_PT, [], fun a K => match a with | ⟨[made, spent, seen, dv], [], [], [cs_b_k, cs_b_w, cs_b_t, cs_b_r, cs_b_l, cs_b_c], [rs]⟩ => (match Mo.Cl.is cs_b_k with | true => (match Mo.Wd.is cs_b_w with | true => (match Mo.Rt.is cs_b_t with | true => (match Mo.Rs.is cs_b_r with | true => (match Mo.Ln.is cs_b_l with | true => (match Mo.Cnt.is cs_b_c with | true => pLoad0_T made spent seen dv (Mo.Bd.mk (Mo.Cl.of cs_b_k) (Mo.Wd.of cs_b_w) (Mo.Rt.of cs_b_t) (Mo.Rs.of cs_b_r) (Mo.Ln.of cs_b_l) (Mo.Cnt.of cs_b_c)) rs K | false => False) | false => False) | false => False) | false => False) | false => False) | false => False) | _ => False⟩
theorem pLoad0_ok : pLoad0_con.ok noW Tryz.prog 62 := by
  intro a K h
  simp only [pLoad0_con] at h
  split at h
  case h_2 => exact h.elim
  split at h
  case h_2 => exact h.elim
  rename_i is_b_k
  split at h
  case h_2 => exact h.elim
  rename_i is_b_w
  split at h
  case h_2 => exact h.elim
  rename_i is_b_t
  split at h
  case h_2 => exact h.elim
  rename_i is_b_r
  split at h
  case h_2 => exact h.elim
  rename_i is_b_l
  split at h
  case h_2 => exact h.elim
  rename_i is_b_c
  exact CallSem.objs (pLoad0_sem _ _ _ _ _ _ K h) (fun _ _ _ h => h) ⟨WkO.same, WkO.same, WkO.cells (Mo.Cl.is_ok is_b_k), WkO.same, WkO.cells (Mo.Wd.is_ok is_b_w), WkO.cells (Mo.Rt.is_ok is_b_t), WkO.cells (Mo.Rs.is_ok is_b_r), WkO.cells (Mo.Ln.is_ok is_b_l), WkO.same, WkO.same, WkO.same, WkO.same, WkO.cells (Mo.Cnt.is_ok is_b_c), trivial⟩
noncomputable def Mo.pLoad4_v1 (b : Mo.Bd) : Mo.Bd := (Mo.pgap_v2 b)
noncomputable def Mo.pLoad4_pre (spent : Int) (seen : Int) (b : Mo.Bd) (rs : List (List Int)) : Prop := ((Mo.pDown_pre rs) ∧ (if ((iN (castI (lenR (Mo.dResets_v1 rs))) seen) = true) then False else ((Mo.pgap_pre spent b rs) ∧ ((Mo.pDown_pre (Mo.dTick_v1 0 b rs)) ∧ (if ((iN (castI (lenR (Mo.dResets_v1 (Mo.dTick_v1 0 b rs)))) seen) = true) then False else ((Mo.dLoad4_pre (Mo.pgap_v2 b)) ∧ (Mo.pDown_pre (Mo.dTick_v1 0 b rs))))))))
noncomputable def pLoad4_tree (made : Int) (spent : Int) (seen : Int) (dv : Int) (b : Mo.Bd) (rs : List (List Int)) (K : S → List Ob → Prop) : Prop := (((lenR rs) = (lenR rs)) ∧ (((1 : Int) = 1) ∧ (((1 : Int) = 1) ∧ ((Mo.pDown_pre rs) ∧ (if ((iN (castI (lenR (Mo.dResets_v1 rs))) seen) = true) then K (.tup [(.il .u32 0), (.il .i64 13)]) (hm_FcH_1 made spent seen dv rs b) else (((lenR rs) = (lenR rs)) ∧ (((1 : Int) = 1) ∧ (((1 : Int) = 1) ∧ ((Mo.pgap_pre spent b rs) ∧ (((lenR (Mo.dTick_v1 0 b rs)) = (lenR (Mo.dTick_v1 0 b rs))) ∧ (((1 : Int) = 1) ∧ (((1 : Int) = 1) ∧ ((Mo.pDown_pre (Mo.dTick_v1 0 b rs)) ∧ (if ((iN (castI (lenR (Mo.dResets_v1 (Mo.dTick_v1 0 b rs)))) seen) = true) then K (.tup [(.il .u32 0), (.il .i64 13)]) (hm_FcH_1 (adi made 1) (Mo.pgap_v1 spent) seen dv (Mo.dTick_v1 0 b rs) (Mo.pgap_v2 b)) else (((lenR (Mo.dTick_v1 0 b rs)) = (lenR (Mo.dTick_v1 0 b rs))) ∧ (((1 : Int) = 1) ∧ (((1 : Int) = 1) ∧ (((lenR (Mo.dTick_v1 0 b rs)) = (lenR (Mo.dTick_v1 0 b rs))) ∧ (((1 : Int) = 1) ∧ (((1 : Int) = 1) ∧ ((Mo.dLoad4_pre (Mo.pgap_v2 b)) ∧ (((lenR (Mo.dTick_v1 0 b rs)) = (lenR (Mo.dTick_v1 0 b rs))) ∧ (((1 : Int) = 1) ∧ (((1 : Int) = 1) ∧ ((Mo.pDown_pre (Mo.dTick_v1 0 b rs)) ∧ (if ((iN (castI (lenR (Mo.dResets_v1 (Mo.dTick_v1 0 b rs)))) seen) = true) then K (.tup [(.iv .u32 (Mo.Wd.shut (Mo.Bd.w (Mo.pgap_v2 b)))), (.il .i64 13)]) (hm_FcH_1 (adi made 1) (Mo.pgap_v1 spent) seen dv (Mo.dTick_v1 0 b rs) (Mo.pgap_v2 b)) else K (.tup [(.iv .u32 (Mo.Wd.shut (Mo.Bd.w (Mo.pgap_v2 b)))), (.il .i64 0)]) (hm_FcH_1 (adi made 1) (Mo.pgap_v1 spent) seen dv (Mo.dTick_v1 0 b rs) (Mo.pgap_v2 b))))))))))))))))))))))))))))
theorem pLoad4_run (made : Int) (spent : Int) (seen : Int) (dv : Int) (b : Mo.Bd) (rs : List (List Int)) (K : S → List Ob → Prop) : callX (std noW) tt ffFcG stopFcG (lpB noW Tryz.prog) noL 8 62 [.ptr 0 (.l 0), .il .u32 268566532] (h_PT made spent seen dv b rs) (gcK 13 (nilK none (mvsK [9] (optK [] (ivK false K))))) = pLoad4_tree made spent seen dv b rs K := by kernel_rfl
noncomputable def pLoad4_T (made : Int) (spent : Int) (seen : Int) (dv : Int) (b : Mo.Bd) (rs : List (List Int)) (K : S → List Ob → Prop) : Prop := Mo.pLoad4_pre spent seen b rs ∧ K (.tup [(.iv .u32 (Mo.Wd.shut (Mo.Bd.w (Mo.pgap_v2 b)))), (.il .i64 0)]) (hm_FcH_1 (adi made 1) (Mo.pgap_v1 spent) seen dv (Mo.dTick_v1 0 b rs) (Mo.pLoad4_v1 b))
theorem pLoad4_all (made : Int) (spent : Int) (seen : Int) (dv : Int) (b : Mo.Bd) (rs : List (List Int)) (K : S → List Ob → Prop) (h : pLoad4_T made spent seen dv b rs K) : pLoad4_tree made spent seen dv b rs K := by
  unfold pLoad4_T at h; obtain ⟨h0, h⟩ := h; unfold pLoad4_tree
  try simp only [Mo.pLoad4_v1] at h0 h
  try simp only [Mo.pLoad4_pre] at h0 h
  repeat' (first | (refine ite_intro (fun c => ?_) (fun c => ?_) <;> first | simp only [if_pos c] at h0 h | simp only [if_neg c] at h0 h | skip) | with_reducible (replace h0 := (h0 : True ∧ _).2) | with_reducible (refine ⟨rfl, ?_⟩) | with_reducible (refine ⟨h0.1, ?_⟩; replace h0 := h0.2) | with_reducible (refine ⟨h0, ?_⟩) | (refine ⟨h0.1, ?_⟩; replace h0 := h0.2) | refine ⟨h0, ?_⟩ | refine ⟨rfl, ?_⟩ | refine ⟨trivial, ?_⟩ | refine ⟨by assumption, ?_⟩ | refine ⟨Eq.symm (by assumption), ?_⟩ | exact h | refine ⟨?_, ?_⟩ | exact h0.elim | trivial | contradiction | (simp only [if_true, if_false, Bool.false_eq_true] at h; exact h))
theorem pLoad4_sem (made : Int) (spent : Int) (seen : Int) (dv : Int) (b : Mo.Bd) (rs : List (List Int)) (K : S → List Ob → Prop) (h : pLoad4_T made spent seen dv b rs K) : CallSem noW Tryz.prog 62 [.ptr 0 (.l 0), .il .u32 268566532] (h_PT made spent seen dv b rs) K := all_call (callX_ok tok (by kernel_rfl) ffFcGok stopFcG_ok _ _ _ _ (Eq.mpr (pLoad4_run made spent seen dv b rs K) (pLoad4_all made spent seen dv b rs K h)))
noncomputable def pLoad4_con : Con := ⟨[.ptr 0, .same (.il .u32 268566532)], t_PT, [], fun a K => match a with | ⟨[made, spent, seen, dv], [], [], [cs_b_k, cs_b_w, cs_b_t, cs_b_r, cs_b_l, cs_b_c], [rs]⟩ => (match Mo.Cl.is cs_b_k with | true => (match Mo.Wd.is cs_b_w with | true => (match Mo.Rt.is cs_b_t with | true => (match Mo.Rs.is cs_b_r with | true => (match Mo.Ln.is cs_b_l with | true => (match Mo.Cnt.is cs_b_c with | true => pLoad4_T made spent seen dv (Mo.Bd.mk (Mo.Cl.of cs_b_k) (Mo.Wd.of cs_b_w) (Mo.Rt.of cs_b_t) (Mo.Rs.of cs_b_r) (Mo.Ln.of cs_b_l) (Mo.Cnt.of cs_b_c)) rs K | false => False) | false => False) | false => False) | false => False) | false => False) | false => False) | _ => False⟩
theorem pLoad4_ok : pLoad4_con.ok noW Tryz.prog 62 := by
  intro a K h
  simp only [pLoad4_con] at h
  split at h
  case h_2 => exact h.elim
  split at h
  case h_2 => exact h.elim
  rename_i is_b_k
  split at h
  case h_2 => exact h.elim
  rename_i is_b_w
  split at h
  case h_2 => exact h.elim
  rename_i is_b_t
  split at h
  case h_2 => exact h.elim
  rename_i is_b_r
  split at h
  case h_2 => exact h.elim
  rename_i is_b_l
  split at h
  case h_2 => exact h.elim
  rename_i is_b_c
  exact CallSem.objs (pLoad4_sem _ _ _ _ _ _ K h) (fun _ _ _ h => h) ⟨WkO.same, WkO.same, WkO.cells (Mo.Cl.is_ok is_b_k), WkO.same, WkO.cells (Mo.Wd.is_ok is_b_w), WkO.cells (Mo.Rt.is_ok is_b_t), WkO.cells (Mo.Rs.is_ok is_b_r), WkO.cells (Mo.Ln.is_ok is_b_l), WkO.same, WkO.same, WkO.same, WkO.same, WkO.cells (Mo.Cnt.is_ok is_b_c), trivial⟩
noncomputable def Mo.pLoad8_v1 (b : Mo.Bd) : Mo.Bd := (Mo.pgap_v2 b)
noncomputable def Mo.pLoad8_pre (spent : Int) (seen : Int) (b : Mo.Bd) (rs : List (List Int)) : Prop := ((Mo.pDown_pre rs) ∧ (if ((iN (castI (lenR (Mo.dResets_v1 rs))) seen) = true) then False else ((Mo.pgap_pre spent b rs) ∧ ((Mo.pDown_pre (Mo.dTick_v1 0 b rs)) ∧ (if ((iN (castI (lenR (Mo.dResets_v1 (Mo.dTick_v1 0 b rs)))) seen) = true) then False else ((Mo.dLoad8_pre (Mo.pgap_v2 b)) ∧ (Mo.pDown_pre (Mo.dTick_v1 0 b rs))))))))
noncomputable def pLoad8_tree (made : Int) (spent : Int) (seen : Int) (dv : Int) (b : Mo.Bd) (rs : List (List Int)) (K : S → List Ob → Prop) : Prop := (((lenR rs) = (lenR rs)) ∧ (((1 : Int) = 1) ∧ (((1 : Int) = 1) ∧ ((Mo.pDown_pre rs) ∧ (if ((iN (castI (lenR (Mo.dResets_v1 rs))) seen) = true) then K (.tup [(.il .u32 0), (.il .i64 13)]) (hm_FcH_1 made spent seen dv rs b) else (((lenR rs) = (lenR rs)) ∧ (((1 : Int) = 1) ∧ (((1 : Int) = 1) ∧ ((Mo.pgap_pre spent b rs) ∧ (((lenR (Mo.dTick_v1 0 b rs)) = (lenR (Mo.dTick_v1 0 b rs))) ∧ (((1 : Int) = 1) ∧ (((1 : Int) = 1) ∧ ((Mo.pDown_pre (Mo.dTick_v1 0 b rs)) ∧ (if ((iN (castI (lenR (Mo.dResets_v1 (Mo.dTick_v1 0 b rs)))) seen) = true) then K (.tup [(.il .u32 0), (.il .i64 13)]) (hm_FcH_1 (adi made 1) (Mo.pgap_v1 spent) seen dv (Mo.dTick_v1 0 b rs) (Mo.pgap_v2 b)) else (((lenR (Mo.dTick_v1 0 b rs)) = (lenR (Mo.dTick_v1 0 b rs))) ∧ (((1 : Int) = 1) ∧ (((1 : Int) = 1) ∧ (((lenR (Mo.dTick_v1 0 b rs)) = (lenR (Mo.dTick_v1 0 b rs))) ∧ (((1 : Int) = 1) ∧ (((1 : Int) = 1) ∧ (((lenR (Mo.dTick_v1 0 b rs)) = (lenR (Mo.dTick_v1 0 b rs))) ∧ (((1 : Int) = 1) ∧ (((1 : Int) = 1) ∧ ((Mo.dLoad8_pre (Mo.pgap_v2 b)) ∧ (((lenR (Mo.dTick_v1 0 b rs)) = (lenR (Mo.dTick_v1 0 b rs))) ∧ (((1 : Int) = 1) ∧ (((1 : Int) = 1) ∧ ((Mo.pDown_pre (Mo.dTick_v1 0 b rs)) ∧ (if ((iN (castI (lenR (Mo.dResets_v1 (Mo.dTick_v1 0 b rs)))) seen) = true) then K (.tup [(.iv .u32 (Mo.Wd.all (Mo.Bd.w (Mo.pgap_v2 b)))), (.il .i64 13)]) (hm_FcH_1 (adi made 1) (Mo.pgap_v1 spent) seen dv (Mo.dTick_v1 0 b rs) (Mo.pgap_v2 b)) else K (.tup [(.iv .u32 (Mo.Wd.all (Mo.Bd.w (Mo.pgap_v2 b)))), (.il .i64 0)]) (hm_FcH_1 (adi made 1) (Mo.pgap_v1 spent) seen dv (Mo.dTick_v1 0 b rs) (Mo.pgap_v2 b)))))))))))))))))))))))))))))))
theorem pLoad8_run (made : Int) (spent : Int) (seen : Int) (dv : Int) (b : Mo.Bd) (rs : List (List Int)) (K : S → List Ob → Prop) : callX (std noW) tt ffFcG stopFcG (lpB noW Tryz.prog) noL 8 62 [.ptr 0 (.l 0), .il .u32 268566536] (h_PT made spent seen dv b rs) (gcK 13 (nilK none (mvsK [9] (optK [] (ivK false K))))) = pLoad8_tree made spent seen dv b rs K := by kernel_rfl
noncomputable def pLoad8_T (made : Int) (spent : Int) (seen : Int) (dv : Int) (b : Mo.Bd) (rs : List (List Int)) (K : S → List Ob → Prop) : Prop := Mo.pLoad8_pre spent seen b rs ∧ K (.tup [(.iv .u32 (Mo.Wd.all (Mo.Bd.w (Mo.pgap_v2 b)))), (.il .i64 0)]) (hm_FcH_1 (adi made 1) (Mo.pgap_v1 spent) seen dv (Mo.dTick_v1 0 b rs) (Mo.pLoad8_v1 b))
theorem pLoad8_all (made : Int) (spent : Int) (seen : Int) (dv : Int) (b : Mo.Bd) (rs : List (List Int)) (K : S → List Ob → Prop) (h : pLoad8_T made spent seen dv b rs K) : pLoad8_tree made spent seen dv b rs K := by
  unfold pLoad8_T at h; obtain ⟨h0, h⟩ := h; unfold pLoad8_tree
  try simp only [Mo.pLoad8_v1] at h0 h
  try simp only [Mo.pLoad8_pre] at h0 h
  repeat' (first | (refine ite_intro (fun c => ?_) (fun c => ?_) <;> first | simp only [if_pos c] at h0 h | simp only [if_neg c] at h0 h | skip) | with_reducible (replace h0 := (h0 : True ∧ _).2) | with_reducible (refine ⟨rfl, ?_⟩) | with_reducible (refine ⟨h0.1, ?_⟩; replace h0 := h0.2) | with_reducible (refine ⟨h0, ?_⟩) | (refine ⟨h0.1, ?_⟩; replace h0 := h0.2) | refine ⟨h0, ?_⟩ | refine ⟨rfl, ?_⟩ | refine ⟨trivial, ?_⟩ | refine ⟨by assumption, ?_⟩ | refine ⟨Eq.symm (by assumption), ?_⟩ | exact h | refine ⟨?_, ?_⟩ | exact h0.elim | trivial | contradiction | (simp only [if_true, if_false, Bool.false_eq_true] at h; exact h))
theorem pLoad8_sem (made : Int) (spent : Int) (seen : Int) (dv : Int) (b : Mo.Bd) (rs : List (List Int)) (K : S → List Ob → Prop) (h : pLoad8_T made spent seen dv b rs K) : CallSem noW Tryz.prog 62 [.ptr 0 (.l 0), .il .u32 268566536] (h_PT made spent seen dv b rs) K := all_call (callX_ok tok (by kernel_rfl) ffFcGok stopFcG_ok _ _ _ _ (Eq.mpr (pLoad8_run made spent seen dv b rs K) (pLoad8_all made spent seen dv b rs K h)))
noncomputable def pLoad8_con : Con := ⟨[.ptr 0, .same (.il .u32 268566536)], t_PT, [], fun a K => match a with | ⟨[made, spent, seen, dv], [], [], [cs_b_k, cs_b_w, cs_b_t, cs_b_r, cs_b_l, cs_b_c], [rs]⟩ => (match Mo.Cl.is cs_b_k with | true => (match Mo.Wd.is cs_b_w with | true => (match Mo.Rt.is cs_b_t with | true => (match Mo.Rs.is cs_b_r with | true => (match Mo.Ln.is cs_b_l with | true => (match Mo.Cnt.is cs_b_c with | true => pLoad8_T made spent seen dv (Mo.Bd.mk (Mo.Cl.of cs_b_k) (Mo.Wd.of cs_b_w) (Mo.Rt.of cs_b_t) (Mo.Rs.of cs_b_r) (Mo.Ln.of cs_b_l) (Mo.Cnt.of cs_b_c)) rs K | false => False) | false => False) | false => False) | false => False) | false => False) | false => False) | _ => False⟩
theorem pLoad8_ok : pLoad8_con.ok noW Tryz.prog 62 := by
  intro a K h
  simp only [pLoad8_con] at h
  split at h
  case h_2 => exact h.elim
  split at h
  case h_2 => exact h.elim
  rename_i is_b_k
  split at h
  case h_2 => exact h.elim
  rename_i is_b_w
  split at h
  case h_2 => exact h.elim
  rename_i is_b_t
  split at h
  case h_2 => exact h.elim
  rename_i is_b_r
  split at h
  case h_2 => exact h.elim
  rename_i is_b_l
  split at h
  case h_2 => exact h.elim
  rename_i is_b_c
  exact CallSem.objs (pLoad8_sem _ _ _ _ _ _ K h) (fun _ _ _ h => h) ⟨WkO.same, WkO.same, WkO.cells (Mo.Cl.is_ok is_b_k), WkO.same, WkO.cells (Mo.Wd.is_ok is_b_w), WkO.cells (Mo.Rt.is_ok is_b_t), WkO.cells (Mo.Rs.is_ok is_b_r), WkO.cells (Mo.Ln.is_ok is_b_l), WkO.same, WkO.same, WkO.same, WkO.same, WkO.cells (Mo.Cnt.is_ok is_b_c), trivial⟩
noncomputable def Mo.pLoad16_v1 (b : Mo.Bd) : Mo.Bd := (Mo.pgap_v2 b)
noncomputable def Mo.pLoad16_pre (spent : Int) (seen : Int) (b : Mo.Bd) (rs : List (List Int)) : Prop := ((Mo.pDown_pre rs) ∧ (if ((iN (castI (lenR (Mo.dResets_v1 rs))) seen) = true) then False else ((Mo.pgap_pre spent b rs) ∧ ((Mo.pDown_pre (Mo.dTick_v1 0 b rs)) ∧ (if ((iN (castI (lenR (Mo.dResets_v1 (Mo.dTick_v1 0 b rs)))) seen) = true) then False else ((Mo.dLoad16_pre (Mo.pgap_v2 b)) ∧ (Mo.pDown_pre (Mo.dTick_v1 0 b rs))))))))
noncomputable def pLoad16_tree (made : Int) (spent : Int) (seen : Int) (dv : Int) (b : Mo.Bd) (rs : List (List Int)) (K : S → List Ob → Prop) : Prop := (((lenR rs) = (lenR rs)) ∧ (((1 : Int) = 1) ∧ (((1 : Int) = 1) ∧ ((Mo.pDown_pre rs) ∧ (if ((iN (castI (lenR (Mo.dResets_v1 rs))) seen) = true) then K (.tup [(.il .u32 0), (.il .i64 13)]) (hm_FcH_1 made spent seen dv rs b) else (((lenR rs) = (lenR rs)) ∧ (((1 : Int) = 1) ∧ (((1 : Int) = 1) ∧ ((Mo.pgap_pre spent b rs) ∧ (((lenR (Mo.dTick_v1 0 b rs)) = (lenR (Mo.dTick_v1 0 b rs))) ∧ (((1 : Int) = 1) ∧ (((1 : Int) = 1) ∧ ((Mo.pDown_pre (Mo.dTick_v1 0 b rs)) ∧ (if ((iN (castI (lenR (Mo.dResets_v1 (Mo.dTick_v1 0 b rs)))) seen) = true) then K (.tup [(.il .u32 0), (.il .i64 13)]) (hm_FcH_1 (adi made 1) (Mo.pgap_v1 spent) seen dv (Mo.dTick_v1 0 b rs) (Mo.pgap_v2 b)) else (((lenR (Mo.dTick_v1 0 b rs)) = (lenR (Mo.dTick_v1 0 b rs))) ∧ (((1 : Int) = 1) ∧ (((1 : Int) = 1) ∧ (((lenR (Mo.dTick_v1 0 b rs)) = (lenR (Mo.dTick_v1 0 b rs))) ∧ (((1 : Int) = 1) ∧ (((1 : Int) = 1) ∧ (((lenR (Mo.dTick_v1 0 b rs)) = (lenR (Mo.dTick_v1 0 b rs))) ∧ (((1 : Int) = 1) ∧ (((1 : Int) = 1) ∧ (((lenR (Mo.dTick_v1 0 b rs)) = (lenR (Mo.dTick_v1 0 b rs))) ∧ (((1 : Int) = 1) ∧ (((1 : Int) = 1) ∧ ((Mo.dLoad16_pre (Mo.pgap_v2 b)) ∧ (((lenR (Mo.dTick_v1 0 b rs)) = (lenR (Mo.dTick_v1 0 b rs))) ∧ (((1 : Int) = 1) ∧ (((1 : Int) = 1) ∧ ((Mo.pDown_pre (Mo.dTick_v1 0 b rs)) ∧ (if ((iN (castI (lenR (Mo.dResets_v1 (Mo.dTick_v1 0 b rs)))) seen) = true) then K (.tup [(.iv .u32 (cvw (Mo.Wd.since (Mo.Bd.w (Mo.pgap_v2 b))) 0)), (.il .i64 13)]) (hm_FcH_1 (adi made 1) (Mo.pgap_v1 spent) seen dv (Mo.dTick_v1 0 b rs) (Mo.pgap_v2 b)) else K (.tup [(.iv .u32 (cvw (Mo.Wd.since (Mo.Bd.w (Mo.pgap_v2 b))) 0)), (.il .i64 0)]) (hm_FcH_1 (adi made 1) (Mo.pgap_v1 spent) seen dv (Mo.dTick_v1 0 b rs) (Mo.pgap_v2 b))))))))))))))))))))))))))))))))))
theorem pLoad16_run (made : Int) (spent : Int) (seen : Int) (dv : Int) (b : Mo.Bd) (rs : List (List Int)) (K : S → List Ob → Prop) : callX (std noW) tt ffFcG stopFcG (lpB noW Tryz.prog) noL 8 62 [.ptr 0 (.l 0), .il .u32 268566544] (h_PT made spent seen dv b rs) (gcK 13 (nilK none (mvsK [9] (optK [] (ivK false K))))) = pLoad16_tree made spent seen dv b rs K := by kernel_rfl
noncomputable def pLoad16_T (made : Int) (spent : Int) (seen : Int) (dv : Int) (b : Mo.Bd) (rs : List (List Int)) (K : S → List Ob → Prop) : Prop := Mo.pLoad16_pre spent seen b rs ∧ K (.tup [(.iv .u32 (cvw (Mo.Wd.since (Mo.Bd.w (Mo.pgap_v2 b))) 0)), (.il .i64 0)]) (hm_FcH_1 (adi made 1) (Mo.pgap_v1 spent) seen dv (Mo.dTick_v1 0 b rs) (Mo.pLoad16_v1 b))
theorem pLoad16_all (made : Int) (spent : Int) (seen : Int) (dv : Int) (b : Mo.Bd) (rs : List (List Int)) (K : S → List Ob → Prop) (h : pLoad16_T made spent seen dv b rs K) : pLoad16_tree made spent seen dv b rs K := by
  unfold pLoad16_T at h; obtain ⟨h0, h⟩ := h; unfold pLoad16_tree
  try simp only [Mo.pLoad16_v1] at h0 h
  try simp only [Mo.pLoad16_pre] at h0 h
  repeat' (first | (refine ite_intro (fun c => ?_) (fun c => ?_) <;> first | simp only [if_pos c] at h0 h | simp only [if_neg c] at h0 h | skip) | with_reducible (replace h0 := (h0 : True ∧ _).2) | with_reducible (refine ⟨rfl, ?_⟩) | with_reducible (refine ⟨h0.1, ?_⟩; replace h0 := h0.2) | with_reducible (refine ⟨h0, ?_⟩) | (refine ⟨h0.1, ?_⟩; replace h0 := h0.2) | refine ⟨h0, ?_⟩ | refine ⟨rfl, ?_⟩ | refine ⟨trivial, ?_⟩ | refine ⟨by assumption, ?_⟩ | refine ⟨Eq.symm (by assumption), ?_⟩ | exact h | refine ⟨?_, ?_⟩ | exact h0.elim | trivial | contradiction | (simp only [if_true, if_false, Bool.false_eq_true] at h; exact h))
theorem pLoad16_sem (made : Int) (spent : Int) (seen : Int) (dv : Int) (b : Mo.Bd) (rs : List (List Int)) (K : S → List Ob → Prop) (h : pLoad16_T made spent seen dv b rs K) : CallSem noW Tryz.prog 62 [.ptr 0 (.l 0), .il .u32 268566544] (h_PT made spent seen dv b rs) K := all_call (callX_ok tok (by kernel_rfl) ffFcGok stopFcG_ok _ _ _ _ (Eq.mpr (pLoad16_run made spent seen dv b rs K) (pLoad16_all made spent seen dv b rs K h)))
noncomputable def pLoad16_con : Con := ⟨[.ptr 0, .same (.il .u32 268566544)], t_PT, [], fun a K => match a with | ⟨[made, spent, seen, dv], [], [], [cs_b_k, cs_b_w, cs_b_t, cs_b_r, cs_b_l, cs_b_c], [rs]⟩ => (match Mo.Cl.is cs_b_k with | true => (match Mo.Wd.is cs_b_w with | true => (match Mo.Rt.is cs_b_t with | true => (match Mo.Rs.is cs_b_r with | true => (match Mo.Ln.is cs_b_l with | true => (match Mo.Cnt.is cs_b_c with | true => pLoad16_T made spent seen dv (Mo.Bd.mk (Mo.Cl.of cs_b_k) (Mo.Wd.of cs_b_w) (Mo.Rt.of cs_b_t) (Mo.Rs.of cs_b_r) (Mo.Ln.of cs_b_l) (Mo.Cnt.of cs_b_c)) rs K | false => False) | false => False) | false => False) | false => False) | false => False) | false => False) | _ => False⟩
theorem pLoad16_ok : pLoad16_con.ok noW Tryz.prog 62 := by
  intro a K h
  simp only [pLoad16_con] at h
  split at h
  case h_2 => exact h.elim
  split at h
  case h_2 => exact h.elim
  rename_i is_b_k
  split at h
  case h_2 => exact h.elim
  rename_i is_b_w
  split at h
  case h_2 => exact h.elim
  rename_i is_b_t
  split at h
  case h_2 => exact h.elim
  rename_i is_b_r
  split at h
  case h_2 => exact h.elim
  rename_i is_b_l
  split at h
  case h_2 => exact h.elim
  rename_i is_b_c
  exact CallSem.objs (pLoad16_sem _ _ _ _ _ _ K h) (fun _ _ _ h => h) ⟨WkO.same, WkO.same, WkO.cells (Mo.Cl.is_ok is_b_k), WkO.same, WkO.cells (Mo.Wd.is_ok is_b_w), WkO.cells (Mo.Rt.is_ok is_b_t), WkO.cells (Mo.Rs.is_ok is_b_r), WkO.cells (Mo.Ln.is_ok is_b_l), WkO.same, WkO.same, WkO.same, WkO.same, WkO.cells (Mo.Cnt.is_ok is_b_c), trivial⟩
noncomputable def tabFcH (n : Nat) : List Con := match Nat.beq n 63 with | true => [pStore0_con, pStore4_con, pStore8_con, pStore12_con] | false => match Nat.beq n 62 with | true => [pLoad0_con, pLoad4_con, pLoad8_con, pLoad16_con] | false => tabFcG n
theorem tabFcH_ok : ∀ f, ∀ c ∈ tabFcH f, c.ok noW Tryz.prog f := by
  intro f c hc
  unfold tabFcH at hc
  split at hc
  · rename_i hf; have := Nat.eq_of_beq_eq_true hf; subst this
    simp only [List.mem_cons, List.not_mem_nil, or_false] at hc
    rcases hc with rfl | rfl | rfl | rfl
    · exact pStore0_ok
    · exact pStore4_ok
    · exact pStore8_ok
    · exact pStore12_ok
  split at hc
  · rename_i hf; have := Nat.eq_of_beq_eq_true hf; subst this
    simp only [List.mem_cons, List.not_mem_nil, or_false] at hc
    rcases hc with rfl | rfl | rfl | rfl
    · exact pLoad0_ok
    · exact pLoad4_ok
    · exact pLoad8_ok
    · exact pLoad16_ok
  exact tabFcG_ok f c hc
noncomputable def ffFcH (n : Nat) : Option FI := match Nat.beq n 63 with | true => none | false => match Nat.beq n 62 with | true => none | false => ffFcG n
theorem ffFcHok : FOk Tryz.prog ffFcH := fun f fi hf => by
  unfold ffFcH at hf
  split at hf
  · cases hf
  split at hf
  · cases hf
  exact ffFcGok f fi hf
noncomputable def stopFcH : CallT := stopC tabFcH stopB
theorem stopFcH_ok : ∀ f args h K, stopFcH f args h K → CallSem noW Tryz.prog f args h K := stopC_ok tabFcH_ok stopB_ok
end Go.SX.Y
