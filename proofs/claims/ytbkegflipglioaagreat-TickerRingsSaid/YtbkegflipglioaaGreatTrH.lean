/- What Go functions come to (lifted). -/
import Derived.Test.YtbkegflipglioaaGreatTrG
set_option maxRecDepth 20000
namespace Go.SX.Y
open Go.Proofs Go.RowKit
noncomputable def h_T1n (made : Int) (spent : Int) (dv : Int) (b : Mo.Bd) : List Ob := [.cells 156 [.ptr 1 (.l 0), .il .i64 1], .cells 135 [.iv .i64 made, .iv .u64 spent, .iv .i64 0, .ptr 2 (.l 0), .raw (.slice none 0 0)], .cells 131 [.ptr 3 (.l 0), .ptr 4 (.l 0), .ptr 5 (.l 0), .ptr 6 (.l 0), .ptr 7 (.l 0), .ptr 8 (.l 0), .ptr 9 (.l 0), .iv .i64 1, .iv .i64 2, .iv .u32 dv, .raw (.slice none 0 0)], .cells 183 (Mo.Cl.cells (Mo.Bd.k b)), .cells 188 [.sli 10 (.l 0) (.l 2) (.lit (.l 2)) false], .cells 194 (Mo.Wd.cells (Mo.Bd.w b)), .cells 190 (Mo.Rt.cells (Mo.Bd.t b)), .cells 200 (Mo.Rs.cells (Mo.Bd.r b)), .cells 204 (Mo.Ln.cells (Mo.Bd.l b)), .cells 227 [.mp 11], .row 185 1 (.l 2) [.ptr 12 (.l 0), .ptr 13 (.l 0)], .mapo [.agg [.il .u32 33554432, .il .u32 49152], .agg [.il .u32 268500992, .il .u32 256], .agg [.il .u32 268566528, .il .u32 20], .agg [.il .u32 268632064, .il .u32 16], .agg [.il .u32 268697600, .il .u32 36], .agg [.il .u32 268763136, .il .u32 12]] [.ifc 107 (.ptr 3 (.l 0)), .ifc 110 (.ptr 4 (.l 0)), .ifc 119 (.ptr 5 (.l 0)), .ifc 125 (.ptr 7 (.l 0)), .ifc 44 (.ptr 6 (.l 0)), .ifc 127 (.ptr 8 (.l 0))], .cells 246 (Mo.Cnt.cells (Mo.Bd.c0 b)), .cells 246 (Mo.Cnt.cells (Mo.Bd.c1 b))]
def t_T1n : List OTm := [.cells 156 [.ptr 1, .eqL .i64 1], .cells 135 [.int .i64, .int .u64, .eqI .i64 0, .ptr 2, .same (.raw (.slice none 0 0))], .cells 131 [.ptr 3, .ptr 4, .ptr 5, .ptr 6, .ptr 7, .ptr 8, .ptr 9, .eqI .i64 1, .eqI .i64 2, .int .u32, .same (.raw (.slice none 0 0))], .cellsV 183, .cells 188 [.same (.sli 10 (.l 0) (.l 2) (.lit (.l 2)) false)], .cellsV 194, .cellsV 190, .cellsV 200, .cellsV 204, .cells 227 [.mp 11], .row 185 1 2 [.ptr 12, .ptr 13], .mapo [.agg [.same (.il .u32 33554432), .same (.il .u32 49152)], .agg [.same (.il .u32 268500992), .same (.il .u32 256)], .agg [.same (.il .u32 268566528), .same (.il .u32 20)], .agg [.same (.il .u32 268632064), .same (.il .u32 16)], .agg [.same (.il .u32 268697600), .same (.il .u32 36)], .agg [.same (.il .u32 268763136), .same (.il .u32 12)]] [.ifc 107 (.ptr 3), .ifc 110 (.ptr 4), .ifc 119 (.ptr 5), .ifc 125 (.ptr 7), .ifc 44 (.ptr 6), .ifc 127 (.ptr 8)], .cellsV 246, .cellsV 246]
noncomputable def hm_TrH_1 (x1 : Int) (x2 : Int) (x3 : Int) (x4 : Mo.Bd) : List Ob := [(.cells 156 [(.ptr 1 (.l 0)), (.iv .i64 1)]), (.cells 135 [(.iv .i64 x1), (.iv .u64 x2), (.iv .i64 0), (.ptr 2 (.l 0)), (.raw (.slice none 0 0))]), (.cells 131 [(.ptr 3 (.l 0)), (.ptr 4 (.l 0)), (.ptr 5 (.l 0)), (.ptr 6 (.l 0)), (.ptr 7 (.l 0)), (.ptr 8 (.l 0)), (.ptr 9 (.l 0)), (.iv .i64 1), (.iv .i64 2), (.iv .u32 x3), (.raw (.slice none 0 0))]), (.cells 183 (Mo.Cl.cells (Mo.Bd.k x4))), (.cells 188 [(.sli 10 (.l 0) (.l 2) (.lit (.l 2)) false)]), (.cells 194 (Mo.Wd.cells (Mo.Bd.w x4))), (.cells 190 (Mo.Rt.cells (Mo.Bd.t x4))), (.cells 200 (Mo.Rs.cells (Mo.Bd.r x4))), (.cells 204 (Mo.Ln.cells (Mo.Bd.l x4))), (.cells 227 [(.mp 11)]), (.row 185 1 (.l 2) [(.ptr 12 (.l 0)), (.ptr 13 (.l 0))]), (.mapo [(.agg [(.il .u32 33554432), (.il .u32 49152)]), (.agg [(.il .u32 268500992), (.il .u32 256)]), (.agg [(.il .u32 268566528), (.il .u32 20)]), (.agg [(.il .u32 268632064), (.il .u32 16)]), (.agg [(.il .u32 268697600), (.il .u32 36)]), (.agg [(.il .u32 268763136), (.il .u32 12)])] [(.ifc 107 (.ptr 3 (.l 0))), (.ifc 110 (.ptr 4 (.l 0))), (.ifc 119 (.ptr 5 (.l 0))), (.ifc 125 (.ptr 7 (.l 0))), (.ifc 44 (.ptr 6 (.l 0))), (.ifc 127 (.ptr 8 (.l 0)))]), (.cells 246 (Mo.Cnt.cells (Mo.Bd.c0 x4))), (.cells 246 (Mo.Cnt.cells (Mo.Bd.c1 x4)))]
noncomputable def Mo.tStart_e1 (ld : Int) (scale : Int) (b : Mo.Bd) : Mo.Bd := Mo.pStore8_v2 (rrw (nnw 5 65280) (anw (slw scale 8) 65280)) (Mo.pStore12_v2 1 (Mo.pStore0_v2 ld (Mo.pStore8_v2 0 b)))
noncomputable def Mo.tStart_e2 (ld : Int) (scale : Int) (b : Mo.Bd) : Mo.Bd := Mo.pStore8_v2 (Mo.bPut1_v1 (rrw (nnw 5 65280) (anw (slw scale 8) 65280)) 1) (Mo.pStore12_v2 1 (Mo.pStore0_v2 ld (Mo.pStore8_v2 0 b)))
noncomputable def Mo.tStart_v1 (scale : Int) : Int := (if ((iL 255 scale) = true) then 5 else 0)
noncomputable def Mo.tStart_v2 (scale : Int) (made : Int) : Int := (if ((iL 255 scale) = true) then made else (adi (adi (adi (adi made 1) 1) 1) 1))
noncomputable def Mo.tStart_v3 (scale : Int) (spent : Int) : Int := (if ((iL 255 scale) = true) then spent else (Mo.pStore8_v1 (Mo.pStore12_v1 (Mo.pStore0_v1 (Mo.pStore8_v1 spent)))))
noncomputable def Mo.tStart_v4 (ld : Int) (scale : Int) (again : Bool) (b : Mo.Bd) : Mo.Bd := (if ((iL 255 scale) = true) then b else (if (again = true) then (Mo.tStart_e2 ld scale b) else (Mo.tStart_e1 ld scale b)))
noncomputable def Mo.tStart_pre (ld : Int) (scale : Int) (again : Bool) (spent : Int) (b : Mo.Bd) : Prop := (if ((iL 255 scale) = true) then True else (if (again = true) then ((Mo.bPut1_pre 1) ∧ ((Mo.pStore8_pre 0 spent b) ∧ ((Mo.pStore0_pre ld (Mo.pStore8_v1 spent) (Mo.pStore8_v2 0 b)) ∧ ((Mo.pStore12_pre 1 (Mo.pStore0_v1 (Mo.pStore8_v1 spent)) (Mo.pStore0_v2 ld (Mo.pStore8_v2 0 b))) ∧ (Mo.pStore8_pre (Mo.bPut1_v1 (rrw (nnw 5 65280) (anw (slw scale 8) 65280)) 1) (Mo.pStore12_v1 (Mo.pStore0_v1 (Mo.pStore8_v1 spent))) (Mo.pStore12_v2 1 (Mo.pStore0_v2 ld (Mo.pStore8_v2 0 b)))))))) else ((Mo.pStore8_pre 0 spent b) ∧ ((Mo.pStore0_pre ld (Mo.pStore8_v1 spent) (Mo.pStore8_v2 0 b)) ∧ ((Mo.pStore12_pre 1 (Mo.pStore0_v1 (Mo.pStore8_v1 spent)) (Mo.pStore0_v2 ld (Mo.pStore8_v2 0 b))) ∧ (Mo.pStore8_pre (rrw (nnw 5 65280) (anw (slw scale 8) 65280)) (Mo.pStore12_v1 (Mo.pStore0_v1 (Mo.pStore8_v1 spent))) (Mo.pStore12_v2 1 (Mo.pStore0_v2 ld (Mo.pStore8_v2 0 b)))))))))
noncomputable def tStart_tree (ld : Int) (scale : Int) (again : Bool) (made : Int) (spent : Int) (dv : Int) (b : Mo.Bd) (K : S → List Ob → Prop) : Prop := (if ((iL 255 scale) = true) then K (.iv .i64 5) (hm_TrH_1 made spent dv b) else (True ∧ (if (again = true) then ((Mo.bPut1_pre 1) ∧ (((2 : Int) = 2) ∧ (((1 : Int) = 1) ∧ (((0 : Int) = 0) ∧ (((2 : Int) = 2) ∧ (((1 : Int) = 1) ∧ (((0 : Int) = 0) ∧ ((Mo.pStore8_pre 0 spent b) ∧ (((some (S.iv IntKind.u32 ld)) = (some (S.iv IntKind.u32 ld))) ∧ (((2 : Int) = 2) ∧ (((1 : Int) = 1) ∧ (((0 : Int) = 0) ∧ ((Mo.pStore0_pre ld (Mo.pStore8_v1 spent) (Mo.pStore8_v2 0 b)) ∧ (((2 : Int) = 2) ∧ (((1 : Int) = 1) ∧ (((0 : Int) = 0) ∧ (((2 : Int) = 2) ∧ (((1 : Int) = 1) ∧ (((0 : Int) = 0) ∧ (((2 : Int) = 2) ∧ (((1 : Int) = 1) ∧ (((0 : Int) = 0) ∧ ((Mo.pStore12_pre 1 (Mo.pStore0_v1 (Mo.pStore8_v1 spent)) (Mo.pStore0_v2 ld (Mo.pStore8_v2 0 b))) ∧ (((some (S.iv IntKind.u32 (Mo.bPut1_v1 (rrw (nnw 5 65280) (anw (slw scale 8) 65280)) 1))) = (some (S.iv IntKind.u32 (Mo.bPut1_v1 (rrw (nnw 5 65280) (anw (slw scale 8) 65280)) 1)))) ∧ (((2 : Int) = 2) ∧ (((1 : Int) = 1) ∧ (((0 : Int) = 0) ∧ (((2 : Int) = 2) ∧ (((1 : Int) = 1) ∧ (((0 : Int) = 0) ∧ ((Mo.pStore8_pre (Mo.bPut1_v1 (rrw (nnw 5 65280) (anw (slw scale 8) 65280)) 1) (Mo.pStore12_v1 (Mo.pStore0_v1 (Mo.pStore8_v1 spent))) (Mo.pStore12_v2 1 (Mo.pStore0_v2 ld (Mo.pStore8_v2 0 b)))) ∧ K (.iv .i64 0) (hm_TrH_1 (adi (adi (adi (adi made 1) 1) 1) 1) (Mo.pStore8_v1 (Mo.pStore12_v1 (Mo.pStore0_v1 (Mo.pStore8_v1 spent)))) dv (Mo.tStart_e2 ld scale b))))))))))))))))))))))))))))))))) else (((2 : Int) = 2) ∧ (((1 : Int) = 1) ∧ (((0 : Int) = 0) ∧ (((2 : Int) = 2) ∧ (((1 : Int) = 1) ∧ (((0 : Int) = 0) ∧ ((Mo.pStore8_pre 0 spent b) ∧ (((some (S.iv IntKind.u32 ld)) = (some (S.iv IntKind.u32 ld))) ∧ (((2 : Int) = 2) ∧ (((1 : Int) = 1) ∧ (((0 : Int) = 0) ∧ ((Mo.pStore0_pre ld (Mo.pStore8_v1 spent) (Mo.pStore8_v2 0 b)) ∧ (((2 : Int) = 2) ∧ (((1 : Int) = 1) ∧ (((0 : Int) = 0) ∧ (((2 : Int) = 2) ∧ (((1 : Int) = 1) ∧ (((0 : Int) = 0) ∧ (((2 : Int) = 2) ∧ (((1 : Int) = 1) ∧ (((0 : Int) = 0) ∧ ((Mo.pStore12_pre 1 (Mo.pStore0_v1 (Mo.pStore8_v1 spent)) (Mo.pStore0_v2 ld (Mo.pStore8_v2 0 b))) ∧ (((some (S.iv IntKind.u32 (rrw (nnw 5 65280) (anw (slw scale 8) 65280)))) = (some (S.iv IntKind.u32 (rrw (nnw 5 65280) (anw (slw scale 8) 65280))))) ∧ (((2 : Int) = 2) ∧ (((1 : Int) = 1) ∧ (((0 : Int) = 0) ∧ (((2 : Int) = 2) ∧ (((1 : Int) = 1) ∧ (((0 : Int) = 0) ∧ ((Mo.pStore8_pre (rrw (nnw 5 65280) (anw (slw scale 8) 65280)) (Mo.pStore12_v1 (Mo.pStore0_v1 (Mo.pStore8_v1 spent))) (Mo.pStore12_v2 1 (Mo.pStore0_v2 ld (Mo.pStore8_v2 0 b)))) ∧ K (.iv .i64 0) (hm_TrH_1 (adi (adi (adi (adi made 1) 1) 1) 1) (Mo.pStore8_v1 (Mo.pStore12_v1 (Mo.pStore0_v1 (Mo.pStore8_v1 spent)))) dv (Mo.tStart_e1 ld scale b)))))))))))))))))))))))))))))))))))
theorem tStart_run (ld : Int) (scale : Int) (again : Bool) (made : Int) (spent : Int) (dv : Int) (b : Mo.Bd) (K : S → List Ob → Prop) : callX (std noW) tt ffTrG stopTrG (lpB noW Tryz.prog) noL 12 30 [.ptr 0 (.l 0), .iv .u32 ld, .iv .u32 scale, .bv again] (h_T1n made spent dv b) (gcK 14 (ivK true K)) = tStart_tree ld scale again made spent dv b K := by kernel_rfl
noncomputable def tStart_T (ld : Int) (scale : Int) (again : Bool) (made : Int) (spent : Int) (dv : Int) (b : Mo.Bd) (K : S → List Ob → Prop) : Prop := Mo.tStart_pre ld scale again spent b ∧ K (.iv .i64 (Mo.tStart_v1 scale)) (hm_TrH_1 (Mo.tStart_v2 scale made) (Mo.tStart_v3 scale spent) dv (Mo.tStart_v4 ld scale again b))
theorem tStart_all (ld : Int) (scale : Int) (again : Bool) (made : Int) (spent : Int) (dv : Int) (b : Mo.Bd) (K : S → List Ob → Prop) (h : tStart_T ld scale again made spent dv b K) : tStart_tree ld scale again made spent dv b K := by
  unfold tStart_T at h; obtain ⟨h0, h⟩ := h; unfold tStart_tree
  try simp only [Mo.tStart_v1] at h0 h
  try simp only [Mo.tStart_v2] at h0 h
  try simp only [Mo.tStart_v3] at h0 h
  try simp only [Mo.tStart_v4] at h0 h
  try simp only [Mo.tStart_pre] at h0 h
  repeat' (first | (refine ite_intro (fun c => ?_) (fun c => ?_) <;> first | simp only [if_pos c] at h0 h | simp only [if_neg c] at h0 h | skip) | with_reducible (replace h0 := (h0 : True ∧ _).2) | with_reducible (refine ⟨rfl, ?_⟩) | with_reducible (refine ⟨h0.1, ?_⟩; replace h0 := h0.2) | with_reducible (refine ⟨h0, ?_⟩) | (refine ⟨h0.1, ?_⟩; replace h0 := h0.2) | refine ⟨h0, ?_⟩ | refine ⟨rfl, ?_⟩ | refine ⟨trivial, ?_⟩ | refine ⟨by assumption, ?_⟩ | refine ⟨Eq.symm (by assumption), ?_⟩ | exact h | refine ⟨?_, ?_⟩ | exact h0.elim | trivial | contradiction | (simp only [if_true, if_false, Bool.false_eq_true] at h; exact h))
theorem tStart_sem (ld : Int) (scale : Int) (again : Bool) (made : Int) (spent : Int) (dv : Int) (b : Mo.Bd) (K : S → List Ob → Prop) (h : tStart_T ld scale again made spent dv b K) : CallSem noW Tryz.prog 30 [.ptr 0 (.l 0), .iv .u32 ld, .iv .u32 scale, .bv again] (h_T1n made spent dv b) K := iv_call (callX_ok tok (by kernel_rfl) ffTrGok stopTrG_ok _ _ _ _ (Eq.mpr (tStart_run ld scale again made spent dv b K) (tStart_all ld scale again made spent dv b K h)))
noncomputable def tStart_con : Con := ⟨[.ptr 0, .int .u32, .int .u32, .bool], t_T1n, [], fun a K => match a with | ⟨[ld, scale, made, spent, dv], [again], [], [cs_b_k, cs_b_w, cs_b_t, cs_b_r, cs_b_l, cs_b_c0, cs_b_c1], []⟩ => (match Mo.Cl.is cs_b_k with | true => (match Mo.Wd.is cs_b_w with | true => (match Mo.Rt.is cs_b_t with | true => (match Mo.Rs.is cs_b_r with | true => (match Mo.Ln.is cs_b_l with | true => (match Mo.Cnt.is cs_b_c0 with | true => (match Mo.Cnt.is cs_b_c1 with | true => tStart_T ld scale again made spent dv (Mo.Bd.mk (Mo.Cl.of cs_b_k) (Mo.Wd.of cs_b_w) (Mo.Rt.of cs_b_t) (Mo.Rs.of cs_b_r) (Mo.Ln.of cs_b_l) (Mo.Cnt.of cs_b_c0) (Mo.Cnt.of cs_b_c1)) K | false => False) | false => False) | false => False) | false => False) | false => False) | false => False) | false => False) | _ => False⟩
theorem tStart_ok : tStart_con.ok noW Tryz.prog 30 := by
  intro a K h
  simp only [tStart_con] at h
  split at h
  case h_2 => exact h.elim
  split at h
  case h_2 => exact h.elim
  rename_i is_b_k
  split at h
  case h_2 => exact h.elim
  rename_i is_b_w
  split at h
  case h_2 => exact h.elim
  rename_i is_b_t
  split at h
  case h_2 => exact h.elim
  rename_i is_b_r
  split at h
  case h_2 => exact h.elim
  rename_i is_b_l
  split at h
  case h_2 => exact h.elim
  rename_i is_b_c0
  split at h
  case h_2 => exact h.elim
  rename_i is_b_c1
  exact CallSem.objs (tStart_sem _ _ _ _ _ _ _ K h) (fun _ _ _ h => h) ⟨WkO.same, WkO.same, WkO.same, WkO.cells (Mo.Cl.is_ok is_b_k), WkO.same, WkO.cells (Mo.Wd.is_ok is_b_w), WkO.cells (Mo.Rt.is_ok is_b_t), WkO.cells (Mo.Rs.is_ok is_b_r), WkO.cells (Mo.Ln.is_ok is_b_l), WkO.same, WkO.same, WkO.same, WkO.cells (Mo.Cnt.is_ok is_b_c0), WkO.cells (Mo.Cnt.is_ok is_b_c1), trivial⟩
noncomputable def Mo.tStop_v1 (b : Mo.Bd) : Mo.Bd := (Mo.pStore12_v2 1 (Mo.pStore8_v2 0 b))
noncomputable def Mo.tStop_pre (spent : Int) (b : Mo.Bd) : Prop := ((Mo.pStore8_pre 0 spent b) ∧ (Mo.pStore12_pre 1 (Mo.pStore8_v1 spent) (Mo.pStore8_v2 0 b)))
noncomputable def tStop_tree (made : Int) (spent : Int) (dv : Int) (b : Mo.Bd) (K : S → List Ob → Prop) : Prop := (((2 : Int) = 2) ∧ (((1 : Int) = 1) ∧ (((0 : Int) = 0) ∧ (((2 : Int) = 2) ∧ (((1 : Int) = 1) ∧ (((0 : Int) = 0) ∧ ((Mo.pStore8_pre 0 spent b) ∧ (((2 : Int) = 2) ∧ (((1 : Int) = 1) ∧ (((0 : Int) = 0) ∧ (((2 : Int) = 2) ∧ (((1 : Int) = 1) ∧ (((0 : Int) = 0) ∧ (((2 : Int) = 2) ∧ (((1 : Int) = 1) ∧ (((0 : Int) = 0) ∧ ((Mo.pStore12_pre 1 (Mo.pStore8_v1 spent) (Mo.pStore8_v2 0 b)) ∧ K (.il .i64 0) (hm_TrH_1 (adi (adi made 1) 1) (Mo.pStore12_v1 (Mo.pStore8_v1 spent)) dv (Mo.pStore12_v2 1 (Mo.pStore8_v2 0 b))))))))))))))))))))
theorem tStop_run (made : Int) (spent : Int) (dv : Int) (b : Mo.Bd) (K : S → List Ob → Prop) : callX (std noW) tt ffTrG stopTrG (lpB noW Tryz.prog) noL 12 39 [.ptr 0 (.l 0)] (h_T1n made spent dv b) (gcK 14 (ivK false K)) = tStop_tree made spent dv b K := by kernel_rfl
noncomputable def tStop_T (made : Int) (spent : Int) (dv : Int) (b : Mo.Bd) (K : S → List Ob → Prop) : Prop := Mo.tStop_pre spent b ∧ K (.il .i64 0) (hm_TrH_1 (adi (adi made 1) 1) (Mo.pStore12_v1 (Mo.pStore8_v1 spent)) dv (Mo.tStop_v1 b))
theorem tStop_all (made : Int) (spent : Int) (dv : Int) (b : Mo.Bd) (K : S → List Ob → Prop) (h : tStop_T made spent dv b K) : tStop_tree made spent dv b K := by
  unfold tStop_T at h; obtain ⟨h0, h⟩ := h; unfold tStop_tree
  try simp only [Mo.tStop_v1] at h0 h
  try simp only [Mo.tStop_pre] at h0 h
  repeat' first | exact h | refine ⟨rfl, ?_⟩ | (refine ⟨h0.1, ?_⟩; replace h0 := h0.2) | refine ⟨h0, ?_⟩ | exact h0.elim | (refine ite_intro (fun c => ?_) fun c => ?_) <;> first | simp only [if_pos c] at h0 h | simp only [if_neg c] at h0 h | skip
theorem tStop_sem (made : Int) (spent : Int) (dv : Int) (b : Mo.Bd) (K : S → List Ob → Prop) (h : tStop_T made spent dv b K) : CallSem noW Tryz.prog 39 [.ptr 0 (.l 0)] (h_T1n made spent dv b) K := iv_call (callX_ok tok (by kernel_rfl) ffTrGok stopTrG_ok _ _ _ _ (Eq.mpr (tStop_run made spent dv b K) (tStop_all made spent dv b K h)))
noncomputable def tStop_con : Con := ⟨[.ptr 0], t_T1n, [], fun a K => match a with | ⟨[made, spent, dv], [], [], [cs_b_k, cs_b_w, cs_b_t, cs_b_r, cs_b_l, cs_b_c0, cs_b_c1], []⟩ => (match Mo.Cl.is cs_b_k with | true => (match Mo.Wd.is cs_b_w with | true => (match Mo.Rt.is cs_b_t with | true => (match Mo.Rs.is cs_b_r with | true => (match Mo.Ln.is cs_b_l with | true => (match Mo.Cnt.is cs_b_c0 with | true => (match Mo.Cnt.is cs_b_c1 with | true => tStop_T made spent dv (Mo.Bd.mk (Mo.Cl.of cs_b_k) (Mo.Wd.of cs_b_w) (Mo.Rt.of cs_b_t) (Mo.Rs.of cs_b_r) (Mo.Ln.of cs_b_l) (Mo.Cnt.of cs_b_c0) (Mo.Cnt.of cs_b_c1)) K | false => False) | false => False) | false => False) | false => False) | false => False) | false => False) | false => False) | _ => False⟩
theorem tStop_ok : tStop_con.ok noW Tryz.prog 39 := by
  intro a K h
  simp only [tStop_con] at h
  split at h
  case h_2 => exact h.elim
  split at h
  case h_2 => exact h.elim
  rename_i is_b_k
  split at h
  case h_2 => exact h.elim
  rename_i is_b_w
  split at h
  case h_2 => exact h.elim
  rename_i is_b_t
  split at h
  case h_2 => exact h.elim
  rename_i is_b_r
  split at h
  case h_2 => exact h.elim
  rename_i is_b_l
  split at h
  case h_2 => exact h.elim
  rename_i is_b_c0
  split at h
  case h_2 => exact h.elim
  rename_i is_b_c1
  exact CallSem.objs (tStop_sem _ _ _ _ K h) (fun _ _ _ h => h) ⟨WkO.same, WkO.same, WkO.same, WkO.cells (Mo.Cl.is_ok is_b_k), WkO.same, WkO.cells (Mo.Wd.is_ok is_b_w), WkO.cells (Mo.Rt.is_ok is_b_t), WkO.cells (Mo.Rs.is_ok is_b_r), WkO.cells (Mo.Ln.is_ok is_b_l), WkO.same, WkO.same, WkO.same, WkO.cells (Mo.Cnt.is_ok is_b_c0), WkO.cells (Mo.Cnt.is_ok is_b_c1), trivial⟩
noncomputable def Mo.tRuns_v1 (b : Mo.Bd) : Mo.Bd := (Mo.pLoad8_v2 b)
noncomputable def Mo.tRuns_pre (spent : Int) (b : Mo.Bd) : Prop := (Mo.pLoad8_pre spent b)
noncomputable def tRuns_tree (made : Int) (spent : Int) (dv : Int) (b : Mo.Bd) (K : S → List Ob → Prop) : Prop := (((2 : Int) = 2) ∧ (((1 : Int) = 1) ∧ (((0 : Int) = 0) ∧ ((Mo.pLoad8_pre spent b) ∧ K (.tup [(.bv (iE (anw (Mo.Cnt.ct (Mo.Bd.c1 (Mo.dTick_v1 0 b))) 1) 1)), (.il .i64 0)]) (hm_TrH_1 (adi made 1) (Mo.pLoad8_v1 spent) dv (Mo.pLoad8_v2 b))))))
theorem tRuns_run (made : Int) (spent : Int) (dv : Int) (b : Mo.Bd) (K : S → List Ob → Prop) : callX (std noW) tt ffTrG stopTrG (lpB noW Tryz.prog) noL 12 37 [.ptr 0 (.l 0)] (h_T1n made spent dv b) (gcK 14 (ivK false K)) = tRuns_tree made spent dv b K := by kernel_rfl
noncomputable def tRuns_T (made : Int) (spent : Int) (dv : Int) (b : Mo.Bd) (K : S → List Ob → Prop) : Prop := Mo.tRuns_pre spent b ∧ K (.tup [(.bv (iE (anw (Mo.Cnt.ct (Mo.Bd.c1 (Mo.dTick_v1 0 b))) 1) 1)), (.il .i64 0)]) (hm_TrH_1 (adi made 1) (Mo.pLoad8_v1 spent) dv (Mo.tRuns_v1 b))
theorem tRuns_all (made : Int) (spent : Int) (dv : Int) (b : Mo.Bd) (K : S → List Ob → Prop) (h : tRuns_T made spent dv b K) : tRuns_tree made spent dv b K := by
  unfold tRuns_T at h; obtain ⟨h0, h⟩ := h; unfold tRuns_tree
  try simp only [Mo.tRuns_v1] at h0 h
  try simp only [Mo.tRuns_pre] at h0 h
  repeat' first | exact h | refine ⟨rfl, ?_⟩ | (refine ⟨h0.1, ?_⟩; replace h0 := h0.2) | refine ⟨h0, ?_⟩ | exact h0.elim | (refine ite_intro (fun c => ?_) fun c => ?_) <;> first | simp only [if_pos c] at h0 h | simp only [if_neg c] at h0 h | skip
theorem tRuns_sem (made : Int) (spent : Int) (dv : Int) (b : Mo.Bd) (K : S → List Ob → Prop) (h : tRuns_T made spent dv b K) : CallSem noW Tryz.prog 37 [.ptr 0 (.l 0)] (h_T1n made spent dv b) K := iv_call (callX_ok tok (by kernel_rfl) ffTrGok stopTrG_ok _ _ _ _ (Eq.mpr (tRuns_run made spent dv b K) (tRuns_all made spent dv b K h)))
noncomputable def tRuns_con : Con := ⟨[.ptr 0], t_T1n, [], fun a K => match a with | ⟨[made, spent, dv], [], [], [cs_b_k, cs_b_w, cs_b_t, cs_b_r, cs_b_l, cs_b_c0, cs_b_c1], []⟩ => (match Mo.Cl.is cs_b_k with | true => (match Mo.Wd.is cs_b_w with | true => (match Mo.Rt.is cs_b_t with | true => (match Mo.Rs.is cs_b_r with | true => (match Mo.Ln.is cs_b_l with | true => (match Mo.Cnt.is cs_b_c0 with | true => (match Mo.Cnt.is cs_b_c1 with | true => tRuns_T made spent dv (Mo.Bd.mk (Mo.Cl.of cs_b_k) (Mo.Wd.of cs_b_w) (Mo.Rt.of cs_b_t) (Mo.Rs.of cs_b_r) (Mo.Ln.of cs_b_l) (Mo.Cnt.of cs_b_c0) (Mo.Cnt.of cs_b_c1)) K | false => False) | false => False) | false => False) | false => False) | false => False) | false => False) | false => False) | _ => False⟩
theorem tRuns_ok : tRuns_con.ok noW Tryz.prog 37 := by
  intro a K h
  simp only [tRuns_con] at h
  split at h
  case h_2 => exact h.elim
  split at h
  case h_2 => exact h.elim
  rename_i is_b_k
  split at h
  case h_2 => exact h.elim
  rename_i is_b_w
  split at h
  case h_2 => exact h.elim
  rename_i is_b_t
  split at h
  case h_2 => exact h.elim
  rename_i is_b_r
  split at h
  case h_2 => exact h.elim
  rename_i is_b_l
  split at h
  case h_2 => exact h.elim
  rename_i is_b_c0
  split at h
  case h_2 => exact h.elim
  rename_i is_b_c1
  exact CallSem.objs (tRuns_sem _ _ _ _ K h) (fun _ _ _ h => h) ⟨WkO.same, WkO.same, WkO.same, WkO.cells (Mo.Cl.is_ok is_b_k), WkO.same, WkO.cells (Mo.Wd.is_ok is_b_w), WkO.cells (Mo.Rt.is_ok is_b_t), WkO.cells (Mo.Rs.is_ok is_b_r), WkO.cells (Mo.Ln.is_ok is_b_l), WkO.same, WkO.same, WkO.same, WkO.cells (Mo.Cnt.is_ok is_b_c0), WkO.cells (Mo.Cnt.is_ok is_b_c1), trivial⟩
noncomputable def Mo.tTake_v1 (b : Mo.Bd) : Bool := (if ((iN (Mo.Cnt.st (Mo.Bd.c1 (Mo.dTick_v1 0 b))) 1) = true) then false else true)
noncomputable def Mo.tTake_v2 (made : Int) (b : Mo.Bd) : Int := (if ((iN (Mo.Cnt.st (Mo.Bd.c1 (Mo.dTick_v1 0 b))) 1) = true) then (adi made 1) else (adi (adi made 1) 1))
noncomputable def Mo.tTake_v3 (spent : Int) (b : Mo.Bd) : Int := (if ((iN (Mo.Cnt.st (Mo.Bd.c1 (Mo.dTick_v1 0 b))) 1) = true) then (Mo.pLoad12_v1 spent) else (Mo.pStore12_v1 (Mo.pLoad12_v1 spent)))
noncomputable def Mo.tTake_v4 (b : Mo.Bd) : Mo.Bd := (if ((iN (Mo.Cnt.st (Mo.Bd.c1 (Mo.dTick_v1 0 b))) 1) = true) then (Mo.pLoad12_v2 b) else (Mo.pStore12_v2 1 (Mo.pLoad12_v2 b)))
noncomputable def Mo.tTake_pre (spent : Int) (b : Mo.Bd) : Prop := ((Mo.pLoad12_pre spent b) ∧ (if ((iN (Mo.Cnt.st (Mo.Bd.c1 (Mo.dTick_v1 0 b))) 1) = true) then True else (Mo.pStore12_pre 1 (Mo.pLoad12_v1 spent) (Mo.pLoad12_v2 b))))
noncomputable def tTake_tree (made : Int) (spent : Int) (dv : Int) (b : Mo.Bd) (K : S → List Ob → Prop) : Prop := (((2 : Int) = 2) ∧ (((1 : Int) = 1) ∧ (((0 : Int) = 0) ∧ (((2 : Int) = 2) ∧ (((1 : Int) = 1) ∧ (((0 : Int) = 0) ∧ ((Mo.pLoad12_pre spent b) ∧ (if ((iN (Mo.Cnt.st (Mo.Bd.c1 (Mo.dTick_v1 0 b))) 1) = true) then K (.tup [(.bv false), (.iv .i64 0)]) (hm_TrH_1 (adi made 1) (Mo.pLoad12_v1 spent) dv (Mo.pLoad12_v2 b)) else (((2 : Int) = 2) ∧ (((1 : Int) = 1) ∧ (((0 : Int) = 0) ∧ (((2 : Int) = 2) ∧ (((1 : Int) = 1) ∧ (((0 : Int) = 0) ∧ (((2 : Int) = 2) ∧ (((1 : Int) = 1) ∧ (((0 : Int) = 0) ∧ ((Mo.pStore12_pre 1 (Mo.pLoad12_v1 spent) (Mo.pLoad12_v2 b)) ∧ K (.tup [(.bv true), (.iv .i64 0)]) (hm_TrH_1 (adi (adi made 1) 1) (Mo.pStore12_v1 (Mo.pLoad12_v1 spent)) dv (Mo.pStore12_v2 1 (Mo.pLoad12_v2 b)))))))))))))))))))))
theorem tTake_run (made : Int) (spent : Int) (dv : Int) (b : Mo.Bd) (K : S → List Ob → Prop) : callX (std noW) tt ffTrG stopTrG (lpB noW Tryz.prog) noL 12 36 [.ptr 0 (.l 0)] (h_T1n made spent dv b) (gcK 14 (ivK true K)) = tTake_tree made spent dv b K := by kernel_rfl
noncomputable def tTake_T (made : Int) (spent : Int) (dv : Int) (b : Mo.Bd) (K : S → List Ob → Prop) : Prop := Mo.tTake_pre spent b ∧ K (.tup [(.bv (Mo.tTake_v1 b)), (.iv .i64 0)]) (hm_TrH_1 (Mo.tTake_v2 made b) (Mo.tTake_v3 spent b) dv (Mo.tTake_v4 b))
theorem tTake_all (made : Int) (spent : Int) (dv : Int) (b : Mo.Bd) (K : S → List Ob → Prop) (h : tTake_T made spent dv b K) : tTake_tree made spent dv b K := by
  unfold tTake_T at h; obtain ⟨h0, h⟩ := h; unfold tTake_tree
  try simp only [Mo.tTake_v1] at h0 h
  try simp only [Mo.tTake_v2] at h0 h
  try simp only [Mo.tTake_v3] at h0 h
  try simp only [Mo.tTake_v4] at h0 h
  try simp only [Mo.tTake_pre] at h0 h
  repeat' first | exact h | refine ⟨rfl, ?_⟩ | (refine ⟨h0.1, ?_⟩; replace h0 := h0.2) | refine ⟨h0, ?_⟩ | exact h0.elim | (refine ite_intro (fun c => ?_) fun c => ?_) <;> first | simp only [if_pos c] at h0 h | simp only [if_neg c] at h0 h | skip
theorem tTake_sem (made : Int) (spent : Int) (dv : Int) (b : Mo.Bd) (K : S → List Ob → Prop) (h : tTake_T made spent dv b K) : CallSem noW Tryz.prog 36 [.ptr 0 (.l 0)] (h_T1n made spent dv b) K := iv_call (callX_ok tok (by kernel_rfl) ffTrGok stopTrG_ok _ _ _ _ (Eq.mpr (tTake_run made spent dv b K) (tTake_all made spent dv b K h)))
noncomputable def tTake_con : Con := ⟨[.ptr 0], t_T1n, [], fun a K => match a with | ⟨[made, spent, dv], [], [], [cs_b_k, cs_b_w, cs_b_t, cs_b_r, cs_b_l, cs_b_c0, cs_b_c1], []⟩ => (match Mo.Cl.is cs_b_k with | true => (match Mo.Wd.is cs_b_w with | true => (match Mo.Rt.is cs_b_t with | true => (match Mo.Rs.is cs_b_r with | true => (match Mo.Ln.is cs_b_l with | true => (match Mo.Cnt.is cs_b_c0 with | true => (match Mo.Cnt.is cs_b_c1 with | true => tTake_T made spent dv (Mo.Bd.mk (Mo.Cl.of cs_b_k) (Mo.Wd.of cs_b_w) (Mo.Rt.of cs_b_t) (Mo.Rs.of cs_b_r) (Mo.Ln.of cs_b_l) (Mo.Cnt.of cs_b_c0) (Mo.Cnt.of cs_b_c1)) K | false => False) | false => False) | false => False) | false => False) | false => False) | false => False) | false => False) | _ => False⟩
theorem tTake_ok : tTake_con.ok noW Tryz.prog 36 := by
  intro a K h
  simp only [tTake_con] at h
  split at h
  case h_2 => exact h.elim
  split at h
  case h_2 => exact h.elim
  rename_i is_b_k
  split at h
  case h_2 => exact h.elim
  rename_i is_b_w
  split at h
  case h_2 => exact h.elim
  rename_i is_b_t
  split at h
  case h_2 => exact h.elim
  rename_i is_b_r
  split at h
  case h_2 => exact h.elim
  rename_i is_b_l
  split at h
  case h_2 => exact h.elim
  rename_i is_b_c0
  split at h
  case h_2 => exact h.elim
  rename_i is_b_c1
  exact CallSem.objs (tTake_sem _ _ _ _ K h) (fun _ _ _ h => h) ⟨WkO.same, WkO.same, WkO.same, WkO.cells (Mo.Cl.is_ok is_b_k), WkO.same, WkO.cells (Mo.Wd.is_ok is_b_w), WkO.cells (Mo.Rt.is_ok is_b_t), WkO.cells (Mo.Rs.is_ok is_b_r), WkO.cells (Mo.Ln.is_ok is_b_l), WkO.same, WkO.same, WkO.same, WkO.cells (Mo.Cnt.is_ok is_b_c0), WkO.cells (Mo.Cnt.is_ok is_b_c1), trivial⟩
noncomputable def tPending_tree (made : Int) (spent : Int) (dv : Int) (b : Mo.Bd) (K : S → List Ob → Prop) : Prop := (((2 : Int) = 2) ∧ (((1 : Int) = 1) ∧ (True ∧ K (.bv (iE (srw (anw (Mo.Ln.high (Mo.Bd.l b)) 512) 9) 1)) (hm_TrH_1 made spent dv b))))
theorem tPending_run (made : Int) (spent : Int) (dv : Int) (b : Mo.Bd) (K : S → List Ob → Prop) : callX (std noW) tt ffTrG stopTrG (lpB noW Tryz.prog) noL 12 35 [.ptr 0 (.l 0)] (h_T1n made spent dv b) (gcK 14 (ivK false K)) = tPending_tree made spent dv b K := by kernel_rfl
noncomputable def tPending_T (made : Int) (spent : Int) (dv : Int) (b : Mo.Bd) (K : S → List Ob → Prop) : Prop := True ∧ K (.bv (iE (srw (anw (Mo.Ln.high (Mo.Bd.l b)) 512) 9) 1)) (hm_TrH_1 made spent dv b)
theorem tPending_all (made : Int) (spent : Int) (dv : Int) (b : Mo.Bd) (K : S → List Ob → Prop) (h : tPending_T made spent dv b K) : tPending_tree made spent dv b K := by
  unfold tPending_T at h; obtain ⟨h0, h⟩ := h; unfold tPending_tree
  repeat' first | exact h | refine ⟨rfl, ?_⟩ | (refine ⟨h0.1, ?_⟩; replace h0 := h0.2) | refine ⟨h0, ?_⟩ | exact h0.elim | (refine ite_intro (fun c => ?_) fun c => ?_) <;> first | simp only [if_pos c] at h0 h | simp only [if_neg c] at h0 h | skip
theorem tPending_sem (made : Int) (spent : Int) (dv : Int) (b : Mo.Bd) (K : S → List Ob → Prop) (h : tPending_T made spent dv b K) : CallSem noW Tryz.prog 35 [.ptr 0 (.l 0)] (h_T1n made spent dv b) K := iv_call (callX_ok tok (by kernel_rfl) ffTrGok stopTrG_ok _ _ _ _ (Eq.mpr (tPending_run made spent dv b K) (tPending_all made spent dv b K h)))
noncomputable def tPending_con : Con := ⟨[.ptr 0], t_T1n, [], fun a K => match a with | ⟨[made, spent, dv], [], [], [cs_b_k, cs_b_w, cs_b_t, cs_b_r, cs_b_l, cs_b_c0, cs_b_c1], []⟩ => (match Mo.Cl.is cs_b_k with | true => (match Mo.Wd.is cs_b_w with | true => (match Mo.Rt.is cs_b_t with | true => (match Mo.Rs.is cs_b_r with | true => (match Mo.Ln.is cs_b_l with | true => (match Mo.Cnt.is cs_b_c0 with | true => (match Mo.Cnt.is cs_b_c1 with | true => tPending_T made spent dv (Mo.Bd.mk (Mo.Cl.of cs_b_k) (Mo.Wd.of cs_b_w) (Mo.Rt.of cs_b_t) (Mo.Rs.of cs_b_r) (Mo.Ln.of cs_b_l) (Mo.Cnt.of cs_b_c0) (Mo.Cnt.of cs_b_c1)) K | false => False) | false => False) | false => False) | false => False) | false => False) | false => False) | false => False) | _ => False⟩
theorem tPending_ok : tPending_con.ok noW Tryz.prog 35 := by
  intro a K h
  simp only [tPending_con] at h
  split at h
  case h_2 => exact h.elim
  split at h
  case h_2 => exact h.elim
  rename_i is_b_k
  split at h
  case h_2 => exact h.elim
  rename_i is_b_w
  split at h
  case h_2 => exact h.elim
  rename_i is_b_t
  split at h
  case h_2 => exact h.elim
  rename_i is_b_r
  split at h
  case h_2 => exact h.elim
  rename_i is_b_l
  split at h
  case h_2 => exact h.elim
  rename_i is_b_c0
  split at h
  case h_2 => exact h.elim
  rename_i is_b_c1
  exact CallSem.objs (tPending_sem _ _ _ _ K h) (fun _ _ _ h => h) ⟨WkO.same, WkO.same, WkO.same, WkO.cells (Mo.Cl.is_ok is_b_k), WkO.same, WkO.cells (Mo.Wd.is_ok is_b_w), WkO.cells (Mo.Rt.is_ok is_b_t), WkO.cells (Mo.Rs.is_ok is_b_r), WkO.cells (Mo.Ln.is_ok is_b_l), WkO.same, WkO.same, WkO.same, WkO.cells (Mo.Cnt.is_ok is_b_c0), WkO.cells (Mo.Cnt.is_ok is_b_c1), trivial⟩
noncomputable def tPeriod_tree (ld : Int) (scale : Int) (K : S → List Ob → Prop) : Prop := K (.iv .u64 (mlq (cvq (maw ld 1) 0) (adq (cvq (srw (anw scale 255) 0) 0) 1))) []
theorem tPeriod_run (ld : Int) (scale : Int) (K : S → List Ob → Prop) : callX (std noW) tt ffTrG stopTrG (lpB noW Tryz.prog) noL 6 31 [.iv .u32 ld, .iv .u32 scale] [] (gcK 0 (ivK false K)) = tPeriod_tree ld scale K := by kernel_rfl
noncomputable def tPeriod_T (ld : Int) (scale : Int) (K : S → List Ob → Prop) : Prop := True ∧ K (.iv .u64 (mlq (cvq (maw ld 1) 0) (adq (cvq (srw (anw scale 255) 0) 0) 1))) []
theorem tPeriod_all (ld : Int) (scale : Int) (K : S → List Ob → Prop) (h : tPeriod_T ld scale K) : tPeriod_tree ld scale K := by
  unfold tPeriod_T at h; obtain ⟨h0, h⟩ := h; unfold tPeriod_tree
  repeat' first | exact h | (refine ite_intro (fun c => ?_) fun c => ?_) <;> first | simp only [if_pos c] at h0 h | simp only [if_neg c] at h0 h | skip
theorem tPeriod_sem (ld : Int) (scale : Int) (K : S → List Ob → Prop) (h : tPeriod_T ld scale K) : CallSem noW Tryz.prog 31 [.iv .u32 ld, .iv .u32 scale] [] K := iv_call (callX_ok tok (by kernel_rfl) ffTrGok stopTrG_ok _ _ _ _ (Eq.mpr (tPeriod_run ld scale K) (tPeriod_all ld scale K h)))
noncomputable def tPeriod_con : Con := ⟨[.int .u32, .int .u32], [], [], fun a K => match a with | ⟨[ld, scale], [], [], [], []⟩ => tPeriod_T ld scale K | _ => False⟩
theorem tPeriod_ok : tPeriod_con.ok noW Tryz.prog 31 := by
  intro a K h
  simp only [tPeriod_con] at h
  split at h
  case h_2 => exact h.elim
  exact tPeriod_sem _ _ K h
noncomputable def tabTrH (n : Nat) : List Con := match Nat.beq n 30 with | true => [tStart_con] | false => match Nat.beq n 39 with | true => [tStop_con] | false => match Nat.beq n 37 with | true => [tRuns_con] | false => match Nat.beq n 36 with | true => [tTake_con] | false => match Nat.beq n 35 with | true => [tPending_con] | false => match Nat.beq n 31 with | true => [tPeriod_con] | false => tabTrG n
theorem tabTrH_ok : ∀ f, ∀ c ∈ tabTrH f, c.ok noW Tryz.prog f := by
  intro f c hc
  unfold tabTrH at hc
  split at hc
  · rename_i hf; have := Nat.eq_of_beq_eq_true hf; subst this
    simp only [List.mem_cons, List.not_mem_nil, or_false] at hc
    subst hc; exact tStart_ok
  split at hc
  · rename_i hf; have := Nat.eq_of_beq_eq_true hf; subst this
    simp only [List.mem_cons, List.not_mem_nil, or_false] at hc
    subst hc; exact tStop_ok
  split at hc
  · rename_i hf; have := Nat.eq_of_beq_eq_true hf; subst this
    simp only [List.mem_cons, List.not_mem_nil, or_false] at hc
    subst hc; exact tRuns_ok
  split at hc
  · rename_i hf; have := Nat.eq_of_beq_eq_true hf; subst this
    simp only [List.mem_cons, List.not_mem_nil, or_false] at hc
    subst hc; exact tTake_ok
  split at hc
  · rename_i hf; have := Nat.eq_of_beq_eq_true hf; subst this
    simp only [List.mem_cons, List.not_mem_nil, or_false] at hc
    subst hc; exact tPending_ok
  split at hc
  · rename_i hf; have := Nat.eq_of_beq_eq_true hf; subst this
    simp only [List.mem_cons, List.not_mem_nil, or_false] at hc
    subst hc; exact tPeriod_ok
  exact tabTrG_ok f c hc
noncomputable def ffTrH (n : Nat) : Option FI := match Nat.beq n 30 with | true => none | false => match Nat.beq n 39 with | true => none | false => match Nat.beq n 37 with | true => none | false => match Nat.beq n 36 with | true => none | false => match Nat.beq n 35 with | true => none | false => match Nat.beq n 31 with | true => none | false => ffTrG n
theorem ffTrHok : FOk Tryz.prog ffTrH := fun f fi hf => by
  unfold ffTrH at hf
  split at hf
  · cases hf
  split at hf
  · cases hf
  split at hf
  · cases hf
  split at hf
  · cases hf
  split at hf
  · cases hf
  split at hf
  · cases hf
  exact ffTrGok f fi hf
noncomputable def stopTrH : CallT := stopC tabTrH stopB
theorem stopTrH_ok : ∀ f args h K, stopTrH f args h K → CallSem noW Tryz.prog f args h K := stopC_ok tabTrH_ok stopB_ok
end Go.SX.Y
