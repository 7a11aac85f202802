/- What Go functions come to (lifted). -/
import Derived.Test.YtbkegflipglioaaGreatFcF
set_option maxRecDepth 20000
namespace Go.SX.Y
open Go.Proofs Go.RowKit
noncomputable def h_PT (made : Int) (spent : Int) (seen : Int) (dv : Int) (b : Mo.Bd) (rs : List (List Int)) : List Ob := [.cells 135 [.iv .i64 made, .iv .u64 spent, .iv .i64 seen, .ptr 1 (.l 0), .raw (.slice none 0 0)], .cells 131 [.ptr 2 (.l 0), .ptr 3 (.l 0), .ptr 4 (.l 0), .ptr 5 (.l 0), .ptr 6 (.l 0), .ptr 7 (.l 0), .ptr 8 (.l 0), .iv .i64 1, .iv .i64 1, .iv .u32 dv, .nsl 9 (.v (lenR rs)) false false], .cells 183 (Mo.Cl.cells (Mo.Bd.k b)), .cells 188 [.sli 10 (.l 0) (.l 1) (.lit (.l 1)) false], .cells 194 (Mo.Wd.cells (Mo.Bd.w b)), .cells 190 (Mo.Rt.cells (Mo.Bd.t b)), .cells 200 (Mo.Rs.cells (Mo.Bd.r b)), .cells 204 (Mo.Ln.cells (Mo.Bd.l b)), .cells 227 [.mp 11], .nrow 73 [.i .u64, .i .i64] rs, .row 185 1 (.l 1) [.ptr 12 (.l 0)], .mapo [.agg [.il .u32 33554432, .il .u32 49152], .agg [.il .u32 268500992, .il .u32 256], .agg [.il .u32 268566528, .il .u32 20], .agg [.il .u32 268632064, .il .u32 16], .agg [.il .u32 268697600, .il .u32 36], .agg [.il .u32 268763136, .il .u32 12]] [.ifc 107 (.ptr 2 (.l 0)), .ifc 110 (.ptr 3 (.l 0)), .ifc 119 (.ptr 4 (.l 0)), .ifc 125 (.ptr 6 (.l 0)), .ifc 44 (.ptr 5 (.l 0)), .ifc 127 (.ptr 7 (.l 0))], .cells 246 (Mo.Cnt.cells (Mo.Bd.c b))]
def t_PT : List OTm := [.cells 135 [.int .i64, .int .u64, .int .i64, .ptr 1, .same (.raw (.slice none 0 0))], .cells 131 [.ptr 2, .ptr 3, .ptr 4, .ptr 5, .ptr 6, .ptr 7, .ptr 8, .eqI .i64 1, .eqI .i64 1, .int .u32, .nsl 9 0 false], .cellsV 183, .cells 188 [.same (.sli 10 (.l 0) (.l 1) (.lit (.l 1)) false)], .cellsV 194, .cellsV 190, .cellsV 200, .cellsV 204, .cells 227 [.mp 11], .nrow 73 [.i .u64, .i .i64], .row 185 1 1 [.ptr 12], .mapo [.agg [.same (.il .u32 33554432), .same (.il .u32 49152)], .agg [.same (.il .u32 268500992), .same (.il .u32 256)], .agg [.same (.il .u32 268566528), .same (.il .u32 20)], .agg [.same (.il .u32 268632064), .same (.il .u32 16)], .agg [.same (.il .u32 268697600), .same (.il .u32 36)], .agg [.same (.il .u32 268763136), .same (.il .u32 12)]] [.ifc 107 (.ptr 2), .ifc 110 (.ptr 3), .ifc 119 (.ptr 4), .ifc 125 (.ptr 6), .ifc 44 (.ptr 5), .ifc 127 (.ptr 7)], .cellsV 246]
noncomputable def Mo.pDown_pre (rs : List (List Int)) : Prop := (Mo.dResets_pre rs)
noncomputable def pDown_tree (made : Int) (spent : Int) (seen : Int) (dv : Int) (b : Mo.Bd) (rs : List (List Int)) (K : S → List Ob → Prop) : Prop := (((lenR rs) = (lenR rs)) ∧ (((1 : Int) = 1) ∧ (((1 : Int) = 1) ∧ ((Mo.dResets_pre rs) ∧ (((some (S.iv IntKind.i64 seen)) = (some (S.iv IntKind.i64 seen))) ∧ K (.bv (iN (castI (lenR (Mo.dResets_v1 rs))) seen)) (h_PT made spent seen dv b rs))))))
theorem pDown_run (made : Int) (spent : Int) (seen : Int) (dv : Int) (b : Mo.Bd) (rs : List (List Int)) (K : S → List Ob → Prop) : callX (std noW) tt ffFcF stopFcF (lpB noW Tryz.prog) noL 8 47 [.ptr 0 (.l 0)] (h_PT made spent seen dv b rs) (gcK 13 (ivK false K)) = pDown_tree made spent seen dv b rs K := by kernel_rfl
noncomputable def pDown_T (made : Int) (spent : Int) (seen : Int) (dv : Int) (b : Mo.Bd) (rs : List (List Int)) (K : S → List Ob → Prop) : Prop := Mo.pDown_pre rs ∧ K (.bv (iN (castI (lenR (Mo.dResets_v1 rs))) seen)) (h_PT made spent seen dv b rs)
theorem pDown_all (made : Int) (spent : Int) (seen : Int) (dv : Int) (b : Mo.Bd) (rs : List (List Int)) (K : S → List Ob → Prop) (h : pDown_T made spent seen dv b rs K) : pDown_tree made spent seen dv b rs K := by
  unfold pDown_T at h; obtain ⟨h0, h⟩ := h; unfold pDown_tree
  try simp only [Mo.pDown_pre] at h0 h
  repeat' first | exact h | refine ⟨rfl, ?_⟩ | (refine ⟨h0.1, ?_⟩; replace h0 := h0.2) | refine ⟨h0, ?_⟩ | exact h0.elim | (refine ite_intro (fun c => ?_) fun c => ?_) <;> first | simp only [if_pos c] at h0 h | simp only [if_neg c] at h0 h | skip
theorem pDown_sem (made : Int) (spent : Int) (seen : Int) (dv : Int) (b : Mo.Bd) (rs : List (List Int)) (K : S → List Ob → Prop) (h : pDown_T made spent seen dv b rs K) : CallSem noW Tryz.prog 47 [.ptr 0 (.l 0)] (h_PT made spent seen dv b rs) K := iv_call (callX_ok tok (by kernel_rfl) ffFcFok stopFcF_ok _ _ _ _ (Eq.mpr (pDown_run made spent seen dv b rs K) (pDown_all made spent seen dv b rs K h)))
noncomputable def pDown_con : Con := ⟨[.ptr 0], t_PT, [], fun a K => match a with | ⟨[made, spent, seen, dv], [], [], [cs_b_k, cs_b_w, cs_b_t, cs_b_r, cs_b_l, cs_b_c], [rs]⟩ => (match Mo.Cl.is cs_b_k with | true => (match Mo.Wd.is cs_b_w with | true => (match Mo.Rt.is cs_b_t with | true => (match Mo.Rs.is cs_b_r with | true => (match Mo.Ln.is cs_b_l with | true => (match Mo.Cnt.is cs_b_c with | true => pDown_T made spent seen dv (Mo.Bd.mk (Mo.Cl.of cs_b_k) (Mo.Wd.of cs_b_w) (Mo.Rt.of cs_b_t) (Mo.Rs.of cs_b_r) (Mo.Ln.of cs_b_l) (Mo.Cnt.of cs_b_c)) rs K | false => False) | false => False) | false => False) | false => False) | false => False) | false => False) | _ => False⟩
theorem pDown_ok : pDown_con.ok noW Tryz.prog 47 := by
  intro a K h
  simp only [pDown_con] at h
  split at h
  case h_2 => exact h.elim
  split at h
  case h_2 => exact h.elim
  rename_i is_b_k
  split at h
  case h_2 => exact h.elim
  rename_i is_b_w
  split at h
  case h_2 => exact h.elim
  rename_i is_b_t
  split at h
  case h_2 => exact h.elim
  rename_i is_b_r
  split at h
  case h_2 => exact h.elim
  rename_i is_b_l
  split at h
  case h_2 => exact h.elim
  rename_i is_b_c
  exact CallSem.objs (pDown_sem _ _ _ _ _ _ K h) (fun _ _ _ h => h) ⟨WkO.same, WkO.same, WkO.cells (Mo.Cl.is_ok is_b_k), WkO.same, WkO.cells (Mo.Wd.is_ok is_b_w), WkO.cells (Mo.Rt.is_ok is_b_t), WkO.cells (Mo.Rs.is_ok is_b_r), WkO.cells (Mo.Ln.is_ok is_b_l), WkO.same, WkO.same, WkO.same, WkO.same, WkO.cells (Mo.Cnt.is_ok is_b_c), trivial⟩
noncomputable def hm_FcG_1 (x1 : Int) (x2 : Int) (x3 : Int) (x4 : Int) (x5 : List (List Int)) (x6 : Mo.Bd) : List Ob := [(.cells 135 [(.iv .i64 x1), (.iv .u64 x2), (.iv .i64 x3), (.ptr 1 (.l 0)), (.raw (.slice none 0 0))]), (.cells 131 [(.ptr 2 (.l 0)), (.ptr 3 (.l 0)), (.ptr 4 (.l 0)), (.ptr 5 (.l 0)), (.ptr 6 (.l 0)), (.ptr 7 (.l 0)), (.ptr 8 (.l 0)), (.iv .i64 1), (.iv .i64 1), (.iv .u32 x4), (.nsl 13 (.v (lenR x5)) false false)]), (.cells 183 (Mo.Cl.cells (Mo.Bd.k x6))), (.cells 188 [(.sli 10 (.l 0) (.l 1) (.lit (.l 1)) false)]), (.cells 194 (Mo.Wd.cells (Mo.Bd.w x6))), (.cells 190 (Mo.Rt.cells (Mo.Bd.t x6))), (.cells 200 (Mo.Rs.cells (Mo.Bd.r x6))), (.cells 204 (Mo.Ln.cells (Mo.Bd.l x6))), (.cells 227 [(.mp 11)]), .dead, (.row 185 1 (.l 1) [(.ptr 12 (.l 0))]), (.mapo [(.agg [(.il .u32 33554432), (.il .u32 49152)]), (.agg [(.il .u32 268500992), (.il .u32 256)]), (.agg [(.il .u32 268566528), (.il .u32 20)]), (.agg [(.il .u32 268632064), (.il .u32 16)]), (.agg [(.il .u32 268697600), (.il .u32 36)]), (.agg [(.il .u32 268763136), (.il .u32 12)])] [(.ifc 107 (.ptr 2 (.l 0))), (.ifc 110 (.ptr 3 (.l 0))), (.ifc 119 (.ptr 4 (.l 0))), (.ifc 125 (.ptr 6 (.l 0))), (.ifc 44 (.ptr 5 (.l 0))), (.ifc 127 (.ptr 7 (.l 0)))]), (.cells 246 (Mo.Cnt.cells (Mo.Bd.c x6))), (.nrow 73 [.i .u64, .i .i64] x5)]
noncomputable def hm_FcG_2 (x1 : Int) (x2 : Int) (x3 : Int) (x4 : List (List Int)) (x5 : Mo.Bd) : List Ob := [(.cells 135 [(.iv .i64 x1), (.iv .u64 18446744073709551615), (.iv .i64 x2), (.ptr 1 (.l 0)), (.raw (.slice none 0 0))]), (.cells 131 [(.ptr 2 (.l 0)), (.ptr 3 (.l 0)), (.ptr 4 (.l 0)), (.ptr 5 (.l 0)), (.ptr 6 (.l 0)), (.ptr 7 (.l 0)), (.ptr 8 (.l 0)), (.iv .i64 1), (.iv .i64 1), (.iv .u32 x3), (.nsl 13 (.v (lenR x4)) false false)]), (.cells 183 (Mo.Cl.cells (Mo.Bd.k x5))), (.cells 188 [(.sli 10 (.l 0) (.l 1) (.lit (.l 1)) false)]), (.cells 194 (Mo.Wd.cells (Mo.Bd.w x5))), (.cells 190 (Mo.Rt.cells (Mo.Bd.t x5))), (.cells 200 (Mo.Rs.cells (Mo.Bd.r x5))), (.cells 204 (Mo.Ln.cells (Mo.Bd.l x5))), (.cells 227 [(.mp 11)]), .dead, (.row 185 1 (.l 1) [(.ptr 12 (.l 0))]), (.mapo [(.agg [(.il .u32 33554432), (.il .u32 49152)]), (.agg [(.il .u32 268500992), (.il .u32 256)]), (.agg [(.il .u32 268566528), (.il .u32 20)]), (.agg [(.il .u32 268632064), (.il .u32 16)]), (.agg [(.il .u32 268697600), (.il .u32 36)]), (.agg [(.il .u32 268763136), (.il .u32 12)])] [(.ifc 107 (.ptr 2 (.l 0))), (.ifc 110 (.ptr 3 (.l 0))), (.ifc 119 (.ptr 4 (.l 0))), (.ifc 125 (.ptr 6 (.l 0))), (.ifc 44 (.ptr 5 (.l 0))), (.ifc 127 (.ptr 7 (.l 0)))]), (.cells 246 (Mo.Cnt.cells (Mo.Bd.c x5))), (.nrow 73 [.i .u64, .i .i64] x4)]
noncomputable def Mo.pgap_v1 (spent : Int) : Int := (if ((iE ((spent + 0) / 18446744073709551616) 0) = true) then ((spent + 0) % 18446744073709551616) else 18446744073709551615)
noncomputable def Mo.pgap_v2 (b : Mo.Bd) : Mo.Bd := (Mo.dTick_v2 0 b)
noncomputable def Mo.pgap_pre (spent : Int) (b : Mo.Bd) (rs : List (List Int)) : Prop := ((((0 : Int) ≤ spent) ∧ ((0 : Int) ≤ 0)) ∧ (Mo.dTick_pre 0 b rs))
noncomputable def pgap_tree (made : Int) (spent : Int) (seen : Int) (dv : Int) (b : Mo.Bd) (rs : List (List Int)) (K : S → List Ob → Prop) : Prop := ((((0 : Int) ≤ spent) ∧ ((0 : Int) ≤ 0)) ∧ (((0 : Int) = 0) ∧ (if ((iE ((spent + 0) / 18446744073709551616) 0) = true) then (((lenR rs) = (lenR rs)) ∧ (((1 : Int) = 1) ∧ (((1 : Int) = 1) ∧ ((Mo.dTick_pre 0 b rs) ∧ K (.tup []) (hm_FcG_1 (adi made 1) ((spent + 0) % 18446744073709551616) seen dv (Mo.dTick_v1 0 b rs) (Mo.dTick_v2 0 b)))))) else (((lenR rs) = (lenR rs)) ∧ (((1 : Int) = 1) ∧ (((1 : Int) = 1) ∧ ((Mo.dTick_pre 0 b rs) ∧ K (.tup []) (hm_FcG_2 (adi made 1) seen dv (Mo.dTick_v1 0 b rs) (Mo.dTick_v2 0 b)))))))))
theorem pgap_run (made : Int) (spent : Int) (seen : Int) (dv : Int) (b : Mo.Bd) (rs : List (List Int)) (K : S → List Ob → Prop) : callX (std noW) tt ffFcF stopFcF (lpB noW Tryz.prog) noL 8 138 [.ptr 0 (.l 0)] (h_PT made spent seen dv b rs) (gcK 13 (nilK none (mvsK [9] (optK [] (ivK false K))))) = pgap_tree made spent seen dv b rs K := by kernel_rfl
noncomputable def pgap_T (made : Int) (spent : Int) (seen : Int) (dv : Int) (b : Mo.Bd) (rs : List (List Int)) (K : S → List Ob → Prop) : Prop := Mo.pgap_pre spent b rs ∧ K (.tup []) (hm_FcG_1 (adi made 1) (Mo.pgap_v1 spent) seen dv (Mo.dTick_v1 0 b rs) (Mo.pgap_v2 b))
theorem pgap_all (made : Int) (spent : Int) (seen : Int) (dv : Int) (b : Mo.Bd) (rs : List (List Int)) (K : S → List Ob → Prop) (h : pgap_T made spent seen dv b rs K) : pgap_tree made spent seen dv b rs K := by
  unfold pgap_T at h; obtain ⟨h0, h⟩ := h; unfold pgap_tree
  try simp only [Mo.pgap_v1] at h0 h
  try simp only [Mo.pgap_v2] at h0 h
  try simp only [Mo.pgap_pre] at h0 h
  repeat' first | exact h | refine ⟨rfl, ?_⟩ | (refine ⟨h0.1, ?_⟩; replace h0 := h0.2) | refine ⟨h0, ?_⟩ | exact h0.elim | (refine ite_intro (fun c => ?_) fun c => ?_) <;> first | simp only [if_pos c] at h0 h | simp only [if_neg c] at h0 h | skip
theorem pgap_sem (made : Int) (spent : Int) (seen : Int) (dv : Int) (b : Mo.Bd) (rs : List (List Int)) (K : S → List Ob → Prop) (h : pgap_T made spent seen dv b rs K) : CallSem noW Tryz.prog 138 [.ptr 0 (.l 0)] (h_PT made spent seen dv b rs) K := all_call (callX_ok tok (by kernel_rfl) ffFcFok stopFcF_ok _ _ _ _ (Eq.mpr (pgap_run made spent seen dv b rs K) (pgap_all made spent seen dv b rs K h)))
noncomputable def pgap_con : Con := ⟨[.ptr 0], t_PT, [], fun a K => match a with | ⟨[made, spent, seen, dv], [], [], [cs_b_k, cs_b_w, cs_b_t, cs_b_r, cs_b_l, cs_b_c], [rs]⟩ => (match Mo.Cl.is cs_b_k with | true => (match Mo.Wd.is cs_b_w with | true => (match Mo.Rt.is cs_b_t with | true => (match Mo.Rs.is cs_b_r with | true => (match Mo.Ln.is cs_b_l with | true => (match Mo.Cnt.is cs_b_c with | true => pgap_T made spent seen dv (Mo.Bd.mk (Mo.Cl.of cs_b_k) (Mo.Wd.of cs_b_w) (Mo.Rt.of cs_b_t) (Mo.Rs.of cs_b_r) (Mo.Ln.of cs_b_l) (Mo.Cnt.of cs_b_c)) rs K | false => False) | false => False) | false => False) | false => False) | false => False) | false => False) | _ => False⟩
theorem pgap_ok : pgap_con.ok noW Tryz.prog 138 := by
  intro a K h
  simp only [pgap_con] at h
  split at h
  case h_2 => exact h.elim
  split at h
  case h_2 => exact h.elim
  rename_i is_b_k
  split at h
  case h_2 => exact h.elim
  rename_i is_b_w
  split at h
  case h_2 => exact h.elim
  rename_i is_b_t
  split at h
  case h_2 => exact h.elim
  rename_i is_b_r
  split at h
  case h_2 => exact h.elim
  rename_i is_b_l
  split at h
  case h_2 => exact h.elim
  rename_i is_b_c
  exact CallSem.objs (pgap_sem _ _ _ _ _ _ K h) (fun _ _ _ h => h) ⟨WkO.same, WkO.same, WkO.cells (Mo.Cl.is_ok is_b_k), WkO.same, WkO.cells (Mo.Wd.is_ok is_b_w), WkO.cells (Mo.Rt.is_ok is_b_t), WkO.cells (Mo.Rs.is_ok is_b_r), WkO.cells (Mo.Ln.is_ok is_b_l), WkO.same, WkO.same, WkO.same, WkO.same, WkO.cells (Mo.Cnt.is_ok is_b_c), trivial⟩
noncomputable def tabFcG (n : Nat) : List Con := match Nat.beq n 47 with | true => [pDown_con] | false => match Nat.beq n 138 with | true => [pgap_con] | false => tabFcF n
theorem tabFcG_ok : ∀ f, ∀ c ∈ tabFcG f, c.ok noW Tryz.prog f := by
  intro f c hc
  unfold tabFcG at hc
  split at hc
  · rename_i hf; have := Nat.eq_of_beq_eq_true hf; subst this
    simp only [List.mem_cons, List.not_mem_nil, or_false] at hc
    subst hc; exact pDown_ok
  split at hc
  · rename_i hf; have := Nat.eq_of_beq_eq_true hf; subst this
    simp only [List.mem_cons, List.not_mem_nil, or_false] at hc
    subst hc; exact pgap_ok
  exact tabFcF_ok f c hc
noncomputable def ffFcG (n : Nat) : Option FI := match Nat.beq n 47 with | true => none | false => match Nat.beq n 138 with | true => none | false => ffFcF n
theorem ffFcGok : FOk Tryz.prog ffFcG := fun f fi hf => by
  unfold ffFcG at hf
  split at hf
  · cases hf
  split at hf
  · cases hf
  exact ffFcFok f fi hf
noncomputable def stopFcG : CallT := stopC tabFcG stopB
theorem stopFcG_ok : ∀ f args h K, stopFcG f args h K → CallSem noW Tryz.prog f args h K := stopC_ok tabFcG_ok stopB_ok
end Go.SX.Y
