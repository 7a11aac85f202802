/- What Go functions come to (lifted). -/
import Derived.Test.YtbkegflipglioaaGreatAsD
set_option maxRecDepth 20000
namespace Go.SX.Y
open Go.Proofs Go.RowKit
noncomputable def Mo.dSettle_v1 (b : Mo.Bd) : Mo.Bd := (Mo.dWire_v1 b)
noncomputable def Mo.dSettle_pre (b : Mo.Bd) : Prop := (if ((iN (Mo.Wd.fault (Mo.Bd.w b)) 0) = true) then False else (if ((Mo.rAsked_v1 (Mo.Bd.r b)) = true) then False else (Mo.dWire_pre b)))
noncomputable def dSettle_tree (dv : Int) (b : Mo.Bd) (K : S → List Ob → Prop) : Prop := (True ∧ (if ((iN (Mo.Wd.fault (Mo.Bd.w b)) 0) = true) then False else (True ∧ (if ((Mo.rAsked_v1 (Mo.Bd.r b)) = true) then False else (((1 : Int) = 1) ∧ (((1 : Int) = 1) ∧ ((Mo.dWire_pre b) ∧ K (.tup []) [(.cells 131 [(.ptr 1 (.l 0)), (.ptr 2 (.l 0)), (.ptr 3 (.l 0)), (.ptr 4 (.l 0)), (.ptr 5 (.l 0)), (.ptr 6 (.l 0)), (.ptr 7 (.l 0)), (.iv .i64 1), (.iv .i64 1), (.iv .u32 dv), (.raw (.slice none 0 0))]), (.cells 183 (Mo.Cl.cells (Mo.Bd.k (Mo.dWire_v1 b)))), (.cells 188 [(.sli 8 (.l 0) (.l 1) (.lit (.l 1)) false)]), (.cells 194 (Mo.Wd.cells (Mo.Bd.w (Mo.dWire_v1 b)))), (.cells 190 (Mo.Rt.cells (Mo.Bd.t (Mo.dWire_v1 b)))), (.cells 200 (Mo.Rs.cells (Mo.Bd.r (Mo.dWire_v1 b)))), (.cells 204 (Mo.Ln.cells (Mo.Bd.l (Mo.dWire_v1 b)))), (.cells 227 [(.mp 9)]), (.row 185 1 (.l 1) [(.ptr 10 (.l 0))]), (.mapo [(.agg [(.il .u32 33554432), (.il .u32 49152)]), (.agg [(.il .u32 268500992), (.il .u32 256)]), (.agg [(.il .u32 268566528), (.il .u32 20)]), (.agg [(.il .u32 268632064), (.il .u32 16)]), (.agg [(.il .u32 268697600), (.il .u32 36)]), (.agg [(.il .u32 268763136), (.il .u32 12)])] [(.ifc 107 (.ptr 1 (.l 0))), (.ifc 110 (.ptr 2 (.l 0))), (.ifc 119 (.ptr 3 (.l 0))), (.ifc 125 (.ptr 5 (.l 0))), (.ifc 44 (.ptr 4 (.l 0))), (.ifc 127 (.ptr 6 (.l 0)))]), (.cells 246 (Mo.Cnt.cells (Mo.Bd.c (Mo.dWire_v1 b))))])))))))
theorem dSettle_run (dv : Int) (b : Mo.Bd) (K : S → List Ob → Prop) : callL (std noW) tt ffAsD stopAsD noL 1 82 [.ptr 0 (.l 0)] [.cells 131 [.ptr 1 (.l 0), .ptr 2 (.l 0), .ptr 3 (.l 0), .ptr 4 (.l 0), .ptr 5 (.l 0), .ptr 6 (.l 0), .ptr 7 (.l 0), .il .i64 1, .il .i64 1, .iv .u32 dv, .raw (.slice none 0 0)], .cells 183 (Mo.Cl.cells (Mo.Bd.k b)), .cells 188 [.sli 8 (.l 0) (.l 1) (.lit (.l 1)) false], .cells 194 (Mo.Wd.cells (Mo.Bd.w b)), .cells 190 (Mo.Rt.cells (Mo.Bd.t b)), .cells 200 (Mo.Rs.cells (Mo.Bd.r b)), .cells 204 (Mo.Ln.cells (Mo.Bd.l b)), .cells 227 [.mp 9], .row 185 1 (.l 1) [.ptr 10 (.l 0)], .mapo [.agg [.il .u32 33554432, .il .u32 49152], .agg [.il .u32 268500992, .il .u32 256], .agg [.il .u32 268566528, .il .u32 20], .agg [.il .u32 268632064, .il .u32 16], .agg [.il .u32 268697600, .il .u32 36], .agg [.il .u32 268763136, .il .u32 12]] [.ifc 107 (.ptr 1 (.l 0)), .ifc 110 (.ptr 2 (.l 0)), .ifc 119 (.ptr 3 (.l 0)), .ifc 125 (.ptr 5 (.l 0)), .ifc 44 (.ptr 4 (.l 0)), .ifc 127 (.ptr 6 (.l 0))], .cells 246 (Mo.Cnt.cells (Mo.Bd.c b))] (gcK 11 (ivK false K)) = dSettle_tree dv b K := by kernel_rfl
noncomputable def dSettle_T (dv : Int) (b : Mo.Bd) (K : S → List Ob → Prop) : Prop := Mo.dSettle_pre b ∧ K (.tup []) [(.cells 131 [(.ptr 1 (.l 0)), (.ptr 2 (.l 0)), (.ptr 3 (.l 0)), (.ptr 4 (.l 0)), (.ptr 5 (.l 0)), (.ptr 6 (.l 0)), (.ptr 7 (.l 0)), (.iv .i64 1), (.iv .i64 1), (.iv .u32 dv), (.raw (.slice none 0 0))]), (.cells 183 (Mo.Cl.cells (Mo.Bd.k (Mo.dSettle_v1 b)))), (.cells 188 [(.sli 8 (.l 0) (.l 1) (.lit (.l 1)) false)]), (.cells 194 (Mo.Wd.cells (Mo.Bd.w (Mo.dSettle_v1 b)))), (.cells 190 (Mo.Rt.cells (Mo.Bd.t (Mo.dSettle_v1 b)))), (.cells 200 (Mo.Rs.cells (Mo.Bd.r (Mo.dSettle_v1 b)))), (.cells 204 (Mo.Ln.cells (Mo.Bd.l (Mo.dSettle_v1 b)))), (.cells 227 [(.mp 9)]), (.row 185 1 (.l 1) [(.ptr 10 (.l 0))]), (.mapo [(.agg [(.il .u32 33554432), (.il .u32 49152)]), (.agg [(.il .u32 268500992), (.il .u32 256)]), (.agg [(.il .u32 268566528), (.il .u32 20)]), (.agg [(.il .u32 268632064), (.il .u32 16)]), (.agg [(.il .u32 268697600), (.il .u32 36)]), (.agg [(.il .u32 268763136), (.il .u32 12)])] [(.ifc 107 (.ptr 1 (.l 0))), (.ifc 110 (.ptr 2 (.l 0))), (.ifc 119 (.ptr 3 (.l 0))), (.ifc 125 (.ptr 5 (.l 0))), (.ifc 44 (.ptr 4 (.l 0))), (.ifc 127 (.ptr 6 (.l 0)))]), (.cells 246 (Mo.Cnt.cells (Mo.Bd.c (Mo.dSettle_v1 b))))]
theorem dSettle_all (dv : Int) (b : Mo.Bd) (K : S → List Ob → Prop) (h : dSettle_T dv b K) : dSettle_tree dv b K := by
  unfold dSettle_T at h; obtain ⟨h0, h⟩ := h; unfold dSettle_tree
  try simp only [Mo.dSettle_v1] at h0 h
  try simp only [Mo.dSettle_pre] at h0 h
  refine ⟨?_, ?_⟩
  trivial
  refine ite_intro (fun c0 => ?_) (fun c0 => ?_)
  exact False.elim (by first | contradiction | (simp only [if_pos c0] at h0))
  try simp only [if_neg c0] at h0 h
  refine ⟨?_, ?_⟩
  trivial
  refine ite_intro (fun c1 => ?_) (fun c1 => ?_)
  exact False.elim (by first | contradiction | (simp only [if_pos c1] at h0))
  try simp only [if_neg c1] at h0 h
  refine ⟨rfl, ?_⟩
  refine ⟨rfl, ?_⟩
  refine ⟨h0, ?_⟩
  first | exact h | contradiction | (simp only [if_true, if_false, Bool.false_eq_true] at h; exact h)
theorem dSettle_sem (dv : Int) (b : Mo.Bd) (K : S → List Ob → Prop) (h : dSettle_T dv b K) : CallSem noW Tryz.prog 82 [.ptr 0 (.l 0)] [.cells 131 [.ptr 1 (.l 0), .ptr 2 (.l 0), .ptr 3 (.l 0), .ptr 4 (.l 0), .ptr 5 (.l 0), .ptr 6 (.l 0), .ptr 7 (.l 0), .il .i64 1, .il .i64 1, .iv .u32 dv, .raw (.slice none 0 0)], .cells 183 (Mo.Cl.cells (Mo.Bd.k b)), .cells 188 [.sli 8 (.l 0) (.l 1) (.lit (.l 1)) false], .cells 194 (Mo.Wd.cells (Mo.Bd.w b)), .cells 190 (Mo.Rt.cells (Mo.Bd.t b)), .cells 200 (Mo.Rs.cells (Mo.Bd.r b)), .cells 204 (Mo.Ln.cells (Mo.Bd.l b)), .cells 227 [.mp 9], .row 185 1 (.l 1) [.ptr 10 (.l 0)], .mapo [.agg [.il .u32 33554432, .il .u32 49152], .agg [.il .u32 268500992, .il .u32 256], .agg [.il .u32 268566528, .il .u32 20], .agg [.il .u32 268632064, .il .u32 16], .agg [.il .u32 268697600, .il .u32 36], .agg [.il .u32 268763136, .il .u32 12]] [.ifc 107 (.ptr 1 (.l 0)), .ifc 110 (.ptr 2 (.l 0)), .ifc 119 (.ptr 3 (.l 0)), .ifc 125 (.ptr 5 (.l 0)), .ifc 44 (.ptr 4 (.l 0)), .ifc 127 (.ptr 6 (.l 0))], .cells 246 (Mo.Cnt.cells (Mo.Bd.c b))] K := iv_call (callL_ok tok (by kernel_rfl) ffAsDok stopAsD_ok _ _ _ _ (Eq.mpr (dSettle_run dv b K) (dSettle_all dv b K h)))
noncomputable def dSettle_con : Con := ⟨[.ptr 0], [.cells 131 [.ptr 1, .ptr 2, .ptr 3, .ptr 4, .ptr 5, .ptr 6, .ptr 7, .eqI .i64 1, .eqI .i64 1, .int .u32, .same (.raw (.slice none 0 0))], .cellsV 183, .cells 188 [.same (.sli 8 (.l 0) (.l 1) (.lit (.l 1)) false)], .cellsV 194, .cellsV 190, .cellsV 200, .cellsV 204, .cells 227 [.mp 9], .row 185 1 1 [.ptr 10], .mapo [.agg [.same (.il .u32 33554432), .same (.il .u32 49152)], .agg [.same (.il .u32 268500992), .same (.il .u32 256)], .agg [.same (.il .u32 268566528), .same (.il .u32 20)], .agg [.same (.il .u32 268632064), .same (.il .u32 16)], .agg [.same (.il .u32 268697600), .same (.il .u32 36)], .agg [.same (.il .u32 268763136), .same (.il .u32 12)]] [.ifc 107 (.ptr 1), .ifc 110 (.ptr 2), .ifc 119 (.ptr 3), .ifc 125 (.ptr 5), .ifc 44 (.ptr 4), .ifc 127 (.ptr 6)], .cellsV 246], fun a K => match a with | ⟨[dv], [], [], [cs_b_k, cs_b_w, cs_b_t, cs_b_r, cs_b_l, cs_b_c]⟩ => (match Mo.Cl.is cs_b_k with | true => (match Mo.Wd.is cs_b_w with | true => (match Mo.Rt.is cs_b_t with | true => (match Mo.Rs.is cs_b_r with | true => (match Mo.Ln.is cs_b_l with | true => (match Mo.Cnt.is cs_b_c with | true => dSettle_T dv (Mo.Bd.mk (Mo.Cl.of cs_b_k) (Mo.Wd.of cs_b_w) (Mo.Rt.of cs_b_t) (Mo.Rs.of cs_b_r) (Mo.Ln.of cs_b_l) (Mo.Cnt.of cs_b_c)) K | false => False) | false => False) | false => False) | false => False) | false => False) | false => False) | _ => False⟩
theorem dSettle_ok : dSettle_con.ok noW Tryz.prog 82 := by
  intro a K h
  simp only [dSettle_con] at h
  split at h
  case h_2 => exact h.elim
  split at h
  case h_2 => exact h.elim
  rename_i is_b_k
  split at h
  case h_2 => exact h.elim
  rename_i is_b_w
  split at h
  case h_2 => exact h.elim
  rename_i is_b_t
  split at h
  case h_2 => exact h.elim
  rename_i is_b_r
  split at h
  case h_2 => exact h.elim
  rename_i is_b_l
  split at h
  case h_2 => exact h.elim
  rename_i is_b_c
  exact CallSem.objs (dSettle_sem _ _ K h) (fun _ _ _ h => h) ⟨WkO.same (fun cs h => by cases h), WkO.cells (Mo.Cl.is_ok is_b_k), WkO.same (fun cs h => by cases h), WkO.cells (Mo.Wd.is_ok is_b_w), WkO.cells (Mo.Rt.is_ok is_b_t), WkO.cells (Mo.Rs.is_ok is_b_r), WkO.cells (Mo.Ln.is_ok is_b_l), WkO.same (fun cs h => by cases h), WkO.same (fun cs h => by cases h), WkO.same (fun cs h => by cases h), WkO.cells (Mo.Cnt.is_ok is_b_c), trivial⟩
noncomputable def tabAsE (n : Nat) : List Con := match Nat.beq n 82 with | true => [dSettle_con] | false => tabAsD n
theorem tabAsE_ok : ∀ f, ∀ c ∈ tabAsE f, c.ok noW Tryz.prog f := by
  intro f c hc
  unfold tabAsE at hc
  split at hc
  · rename_i hf; have := Nat.eq_of_beq_eq_true hf; subst this
    simp only [List.mem_cons, List.not_mem_nil, or_false] at hc
    subst hc; exact dSettle_ok
  exact tabAsD_ok f c hc
noncomputable def ffAsE (n : Nat) : Option FI := match Nat.beq n 82 with | true => none | false => ffAsD n
theorem ffAsEok : FOk Tryz.prog ffAsE := fun f fi hf => by
  unfold ffAsE at hf
  split at hf
  · cases hf
  exact ffAsDok f fi hf
noncomputable def stopAsE : CallT := stopC tabAsE stopB
theorem stopAsE_ok : ∀ f args h K, stopAsE f args h K → CallSem noW Tryz.prog f args h K := stopC_ok tabAsE_ok stopB_ok
end Go.SX.Y
