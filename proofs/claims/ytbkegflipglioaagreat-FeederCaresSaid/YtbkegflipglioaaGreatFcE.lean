/- What Go functions come to (lifted). -/
import Derived.Test.YtbkegflipglioaaGreatFcD
set_option maxRecDepth 20000
namespace Go.SX.Y
open Go.Proofs Go.RowKit
noncomputable def hm_FcE_1 (x1 : Int) (x2 : List (List Int)) (x3 : Mo.Bd) : List Ob := [(.cells 131 [(.ptr 1 (.l 0)), (.ptr 2 (.l 0)), (.ptr 3 (.l 0)), (.ptr 4 (.l 0)), (.ptr 5 (.l 0)), (.ptr 6 (.l 0)), (.ptr 7 (.l 0)), (.iv .i64 1), (.iv .i64 1), (.iv .u32 x1), (.nsl 12 (.v (lenR x2)) false false)]), (.cells 183 (Mo.Cl.cells (Mo.Bd.k x3))), (.cells 188 [(.sli 9 (.l 0) (.l 1) (.lit (.l 1)) false)]), (.cells 194 (Mo.Wd.cells (Mo.Bd.w x3))), (.cells 190 (Mo.Rt.cells (Mo.Bd.t x3))), (.cells 200 (Mo.Rs.cells (Mo.Bd.r x3))), (.cells 204 (Mo.Ln.cells (Mo.Bd.l x3))), (.cells 227 [(.mp 10)]), .dead, (.row 185 1 (.l 1) [(.ptr 11 (.l 0))]), (.mapo [(.agg [(.il .u32 33554432), (.il .u32 49152)]), (.agg [(.il .u32 268500992), (.il .u32 256)]), (.agg [(.il .u32 268566528), (.il .u32 20)]), (.agg [(.il .u32 268632064), (.il .u32 16)]), (.agg [(.il .u32 268697600), (.il .u32 36)]), (.agg [(.il .u32 268763136), (.il .u32 12)])] [(.ifc 107 (.ptr 1 (.l 0))), (.ifc 110 (.ptr 2 (.l 0))), (.ifc 119 (.ptr 3 (.l 0))), (.ifc 125 (.ptr 5 (.l 0))), (.ifc 44 (.ptr 4 (.l 0))), (.ifc 127 (.ptr 6 (.l 0)))]), (.cells 246 (Mo.Cnt.cells (Mo.Bd.c x3))), (.nrow 73 [.i .u64, .i .i64] x2)]
noncomputable def Mo.dSettle_e1 (b : Mo.Bd) : Mo.Bd := Mo.dWire_v1 (Mo.dReset_v2 16 (Mo.dReset_v2 (Mo.Wd.fault (Mo.Bd.w b)) b))
noncomputable def Mo.dSettle_e2 (b : Mo.Bd) (rs : List (List Int)) : List (List Int) := Mo.dReset_v1 16 (Mo.dReset_v2 (Mo.Wd.fault (Mo.Bd.w b)) b) (Mo.dReset_v1 (Mo.Wd.fault (Mo.Bd.w b)) b rs)
noncomputable def Mo.dSettle_v1 (b : Mo.Bd) (rs : List (List Int)) : List (List Int) := (if ((iN (Mo.Wd.fault (Mo.Bd.w b)) 0) = true) then (if ((Mo.rAsked_v1 (Mo.Bd.r (Mo.dReset_v2 (Mo.Wd.fault (Mo.Bd.w b)) b))) = true) then (Mo.dSettle_e2 b rs) else (Mo.dReset_v1 (Mo.Wd.fault (Mo.Bd.w b)) b rs)) else (if ((Mo.rAsked_v1 (Mo.Bd.r b)) = true) then (Mo.dReset_v1 16 b rs) else rs))
noncomputable def Mo.dSettle_v2 (b : Mo.Bd) : Mo.Bd := (if ((iN (Mo.Wd.fault (Mo.Bd.w b)) 0) = true) then (if ((Mo.rAsked_v1 (Mo.Bd.r (Mo.dReset_v2 (Mo.Wd.fault (Mo.Bd.w b)) b))) = true) then (Mo.dSettle_e1 b) else (Mo.dWire_v1 (Mo.dReset_v2 (Mo.Wd.fault (Mo.Bd.w b)) b))) else (if ((Mo.rAsked_v1 (Mo.Bd.r b)) = true) then (Mo.dWire_v1 (Mo.dReset_v2 16 b)) else (Mo.dWire_v1 b)))
noncomputable def Mo.dSettle_pre (b : Mo.Bd) (rs : List (List Int)) : Prop := (if ((iN (Mo.Wd.fault (Mo.Bd.w b)) 0) = true) then ((Mo.dReset_pre (Mo.Wd.fault (Mo.Bd.w b)) b rs) ∧ (if ((Mo.rAsked_v1 (Mo.Bd.r (Mo.dReset_v2 (Mo.Wd.fault (Mo.Bd.w b)) b))) = true) then ((Mo.dReset_pre 16 (Mo.dReset_v2 (Mo.Wd.fault (Mo.Bd.w b)) b) (Mo.dReset_v1 (Mo.Wd.fault (Mo.Bd.w b)) b rs)) ∧ (Mo.dWire_pre (Mo.dReset_v2 16 (Mo.dReset_v2 (Mo.Wd.fault (Mo.Bd.w b)) b)))) else (Mo.dWire_pre (Mo.dReset_v2 (Mo.Wd.fault (Mo.Bd.w b)) b)))) else (if ((Mo.rAsked_v1 (Mo.Bd.r b)) = true) then ((Mo.dReset_pre 16 b rs) ∧ (Mo.dWire_pre (Mo.dReset_v2 16 b))) else (Mo.dWire_pre b)))
noncomputable def dSettle_tree (dv : Int) (b : Mo.Bd) (rs : List (List Int)) (K : S → List Ob → Prop) : Prop := (True ∧ (if ((iN (Mo.Wd.fault (Mo.Bd.w b)) 0) = true) then (((lenR rs) = (lenR rs)) ∧ (((1 : Int) = 1) ∧ (((1 : Int) = 1) ∧ ((Mo.dReset_pre (Mo.Wd.fault (Mo.Bd.w b)) b rs) ∧ (True ∧ (if ((Mo.rAsked_v1 (Mo.Bd.r (Mo.dReset_v2 (Mo.Wd.fault (Mo.Bd.w b)) b))) = true) then (((lenR (Mo.dReset_v1 (Mo.Wd.fault (Mo.Bd.w b)) b rs)) = (lenR (Mo.dReset_v1 (Mo.Wd.fault (Mo.Bd.w b)) b rs))) ∧ (((1 : Int) = 1) ∧ (((1 : Int) = 1) ∧ ((Mo.dReset_pre 16 (Mo.dReset_v2 (Mo.Wd.fault (Mo.Bd.w b)) b) (Mo.dReset_v1 (Mo.Wd.fault (Mo.Bd.w b)) b rs)) ∧ (((lenR (Mo.dSettle_e2 b rs)) = (lenR (Mo.dSettle_e2 b rs))) ∧ (((1 : Int) = 1) ∧ (((1 : Int) = 1) ∧ ((Mo.dWire_pre (Mo.dReset_v2 16 (Mo.dReset_v2 (Mo.Wd.fault (Mo.Bd.w b)) b))) ∧ K (.tup []) (hm_FcE_1 dv (Mo.dSettle_e2 b rs) (Mo.dSettle_e1 b)))))))))) else (((lenR (Mo.dReset_v1 (Mo.Wd.fault (Mo.Bd.w b)) b rs)) = (lenR (Mo.dReset_v1 (Mo.Wd.fault (Mo.Bd.w b)) b rs))) ∧ (((1 : Int) = 1) ∧ (((1 : Int) = 1) ∧ ((Mo.dWire_pre (Mo.dReset_v2 (Mo.Wd.fault (Mo.Bd.w b)) b)) ∧ K (.tup []) (hm_FcE_1 dv (Mo.dReset_v1 (Mo.Wd.fault (Mo.Bd.w b)) b rs) (Mo.dWire_v1 (Mo.dReset_v2 (Mo.Wd.fault (Mo.Bd.w b)) b))))))))))))) else (True ∧ (if ((Mo.rAsked_v1 (Mo.Bd.r b)) = true) then (((lenR rs) = (lenR rs)) ∧ (((1 : Int) = 1) ∧ (((1 : Int) = 1) ∧ ((Mo.dReset_pre 16 b rs) ∧ (((lenR (Mo.dReset_v1 16 b rs)) = (lenR (Mo.dReset_v1 16 b rs))) ∧ (((1 : Int) = 1) ∧ (((1 : Int) = 1) ∧ ((Mo.dWire_pre (Mo.dReset_v2 16 b)) ∧ K (.tup []) (hm_FcE_1 dv (Mo.dReset_v1 16 b rs) (Mo.dWire_v1 (Mo.dReset_v2 16 b))))))))))) else (((lenR rs) = (lenR rs)) ∧ (((1 : Int) = 1) ∧ (((1 : Int) = 1) ∧ ((Mo.dWire_pre b) ∧ K (.tup []) (hm_FcE_1 dv rs (Mo.dWire_v1 b))))))))))
theorem dSettle_run (dv : Int) (b : Mo.Bd) (rs : List (List Int)) (K : S → List Ob → Prop) : callX (std noW) tt ffFcD stopFcD (lpB noW Tryz.prog) noL 6 82 [.ptr 0 (.l 0)] (h_BD dv b rs) (gcK 12 (nilK none (mvsK [8] (optK [] (ivK false K))))) = dSettle_tree dv b rs K := by kernel_rfl
noncomputable def dSettle_T (dv : Int) (b : Mo.Bd) (rs : List (List Int)) (K : S → List Ob → Prop) : Prop := Mo.dSettle_pre b rs ∧ K (.tup []) (hm_FcE_1 dv (Mo.dSettle_v1 b rs) (Mo.dSettle_v2 b))
theorem dSettle_all (dv : Int) (b : Mo.Bd) (rs : List (List Int)) (K : S → List Ob → Prop) (h : dSettle_T dv b rs K) : dSettle_tree dv b rs K := by
  unfold dSettle_T at h; obtain ⟨h0, h⟩ := h; unfold dSettle_tree
  try simp only [Mo.dSettle_v1] at h0 h
  try simp only [Mo.dSettle_v2] at h0 h
  try simp only [Mo.dSettle_pre] at h0 h
  repeat' (first | (refine ite_intro (fun c => ?_) (fun c => ?_) <;> first | simp only [if_pos c] at h0 h | simp only [if_neg c] at h0 h | skip) | with_reducible (replace h0 := (h0 : True ∧ _).2) | with_reducible (refine ⟨rfl, ?_⟩) | with_reducible (refine ⟨h0.1, ?_⟩; replace h0 := h0.2) | with_reducible (refine ⟨h0, ?_⟩) | (refine ⟨h0.1, ?_⟩; replace h0 := h0.2) | refine ⟨h0, ?_⟩ | refine ⟨rfl, ?_⟩ | refine ⟨trivial, ?_⟩ | refine ⟨by assumption, ?_⟩ | refine ⟨Eq.symm (by assumption), ?_⟩ | exact h | refine ⟨?_, ?_⟩ | exact h0.elim | trivial | contradiction | (simp only [if_true, if_false, Bool.false_eq_true] at h; exact h))
theorem dSettle_sem (dv : Int) (b : Mo.Bd) (rs : List (List Int)) (K : S → List Ob → Prop) (h : dSettle_T dv b rs K) : CallSem noW Tryz.prog 82 [.ptr 0 (.l 0)] (h_BD dv b rs) K := all_call (callX_ok tok (by kernel_rfl) ffFcDok stopFcD_ok _ _ _ _ (Eq.mpr (dSettle_run dv b rs K) (dSettle_all dv b rs K h)))
noncomputable def dSettle_con : Con := ⟨[.ptr 0], t_BD, [], fun a K => match a with | ⟨[dv], [], [], [cs_b_k, cs_b_w, cs_b_t, cs_b_r, cs_b_l, cs_b_c], [rs]⟩ => (match Mo.Cl.is cs_b_k with | true => (match Mo.Wd.is cs_b_w with | true => (match Mo.Rt.is cs_b_t with | true => (match Mo.Rs.is cs_b_r with | true => (match Mo.Ln.is cs_b_l with | true => (match Mo.Cnt.is cs_b_c with | true => dSettle_T dv (Mo.Bd.mk (Mo.Cl.of cs_b_k) (Mo.Wd.of cs_b_w) (Mo.Rt.of cs_b_t) (Mo.Rs.of cs_b_r) (Mo.Ln.of cs_b_l) (Mo.Cnt.of cs_b_c)) rs K | false => False) | false => False) | false => False) | false => False) | false => False) | false => False) | _ => False⟩
theorem dSettle_ok : dSettle_con.ok noW Tryz.prog 82 := by
  intro a K h
  simp only [dSettle_con] at h
  split at h
  case h_2 => exact h.elim
  split at h
  case h_2 => exact h.elim
  rename_i is_b_k
  split at h
  case h_2 => exact h.elim
  rename_i is_b_w
  split at h
  case h_2 => exact h.elim
  rename_i is_b_t
  split at h
  case h_2 => exact h.elim
  rename_i is_b_r
  split at h
  case h_2 => exact h.elim
  rename_i is_b_l
  split at h
  case h_2 => exact h.elim
  rename_i is_b_c
  exact CallSem.objs (dSettle_sem _ _ _ K h) (fun _ _ _ h => h) ⟨WkO.same, WkO.cells (Mo.Cl.is_ok is_b_k), WkO.same, WkO.cells (Mo.Wd.is_ok is_b_w), WkO.cells (Mo.Rt.is_ok is_b_t), WkO.cells (Mo.Rs.is_ok is_b_r), WkO.cells (Mo.Ln.is_ok is_b_l), WkO.same, WkO.same, WkO.same, WkO.same, WkO.cells (Mo.Cnt.is_ok is_b_c), trivial⟩
noncomputable def tabFcE (n : Nat) : List Con := match Nat.beq n 82 with | true => [dSettle_con] | false => tabFcD n
theorem tabFcE_ok : ∀ f, ∀ c ∈ tabFcE f, c.ok noW Tryz.prog f := by
  intro f c hc
  unfold tabFcE at hc
  split at hc
  · rename_i hf; have := Nat.eq_of_beq_eq_true hf; subst this
    simp only [List.mem_cons, List.not_mem_nil, or_false] at hc
    subst hc; exact dSettle_ok
  exact tabFcD_ok f c hc
noncomputable def ffFcE (n : Nat) : Option FI := match Nat.beq n 82 with | true => none | false => ffFcD n
theorem ffFcEok : FOk Tryz.prog ffFcE := fun f fi hf => by
  unfold ffFcE at hf
  split at hf
  · cases hf
  exact ffFcDok f fi hf
noncomputable def stopFcE : CallT := stopC tabFcE stopB
theorem stopFcE_ok : ∀ f args h K, stopFcE f args h K → CallSem noW Tryz.prog f args h K := stopC_ok tabFcE_ok stopB_ok
end Go.SX.Y
