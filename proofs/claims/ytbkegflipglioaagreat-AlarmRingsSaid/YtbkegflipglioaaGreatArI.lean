/- What Go functions come to (lifted). -/
import Derived.Test.YtbkegflipglioaaGreatArH
set_option maxRecDepth 20000
namespace Go.SX.Y
open Go.Proofs Go.RowKit
noncomputable def Mo.dNew_g1 (dv : Int) : Bool := (if ((iE dv 0) = true) then true else false)
noncomputable def Mo.dNew_pre (dv : Int) : Prop := (if ((iE dv 0) = true) then True else (Mo.dWire_pre (Mo.Bd.mk (Mo.kReset_v1 (Mo.Cl.mk 0 0 0 0 0 0 0 0 0 0 0 0 0 0 0 0 0 1)) (Mo.Wd.mk false false false 0 0 0 0) (Mo.Rt.mk 0 0 0 0 false false dv) (Mo.Rs.mk 1 0 0 1 false) (Mo.Ln.mk 0 0) (Mo.Cnt.mk 0 0 0 0 0))))
noncomputable def dNew_tree (dv : Int) (K : S → List Ob → Prop) : Prop := (True ∧ (if ((iE dv 0) = true) then K (.tup [.nil, (.iv .i64 5)]) [] else (((some (S.agg ((S.il IntKind.i64 1) :: ((S.il IntKind.i64 1) :: ((S.iv IntKind.u32 dv) :: List.nil))))) = (some (S.agg ((S.il IntKind.i64 1) :: ((S.il IntKind.i64 1) :: ((S.iv IntKind.u32 dv) :: List.nil)))))) ∧ (((some (S.agg ((S.il IntKind.i64 1) :: ((S.il IntKind.i64 1) :: ((S.iv IntKind.u32 dv) :: List.nil))))) = (some (S.agg ((S.il IntKind.i64 1) :: ((S.il IntKind.i64 1) :: ((S.iv IntKind.u32 dv) :: List.nil)))))) ∧ (((some (S.agg ((S.il IntKind.i64 1) :: ((S.il IntKind.i64 1) :: ((S.iv IntKind.u32 dv) :: List.nil))))) = (some (S.agg ((S.il IntKind.i64 1) :: ((S.il IntKind.i64 1) :: ((S.iv IntKind.u32 dv) :: List.nil)))))) ∧ (((1 : Int) = 1) ∧ (((1 : Int) = 1) ∧ ((Mo.dWire_pre (Mo.Bd.mk (Mo.kReset_v1 (Mo.Cl.mk 0 0 0 0 0 0 0 0 0 0 0 0 0 0 0 0 0 1)) (Mo.Wd.mk false false false 0 0 0 0) (Mo.Rt.mk 0 0 0 0 false false dv) (Mo.Rs.mk 1 0 0 1 false) (Mo.Ln.mk 0 0) (Mo.Cnt.mk 0 0 0 0 0))) ∧ K (.tup [(.ptr 0 (.l 0)), (.iv .i64 0)]) [(.cells 131 [(.ptr 1 (.l 0)), (.ptr 2 (.l 0)), (.ptr 3 (.l 0)), (.ptr 4 (.l 0)), (.ptr 5 (.l 0)), (.ptr 6 (.l 0)), (.ptr 7 (.l 0)), (.iv .i64 1), (.iv .i64 1), (.iv .u32 dv), (.raw (.slice none 0 0))]), (.cells 183 (Mo.Cl.cells (Mo.Bd.k (Mo.dWire_v1 (Mo.Bd.mk (Mo.kReset_v1 (Mo.Cl.mk 0 0 0 0 0 0 0 0 0 0 0 0 0 0 0 0 0 1)) (Mo.Wd.mk false false false 0 0 0 0) (Mo.Rt.mk 0 0 0 0 false false dv) (Mo.Rs.mk 1 0 0 1 false) (Mo.Ln.mk 0 0) (Mo.Cnt.mk 0 0 0 0 0)))))), (.cells 188 [(.sli 8 (.l 0) (.l 1) (.lit (.l 1)) false)]), (.cells 194 (Mo.Wd.cells (Mo.Bd.w (Mo.dWire_v1 (Mo.Bd.mk (Mo.kReset_v1 (Mo.Cl.mk 0 0 0 0 0 0 0 0 0 0 0 0 0 0 0 0 0 1)) (Mo.Wd.mk false false false 0 0 0 0) (Mo.Rt.mk 0 0 0 0 false false dv) (Mo.Rs.mk 1 0 0 1 false) (Mo.Ln.mk 0 0) (Mo.Cnt.mk 0 0 0 0 0)))))), (.cells 190 (Mo.Rt.cells (Mo.Bd.t (Mo.dWire_v1 (Mo.Bd.mk (Mo.kReset_v1 (Mo.Cl.mk 0 0 0 0 0 0 0 0 0 0 0 0 0 0 0 0 0 1)) (Mo.Wd.mk false false false 0 0 0 0) (Mo.Rt.mk 0 0 0 0 false false dv) (Mo.Rs.mk 1 0 0 1 false) (Mo.Ln.mk 0 0) (Mo.Cnt.mk 0 0 0 0 0)))))), (.cells 200 (Mo.Rs.cells (Mo.Bd.r (Mo.dWire_v1 (Mo.Bd.mk (Mo.kReset_v1 (Mo.Cl.mk 0 0 0 0 0 0 0 0 0 0 0 0 0 0 0 0 0 1)) (Mo.Wd.mk false false false 0 0 0 0) (Mo.Rt.mk 0 0 0 0 false false dv) (Mo.Rs.mk 1 0 0 1 false) (Mo.Ln.mk 0 0) (Mo.Cnt.mk 0 0 0 0 0)))))), (.cells 204 (Mo.Ln.cells (Mo.Bd.l (Mo.dWire_v1 (Mo.Bd.mk (Mo.kReset_v1 (Mo.Cl.mk 0 0 0 0 0 0 0 0 0 0 0 0 0 0 0 0 0 1)) (Mo.Wd.mk false false false 0 0 0 0) (Mo.Rt.mk 0 0 0 0 false false dv) (Mo.Rs.mk 1 0 0 1 false) (Mo.Ln.mk 0 0) (Mo.Cnt.mk 0 0 0 0 0)))))), (.cells 227 [(.mp 9)]), (.row 185 1 (.l 1) [(.ptr 10 (.l 0))]), (.mapo [(.agg [(.il .u32 33554432), (.il .u32 49152)]), (.agg [(.il .u32 268500992), (.il .u32 256)]), (.agg [(.il .u32 268566528), (.il .u32 20)]), (.agg [(.il .u32 268632064), (.il .u32 16)]), (.agg [(.il .u32 268697600), (.il .u32 36)]), (.agg [(.il .u32 268763136), (.il .u32 12)])] [(.ifc 107 (.ptr 1 (.l 0))), (.ifc 110 (.ptr 2 (.l 0))), (.ifc 119 (.ptr 3 (.l 0))), (.ifc 125 (.ptr 5 (.l 0))), (.ifc 44 (.ptr 4 (.l 0))), (.ifc 127 (.ptr 6 (.l 0)))]), (.cells 246 (Mo.Cnt.cells (Mo.Bd.c (Mo.dWire_v1 (Mo.Bd.mk (Mo.kReset_v1 (Mo.Cl.mk 0 0 0 0 0 0 0 0 0 0 0 0 0 0 0 0 0 1)) (Mo.Wd.mk false false false 0 0 0 0) (Mo.Rt.mk 0 0 0 0 false false dv) (Mo.Rs.mk 1 0 0 1 false) (Mo.Ln.mk 0 0) (Mo.Cnt.mk 0 0 0 0 0))))))]))))))))
theorem dNew_run (dv : Int) (K : S → List Ob → Prop) : callL (std noW) tt ffArH stopArH noL 200 11 [.agg [.il .i64 1, .il .i64 1, .iv .u32 dv]] [] (gcK 0 (ivK true K)) = dNew_tree dv K := by kernel_rfl
noncomputable def dNew_T (dv : Int) (K : S → List Ob → Prop) : Prop := Mo.dNew_pre dv ∧ (if (Mo.dNew_g1 dv) = true then K (.tup [.nil, (.iv .i64 5)]) [] else K (.tup [(.ptr 0 (.l 0)), (.iv .i64 0)]) [(.cells 131 [(.ptr 1 (.l 0)), (.ptr 2 (.l 0)), (.ptr 3 (.l 0)), (.ptr 4 (.l 0)), (.ptr 5 (.l 0)), (.ptr 6 (.l 0)), (.ptr 7 (.l 0)), (.iv .i64 1), (.iv .i64 1), (.iv .u32 dv), (.raw (.slice none 0 0))]), (.cells 183 (Mo.Cl.cells (Mo.Bd.k (Mo.dWire_v1 (Mo.Bd.mk (Mo.kReset_v1 (Mo.Cl.mk 0 0 0 0 0 0 0 0 0 0 0 0 0 0 0 0 0 1)) (Mo.Wd.mk false false false 0 0 0 0) (Mo.Rt.mk 0 0 0 0 false false dv) (Mo.Rs.mk 1 0 0 1 false) (Mo.Ln.mk 0 0) (Mo.Cnt.mk 0 0 0 0 0)))))), (.cells 188 [(.sli 8 (.l 0) (.l 1) (.lit (.l 1)) false)]), (.cells 194 (Mo.Wd.cells (Mo.Bd.w (Mo.dWire_v1 (Mo.Bd.mk (Mo.kReset_v1 (Mo.Cl.mk 0 0 0 0 0 0 0 0 0 0 0 0 0 0 0 0 0 1)) (Mo.Wd.mk false false false 0 0 0 0) (Mo.Rt.mk 0 0 0 0 false false dv) (Mo.Rs.mk 1 0 0 1 false) (Mo.Ln.mk 0 0) (Mo.Cnt.mk 0 0 0 0 0)))))), (.cells 190 (Mo.Rt.cells (Mo.Bd.t (Mo.dWire_v1 (Mo.Bd.mk (Mo.kReset_v1 (Mo.Cl.mk 0 0 0 0 0 0 0 0 0 0 0 0 0 0 0 0 0 1)) (Mo.Wd.mk false false false 0 0 0 0) (Mo.Rt.mk 0 0 0 0 false false dv) (Mo.Rs.mk 1 0 0 1 false) (Mo.Ln.mk 0 0) (Mo.Cnt.mk 0 0 0 0 0)))))), (.cells 200 (Mo.Rs.cells (Mo.Bd.r (Mo.dWire_v1 (Mo.Bd.mk (Mo.kReset_v1 (Mo.Cl.mk 0 0 0 0 0 0 0 0 0 0 0 0 0 0 0 0 0 1)) (Mo.Wd.mk false false false 0 0 0 0) (Mo.Rt.mk 0 0 0 0 false false dv) (Mo.Rs.mk 1 0 0 1 false) (Mo.Ln.mk 0 0) (Mo.Cnt.mk 0 0 0 0 0)))))), (.cells 204 (Mo.Ln.cells (Mo.Bd.l (Mo.dWire_v1 (Mo.Bd.mk (Mo.kReset_v1 (Mo.Cl.mk 0 0 0 0 0 0 0 0 0 0 0 0 0 0 0 0 0 1)) (Mo.Wd.mk false false false 0 0 0 0) (Mo.Rt.mk 0 0 0 0 false false dv) (Mo.Rs.mk 1 0 0 1 false) (Mo.Ln.mk 0 0) (Mo.Cnt.mk 0 0 0 0 0)))))), (.cells 227 [(.mp 9)]), (.row 185 1 (.l 1) [(.ptr 10 (.l 0))]), (.mapo [(.agg [(.il .u32 33554432), (.il .u32 49152)]), (.agg [(.il .u32 268500992), (.il .u32 256)]), (.agg [(.il .u32 268566528), (.il .u32 20)]), (.agg [(.il .u32 268632064), (.il .u32 16)]), (.agg [(.il .u32 268697600), (.il .u32 36)]), (.agg [(.il .u32 268763136), (.il .u32 12)])] [(.ifc 107 (.ptr 1 (.l 0))), (.ifc 110 (.ptr 2 (.l 0))), (.ifc 119 (.ptr 3 (.l 0))), (.ifc 125 (.ptr 5 (.l 0))), (.ifc 44 (.ptr 4 (.l 0))), (.ifc 127 (.ptr 6 (.l 0)))]), (.cells 246 (Mo.Cnt.cells (Mo.Bd.c (Mo.dWire_v1 (Mo.Bd.mk (Mo.kReset_v1 (Mo.Cl.mk 0 0 0 0 0 0 0 0 0 0 0 0 0 0 0 0 0 1)) (Mo.Wd.mk false false false 0 0 0 0) (Mo.Rt.mk 0 0 0 0 false false dv) (Mo.Rs.mk 1 0 0 1 false) (Mo.Ln.mk 0 0) (Mo.Cnt.mk 0 0 0 0 0))))))])
theorem dNew_all (dv : Int) (K : S → List Ob → Prop) (h : dNew_T dv K) : dNew_tree dv K := by
  unfold dNew_T at h; obtain ⟨h0, h⟩ := h; unfold dNew_tree
  try simp only [Mo.dNew_g1] at h0 h
  try simp only [Mo.dNew_pre] at h0 h
  refine ⟨?_, ?_⟩
  trivial
  refine ite_intro (fun c0 => ?_) (fun c0 => ?_)
  try simp only [if_pos c0] at h0 h
  first | exact h | contradiction | (simp only [if_true, if_false, Bool.false_eq_true] at h; exact h)
  try simp only [if_neg c0] at h0 h
  refine ⟨rfl, ?_⟩
  refine ⟨rfl, ?_⟩
  refine ⟨rfl, ?_⟩
  refine ⟨rfl, ?_⟩
  refine ⟨rfl, ?_⟩
  refine ⟨h0, ?_⟩
  first | exact h | contradiction | (simp only [if_true, if_false, Bool.false_eq_true] at h; exact h)
theorem dNew_sem (dv : Int) (K : S → List Ob → Prop) (h : dNew_T dv K) : CallSem noW Tryz.prog 11 [.agg [.il .i64 1, .il .i64 1, .iv .u32 dv]] [] K := iv_call (callL_ok tok (by kernel_rfl) ffArHok stopArH_ok _ _ _ _ (Eq.mpr (dNew_run dv K) (dNew_all dv K h)))
noncomputable def dNew_con : Con := ⟨[.agg [.same (.il .i64 1), .same (.il .i64 1), .int .u32]], [], fun a K => match a with | ⟨[dv], [], [], []⟩ => dNew_T dv K | _ => False⟩
theorem dNew_ok : dNew_con.ok noW Tryz.prog 11 := by
  intro a K h
  simp only [dNew_con] at h
  split at h
  · exact dNew_sem _ K h
  · exact h.elim
noncomputable def tabArI (n : Nat) : List Con := match Nat.beq n 11 with | true => [dNew_con] | false => tabArH n
theorem tabArI_ok : ∀ f, ∀ c ∈ tabArI f, c.ok noW Tryz.prog f := by
  intro f c hc
  unfold tabArI at hc
  split at hc
  · rename_i hf; have := Nat.eq_of_beq_eq_true hf; subst this
    simp only [List.mem_cons, List.not_mem_nil, or_false] at hc
    subst hc; exact dNew_ok
  exact tabArH_ok f c hc
noncomputable def ffArI (n : Nat) : Option FI := match Nat.beq n 11 with | true => none | false => ffArH n
theorem ffArIok : FOk Tryz.prog ffArI := fun f fi hf => by
  unfold ffArI at hf
  split at hf
  · cases hf
  exact ffArHok f fi hf
noncomputable def stopArI : CallT := stopC tabArI stopB
theorem stopArI_ok : ∀ f args h K, stopArI f args h K → CallSem noW Tryz.prog f args h K := stopC_ok tabArI_ok stopB_ok
end Go.SX.Y
