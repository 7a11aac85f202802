/- What Go functions come to (lifted). -/
import Derived.Test.YtbkegflipglioaaGreatFcC
set_option maxRecDepth 20000
namespace Go.SX.Y
open Go.Proofs Go.RowKit
noncomputable def hm_FcN_1 (x1 : Int) (x2 : List (List Int)) (x3 : Mo.Cl) (x4 : Mo.Wd) (x5 : Mo.Rt) (x6 : Mo.Rs) (x7 : Mo.Ln) (x8 : Mo.Cnt) : List Ob := [(.cells 131 [(.ptr 1 (.l 0)), (.ptr 2 (.l 0)), (.ptr 3 (.l 0)), (.ptr 4 (.l 0)), (.ptr 5 (.l 0)), (.ptr 6 (.l 0)), (.ptr 7 (.l 0)), (.iv .i64 1), (.iv .i64 1), (.iv .u32 x1), (.nsl 11 (.v (lenR x2)) false false)]), (.cells 183 (Mo.Cl.cells x3)), (.cells 188 [(.sli 8 (.l 0) (.l 1) (.lit (.l 1)) false)]), (.cells 194 (Mo.Wd.cells x4)), (.cells 190 (Mo.Rt.cells x5)), (.cells 200 (Mo.Rs.cells x6)), (.cells 204 (Mo.Ln.cells x7)), (.cells 227 [(.mp 9)]), (.row 185 1 (.l 1) [(.ptr 10 (.l 0))]), (.mapo [(.agg [(.il .u32 33554432), (.il .u32 49152)]), (.agg [(.il .u32 268500992), (.il .u32 256)]), (.agg [(.il .u32 268566528), (.il .u32 20)]), (.agg [(.il .u32 268632064), (.il .u32 16)]), (.agg [(.il .u32 268697600), (.il .u32 36)]), (.agg [(.il .u32 268763136), (.il .u32 12)])] [(.ifc 107 (.ptr 1 (.l 0))), (.ifc 110 (.ptr 2 (.l 0))), (.ifc 119 (.ptr 3 (.l 0))), (.ifc 125 (.ptr 5 (.l 0))), (.ifc 44 (.ptr 4 (.l 0))), (.ifc 127 (.ptr 6 (.l 0)))]), (.cells 246 (Mo.Cnt.cells x8)), (.nrow 73 [.i .u64, .i .i64] x2)]
noncomputable def Mo.dNew_v1  : Mo.Wd := (Mo.Wd.mk false false false 0 0 0 0)
noncomputable def Mo.dNew_v2 (dv : Int) : Mo.Rt := (Mo.Rt.mk 0 0 0 0 false false dv)
noncomputable def Mo.dNew_v3  : Mo.Rs := (Mo.Rs.mk 1 0 0 1 false)
noncomputable def Mo.dNew_v4  : Mo.Cnt := (Mo.Cnt.mk 0 0 0 0 0)
noncomputable def Mo.dNew_g1 (dv : Int) : Bool := (if ((iE dv 0) = true) then true else false)
noncomputable def Mo.dNew_pre (dv : Int) : Prop := (if ((iE dv 0) = true) then True else ((Mo.nLines_pre (Mo.Cnt.mk 0 0 0 0 0)) ∧ ((Mo.kLine_pre 0 (Mo.kReset_v1 (Mo.Cl.mk 0 0 0 0 0 0 0 0 0 0 0 0 0 0 0 0 0 1))) ∧ (Mo.kSoft_pre 0 (Mo.kReset_v1 (Mo.Cl.mk 0 0 0 0 0 0 0 0 0 0 0 0 0 0 0 0 0 1))))))
noncomputable def dNew_tree (dv : Int) (K : S → List Ob → Prop) : Prop := (True ∧ (if ((iE dv 0) = true) then K (.tup [.nil, (.iv .i64 5)]) [] else (((some (S.agg ((S.il IntKind.i64 1) :: ((S.il IntKind.i64 1) :: ((S.iv IntKind.u32 dv) :: List.nil))))) = (some (S.agg ((S.il IntKind.i64 1) :: ((S.il IntKind.i64 1) :: ((S.iv IntKind.u32 dv) :: List.nil)))))) ∧ (((some (S.agg ((S.il IntKind.i64 1) :: ((S.il IntKind.i64 1) :: ((S.iv IntKind.u32 dv) :: List.nil))))) = (some (S.agg ((S.il IntKind.i64 1) :: ((S.il IntKind.i64 1) :: ((S.iv IntKind.u32 dv) :: List.nil)))))) ∧ (((some (S.agg ((S.il IntKind.i64 1) :: ((S.il IntKind.i64 1) :: ((S.iv IntKind.u32 dv) :: List.nil))))) = (some (S.agg ((S.il IntKind.i64 1) :: ((S.il IntKind.i64 1) :: ((S.iv IntKind.u32 dv) :: List.nil)))))) ∧ ((Mo.nLines_pre (Mo.Cnt.mk 0 0 0 0 0)) ∧ ((Mo.kLine_pre 0 (Mo.kReset_v1 (Mo.Cl.mk 0 0 0 0 0 0 0 0 0 0 0 0 0 0 0 0 0 1))) ∧ ((Mo.kSoft_pre 0 (Mo.kReset_v1 (Mo.Cl.mk 0 0 0 0 0 0 0 0 0 0 0 0 0 0 0 0 0 1))) ∧ (True ∧ (True ∧ K (.tup [(.ptr 0 (.l 0)), (.iv .i64 0)]) (hm_FcN_1 dv List.nil (Mo.kReset_v1 (Mo.Cl.mk 0 0 0 0 0 0 0 0 0 0 0 0 0 0 0 0 0 1)) (Mo.Wd.mk false false false 0 0 0 0) (Mo.Rt.mk 0 0 0 0 false false dv) (Mo.Rs.mk 1 0 0 1 false) (Mo.lAll_v1 (slw (Mo.nLines_v1 (Mo.Cnt.mk 0 0 0 0 0)) 8) (Mo.Ln.mk 0 0)) (Mo.Cnt.mk 0 0 0 0 0))))))))))))
theorem dNew_run (dv : Int) (K : S → List Ob → Prop) : callX (std noW) tt ffFcC stopFcC (lpB noW Tryz.prog) noL 200 11 [.agg [.il .i64 1, .il .i64 1, .iv .u32 dv]] [] (gcK 0 (wrsK [.nilc 0 10 73 [.i .u64, .i .i64]] (ivK true K))) = dNew_tree dv K := by kernel_rfl
noncomputable def dNew_T (dv : Int) (K : S → List Ob → Prop) : Prop := Mo.dNew_pre dv ∧ (if (Mo.dNew_g1 dv) = true then K (.tup [.nil, (.iv .i64 5)]) [] else K (.tup [(.ptr 0 (.l 0)), (.iv .i64 0)]) (hm_FcN_1 dv List.nil (Mo.kReset_v1 (Mo.Cl.mk 0 0 0 0 0 0 0 0 0 0 0 0 0 0 0 0 0 1)) (Mo.dNew_v1) (Mo.dNew_v2 dv) (Mo.dNew_v3) (Mo.lAll_v1 (slw (Mo.nLines_v1 (Mo.Cnt.mk 0 0 0 0 0)) 8) (Mo.Ln.mk 0 0)) (Mo.dNew_v4)))
theorem dNew_all (dv : Int) (K : S → List Ob → Prop) (h : dNew_T dv K) : dNew_tree dv K := by
  unfold dNew_T at h; obtain ⟨h0, h⟩ := h; unfold dNew_tree
  try simp only [Mo.dNew_v1] at h0 h
  try simp only [Mo.dNew_v2] at h0 h
  try simp only [Mo.dNew_v3] at h0 h
  try simp only [Mo.dNew_v4] at h0 h
  try simp only [Mo.dNew_g1] at h0 h
  try simp only [Mo.dNew_pre] at h0 h
  repeat' (first | (refine ite_intro (fun c => ?_) (fun c => ?_) <;> first | simp only [if_pos c] at h0 h | simp only [if_neg c] at h0 h | skip) | with_reducible (replace h0 := (h0 : True ∧ _).2) | with_reducible (refine ⟨rfl, ?_⟩) | with_reducible (refine ⟨h0.1, ?_⟩; replace h0 := h0.2) | with_reducible (refine ⟨h0, ?_⟩) | (refine ⟨h0.1, ?_⟩; replace h0 := h0.2) | refine ⟨h0, ?_⟩ | refine ⟨rfl, ?_⟩ | refine ⟨trivial, ?_⟩ | refine ⟨by assumption, ?_⟩ | refine ⟨Eq.symm (by assumption), ?_⟩ | exact h | refine ⟨?_, ?_⟩ | exact h0.elim | trivial | contradiction | (simp only [if_true, if_false, Bool.false_eq_true] at h; exact h))
theorem dNew_sem (dv : Int) (K : S → List Ob → Prop) (h : dNew_T dv K) : CallSem noW Tryz.prog 11 [.agg [.il .i64 1, .il .i64 1, .iv .u32 dv]] [] K := wr_call (callX_ok tok (by kernel_rfl) ffFcCok stopFcC_ok _ _ _ _ (Eq.mpr (dNew_run dv K) (dNew_all dv K h)))
noncomputable def dNew_con : Con := ⟨[.agg [.same (.il .i64 1), .same (.il .i64 1), .int .u32]], [], [], fun a K => match a with | ⟨[dv], [], [], [], []⟩ => dNew_T dv K | _ => False⟩
theorem dNew_ok : dNew_con.ok noW Tryz.prog 11 := by
  intro a K h
  simp only [dNew_con] at h
  split at h
  case h_2 => exact h.elim
  exact dNew_sem _ K h
noncomputable def tabFcN (n : Nat) : List Con := match Nat.beq n 11 with | true => [dNew_con] | false => tabFcC n
theorem tabFcN_ok : ∀ f, ∀ c ∈ tabFcN f, c.ok noW Tryz.prog f := by
  intro f c hc
  unfold tabFcN at hc
  split at hc
  · rename_i hf; have := Nat.eq_of_beq_eq_true hf; subst this
    simp only [List.mem_cons, List.not_mem_nil, or_false] at hc
    subst hc; exact dNew_ok
  exact tabFcC_ok f c hc
noncomputable def ffFcN (n : Nat) : Option FI := match Nat.beq n 11 with | true => none | false => ffFcC n
theorem ffFcNok : FOk Tryz.prog ffFcN := fun f fi hf => by
  unfold ffFcN at hf
  split at hf
  · cases hf
  exact ffFcCok f fi hf
noncomputable def stopFcN : CallT := stopC tabFcN stopB
theorem stopFcN_ok : ∀ f args h K, stopFcN f args h K → CallSem noW Tryz.prog f args h K := stopC_ok tabFcN_ok stopB_ok
end Go.SX.Y
