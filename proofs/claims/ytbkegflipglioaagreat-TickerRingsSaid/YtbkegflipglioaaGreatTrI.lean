/- What Go functions come to (lifted). -/
import Derived.Test.YtbkegflipglioaaGreatTrH
set_option maxRecDepth 20000
namespace Go.SX.Y
open Go.Proofs Go.RowKit
noncomputable def hm_TrI_1 (x1 : Int) (x2 : Mo.Bd) : List Ob := [(.cells 131 [(.ptr 1 (.l 0)), (.ptr 2 (.l 0)), (.ptr 3 (.l 0)), (.ptr 4 (.l 0)), (.ptr 5 (.l 0)), (.ptr 6 (.l 0)), (.ptr 7 (.l 0)), (.iv .i64 1), (.iv .i64 2), (.iv .u32 x1), (.raw (.slice none 0 0))]), (.cells 183 (Mo.Cl.cells (Mo.Bd.k x2))), (.cells 188 [(.sli 8 (.l 0) (.l 2) (.lit (.l 2)) false)]), (.cells 194 (Mo.Wd.cells (Mo.Bd.w x2))), (.cells 190 (Mo.Rt.cells (Mo.Bd.t x2))), (.cells 200 (Mo.Rs.cells (Mo.Bd.r x2))), (.cells 204 (Mo.Ln.cells (Mo.Bd.l x2))), (.cells 227 [(.mp 9)]), (.row 185 1 (.l 2) [(.ptr 10 (.l 0)), (.ptr 11 (.l 0))]), (.mapo [(.agg [(.il .u32 33554432), (.il .u32 49152)]), (.agg [(.il .u32 268500992), (.il .u32 256)]), (.agg [(.il .u32 268566528), (.il .u32 20)]), (.agg [(.il .u32 268632064), (.il .u32 16)]), (.agg [(.il .u32 268697600), (.il .u32 36)]), (.agg [(.il .u32 268763136), (.il .u32 12)])] [(.ifc 107 (.ptr 1 (.l 0))), (.ifc 110 (.ptr 2 (.l 0))), (.ifc 119 (.ptr 3 (.l 0))), (.ifc 125 (.ptr 5 (.l 0))), (.ifc 44 (.ptr 4 (.l 0))), (.ifc 127 (.ptr 6 (.l 0)))]), (.cells 246 (Mo.Cnt.cells (Mo.Bd.c0 x2))), (.cells 246 (Mo.Cnt.cells (Mo.Bd.c1 x2)))]
noncomputable def Mo.dNew_e1 (dv : Int) : Mo.Bd := Mo.dWire_v1 (Mo.Bd.mk (Mo.Cl.mk 0 18446744073709551615 0 18446744073709551615 0 18446744073709551615 0 18446744073709551615 0 18446744073709551615 0 18446744073709551615 0 18446744073709551615 0 18446744073709551615 0 1) (Mo.Wd.mk false false false 0 0 0 0) (Mo.Rt.mk 0 0 0 0 false false dv) (Mo.Rs.mk 1 0 0 1 false) (Mo.Ln.mk 0 0) (Mo.Cnt.mk 0 0 0 0 0) (Mo.Cnt.mk 0 0 0 0 0))
noncomputable def Mo.dNew_g1 (dv : Int) : Bool := (if ((iE dv 0) = true) then true else false)
noncomputable def Mo.dNew_pre (dv : Int) : Prop := (if ((iE dv 0) = true) then True else (Mo.dWire_pre (Mo.Bd.mk (Mo.Cl.mk 0 18446744073709551615 0 18446744073709551615 0 18446744073709551615 0 18446744073709551615 0 18446744073709551615 0 18446744073709551615 0 18446744073709551615 0 18446744073709551615 0 1) (Mo.Wd.mk false false false 0 0 0 0) (Mo.Rt.mk 0 0 0 0 false false dv) (Mo.Rs.mk 1 0 0 1 false) (Mo.Ln.mk 0 0) (Mo.Cnt.mk 0 0 0 0 0) (Mo.Cnt.mk 0 0 0 0 0))))
noncomputable def dNew_tree (dv : Int) (K : S → List Ob → Prop) : Prop := (if ((iE dv 0) = true) then K (.tup [.nil, (.iv .i64 5)]) [] else (((some (S.agg ((S.il IntKind.i64 1) :: ((S.il IntKind.i64 2) :: ((S.iv IntKind.u32 dv) :: List.nil))))) = (some (S.agg ((S.il IntKind.i64 1) :: ((S.il IntKind.i64 2) :: ((S.iv IntKind.u32 dv) :: List.nil)))))) ∧ (((some (S.agg ((S.il IntKind.i64 1) :: ((S.il IntKind.i64 2) :: ((S.iv IntKind.u32 dv) :: List.nil))))) = (some (S.agg ((S.il IntKind.i64 1) :: ((S.il IntKind.i64 2) :: ((S.iv IntKind.u32 dv) :: List.nil)))))) ∧ (((some (S.agg ((S.il IntKind.i64 1) :: ((S.il IntKind.i64 2) :: ((S.iv IntKind.u32 dv) :: List.nil))))) = (some (S.agg ((S.il IntKind.i64 1) :: ((S.il IntKind.i64 2) :: ((S.iv IntKind.u32 dv) :: List.nil)))))) ∧ (((2 : Int) = 2) ∧ (((1 : Int) = 1) ∧ ((Mo.dWire_pre (Mo.Bd.mk (Mo.Cl.mk 0 18446744073709551615 0 18446744073709551615 0 18446744073709551615 0 18446744073709551615 0 18446744073709551615 0 18446744073709551615 0 18446744073709551615 0 18446744073709551615 0 1) (Mo.Wd.mk false false false 0 0 0 0) (Mo.Rt.mk 0 0 0 0 false false dv) (Mo.Rs.mk 1 0 0 1 false) (Mo.Ln.mk 0 0) (Mo.Cnt.mk 0 0 0 0 0) (Mo.Cnt.mk 0 0 0 0 0))) ∧ K (.tup [(.ptr 0 (.l 0)), (.iv .i64 0)]) (hm_TrI_1 dv (Mo.dNew_e1 dv)))))))))
theorem dNew_run (dv : Int) (K : S → List Ob → Prop) : callX (std noW) tt ffTrH stopTrH (lpB noW Tryz.prog) noL 200 11 [.agg [.il .i64 1, .il .i64 2, .iv .u32 dv]] [] (gcK 0 (ivK true K)) = dNew_tree dv K := by kernel_rfl
noncomputable def dNew_T (dv : Int) (K : S → List Ob → Prop) : Prop := Mo.dNew_pre dv ∧ (if (Mo.dNew_g1 dv) = true then K (.tup [.nil, (.iv .i64 5)]) [] else K (.tup [(.ptr 0 (.l 0)), (.iv .i64 0)]) (hm_TrI_1 dv (Mo.dNew_e1 dv)))
theorem dNew_all (dv : Int) (K : S → List Ob → Prop) (h : dNew_T dv K) : dNew_tree dv K := by
  unfold dNew_T at h; obtain ⟨h0, h⟩ := h; unfold dNew_tree
  try simp only [Mo.dNew_g1] at h0 h
  try simp only [Mo.dNew_pre] at h0 h
  repeat' first | exact h | refine ⟨rfl, ?_⟩ | (refine ⟨h0.1, ?_⟩; replace h0 := h0.2) | refine ⟨h0, ?_⟩ | exact h0.elim | (refine ite_intro (fun c => ?_) fun c => ?_) <;> first | simp only [if_pos c] at h0 h | simp only [if_neg c] at h0 h | skip
theorem dNew_sem (dv : Int) (K : S → List Ob → Prop) (h : dNew_T dv K) : CallSem noW Tryz.prog 11 [.agg [.il .i64 1, .il .i64 2, .iv .u32 dv]] [] K := iv_call (callX_ok tok (by kernel_rfl) ffTrHok stopTrH_ok _ _ _ _ (Eq.mpr (dNew_run dv K) (dNew_all dv K h)))
noncomputable def dNew_con : Con := ⟨[.agg [.same (.il .i64 1), .same (.il .i64 2), .int .u32]], [], [], fun a K => match a with | ⟨[dv], [], [], [], []⟩ => dNew_T dv K | _ => False⟩
theorem dNew_ok : dNew_con.ok noW Tryz.prog 11 := by
  intro a K h
  simp only [dNew_con] at h
  split at h
  case h_2 => exact h.elim
  exact dNew_sem _ K h
noncomputable def tabTrI (n : Nat) : List Con := match Nat.beq n 11 with | true => [dNew_con] | false => tabTrH n
theorem tabTrI_ok : ∀ f, ∀ c ∈ tabTrI f, c.ok noW Tryz.prog f := by
  intro f c hc
  unfold tabTrI at hc
  split at hc
  · rename_i hf; have := Nat.eq_of_beq_eq_true hf; subst this
    simp only [List.mem_cons, List.not_mem_nil, or_false] at hc
    subst hc; exact dNew_ok
  exact tabTrH_ok f c hc
noncomputable def ffTrI (n : Nat) : Option FI := match Nat.beq n 11 with | true => none | false => ffTrH n
theorem ffTrIok : FOk Tryz.prog ffTrI := fun f fi hf => by
  unfold ffTrI at hf
  split at hf
  · cases hf
  exact ffTrHok f fi hf
noncomputable def stopTrI : CallT := stopC tabTrI stopB
theorem stopTrI_ok : ∀ f args h K, stopTrI f args h K → CallSem noW Tryz.prog f args h K := stopC_ok tabTrI_ok stopB_ok
end Go.SX.Y
