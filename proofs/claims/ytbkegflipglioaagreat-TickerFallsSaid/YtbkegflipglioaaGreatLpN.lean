/- What Go functions come to (lifted). -/
import Derived.Test.YtbkegflipglioaaGreatLpA
import Derived.Test.YtbkegflipglioaaGreatLpB
set_option maxRecDepth 20000
namespace Go.SX.Y
open Go.Proofs Go.RowKit
noncomputable def hm_LpN_1 (x1 : Int) (x2 : List (List Int)) (x3 : Mo.Cl) (x4 : Nat) (x5 : Mo.Wd) (x6 : Mo.Rt) (x7 : Mo.Rs) (x8 : Mo.Ln) : List Ob := [(.cells 131 [(.ptr 1 (.l 0)), (.ptr 2 (.l 0)), (.ptr 3 (.l 0)), (.ptr 4 (.l 0)), (.ptr 5 (.l 0)), (.ptr 6 (.l 0)), (.ptr 7 (.l 0)), (.iv .i64 1), (.iv .i64 1), (.iv .u32 x1), (.nsl 11 (.v (lenR x2)) false false)]), (.cells 183 (Mo.Cl.cells x3)), (.cells 188 [(.tsl 8 (.v x4) 1)]), (.cells 194 (Mo.Wd.cells x5)), (.cells 190 (Mo.Rt.cells x6)), (.cells 200 (Mo.Rs.cells x7)), (.cells 204 (Mo.Ln.cells x8)), (.cells 227 [(.mp 9)]), (.rowT 185 1 x4 [(.ptr 10 (.l 0))]), (.mapo [(.agg [(.il .u32 33554432), (.il .u32 49152)]), (.agg [(.il .u32 268500992), (.il .u32 256)]), (.agg [(.il .u32 268566528), (.il .u32 20)]), (.agg [(.il .u32 268632064), (.il .u32 16)]), (.agg [(.il .u32 268697600), (.il .u32 36)]), (.agg [(.il .u32 268763136), (.il .u32 12)])] [(.ifc 107 (.ptr 1 (.l 0))), (.ifc 110 (.ptr 2 (.l 0))), (.ifc 119 (.ptr 3 (.l 0))), (.ifc 125 (.ptr 5 (.l 0))), (.ifc 44 (.ptr 4 (.l 0))), (.ifc 127 (.ptr 6 (.l 0)))]), (.opt (iL 0 (castI 1)) 246 [(.il .u32 0), (.il .u32 0), (.il .u32 0), (.il .u32 0), (.il .u32 0)]), (.nrow 73 [.i .u64, .i .i64] x2)]
noncomputable def Mo.dNew_v1  : Mo.Cl := (Mo.Cl.mk 0 18446744073709551615 0 18446744073709551615 0 18446744073709551615 0 18446744073709551615 0 18446744073709551615 0 18446744073709551615 0 18446744073709551615 0 18446744073709551615 0 1)
noncomputable def Mo.dNew_v2  : Mo.Wd := (Mo.Wd.mk false false false 0 0 0 0)
noncomputable def Mo.dNew_v3 (dv : Int) : Mo.Rt := (Mo.Rt.mk 0 0 0 0 false false dv)
noncomputable def Mo.dNew_v4  : Mo.Rs := (Mo.Rs.mk 1 0 0 1 false)
noncomputable def Mo.dNew_v5  : Mo.Ln := (Mo.Ln.mk 0 0)
noncomputable def Mo.dNew_g1 (dv : Int) : Bool := (if ((iE dv 0) = true) then true else false)
noncomputable def Mo.dNew_pre (dv : Int) : Prop := (if ((iE dv 0) = true) then True else ((iL 0 (castI 1)) = true))
noncomputable def dNew_tree (dv : Int) (K : S → List Ob → Prop) : Prop := (if ((iE dv 0) = true) then K (.tup [.nil, (.iv .i64 5)]) [] else (((some (S.agg ((S.il IntKind.i64 1) :: ((S.il IntKind.i64 1) :: ((S.iv IntKind.u32 dv) :: List.nil))))) = (some (S.agg ((S.il IntKind.i64 1) :: ((S.il IntKind.i64 1) :: ((S.iv IntKind.u32 dv) :: List.nil)))))) ∧ (((some (S.agg ((S.il IntKind.i64 1) :: ((S.il IntKind.i64 1) :: ((S.iv IntKind.u32 dv) :: List.nil))))) = (some (S.agg ((S.il IntKind.i64 1) :: ((S.il IntKind.i64 1) :: ((S.iv IntKind.u32 dv) :: List.nil)))))) ∧ (((some (S.agg ((S.il IntKind.i64 1) :: ((S.il IntKind.i64 1) :: ((S.iv IntKind.u32 dv) :: List.nil))))) = (some (S.agg ((S.il IntKind.i64 1) :: ((S.il IntKind.i64 1) :: ((S.iv IntKind.u32 dv) :: List.nil)))))) ∧ (((iL 0 (castI 1)) = true) ∧ K (.tup [(.ptr 0 (.l 0)), (.iv .i64 0)]) (hm_LpN_1 dv List.nil (Mo.Cl.mk 0 18446744073709551615 0 18446744073709551615 0 18446744073709551615 0 18446744073709551615 0 18446744073709551615 0 18446744073709551615 0 18446744073709551615 0 18446744073709551615 0 1) (Nat.succ 0) (Mo.Wd.mk false false false 0 0 0 0) (Mo.Rt.mk 0 0 0 0 false false dv) (Mo.Rs.mk 1 0 0 1 false) (Mo.Ln.mk 0 0)))))))
theorem dNew_run (dv : Int) (K : S → List Ob → Prop) : callX (std noW) tt ffLpA stopLpA (lpB noW Tryz.prog) noL 60 11 [.agg [.il .i64 1, .il .i64 1, .iv .u32 dv]] [] (gcK 0 (wrsK [.opt [none, none, none, none, none, none, none, none, none, none, some (iL 0 (castI 1), 246)], .tsl 2 0 1, .nilc 0 10 73 [.i .u64, .i .i64]] (ivK true K))) = dNew_tree dv K := by kernel_rfl
noncomputable def dNew_T (dv : Int) (K : S → List Ob → Prop) : Prop := Mo.dNew_pre dv ∧ (if (Mo.dNew_g1 dv) = true then K (.tup [.nil, (.iv .i64 5)]) [] else K (.tup [(.ptr 0 (.l 0)), (.iv .i64 0)]) (hm_LpN_1 dv List.nil (Mo.dNew_v1) (Nat.succ 0) (Mo.dNew_v2) (Mo.dNew_v3 dv) (Mo.dNew_v4) (Mo.dNew_v5)))
theorem dNew_all (dv : Int) (K : S → List Ob → Prop) (h : dNew_T dv K) : dNew_tree dv K := by
  unfold dNew_T at h; obtain ⟨h0, h⟩ := h; unfold dNew_tree
  try simp only [Mo.dNew_v1] at h0 h
  try simp only [Mo.dNew_v2] at h0 h
  try simp only [Mo.dNew_v3] at h0 h
  try simp only [Mo.dNew_v4] at h0 h
  try simp only [Mo.dNew_v5] at h0 h
  try simp only [Mo.dNew_g1] at h0 h
  try simp only [Mo.dNew_pre] at h0 h
  repeat' first | exact h | refine ⟨rfl, ?_⟩ | (refine ⟨h0.1, ?_⟩; replace h0 := h0.2) | refine ⟨h0, ?_⟩ | exact h0.elim | (refine ite_intro (fun c => ?_) fun c => ?_) <;> first | simp only [if_pos c] at h0 h | simp only [if_neg c] at h0 h | skip
theorem dNew_sem (dv : Int) (K : S → List Ob → Prop) (h : dNew_T dv K) : CallSem noW Tryz.prog 11 [.agg [.il .i64 1, .il .i64 1, .iv .u32 dv]] [] K := wr_call (callX_ok tok (by kernel_rfl) ffLpAok stopLpA_ok _ _ _ _ (Eq.mpr (dNew_run dv K) (dNew_all dv K h)))
noncomputable def dNew_con : Con := ⟨[.agg [.same (.il .i64 1), .same (.il .i64 1), .int .u32]], [], [], fun a K => match a with | ⟨[dv], [], [], [], []⟩ => dNew_T dv K | _ => False⟩
theorem dNew_ok : dNew_con.ok noW Tryz.prog 11 := by
  intro a K h
  simp only [dNew_con] at h
  split at h
  case h_2 => exact h.elim
  exact dNew_sem _ K h
noncomputable def tabLpN (n : Nat) : List Con := match Nat.beq n 11 with | true => [dNew_con] | false => tabLpA n
theorem tabLpN_ok : ∀ f, ∀ c ∈ tabLpN f, c.ok noW Tryz.prog f := by
  intro f c hc
  unfold tabLpN at hc
  split at hc
  · rename_i hf; have := Nat.eq_of_beq_eq_true hf; subst this
    simp only [List.mem_cons, List.not_mem_nil, or_false] at hc
    subst hc; exact dNew_ok
  exact tabLpA_ok f c hc
noncomputable def ffLpN (n : Nat) : Option FI := match Nat.beq n 11 with | true => none | false => ffLpA n
theorem ffLpNok : FOk Tryz.prog ffLpN := fun f fi hf => by
  unfold ffLpN at hf
  split at hf
  · cases hf
  exact ffLpAok f fi hf
noncomputable def stopLpN : CallT := stopC tabLpN stopB
theorem stopLpN_ok : ∀ f args h K, stopLpN f args h K → CallSem noW Tryz.prog f args h K := stopC_ok tabLpN_ok stopB_ok
end Go.SX.Y
