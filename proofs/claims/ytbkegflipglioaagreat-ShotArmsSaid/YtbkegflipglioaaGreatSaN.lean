/- What Go functions come to (lifted). -/
import Derived.Test.YtbkegflipglioaaGreatSaI
set_option maxRecDepth 20000
namespace Go.SX.Y
open Go.Proofs Go.RowKit
noncomputable def hm_SaN_1 (x1 : Int) (x2 : Mo.Bd) : List Ob := [(.cells 131 [(.ptr 1 (.l 0)), (.ptr 2 (.l 0)), (.ptr 3 (.l 0)), (.ptr 4 (.l 0)), (.ptr 5 (.l 0)), (.ptr 6 (.l 0)), (.ptr 7 (.l 0)), (.iv .i64 x1), (.iv .i64 1), (.iv .u32 10), (.raw (.slice none 0 0))]), (.cells 183 (Mo.Cl.cells (Mo.Bd.k x2))), (.cells 188 [(.sli 8 (.l 0) (.l 1) (.lit (.l 1)) false)]), (.cells 194 (Mo.Wd.cells (Mo.Bd.w x2))), (.cells 190 (Mo.Rt.cells (Mo.Bd.t x2))), (.cells 200 (Mo.Rs.cells (Mo.Bd.r x2))), (.cells 204 (Mo.Ln.cells (Mo.Bd.l x2))), (.cells 227 [(.mp 9)]), (.row 185 1 (.l 1) [(.ptr 10 (.l 0))]), (.mapo [(.agg [(.il .u32 33554432), (.il .u32 49152)]), (.agg [(.il .u32 268500992), (.il .u32 256)]), (.agg [(.il .u32 268566528), (.il .u32 20)]), (.agg [(.il .u32 268632064), (.il .u32 16)]), (.agg [(.il .u32 268697600), (.il .u32 36)]), (.agg [(.il .u32 268763136), (.il .u32 12)])] [(.ifc 107 (.ptr 1 (.l 0))), (.ifc 110 (.ptr 2 (.l 0))), (.ifc 119 (.ptr 3 (.l 0))), (.ifc 125 (.ptr 5 (.l 0))), (.ifc 44 (.ptr 4 (.l 0))), (.ifc 127 (.ptr 6 (.l 0)))]), (.cells 246 (Mo.Cnt.cells (Mo.Bd.c x2)))]
noncomputable def Mo.dNew_e1 (harts : Int) : Mo.Bd := Mo.dWire_f16 harts (Mo.Bd.mk (Mo.kReset_v1 (Mo.Cl.mk 0 0 0 0 0 0 0 0 0 0 0 0 0 0 0 0 0 harts)) (Mo.Wd.mk false false false 0 0 0 0) (Mo.Rt.mk 0 0 0 0 false false 10) (Mo.Rs.mk 1 0 0 1 false) (Mo.Ln.mk 0 0) (Mo.Cnt.mk 0 0 0 0 0))
noncomputable def Mo.dNew_g1 (harts : Int) : Bool := (if ((iL harts 1) = true) then true else (if ((iL 8 harts) = true) then true else false))
noncomputable def Mo.dNew_pre (harts : Int) : Prop := (if ((iL harts 1) = true) then True else (if ((iL 8 harts) = true) then True else (Mo.dWire_p harts (Mo.Bd.mk (Mo.kReset_v1 (Mo.Cl.mk 0 0 0 0 0 0 0 0 0 0 0 0 0 0 0 0 0 harts)) (Mo.Wd.mk false false false 0 0 0 0) (Mo.Rt.mk 0 0 0 0 false false 10) (Mo.Rs.mk 1 0 0 1 false) (Mo.Ln.mk 0 0) (Mo.Cnt.mk 0 0 0 0 0)))))
noncomputable def dNew_tree (harts : Int) (K : S → List Ob → Prop) : Prop := (if ((iL harts 1) = true) then K (.tup [.nil, (.iv .i64 5)]) [] else (if ((iL 8 harts) = true) then K (.tup [.nil, (.iv .i64 5)]) [] else (True ∧ (((some (S.agg ((S.iv IntKind.i64 harts) :: ((S.il IntKind.i64 1) :: ((S.il IntKind.u32 10) :: List.nil))))) = (some (S.agg ((S.iv IntKind.i64 harts) :: ((S.il IntKind.i64 1) :: ((S.il IntKind.u32 10) :: List.nil)))))) ∧ (((some (S.agg ((S.iv IntKind.i64 harts) :: ((S.il IntKind.i64 1) :: ((S.il IntKind.u32 10) :: List.nil))))) = (some (S.agg ((S.iv IntKind.i64 harts) :: ((S.il IntKind.i64 1) :: ((S.il IntKind.u32 10) :: List.nil)))))) ∧ (((some (S.agg ((S.iv IntKind.i64 harts) :: ((S.il IntKind.i64 1) :: ((S.il IntKind.u32 10) :: List.nil))))) = (some (S.agg ((S.iv IntKind.i64 harts) :: ((S.il IntKind.i64 1) :: ((S.il IntKind.u32 10) :: List.nil)))))) ∧ (((1 : Int) = 1) ∧ ((Mo.dWire_p harts (Mo.Bd.mk (Mo.kReset_v1 (Mo.Cl.mk 0 0 0 0 0 0 0 0 0 0 0 0 0 0 0 0 0 harts)) (Mo.Wd.mk false false false 0 0 0 0) (Mo.Rt.mk 0 0 0 0 false false 10) (Mo.Rs.mk 1 0 0 1 false) (Mo.Ln.mk 0 0) (Mo.Cnt.mk 0 0 0 0 0))) ∧ K (.tup [(.ptr 0 (.l 0)), (.iv .i64 0)]) (hm_SaN_1 harts (Mo.dNew_e1 harts))))))))))
theorem dNew_run (harts : Int) (K : S → List Ob → Prop) : callX (std noW) tt ffSaI stopSaI (lpB noW Tryz.prog) noL 200 11 [.agg [.iv .i64 harts, .il .i64 1, .il .u32 10]] [] (gcK 0 (ivK true K)) = dNew_tree harts K := by kernel_rfl
noncomputable def dNew_T (harts : Int) (K : S → List Ob → Prop) : Prop := Mo.dNew_pre harts ∧ (if (Mo.dNew_g1 harts) = true then K (.tup [.nil, (.iv .i64 5)]) [] else K (.tup [(.ptr 0 (.l 0)), (.iv .i64 0)]) (hm_SaN_1 harts (Mo.dNew_e1 harts)))
theorem dNew_all (harts : Int) (K : S → List Ob → Prop) (h : dNew_T harts K) : dNew_tree harts K := by
  unfold dNew_T at h; obtain ⟨h0, h⟩ := h; unfold dNew_tree
  try simp only [Mo.dNew_g1] at h0 h
  try simp only [Mo.dNew_pre] at h0 h
  repeat' (first | (refine ite_intro (fun c => ?_) (fun c => ?_) <;> first | simp only [if_pos c] at h0 h | simp only [if_neg c] at h0 h | skip) | with_reducible (replace h0 := (h0 : True ∧ _).2) | with_reducible (refine ⟨rfl, ?_⟩) | with_reducible (refine ⟨h0.1, ?_⟩; replace h0 := h0.2) | with_reducible (refine ⟨h0, ?_⟩) | (refine ⟨h0.1, ?_⟩; replace h0 := h0.2) | refine ⟨h0, ?_⟩ | refine ⟨rfl, ?_⟩ | refine ⟨trivial, ?_⟩ | refine ⟨by assumption, ?_⟩ | refine ⟨Eq.symm (by assumption), ?_⟩ | exact h | refine ⟨?_, ?_⟩ | exact h0.elim | trivial | contradiction | (simp only [if_true, if_false, Bool.false_eq_true] at h; exact h))
theorem dNew_sem (harts : Int) (K : S → List Ob → Prop) (h : dNew_T harts K) : CallSem noW Tryz.prog 11 [.agg [.iv .i64 harts, .il .i64 1, .il .u32 10]] [] K := iv_call (callX_ok tok (by kernel_rfl) ffSaIok stopSaI_ok _ _ _ _ (Eq.mpr (dNew_run harts K) (dNew_all harts K h)))
noncomputable def dNew_con : Con := ⟨[.agg [.int .i64, .same (.il .i64 1), .same (.il .u32 10)]], [], [], fun a K => match a with | ⟨[harts], [], [], [], []⟩ => dNew_T harts K | _ => False⟩
theorem dNew_ok : dNew_con.ok noW Tryz.prog 11 := by
  intro a K h
  simp only [dNew_con] at h
  split at h
  case h_2 => exact h.elim
  exact dNew_sem _ K h
noncomputable def tabSaN (n : Nat) : List Con := match Nat.beq n 11 with | true => [dNew_con] | false => tabSaI n
theorem tabSaN_ok : ∀ f, ∀ c ∈ tabSaN f, c.ok noW Tryz.prog f := by
  intro f c hc
  unfold tabSaN at hc
  split at hc
  · rename_i hf; have := Nat.eq_of_beq_eq_true hf; subst this
    simp only [List.mem_cons, List.not_mem_nil, or_false] at hc
    subst hc; exact dNew_ok
  exact tabSaI_ok f c hc
noncomputable def ffSaN (n : Nat) : Option FI := match Nat.beq n 11 with | true => none | false => ffSaI n
theorem ffSaNok : FOk Tryz.prog ffSaN := fun f fi hf => by
  unfold ffSaN at hf
  split at hf
  · cases hf
  exact ffSaIok f fi hf
noncomputable def stopSaN : CallT := stopC tabSaN stopB
theorem stopSaN_ok : ∀ f args h K, stopSaN f args h K → CallSem noW Tryz.prog f args h K := stopC_ok tabSaN_ok stopB_ok
end Go.SX.Y
