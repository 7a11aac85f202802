/- What Go functions come to (lifted). -/
import Derived.Test.YtbkegflipglioaaGreatSaF
set_option maxRecDepth 20000
namespace Go.SX.Y
open Go.Proofs Go.RowKit
noncomputable def h_PT (made : Int) (spent : Int) (harts : Int) (dv : Int) (gs : List (List Int)) (b : Mo.Bd) : List Ob := [.cells 135 [.iv .i64 made, .iv .u64 spent, .iv .i64 0, .ptr 1 (.l 0), .nsl 2 (.v (lenR gs)) false true], .cells 131 [.ptr 3 (.l 0), .ptr 4 (.l 0), .ptr 5 (.l 0), .ptr 6 (.l 0), .ptr 7 (.l 0), .ptr 8 (.l 0), .ptr 9 (.l 0), .iv .i64 harts, .iv .i64 1, .iv .u32 dv, .raw (.slice none 0 0)], .nrow 22 [.i .u32] gs, .cells 183 (Mo.Cl.cells (Mo.Bd.k b)), .cells 188 [.sli 10 (.l 0) (.l 1) (.lit (.l 1)) false], .cells 194 (Mo.Wd.cells (Mo.Bd.w b)), .cells 190 (Mo.Rt.cells (Mo.Bd.t b)), .cells 200 (Mo.Rs.cells (Mo.Bd.r b)), .cells 204 (Mo.Ln.cells (Mo.Bd.l b)), .cells 227 [.mp 11], .row 185 1 (.l 1) [.ptr 12 (.l 0)], .mapo [.agg [.il .u32 33554432, .il .u32 49152], .agg [.il .u32 268500992, .il .u32 256], .agg [.il .u32 268566528, .il .u32 20], .agg [.il .u32 268632064, .il .u32 16], .agg [.il .u32 268697600, .il .u32 36], .agg [.il .u32 268763136, .il .u32 12]] [.ifc 107 (.ptr 3 (.l 0)), .ifc 110 (.ptr 4 (.l 0)), .ifc 119 (.ptr 5 (.l 0)), .ifc 125 (.ptr 7 (.l 0)), .ifc 44 (.ptr 6 (.l 0)), .ifc 127 (.ptr 8 (.l 0))], .cells 246 (Mo.Cnt.cells (Mo.Bd.c b))]
def t_PT : List OTm := [.cells 135 [.int .i64, .int .u64, .eqI .i64 0, .ptr 1, .nsl 2 0 true], .cells 131 [.ptr 3, .ptr 4, .ptr 5, .ptr 6, .ptr 7, .ptr 8, .ptr 9, .int .i64, .eqI .i64 1, .int .u32, .same (.raw (.slice none 0 0))], .nrow 22 [.i .u32], .cellsV 183, .cells 188 [.same (.sli 10 (.l 0) (.l 1) (.lit (.l 1)) false)], .cellsV 194, .cellsV 190, .cellsV 200, .cellsV 204, .cells 227 [.mp 11], .row 185 1 1 [.ptr 12], .mapo [.agg [.same (.il .u32 33554432), .same (.il .u32 49152)], .agg [.same (.il .u32 268500992), .same (.il .u32 256)], .agg [.same (.il .u32 268566528), .same (.il .u32 20)], .agg [.same (.il .u32 268632064), .same (.il .u32 16)], .agg [.same (.il .u32 268697600), .same (.il .u32 36)], .agg [.same (.il .u32 268763136), .same (.il .u32 12)]] [.ifc 107 (.ptr 3), .ifc 110 (.ptr 4), .ifc 119 (.ptr 5), .ifc 125 (.ptr 7), .ifc 44 (.ptr 6), .ifc 127 (.ptr 8)], .cellsV 246]
noncomputable def Mo.pgap_e1 (made : Int) (harts : Int) (gs : List (List Int)) (b : Mo.Bd) : Mo.Bd := Mo.dTick_v1 (cvq (elI gs (Int.toNat (rmi made (castI (lenR gs)))) 0) 0) harts b
noncomputable def Mo.pgap_v1 (made : Int) (spent : Int) (gs : List (List Int)) : Int := (if ((iL 0 (castI (lenR gs))) = true) then (if ((iE ((spent + (cvq (elI gs (Int.toNat (rmi made (castI (lenR gs)))) 0) 0)) / 18446744073709551616) 0) = true) then ((spent + (cvq (elI gs (Int.toNat (rmi made (castI (lenR gs)))) 0) 0)) % 18446744073709551616) else 18446744073709551615) else (if ((iE ((spent + 0) / 18446744073709551616) 0) = true) then ((spent + 0) % 18446744073709551616) else 18446744073709551615))
noncomputable def Mo.pgap_v2 (made : Int) (harts : Int) (gs : List (List Int)) (b : Mo.Bd) : Mo.Bd := (if ((iL 0 (castI (lenR gs))) = true) then (Mo.pgap_e1 made harts gs b) else (Mo.dTick_v1 0 harts b))
noncomputable def Mo.pgap_pre (made : Int) (spent : Int) (harts : Int) (gs : List (List Int)) (b : Mo.Bd) : Prop := (if ((iL 0 (castI (lenR gs))) = true) then (if ((iN (castI (lenR gs)) 0) = true) then (if ((iM 0 (rmi made (castI (lenR gs)))) = true) then (if ((iL (rmi made (castI (lenR gs))) (castI (lenR gs))) = true) then ((((0 : Int) ≤ spent) ∧ ((0 : Int) ≤ (cvq (elI gs (Int.toNat (rmi made (castI (lenR gs)))) 0) 0))) ∧ (Mo.dTick_pre (cvq (elI gs (Int.toNat (rmi made (castI (lenR gs)))) 0) 0) harts b)) else False) else False) else False) else ((((0 : Int) ≤ spent) ∧ ((0 : Int) ≤ 0)) ∧ (Mo.dTick_pre 0 harts b)))
noncomputable def pgap_tree (made : Int) (spent : Int) (harts : Int) (dv : Int) (gs : List (List Int)) (b : Mo.Bd) (K : S → List Ob → Prop) : Prop := (if ((iL 0 (castI (lenR gs))) = true) then (if ((iL 0 (castI (lenR gs))) = true) then (if ((iN (castI (lenR gs)) 0) = true) then (if ((iM 0 (rmi made (castI (lenR gs)))) = true) then (if ((iL (rmi made (castI (lenR gs))) (castI (lenR gs))) = true) then ((((0 : Int) ≤ spent) ∧ ((0 : Int) ≤ (cvq (elI gs (Int.toNat (rmi made (castI (lenR gs)))) 0) 0))) ∧ (((0 : Int) = 0) ∧ (if ((iE ((spent + (cvq (elI gs (Int.toNat (rmi made (castI (lenR gs)))) 0) 0)) / 18446744073709551616) 0) = true) then (((1 : Int) = 1) ∧ ((Mo.dTick_pre (cvq (elI gs (Int.toNat (rmi made (castI (lenR gs)))) 0) 0) harts b) ∧ K (.tup []) (h_PT (adi made 1) ((spent + (cvq (elI gs (Int.toNat (rmi made (castI (lenR gs)))) 0) 0)) % 18446744073709551616) harts dv gs (Mo.pgap_e1 made harts gs b)))) else (((1 : Int) = 1) ∧ ((Mo.dTick_pre (cvq (elI gs (Int.toNat (rmi made (castI (lenR gs)))) 0) 0) harts b) ∧ K (.tup []) (h_PT (adi made 1) 18446744073709551615 harts dv gs (Mo.pgap_e1 made harts gs b))))))) else False) else False) else False) else False) else ((((0 : Int) ≤ spent) ∧ ((0 : Int) ≤ 0)) ∧ (((0 : Int) = 0) ∧ (if ((iE ((spent + 0) / 18446744073709551616) 0) = true) then (((1 : Int) = 1) ∧ ((Mo.dTick_pre 0 harts b) ∧ K (.tup []) (h_PT (adi made 1) ((spent + 0) % 18446744073709551616) harts dv gs (Mo.dTick_v1 0 harts b)))) else (((1 : Int) = 1) ∧ ((Mo.dTick_pre 0 harts b) ∧ K (.tup []) (h_PT (adi made 1) 18446744073709551615 harts dv gs (Mo.dTick_v1 0 harts b))))))))
theorem pgap_run (made : Int) (spent : Int) (harts : Int) (dv : Int) (gs : List (List Int)) (b : Mo.Bd) (K : S → List Ob → Prop) : callX (std noW) tt ffSaF stopSaF (lpB noW Tryz.prog) noL 8 138 [.ptr 0 (.l 0)] (h_PT made spent harts dv gs b) (gcK 13 (ivK false K)) = pgap_tree made spent harts dv gs b K := by kernel_rfl
noncomputable def pgap_T (made : Int) (spent : Int) (harts : Int) (dv : Int) (gs : List (List Int)) (b : Mo.Bd) (K : S → List Ob → Prop) : Prop := Mo.pgap_pre made spent harts gs b ∧ K (.tup []) (h_PT (adi made 1) (Mo.pgap_v1 made spent gs) harts dv gs (Mo.pgap_v2 made harts gs b))
theorem pgap_all (made : Int) (spent : Int) (harts : Int) (dv : Int) (gs : List (List Int)) (b : Mo.Bd) (K : S → List Ob → Prop) (h : pgap_T made spent harts dv gs b K) : pgap_tree made spent harts dv gs b K := by
  unfold pgap_T at h; obtain ⟨h0, h⟩ := h; unfold pgap_tree
  try simp only [Mo.pgap_v1] at h0 h
  try simp only [Mo.pgap_v2] at h0 h
  try simp only [Mo.pgap_pre] at h0 h
  repeat' (first | (refine ite_intro (fun c => ?_) (fun c => ?_) <;> first | simp only [if_pos c] at h0 h | simp only [if_neg c] at h0 h | skip) | with_reducible (replace h0 := (h0 : True ∧ _).2) | with_reducible (refine ⟨rfl, ?_⟩) | with_reducible (refine ⟨h0.1, ?_⟩; replace h0 := h0.2) | with_reducible (refine ⟨h0, ?_⟩) | (refine ⟨h0.1, ?_⟩; replace h0 := h0.2) | refine ⟨h0, ?_⟩ | refine ⟨rfl, ?_⟩ | refine ⟨trivial, ?_⟩ | refine ⟨by assumption, ?_⟩ | refine ⟨Eq.symm (by assumption), ?_⟩ | exact h | refine ⟨?_, ?_⟩ | exact h0.elim | trivial | contradiction | (simp only [if_true, if_false, Bool.false_eq_true] at h; exact h))
theorem pgap_sem (made : Int) (spent : Int) (harts : Int) (dv : Int) (gs : List (List Int)) (b : Mo.Bd) (K : S → List Ob → Prop) (h : pgap_T made spent harts dv gs b K) : CallSem noW Tryz.prog 138 [.ptr 0 (.l 0)] (h_PT made spent harts dv gs b) K := iv_call (callX_ok tok (by kernel_rfl) ffSaFok stopSaF_ok _ _ _ _ (Eq.mpr (pgap_run made spent harts dv gs b K) (pgap_all made spent harts dv gs b K h)))
noncomputable def pgap_con : Con := ⟨[.ptr 0], t_PT, [], fun a K => match a with | ⟨[made, spent, harts, dv], [], [], [cs_b_k, cs_b_w, cs_b_t, cs_b_r, cs_b_l, cs_b_c], [gs]⟩ => (match Mo.Cl.is cs_b_k with | true => (match Mo.Wd.is cs_b_w with | true => (match Mo.Rt.is cs_b_t with | true => (match Mo.Rs.is cs_b_r with | true => (match Mo.Ln.is cs_b_l with | true => (match Mo.Cnt.is cs_b_c with | true => pgap_T made spent harts dv gs (Mo.Bd.mk (Mo.Cl.of cs_b_k) (Mo.Wd.of cs_b_w) (Mo.Rt.of cs_b_t) (Mo.Rs.of cs_b_r) (Mo.Ln.of cs_b_l) (Mo.Cnt.of cs_b_c)) K | false => False) | false => False) | false => False) | false => False) | false => False) | false => False) | _ => False⟩
theorem pgap_ok : pgap_con.ok noW Tryz.prog 138 := by
  intro a K h
  simp only [pgap_con] at h
  split at h
  case h_2 => exact h.elim
  split at h
  case h_2 => exact h.elim
  rename_i is_b_k
  split at h
  case h_2 => exact h.elim
  rename_i is_b_w
  split at h
  case h_2 => exact h.elim
  rename_i is_b_t
  split at h
  case h_2 => exact h.elim
  rename_i is_b_r
  split at h
  case h_2 => exact h.elim
  rename_i is_b_l
  split at h
  case h_2 => exact h.elim
  rename_i is_b_c
  exact CallSem.objs (pgap_sem _ _ _ _ _ _ K h) (fun _ _ _ h => h) ⟨WkO.same, WkO.same, WkO.same, WkO.cells (Mo.Cl.is_ok is_b_k), WkO.same, WkO.cells (Mo.Wd.is_ok is_b_w), WkO.cells (Mo.Rt.is_ok is_b_t), WkO.cells (Mo.Rs.is_ok is_b_r), WkO.cells (Mo.Ln.is_ok is_b_l), WkO.same, WkO.same, WkO.same, WkO.cells (Mo.Cnt.is_ok is_b_c), trivial⟩
noncomputable def Mo.pMade_v1 (made : Int) (spent : Int) : Int := (if ((stdQ QO.and (iE made 0) (stdQ QO.and (iE spent 0) (iE 0 0))) = true) then 0 else made)
noncomputable def pMade_tree (made : Int) (spent : Int) (harts : Int) (dv : Int) (gs : List (List Int)) (b : Mo.Bd) (K : S → List Ob → Prop) : Prop := (if ((stdQ QO.and (iE made 0) (stdQ QO.and (iE spent 0) (iE 0 0))) = true) then K (.iv .i64 0) (h_PT made spent harts dv gs b) else K (.iv .i64 made) (h_PT made spent harts dv gs b))
theorem pMade_run (made : Int) (spent : Int) (harts : Int) (dv : Int) (gs : List (List Int)) (b : Mo.Bd) (K : S → List Ob → Prop) : callX (std noW) tt ffSaF stopSaF (lpB noW Tryz.prog) noL 8 51 [.ptr 0 (.l 0)] (h_PT made spent harts dv gs b) (gcK 13 (ivK true K)) = pMade_tree made spent harts dv gs b K := by kernel_rfl
noncomputable def pMade_T (made : Int) (spent : Int) (harts : Int) (dv : Int) (gs : List (List Int)) (b : Mo.Bd) (K : S → List Ob → Prop) : Prop := True ∧ K (.iv .i64 (Mo.pMade_v1 made spent)) (h_PT made spent harts dv gs b)
theorem pMade_all (made : Int) (spent : Int) (harts : Int) (dv : Int) (gs : List (List Int)) (b : Mo.Bd) (K : S → List Ob → Prop) (h : pMade_T made spent harts dv gs b K) : pMade_tree made spent harts dv gs b K := by
  unfold pMade_T at h; obtain ⟨h0, h⟩ := h; unfold pMade_tree
  try simp only [Mo.pMade_v1] at h0 h
  repeat' first | exact h | (refine ite_intro (fun c => ?_) fun c => ?_) <;> first | simp only [if_pos c] at h0 h | simp only [if_neg c] at h0 h | skip
theorem pMade_sem (made : Int) (spent : Int) (harts : Int) (dv : Int) (gs : List (List Int)) (b : Mo.Bd) (K : S → List Ob → Prop) (h : pMade_T made spent harts dv gs b K) : CallSem noW Tryz.prog 51 [.ptr 0 (.l 0)] (h_PT made spent harts dv gs b) K := iv_call (callX_ok tok (by kernel_rfl) ffSaFok stopSaF_ok _ _ _ _ (Eq.mpr (pMade_run made spent harts dv gs b K) (pMade_all made spent harts dv gs b K h)))
noncomputable def pMade_con : Con := ⟨[.ptr 0], t_PT, [], fun a K => match a with | ⟨[made, spent, harts, dv], [], [], [cs_b_k, cs_b_w, cs_b_t, cs_b_r, cs_b_l, cs_b_c], [gs]⟩ => (match Mo.Cl.is cs_b_k with | true => (match Mo.Wd.is cs_b_w with | true => (match Mo.Rt.is cs_b_t with | true => (match Mo.Rs.is cs_b_r with | true => (match Mo.Ln.is cs_b_l with | true => (match Mo.Cnt.is cs_b_c with | true => pMade_T made spent harts dv gs (Mo.Bd.mk (Mo.Cl.of cs_b_k) (Mo.Wd.of cs_b_w) (Mo.Rt.of cs_b_t) (Mo.Rs.of cs_b_r) (Mo.Ln.of cs_b_l) (Mo.Cnt.of cs_b_c)) K | false => False) | false => False) | false => False) | false => False) | false => False) | false => False) | _ => False⟩
theorem pMade_ok : pMade_con.ok noW Tryz.prog 51 := by
  intro a K h
  simp only [pMade_con] at h
  split at h
  case h_2 => exact h.elim
  split at h
  case h_2 => exact h.elim
  rename_i is_b_k
  split at h
  case h_2 => exact h.elim
  rename_i is_b_w
  split at h
  case h_2 => exact h.elim
  rename_i is_b_t
  split at h
  case h_2 => exact h.elim
  rename_i is_b_r
  split at h
  case h_2 => exact h.elim
  rename_i is_b_l
  split at h
  case h_2 => exact h.elim
  rename_i is_b_c
  exact CallSem.objs (pMade_sem _ _ _ _ _ _ K h) (fun _ _ _ h => h) ⟨WkO.same, WkO.same, WkO.same, WkO.cells (Mo.Cl.is_ok is_b_k), WkO.same, WkO.cells (Mo.Wd.is_ok is_b_w), WkO.cells (Mo.Rt.is_ok is_b_t), WkO.cells (Mo.Rs.is_ok is_b_r), WkO.cells (Mo.Ln.is_ok is_b_l), WkO.same, WkO.same, WkO.same, WkO.cells (Mo.Cnt.is_ok is_b_c), trivial⟩
noncomputable def tabSaG (n : Nat) : List Con := match Nat.beq n 138 with | true => [pgap_con] | false => match Nat.beq n 51 with | true => [pMade_con] | false => tabSaF n
theorem tabSaG_ok : ∀ f, ∀ c ∈ tabSaG f, c.ok noW Tryz.prog f := by
  intro f c hc
  unfold tabSaG at hc
  split at hc
  · rename_i hf; have := Nat.eq_of_beq_eq_true hf; subst this
    simp only [List.mem_cons, List.not_mem_nil, or_false] at hc
    subst hc; exact pgap_ok
  split at hc
  · rename_i hf; have := Nat.eq_of_beq_eq_true hf; subst this
    simp only [List.mem_cons, List.not_mem_nil, or_false] at hc
    subst hc; exact pMade_ok
  exact tabSaF_ok f c hc
noncomputable def ffSaG (n : Nat) : Option FI := match Nat.beq n 138 with | true => none | false => match Nat.beq n 51 with | true => none | false => ffSaF n
theorem ffSaGok : FOk Tryz.prog ffSaG := fun f fi hf => by
  unfold ffSaG at hf
  split at hf
  · cases hf
  split at hf
  · cases hf
  exact ffSaFok f fi hf
noncomputable def stopSaG : CallT := stopC tabSaG stopB
theorem stopSaG_ok : ∀ f args h K, stopSaG f args h K → CallSem noW Tryz.prog f args h K := stopC_ok tabSaG_ok stopB_ok
end Go.SX.Y
