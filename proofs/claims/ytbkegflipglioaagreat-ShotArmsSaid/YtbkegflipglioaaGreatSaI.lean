/- What Go functions come to (lifted). -/
import Derived.Test.YtbkegflipglioaaGreatSaH
set_option maxRecDepth 20000
namespace Go.SX.Y
open Go.Proofs Go.RowKit
noncomputable def h_SH (hart : Int) (armed : Int) (made : Int) (spent : Int) (harts : Int) (dv : Int) (gs : List (List Int)) (b : Mo.Bd) : List Ob := [.cells 172 [.ptr 1 (.l 0), .iv .i64 hart, .iv .u64 armed], .cells 135 [.iv .i64 made, .iv .u64 spent, .iv .i64 0, .ptr 2 (.l 0), .nsl 3 (.v (lenR gs)) false true], .cells 131 [.ptr 4 (.l 0), .ptr 5 (.l 0), .ptr 6 (.l 0), .ptr 7 (.l 0), .ptr 8 (.l 0), .ptr 9 (.l 0), .ptr 10 (.l 0), .iv .i64 harts, .iv .i64 1, .iv .u32 dv, .raw (.slice none 0 0)], .nrow 22 [.i .u32] gs, .cells 183 (Mo.Cl.cells (Mo.Bd.k b)), .cells 188 [.sli 11 (.l 0) (.l 1) (.lit (.l 1)) false], .cells 194 (Mo.Wd.cells (Mo.Bd.w b)), .cells 190 (Mo.Rt.cells (Mo.Bd.t b)), .cells 200 (Mo.Rs.cells (Mo.Bd.r b)), .cells 204 (Mo.Ln.cells (Mo.Bd.l b)), .cells 227 [.mp 12], .row 185 1 (.l 1) [.ptr 13 (.l 0)], .mapo [.agg [.il .u32 33554432, .il .u32 49152], .agg [.il .u32 268500992, .il .u32 256], .agg [.il .u32 268566528, .il .u32 20], .agg [.il .u32 268632064, .il .u32 16], .agg [.il .u32 268697600, .il .u32 36], .agg [.il .u32 268763136, .il .u32 12]] [.ifc 107 (.ptr 4 (.l 0)), .ifc 110 (.ptr 5 (.l 0)), .ifc 119 (.ptr 6 (.l 0)), .ifc 125 (.ptr 8 (.l 0)), .ifc 44 (.ptr 7 (.l 0)), .ifc 127 (.ptr 9 (.l 0))], .cells 246 (Mo.Cnt.cells (Mo.Bd.c b))]
def t_SH : List OTm := [.cells 172 [.ptr 1, .int .i64, .int .u64], .cells 135 [.int .i64, .int .u64, .eqI .i64 0, .ptr 2, .nsl 3 0 true], .cells 131 [.ptr 4, .ptr 5, .ptr 6, .ptr 7, .ptr 8, .ptr 9, .ptr 10, .int .i64, .eqI .i64 1, .int .u32, .same (.raw (.slice none 0 0))], .nrow 22 [.i .u32], .cellsV 183, .cells 188 [.same (.sli 11 (.l 0) (.l 1) (.lit (.l 1)) false)], .cellsV 194, .cellsV 190, .cellsV 200, .cellsV 204, .cells 227 [.mp 12], .row 185 1 1 [.ptr 13], .mapo [.agg [.same (.il .u32 33554432), .same (.il .u32 49152)], .agg [.same (.il .u32 268500992), .same (.il .u32 256)], .agg [.same (.il .u32 268566528), .same (.il .u32 20)], .agg [.same (.il .u32 268632064), .same (.il .u32 16)], .agg [.same (.il .u32 268697600), .same (.il .u32 36)], .agg [.same (.il .u32 268763136), .same (.il .u32 12)]] [.ifc 107 (.ptr 4), .ifc 110 (.ptr 5), .ifc 119 (.ptr 6), .ifc 125 (.ptr 8), .ifc 44 (.ptr 7), .ifc 127 (.ptr 9)], .cellsV 246]
noncomputable def Mo.sArm_e1 (hart : Int) (made : Int) (harts : Int) (gs : List (List Int)) (b : Mo.Bd) : Mo.Bd := Mo.pStore_v1 (adw (cvw (adi 33570816 (sli hart 3)) 0) 0) 4294967295 made harts gs b
noncomputable def Mo.sArm_e2 (made : Int) (spent : Int) (gs : List (List Int)) : Int := Mo.pgap_v1 (adi (adi made 1) 1) (Mo.pgap_v1 (adi made 1) (Mo.pgap_v1 made spent gs) gs) gs
noncomputable def Mo.sArm_e3 (hart : Int) (made : Int) (harts : Int) (gs : List (List Int)) (b : Mo.Bd) : Int := Mo.kStore_v1 (sbw (adw (cvw (adi 33570816 (sli hart 3)) 0) 0) 33554432) (Mo.Bd.k (Mo.pgap_v2 made harts gs b))
noncomputable def Mo.sArm_e4 (d : Int) (hart : Int) (made : Int) (harts : Int) (gs : List (List Int)) (b : Mo.Bd) : Mo.Bd := Mo.pStore_v1 (adw (cvw (adi 33570816 (sli hart 3)) 0) 4) (cvw (srq d 32) 0) (adi made 1) harts gs (Mo.sArm_e1 hart made harts gs b)
noncomputable def Mo.sArm_e5 (d : Int) (hart : Int) (made : Int) (harts : Int) (gs : List (List Int)) (b : Mo.Bd) : Mo.Bd := Mo.pgap_v2 (adi (adi made 1) 1) harts gs (Mo.sArm_e4 d hart made harts gs b)
noncomputable def Mo.sArm_e6 (d : Int) (hart : Int) (made : Int) (harts : Int) (gs : List (List Int)) (b : Mo.Bd) : Int := Mo.kStore_v1 (sbw (adw (cvw (adi 33570816 (sli hart 3)) 0) 0) 33554432) (Mo.Bd.k (Mo.sArm_e5 d hart made harts gs b))
noncomputable def Mo.sArm_e7 (d : Int) (hart : Int) (made : Int) (harts : Int) (gs : List (List Int)) (b : Mo.Bd) : Mo.Bd := Mo.pStore_v1 (adw (cvw (adi 33570816 (sli hart 3)) 0) 0) (cvw d 0) (adi (adi made 1) 1) harts gs (Mo.sArm_e4 d hart made harts gs b)
noncomputable def Mo.sArm_e8 (hart : Int) (made : Int) (harts : Int) (gs : List (List Int)) (b : Mo.Bd) : Int := Mo.kStore_v1 (sbw (adw (cvw (adi 33570816 (sli hart 3)) 0) 4) 33554432) (Mo.Bd.k (Mo.pgap_v2 (adi made 1) harts gs (Mo.sArm_e1 hart made harts gs b)))
noncomputable def sArm_s1 (d : Int) (hart : Int) (made : Int) (spent : Int) (harts : Int) (dv : Int) (gs : List (List Int)) (b : Mo.Bd) (K : S → List Ob → Prop) : Prop := (if ((iE (Mo.sArm_e6 d hart made harts gs b) 0) = true) then K (.iv .i64 (Mo.sArm_e6 d hart made harts gs b)) (h_SH hart d (adi (adi (adi made 1) 1) 1) (Mo.sArm_e2 made spent gs) harts dv gs (Mo.sArm_e7 d hart made harts gs b)) else K (.iv .i64 (Mo.sArm_e6 d hart made harts gs b)) (h_SH hart 18446744073709551615 (adi (adi (adi made 1) 1) 1) (Mo.sArm_e2 made spent gs) harts dv gs (Mo.sArm_e7 d hart made harts gs b)))
noncomputable def Mo.sArm_v1 (d : Int) (hart : Int) (made : Int) (harts : Int) (gs : List (List Int)) (b : Mo.Bd) : Int := (if ((iN (Mo.sArm_e3 hart made harts gs b) 0) = true) then (Mo.sArm_e3 hart made harts gs b) else (if ((iN (Mo.sArm_e8 hart made harts gs b) 0) = true) then (Mo.sArm_e8 hart made harts gs b) else (Mo.sArm_e6 d hart made harts gs b)))
noncomputable def Mo.sArm_v2 (d : Int) (hart : Int) (made : Int) (harts : Int) (gs : List (List Int)) (b : Mo.Bd) : Int := (if ((iN (Mo.sArm_e3 hart made harts gs b) 0) = true) then (if ((iE (Mo.sArm_e3 hart made harts gs b) 0) = true) then d else 18446744073709551615) else (if ((iN (Mo.sArm_e8 hart made harts gs b) 0) = true) then (if ((iE (Mo.sArm_e8 hart made harts gs b) 0) = true) then d else 18446744073709551615) else (if ((iE (Mo.sArm_e6 d hart made harts gs b) 0) = true) then d else 18446744073709551615)))
noncomputable def Mo.sArm_v3 (hart : Int) (made : Int) (harts : Int) (gs : List (List Int)) (b : Mo.Bd) : Int := (if ((iN (Mo.sArm_e3 hart made harts gs b) 0) = true) then (adi made 1) else (if ((iN (Mo.sArm_e8 hart made harts gs b) 0) = true) then (adi (adi made 1) 1) else (adi (adi (adi made 1) 1) 1)))
noncomputable def Mo.sArm_v4 (hart : Int) (made : Int) (spent : Int) (harts : Int) (gs : List (List Int)) (b : Mo.Bd) : Int := (if ((iN (Mo.sArm_e3 hart made harts gs b) 0) = true) then (Mo.pgap_v1 made spent gs) else (if ((iN (Mo.sArm_e8 hart made harts gs b) 0) = true) then (Mo.pgap_v1 (adi made 1) (Mo.pgap_v1 made spent gs) gs) else (Mo.sArm_e2 made spent gs)))
noncomputable def Mo.sArm_v5 (d : Int) (hart : Int) (made : Int) (harts : Int) (gs : List (List Int)) (b : Mo.Bd) : Mo.Bd := (if ((iN (Mo.sArm_e3 hart made harts gs b) 0) = true) then (Mo.sArm_e1 hart made harts gs b) else (if ((iN (Mo.sArm_e8 hart made harts gs b) 0) = true) then (Mo.sArm_e4 d hart made harts gs b) else (Mo.sArm_e7 d hart made harts gs b)))
noncomputable def Mo.sArm_pre (d : Int) (hart : Int) (made : Int) (spent : Int) (harts : Int) (gs : List (List Int)) (b : Mo.Bd) : Prop := ((Mo.pStore_pre (adw (cvw (adi 33570816 (sli hart 3)) 0) 0) 4294967295 made spent harts gs b) ∧ (if ((iN (Mo.sArm_e3 hart made harts gs b) 0) = true) then True else ((Mo.pStore_pre (adw (cvw (adi 33570816 (sli hart 3)) 0) 4) (cvw (srq d 32) 0) (adi made 1) (Mo.pgap_v1 made spent gs) harts gs (Mo.sArm_e1 hart made harts gs b)) ∧ (if ((iN (Mo.sArm_e8 hart made harts gs b) 0) = true) then True else (Mo.pStore_pre (adw (cvw (adi 33570816 (sli hart 3)) 0) 0) (cvw d 0) (adi (adi made 1) 1) (Mo.pgap_v1 (adi made 1) (Mo.pgap_v1 made spent gs) gs) harts gs (Mo.sArm_e4 d hart made harts gs b))))))
noncomputable def sArm_tree (d : Int) (hart : Int) (armed : Int) (made : Int) (spent : Int) (harts : Int) (dv : Int) (gs : List (List Int)) (b : Mo.Bd) (K : S → List Ob → Prop) : Prop := (((1 : Int) = 1) ∧ (((lenR gs) = (lenR gs)) ∧ (((0 : Int) = 0) ∧ ((Mo.pStore_pre (adw (cvw (adi 33570816 (sli hart 3)) 0) 0) 4294967295 made spent harts gs b) ∧ (if ((iN (Mo.sArm_e3 hart made harts gs b) 0) = true) then (if ((iE (Mo.sArm_e3 hart made harts gs b) 0) = true) then K (.iv .i64 (Mo.sArm_e3 hart made harts gs b)) (h_SH hart d (adi made 1) (Mo.pgap_v1 made spent gs) harts dv gs (Mo.sArm_e1 hart made harts gs b)) else K (.iv .i64 (Mo.sArm_e3 hart made harts gs b)) (h_SH hart 18446744073709551615 (adi made 1) (Mo.pgap_v1 made spent gs) harts dv gs (Mo.sArm_e1 hart made harts gs b))) else (((1 : Int) = 1) ∧ (((lenR gs) = (lenR gs)) ∧ (((0 : Int) = 0) ∧ ((Mo.pStore_pre (adw (cvw (adi 33570816 (sli hart 3)) 0) 4) (cvw (srq d 32) 0) (adi made 1) (Mo.pgap_v1 made spent gs) harts gs (Mo.sArm_e1 hart made harts gs b)) ∧ (if ((iN (Mo.sArm_e8 hart made harts gs b) 0) = true) then (if ((iE (Mo.sArm_e8 hart made harts gs b) 0) = true) then K (.iv .i64 (Mo.sArm_e8 hart made harts gs b)) (h_SH hart d (adi (adi made 1) 1) (Mo.pgap_v1 (adi made 1) (Mo.pgap_v1 made spent gs) gs) harts dv gs (Mo.sArm_e4 d hart made harts gs b)) else K (.iv .i64 (Mo.sArm_e8 hart made harts gs b)) (h_SH hart 18446744073709551615 (adi (adi made 1) 1) (Mo.pgap_v1 (adi made 1) (Mo.pgap_v1 made spent gs) gs) harts dv gs (Mo.sArm_e4 d hart made harts gs b))) else (((1 : Int) = 1) ∧ (((lenR gs) = (lenR gs)) ∧ (((0 : Int) = 0) ∧ ((Mo.pStore_pre (adw (cvw (adi 33570816 (sli hart 3)) 0) 0) (cvw d 0) (adi (adi made 1) 1) (Mo.pgap_v1 (adi made 1) (Mo.pgap_v1 made spent gs) gs) harts gs (Mo.sArm_e4 d hart made harts gs b)) ∧ (if ((iN (Mo.sArm_e6 d hart made harts gs b) 0) = true) then (sArm_s1 d hart made spent harts dv gs b K) else (sArm_s1 d hart made spent harts dv gs b K))))))))))))))))
theorem sArm_run (d : Int) (hart : Int) (armed : Int) (made : Int) (spent : Int) (harts : Int) (dv : Int) (gs : List (List Int)) (b : Mo.Bd) (K : S → List Ob → Prop) : callX (std noW) tt ffSaH stopSaH (lpB noW Tryz.prog) noL 12 52 [.ptr 0 (.l 0), .iv .u64 d] (h_SH hart armed made spent harts dv gs b) (gcK 14 (ivK false K)) = sArm_tree d hart armed made spent harts dv gs b K := by kernel_rfl
noncomputable def sArm_T (d : Int) (hart : Int) (armed : Int) (made : Int) (spent : Int) (harts : Int) (dv : Int) (gs : List (List Int)) (b : Mo.Bd) (K : S → List Ob → Prop) : Prop := Mo.sArm_pre d hart made spent harts gs b ∧ K (.iv .i64 (Mo.sArm_v1 d hart made harts gs b)) (h_SH hart (Mo.sArm_v2 d hart made harts gs b) (Mo.sArm_v3 hart made harts gs b) (Mo.sArm_v4 hart made spent harts gs b) harts dv gs (Mo.sArm_v5 d hart made harts gs b))
theorem sArm_all (d : Int) (hart : Int) (armed : Int) (made : Int) (spent : Int) (harts : Int) (dv : Int) (gs : List (List Int)) (b : Mo.Bd) (K : S → List Ob → Prop) (h : sArm_T d hart armed made spent harts dv gs b K) : sArm_tree d hart armed made spent harts dv gs b K := by
  unfold sArm_T at h; obtain ⟨h0, h⟩ := h; unfold sArm_tree
  try simp only [Mo.sArm_v1] at h0 h
  try simp only [Mo.sArm_v2] at h0 h
  try simp only [Mo.sArm_v3] at h0 h
  try simp only [Mo.sArm_v4] at h0 h
  try simp only [Mo.sArm_v5] at h0 h
  try simp only [Mo.sArm_pre] at h0 h
  repeat' (first | (refine ite_intro (fun c => ?_) (fun c => ?_) <;> first | simp only [if_pos c] at h0 h | simp only [if_neg c] at h0 h | skip) | with_reducible (replace h0 := (h0 : True ∧ _).2) | with_reducible (refine ⟨rfl, ?_⟩) | with_reducible (refine ⟨h0.1, ?_⟩; replace h0 := h0.2) | with_reducible (refine ⟨h0, ?_⟩) | (refine ⟨h0.1, ?_⟩; replace h0 := h0.2) | refine ⟨h0, ?_⟩ | refine ⟨rfl, ?_⟩ | refine ⟨trivial, ?_⟩ | refine ⟨by assumption, ?_⟩ | refine ⟨Eq.symm (by assumption), ?_⟩ | exact h | refine ⟨?_, ?_⟩ | unfold sArm_s1 | exact h0.elim | trivial | contradiction | (simp only [if_true, if_false, Bool.false_eq_true] at h; exact h))
theorem sArm_sem (d : Int) (hart : Int) (armed : Int) (made : Int) (spent : Int) (harts : Int) (dv : Int) (gs : List (List Int)) (b : Mo.Bd) (K : S → List Ob → Prop) (h : sArm_T d hart armed made spent harts dv gs b K) : CallSem noW Tryz.prog 52 [.ptr 0 (.l 0), .iv .u64 d] (h_SH hart armed made spent harts dv gs b) K := iv_call (callX_ok tok (by kernel_rfl) ffSaHok stopSaH_ok _ _ _ _ (Eq.mpr (sArm_run d hart armed made spent harts dv gs b K) (sArm_all d hart armed made spent harts dv gs b K h)))
noncomputable def sArm_con : Con := ⟨[.ptr 0, .int .u64], t_SH, [], fun a K => match a with | ⟨[d, hart, armed, made, spent, harts, dv], [], [], [cs_b_k, cs_b_w, cs_b_t, cs_b_r, cs_b_l, cs_b_c], [gs]⟩ => (match Mo.Cl.is cs_b_k with | true => (match Mo.Wd.is cs_b_w with | true => (match Mo.Rt.is cs_b_t with | true => (match Mo.Rs.is cs_b_r with | true => (match Mo.Ln.is cs_b_l with | true => (match Mo.Cnt.is cs_b_c with | true => sArm_T d hart armed made spent harts dv gs (Mo.Bd.mk (Mo.Cl.of cs_b_k) (Mo.Wd.of cs_b_w) (Mo.Rt.of cs_b_t) (Mo.Rs.of cs_b_r) (Mo.Ln.of cs_b_l) (Mo.Cnt.of cs_b_c)) K | false => False) | false => False) | false => False) | false => False) | false => False) | false => False) | _ => False⟩
theorem sArm_ok : sArm_con.ok noW Tryz.prog 52 := by
  intro a K h
  simp only [sArm_con] at h
  split at h
  case h_2 => exact h.elim
  split at h
  case h_2 => exact h.elim
  rename_i is_b_k
  split at h
  case h_2 => exact h.elim
  rename_i is_b_w
  split at h
  case h_2 => exact h.elim
  rename_i is_b_t
  split at h
  case h_2 => exact h.elim
  rename_i is_b_r
  split at h
  case h_2 => exact h.elim
  rename_i is_b_l
  split at h
  case h_2 => exact h.elim
  rename_i is_b_c
  exact CallSem.objs (sArm_sem _ _ _ _ _ _ _ _ _ K h) (fun _ _ _ h => h) ⟨WkO.same, WkO.same, WkO.same, WkO.same, WkO.cells (Mo.Cl.is_ok is_b_k), WkO.same, WkO.cells (Mo.Wd.is_ok is_b_w), WkO.cells (Mo.Rt.is_ok is_b_t), WkO.cells (Mo.Rs.is_ok is_b_r), WkO.cells (Mo.Ln.is_ok is_b_l), WkO.same, WkO.same, WkO.same, WkO.cells (Mo.Cnt.is_ok is_b_c), trivial⟩
noncomputable def tabSaI (n : Nat) : List Con := match Nat.beq n 52 with | true => [sArm_con] | false => tabSaH n
theorem tabSaI_ok : ∀ f, ∀ c ∈ tabSaI f, c.ok noW Tryz.prog f := by
  intro f c hc
  unfold tabSaI at hc
  split at hc
  · rename_i hf; have := Nat.eq_of_beq_eq_true hf; subst this
    simp only [List.mem_cons, List.not_mem_nil, or_false] at hc
    subst hc; exact sArm_ok
  exact tabSaH_ok f c hc
noncomputable def ffSaI (n : Nat) : Option FI := match Nat.beq n 52 with | true => none | false => ffSaH n
theorem ffSaIok : FOk Tryz.prog ffSaI := fun f fi hf => by
  unfold ffSaI at hf
  split at hf
  · cases hf
  exact ffSaHok f fi hf
noncomputable def stopSaI : CallT := stopC tabSaI stopB
theorem stopSaI_ok : ∀ f args h K, stopSaI f args h K → CallSem noW Tryz.prog f args h K := stopC_ok tabSaI_ok stopB_ok
end Go.SX.Y
