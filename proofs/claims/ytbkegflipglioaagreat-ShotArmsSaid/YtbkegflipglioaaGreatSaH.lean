/- What Go functions come to (lifted). -/
import Derived.Test.YtbkegflipglioaaGreatSaG
set_option maxRecDepth 20000
namespace Go.SX.Y
open Go.Proofs Go.RowKit
noncomputable def Mo.pStore_v1 (addr : Int) (v : Int) (made : Int) (harts : Int) (gs : List (List Int)) (b : Mo.Bd) : Mo.Bd := (Mo.dStore_v1 addr v harts (Mo.pgap_v2 made harts gs b))
noncomputable def Mo.pStore_pre (addr : Int) (v : Int) (made : Int) (spent : Int) (harts : Int) (gs : List (List Int)) (b : Mo.Bd) : Prop := ((Mo.pgap_pre made spent harts gs b) ∧ (Mo.dStore_pre addr v harts (Mo.pgap_v2 made harts gs b)))
noncomputable def pStore_tree (addr : Int) (v : Int) (made : Int) (spent : Int) (harts : Int) (dv : Int) (gs : List (List Int)) (b : Mo.Bd) (K : S → List Ob → Prop) : Prop := (((1 : Int) = 1) ∧ (True ∧ (((some (S.iv IntKind.i64 0)) = (some (S.iv IntKind.i64 0))) ∧ (((1 : Int) = 1) ∧ (((lenR gs) = (lenR gs)) ∧ (((0 : Int) = 0) ∧ ((Mo.pgap_pre made spent harts gs b) ∧ (((1 : Int) = 1) ∧ (True ∧ (((some (S.iv IntKind.i64 0)) = (some (S.iv IntKind.i64 0))) ∧ (((1 : Int) = 1) ∧ ((Mo.dStore_pre addr v harts (Mo.pgap_v2 made harts gs b)) ∧ (((1 : Int) = 1) ∧ (True ∧ (((some (S.iv IntKind.i64 0)) = (some (S.iv IntKind.i64 0))) ∧ K (.iv .i64 (Mo.kStore_v1 (sbw addr 33554432) (Mo.Bd.k (Mo.pgap_v2 made harts gs b)))) (h_PT (adi made 1) (Mo.pgap_v1 made spent gs) harts dv gs (Mo.dStore_v1 addr v harts (Mo.pgap_v2 made harts gs b))))))))))))))))))
theorem pStore_run (addr : Int) (v : Int) (made : Int) (spent : Int) (harts : Int) (dv : Int) (gs : List (List Int)) (b : Mo.Bd) (K : S → List Ob → Prop) : callX (std noW) tt ffSaG stopSaG (lpB noW Tryz.prog) noL 8 63 [.ptr 0 (.l 0), .iv .u32 addr, .iv .u32 v] (h_PT made spent harts dv gs b) (gcK 13 (ivK false K)) = pStore_tree addr v made spent harts dv gs b K := by kernel_rfl
noncomputable def pStore_T (addr : Int) (v : Int) (made : Int) (spent : Int) (harts : Int) (dv : Int) (gs : List (List Int)) (b : Mo.Bd) (K : S → List Ob → Prop) : Prop := Mo.pStore_pre addr v made spent harts gs b ∧ K (.iv .i64 (Mo.kStore_v1 (sbw addr 33554432) (Mo.Bd.k (Mo.pgap_v2 made harts gs b)))) (h_PT (adi made 1) (Mo.pgap_v1 made spent gs) harts dv gs (Mo.pStore_v1 addr v made harts gs b))
theorem pStore_all (addr : Int) (v : Int) (made : Int) (spent : Int) (harts : Int) (dv : Int) (gs : List (List Int)) (b : Mo.Bd) (K : S → List Ob → Prop) (h : pStore_T addr v made spent harts dv gs b K) : pStore_tree addr v made spent harts dv gs b K := by
  unfold pStore_T at h; obtain ⟨h0, h⟩ := h; unfold pStore_tree
  try simp only [Mo.pStore_v1] at h0 h
  try simp only [Mo.pStore_pre] at h0 h
  repeat' (first | (refine ite_intro (fun c => ?_) (fun c => ?_) <;> first | simp only [if_pos c] at h0 h | simp only [if_neg c] at h0 h | skip) | with_reducible (replace h0 := (h0 : True ∧ _).2) | with_reducible (refine ⟨rfl, ?_⟩) | with_reducible (refine ⟨h0.1, ?_⟩; replace h0 := h0.2) | with_reducible (refine ⟨h0, ?_⟩) | (refine ⟨h0.1, ?_⟩; replace h0 := h0.2) | refine ⟨h0, ?_⟩ | refine ⟨rfl, ?_⟩ | refine ⟨trivial, ?_⟩ | refine ⟨by assumption, ?_⟩ | refine ⟨Eq.symm (by assumption), ?_⟩ | exact h | refine ⟨?_, ?_⟩ | exact h0.elim | trivial | contradiction | (simp only [if_true, if_false, Bool.false_eq_true] at h; exact h))
theorem pStore_sem (addr : Int) (v : Int) (made : Int) (spent : Int) (harts : Int) (dv : Int) (gs : List (List Int)) (b : Mo.Bd) (K : S → List Ob → Prop) (h : pStore_T addr v made spent harts dv gs b K) : CallSem noW Tryz.prog 63 [.ptr 0 (.l 0), .iv .u32 addr, .iv .u32 v] (h_PT made spent harts dv gs b) K := iv_call (callX_ok tok (by kernel_rfl) ffSaGok stopSaG_ok _ _ _ _ (Eq.mpr (pStore_run addr v made spent harts dv gs b K) (pStore_all addr v made spent harts dv gs b K h)))
noncomputable def pStore_con : Con := ⟨[.ptr 0, .int .u32, .int .u32], t_PT, [], fun a K => match a with | ⟨[addr, v, made, spent, harts, dv], [], [], [cs_b_k, cs_b_w, cs_b_t, cs_b_r, cs_b_l, cs_b_c], [gs]⟩ => (match Mo.Cl.is cs_b_k with | true => (match Mo.Wd.is cs_b_w with | true => (match Mo.Rt.is cs_b_t with | true => (match Mo.Rs.is cs_b_r with | true => (match Mo.Ln.is cs_b_l with | true => (match Mo.Cnt.is cs_b_c with | true => pStore_T addr v made spent harts dv gs (Mo.Bd.mk (Mo.Cl.of cs_b_k) (Mo.Wd.of cs_b_w) (Mo.Rt.of cs_b_t) (Mo.Rs.of cs_b_r) (Mo.Ln.of cs_b_l) (Mo.Cnt.of cs_b_c)) K | false => False) | false => False) | false => False) | false => False) | false => False) | false => False) | _ => False⟩
theorem pStore_ok : pStore_con.ok noW Tryz.prog 63 := by
  intro a K h
  simp only [pStore_con] at h
  split at h
  case h_2 => exact h.elim
  split at h
  case h_2 => exact h.elim
  rename_i is_b_k
  split at h
  case h_2 => exact h.elim
  rename_i is_b_w
  split at h
  case h_2 => exact h.elim
  rename_i is_b_t
  split at h
  case h_2 => exact h.elim
  rename_i is_b_r
  split at h
  case h_2 => exact h.elim
  rename_i is_b_l
  split at h
  case h_2 => exact h.elim
  rename_i is_b_c
  exact CallSem.objs (pStore_sem _ _ _ _ _ _ _ _ K h) (fun _ _ _ h => h) ⟨WkO.same, WkO.same, WkO.same, WkO.cells (Mo.Cl.is_ok is_b_k), WkO.same, WkO.cells (Mo.Wd.is_ok is_b_w), WkO.cells (Mo.Rt.is_ok is_b_t), WkO.cells (Mo.Rs.is_ok is_b_r), WkO.cells (Mo.Ln.is_ok is_b_l), WkO.same, WkO.same, WkO.same, WkO.cells (Mo.Cnt.is_ok is_b_c), trivial⟩
noncomputable def tabSaH (n : Nat) : List Con := match Nat.beq n 63 with | true => [pStore_con] | false => tabSaG n
theorem tabSaH_ok : ∀ f, ∀ c ∈ tabSaH f, c.ok noW Tryz.prog f := by
  intro f c hc
  unfold tabSaH at hc
  split at hc
  · rename_i hf; have := Nat.eq_of_beq_eq_true hf; subst this
    simp only [List.mem_cons, List.not_mem_nil, or_false] at hc
    subst hc; exact pStore_ok
  exact tabSaG_ok f c hc
noncomputable def ffSaH (n : Nat) : Option FI := match Nat.beq n 63 with | true => none | false => ffSaG n
theorem ffSaHok : FOk Tryz.prog ffSaH := fun f fi hf => by
  unfold ffSaH at hf
  split at hf
  · cases hf
  exact ffSaGok f fi hf
noncomputable def stopSaH : CallT := stopC tabSaH stopB
theorem stopSaH_ok : ∀ f args h K, stopSaH f args h K → CallSem noW Tryz.prog f args h K := stopC_ok tabSaH_ok stopB_ok
end Go.SX.Y
