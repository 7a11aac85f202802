/- What Go functions come to (lifted). -/
import Derived.Test.YtbkegflipglioaaGreatSaD
set_option maxRecDepth 20000
namespace Go.SX.Y
open Go.Proofs Go.RowKit
noncomputable def dSettle_s1 (b : Mo.Bd) (K : S → List Ob → Prop) : Prop := (if ((stdQ QO.not (stdQ QO.and (iE (Mo.Rt.sec (Mo.Bd.t b)) 0) (stdQ QO.and (iE (Mo.Rt.alarm (Mo.Bd.t b)) 0) (stdQ QO.and (iE (Mo.Rt.rest (Mo.Bd.t b)) 0) (stdQ QO.and (iE (Mo.Rt.set (Mo.Bd.t b)) 0) (stdQ QO.and (stdQ QO.eq (Mo.Rt.en (Mo.Bd.t b)) false) (stdQ QO.eq (Mo.Rt.raised (Mo.Bd.t b)) false)))))) (stdQ QO.and (iE (Mo.Rt.sec (Mo.Bd.t b)) 0) (stdQ QO.and (iE (Mo.Rt.alarm (Mo.Bd.t b)) 0) (stdQ QO.and (iE (Mo.Rt.rest (Mo.Bd.t b)) 0) (stdQ QO.and (iE (Mo.Rt.set (Mo.Bd.t b)) 0) (stdQ QO.and (stdQ QO.eq (Mo.Rt.en (Mo.Bd.t b)) false) (stdQ QO.eq (Mo.Rt.raised (Mo.Bd.t b)) false))))))) = true) then False else False)
noncomputable def dSettle_s2 (b : Mo.Bd) (K : S → List Ob → Prop) : Prop := (if ((stdQ QO.not (stdQ QO.and (stdQ QO.and (iE (Mo.Cnt.ld (Mo.Bd.c b)) 0) (stdQ QO.and (iE (Mo.Cnt.va (Mo.Bd.c b)) 0) (stdQ QO.and (iE (Mo.Cnt.ct (Mo.Bd.c b)) 0) (iE (Mo.Cnt.st (Mo.Bd.c b)) 0)))) (iE (Mo.Cnt.ph (Mo.Bd.c b)) 0)) (stdQ QO.and (stdQ QO.and (iE (Mo.Cnt.ld (Mo.Bd.c b)) 0) (stdQ QO.and (iE (Mo.Cnt.va (Mo.Bd.c b)) 0) (stdQ QO.and (iE (Mo.Cnt.ct (Mo.Bd.c b)) 0) (iE (Mo.Cnt.st (Mo.Bd.c b)) 0)))) (iE (Mo.Cnt.ph (Mo.Bd.c b)) 0))) = true) then (dSettle_s1 b K) else (dSettle_s1 b K))
noncomputable def dSettle_s3 (b : Mo.Bd) (K : S → List Ob → Prop) : Prop := (True ∧ (dSettle_s2 b K))
noncomputable def dSettle_s4 (b : Mo.Bd) (K : S → List Ob → Prop) : Prop := (if ((iL (Mo.Rs.count (Mo.Bd.r b)) 4294967295) = true) then (dSettle_s3 b K) else (dSettle_s3 b K))
noncomputable def dSettle_s5 (harts : Int) (dv : Int) (b : Mo.Bd) (K : S → List Ob → Prop) : Prop := (if ((Mo.rAsked_v1 (Mo.Bd.r b)) = true) then (dSettle_s4 b K) else (((1 : Int) = 1) ∧ ((Mo.dWire_p harts b) ∧ K (.tup []) (h_BD harts dv (Mo.dWire_f16 harts b)))))
noncomputable def dSettle_s6 (harts : Int) (dv : Int) (b : Mo.Bd) (K : S → List Ob → Prop) : Prop := (True ∧ (dSettle_s5 harts dv b K))
noncomputable def Mo.dSettle_v1 (harts : Int) (b : Mo.Bd) : Mo.Bd := (Mo.dWire_f16 harts b)
noncomputable def Mo.dSettle_pre (harts : Int) (b : Mo.Bd) : Prop := (if ((iN (Mo.Wd.fault (Mo.Bd.w b)) 0) = true) then (if ((iE (Mo.Wd.fault (Mo.Bd.w b)) 1) = true) then (if ((Mo.rAsked_v1 (Mo.Bd.r b)) = true) then False else (Mo.dWire_p harts b)) else (if ((iE (Mo.Wd.fault (Mo.Bd.w b)) 2) = true) then False else (if ((iE (Mo.Wd.fault (Mo.Bd.w b)) 4) = true) then False else (if ((iE (Mo.Wd.fault (Mo.Bd.w b)) 8) = true) then False else (if ((iE (Mo.Wd.fault (Mo.Bd.w b)) 16) = true) then False else (if ((Mo.rAsked_v1 (Mo.Bd.r b)) = true) then False else (Mo.dWire_p harts b))))))) else (if ((Mo.rAsked_v1 (Mo.Bd.r b)) = true) then False else (Mo.dWire_p harts b)))
noncomputable def dSettle_tree (harts : Int) (dv : Int) (b : Mo.Bd) (K : S → List Ob → Prop) : Prop := (True ∧ (if ((iN (Mo.Wd.fault (Mo.Bd.w b)) 0) = true) then (if ((iE (Mo.Wd.fault (Mo.Bd.w b)) 1) = true) then (dSettle_s6 harts dv b K) else (if ((iE (Mo.Wd.fault (Mo.Bd.w b)) 1) = true) then (dSettle_s4 b K) else (if ((iE (Mo.Wd.fault (Mo.Bd.w b)) 2) = true) then (dSettle_s4 b K) else (if ((iE (Mo.Wd.fault (Mo.Bd.w b)) 4) = true) then (dSettle_s4 b K) else (if ((iE (Mo.Wd.fault (Mo.Bd.w b)) 8) = true) then (dSettle_s4 b K) else (if ((iE (Mo.Wd.fault (Mo.Bd.w b)) 16) = true) then (dSettle_s4 b K) else (dSettle_s6 harts dv b K))))))) else (dSettle_s6 harts dv b K)))
theorem dSettle_run (harts : Int) (dv : Int) (b : Mo.Bd) (K : S → List Ob → Prop) : callX (std noW) tt ffSaD stopSaD (lpB noW Tryz.prog) noL 6 82 [.ptr 0 (.l 0)] (h_BD harts dv b) (gcK 11 (ivK false K)) = dSettle_tree harts dv b K := by kernel_rfl
noncomputable def dSettle_T (harts : Int) (dv : Int) (b : Mo.Bd) (K : S → List Ob → Prop) : Prop := Mo.dSettle_pre harts b ∧ K (.tup []) (h_BD harts dv (Mo.dSettle_v1 harts b))
theorem dSettle_all (harts : Int) (dv : Int) (b : Mo.Bd) (K : S → List Ob → Prop) (h : dSettle_T harts dv b K) : dSettle_tree harts dv b K := by
  unfold dSettle_T at h; obtain ⟨h0, h⟩ := h; unfold dSettle_tree
  try simp only [Mo.dSettle_v1] at h0 h
  try simp only [Mo.dSettle_pre] at h0 h
  repeat' (first | (refine ite_intro (fun c => ?_) (fun c => ?_) <;> first | simp only [if_pos c] at h0 h | simp only [if_neg c] at h0 h | skip) | with_reducible (replace h0 := (h0 : True ∧ _).2) | with_reducible (refine ⟨rfl, ?_⟩) | with_reducible (refine ⟨h0.1, ?_⟩; replace h0 := h0.2) | with_reducible (refine ⟨h0, ?_⟩) | (refine ⟨h0.1, ?_⟩; replace h0 := h0.2) | refine ⟨h0, ?_⟩ | refine ⟨rfl, ?_⟩ | refine ⟨trivial, ?_⟩ | refine ⟨by assumption, ?_⟩ | refine ⟨Eq.symm (by assumption), ?_⟩ | exact h | refine ⟨?_, ?_⟩ | unfold dSettle_s1 | unfold dSettle_s2 | unfold dSettle_s3 | unfold dSettle_s4 | unfold dSettle_s5 | unfold dSettle_s6 | exact h0.elim | trivial | contradiction | (simp only [if_true, if_false, Bool.false_eq_true] at h; exact h))
theorem dSettle_sem (harts : Int) (dv : Int) (b : Mo.Bd) (K : S → List Ob → Prop) (h : dSettle_T harts dv b K) : CallSem noW Tryz.prog 82 [.ptr 0 (.l 0)] (h_BD harts dv b) K := iv_call (callX_ok tok (by kernel_rfl) ffSaDok stopSaD_ok _ _ _ _ (Eq.mpr (dSettle_run harts dv b K) (dSettle_all harts dv b K h)))
noncomputable def dSettle_con : Con := ⟨[.ptr 0], t_BD, [], fun a K => match a with | ⟨[harts, dv], [], [], [cs_b_k, cs_b_w, cs_b_t, cs_b_r, cs_b_l, cs_b_c], []⟩ => (match Mo.Cl.is cs_b_k with | true => (match Mo.Wd.is cs_b_w with | true => (match Mo.Rt.is cs_b_t with | true => (match Mo.Rs.is cs_b_r with | true => (match Mo.Ln.is cs_b_l with | true => (match Mo.Cnt.is cs_b_c with | true => dSettle_T harts dv (Mo.Bd.mk (Mo.Cl.of cs_b_k) (Mo.Wd.of cs_b_w) (Mo.Rt.of cs_b_t) (Mo.Rs.of cs_b_r) (Mo.Ln.of cs_b_l) (Mo.Cnt.of cs_b_c)) K | false => False) | false => False) | false => False) | false => False) | false => False) | false => False) | _ => False⟩
theorem dSettle_ok : dSettle_con.ok noW Tryz.prog 82 := by
  intro a K h
  simp only [dSettle_con] at h
  split at h
  case h_2 => exact h.elim
  split at h
  case h_2 => exact h.elim
  rename_i is_b_k
  split at h
  case h_2 => exact h.elim
  rename_i is_b_w
  split at h
  case h_2 => exact h.elim
  rename_i is_b_t
  split at h
  case h_2 => exact h.elim
  rename_i is_b_r
  split at h
  case h_2 => exact h.elim
  rename_i is_b_l
  split at h
  case h_2 => exact h.elim
  rename_i is_b_c
  exact CallSem.objs (dSettle_sem _ _ _ K h) (fun _ _ _ h => h) ⟨WkO.same, WkO.cells (Mo.Cl.is_ok is_b_k), WkO.same, WkO.cells (Mo.Wd.is_ok is_b_w), WkO.cells (Mo.Rt.is_ok is_b_t), WkO.cells (Mo.Rs.is_ok is_b_r), WkO.cells (Mo.Ln.is_ok is_b_l), WkO.same, WkO.same, WkO.same, WkO.cells (Mo.Cnt.is_ok is_b_c), trivial⟩
noncomputable def tabSaE (n : Nat) : List Con := match Nat.beq n 82 with | true => [dSettle_con] | false => tabSaD n
theorem tabSaE_ok : ∀ f, ∀ c ∈ tabSaE f, c.ok noW Tryz.prog f := by
  intro f c hc
  unfold tabSaE at hc
  split at hc
  · rename_i hf; have := Nat.eq_of_beq_eq_true hf; subst this
    simp only [List.mem_cons, List.not_mem_nil, or_false] at hc
    subst hc; exact dSettle_ok
  exact tabSaD_ok f c hc
noncomputable def ffSaE (n : Nat) : Option FI := match Nat.beq n 82 with | true => none | false => ffSaD n
theorem ffSaEok : FOk Tryz.prog ffSaE := fun f fi hf => by
  unfold ffSaE at hf
  split at hf
  · cases hf
  exact ffSaDok f fi hf
noncomputable def stopSaE : CallT := stopC tabSaE stopB
theorem stopSaE_ok : ∀ f args h K, stopSaE f args h K → CallSem noW Tryz.prog f args h K := stopC_ok tabSaE_ok stopB_ok
end Go.SX.Y
