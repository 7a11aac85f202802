/- What Go functions come to (lifted). -/
import Derived.Test.YtbkegflipglioaaGreatLpD
set_option maxRecDepth 20000
namespace Go.SX.Y
open Go.Proofs Go.RowKit
noncomputable def hm_LpE_1 (x1 : Int) (x2 : Int) (x3 : Int) (x4 : List (List Int)) (x5 : Mo.Bd) (x6 : Nat) : List Ob := [(.cells 131 [(.ptr 1 (.l 0)), (.ptr 2 (.l 0)), (.ptr 3 (.l 0)), (.ptr 4 (.l 0)), (.ptr 5 (.l 0)), (.ptr 6 (.l 0)), (.ptr 7 (.l 0)), (.iv .i64 x1), (.iv .i64 x2), (.iv .u32 x3), (.nsl 12 (.v (lenR x4)) false false)]), (.cells 183 (Mo.Cl.cells (Mo.Bd.k x5))), (.cells 188 [(.tsl 9 (.v x6) 1)]), (.cells 194 (Mo.Wd.cells (Mo.Bd.w x5))), (.cells 190 (Mo.Rt.cells (Mo.Bd.t x5))), (.cells 200 (Mo.Rs.cells (Mo.Bd.r x5))), (.cells 204 (Mo.Ln.cells (Mo.Bd.l x5))), (.cells 227 [(.mp 10)]), .dead, (.rowT 185 1 x6 [(.ptr 11 (.l 0))]), (.mapo [(.agg [(.il .u32 33554432), (.il .u32 49152)]), (.agg [(.il .u32 268500992), (.il .u32 256)]), (.agg [(.il .u32 268566528), (.il .u32 20)]), (.agg [(.il .u32 268632064), (.il .u32 16)]), (.agg [(.il .u32 268697600), (.il .u32 36)]), (.agg [(.il .u32 268763136), (.il .u32 12)])] [(.ifc 107 (.ptr 1 (.l 0))), (.ifc 110 (.ptr 2 (.l 0))), (.ifc 119 (.ptr 3 (.l 0))), (.ifc 125 (.ptr 5 (.l 0))), (.ifc 44 (.ptr 4 (.l 0))), (.ifc 127 (.ptr 6 (.l 0)))]), (.opt (iL 0 (castI x6)) 246 (Mo.Cnt.cells (Mo.Bk.c0 (Mo.Bd.n x5)))), (.nrow 73 [.i .u64, .i .i64] x4)]
noncomputable def Mo.dSettle_e1 (b : Mo.Bd) (n : Nat) : Mo.Bd := Mo.dReset_v2 16 b n
noncomputable def Mo.dSettle_e2 (b : Mo.Bd) (rs : List (List Int)) : List (List Int) := Mo.dReset_v1 16 b rs
noncomputable def Mo.dSettle_e3 (harts : Int) (b : Mo.Bd) (n : Nat) : Mo.Bd := Mo.dWire_f18 harts b n
noncomputable def Mo.dSettle_e4 (b : Mo.Bd) (n : Nat) : Mo.Bd := Mo.dReset_v2 (Mo.Wd.fault (Mo.Bd.w b)) b n
noncomputable def Mo.dSettle_e5 (b : Mo.Bd) (rs : List (List Int)) : List (List Int) := Mo.dReset_v1 (Mo.Wd.fault (Mo.Bd.w b)) b rs
noncomputable def Mo.dSettle_e6 (b : Mo.Bd) (n : Nat) : Mo.Bd := Mo.dReset_v2 16 (Mo.dSettle_e4 b n) n
noncomputable def Mo.dSettle_e7 (harts : Int) (b : Mo.Bd) (n : Nat) : Mo.Bd := Mo.dWire_f18 harts (Mo.dSettle_e1 b n) n
noncomputable def Mo.dSettle_e8 (harts : Int) (b : Mo.Bd) (n : Nat) : Mo.Bd := Mo.dWire_f18 harts (Mo.dSettle_e4 b n) n
noncomputable def Mo.dSettle_e9 (harts : Int) (b : Mo.Bd) (n : Nat) : Mo.Bd := Mo.dWire_f18 harts (Mo.dSettle_e6 b n) n
noncomputable def Mo.dSettle_e10 (b : Mo.Bd) (n : Nat) (rs : List (List Int)) : List (List Int) := Mo.dReset_v1 16 (Mo.dSettle_e4 b n) (Mo.dSettle_e5 b rs)
noncomputable def Mo.dSettle_v1 (b : Mo.Bd) (n : Nat) (rs : List (List Int)) : List (List Int) := (if ((iN (Mo.Wd.fault (Mo.Bd.w b)) 0) = true) then (if ((Mo.rAsked_v1 (Mo.Bd.r (Mo.dSettle_e4 b n))) = true) then (Mo.dSettle_e10 b n rs) else (Mo.dSettle_e5 b rs)) else (if ((Mo.rAsked_v1 (Mo.Bd.r b)) = true) then (Mo.dSettle_e2 b rs) else rs))
noncomputable def Mo.dSettle_v2 (harts : Int) (b : Mo.Bd) (n : Nat) : Mo.Bd := (if ((iN (Mo.Wd.fault (Mo.Bd.w b)) 0) = true) then (if ((Mo.rAsked_v1 (Mo.Bd.r (Mo.dSettle_e4 b n))) = true) then (Mo.dSettle_e9 harts b n) else (Mo.dSettle_e8 harts b n)) else (if ((Mo.rAsked_v1 (Mo.Bd.r b)) = true) then (Mo.dSettle_e7 harts b n) else (Mo.dSettle_e3 harts b n)))
noncomputable def Mo.dSettle_pre (harts : Int) (b : Mo.Bd) (n : Nat) (rs : List (List Int)) : Prop := (if ((iN (Mo.Wd.fault (Mo.Bd.w b)) 0) = true) then ((Mo.dReset_pre (Mo.Wd.fault (Mo.Bd.w b)) b n rs) ∧ (if ((Mo.rAsked_v1 (Mo.Bd.r (Mo.dSettle_e4 b n))) = true) then ((Mo.dReset_pre 16 (Mo.dSettle_e4 b n) n (Mo.dSettle_e5 b rs)) ∧ (Mo.dWire_p harts (Mo.dSettle_e6 b n) n)) else (Mo.dWire_p harts (Mo.dSettle_e4 b n) n))) else (if ((Mo.rAsked_v1 (Mo.Bd.r b)) = true) then ((Mo.dReset_pre 16 b n rs) ∧ (Mo.dWire_p harts (Mo.dSettle_e1 b n) n)) else (Mo.dWire_p harts b n)))
noncomputable def dSettle_tree (harts : Int) (counts : Int) (dv : Int) (b : Mo.Bd) (n : Nat) (rs : List (List Int)) (K : S → List Ob → Prop) : Prop := (True ∧ (if ((iN (Mo.Wd.fault (Mo.Bd.w b)) 0) = true) then (((lenR rs) = (lenR rs)) ∧ ((n = n) ∧ (((iL 0 (castI n)) = (iL 0 (castI n))) ∧ ((Mo.dReset_pre (Mo.Wd.fault (Mo.Bd.w b)) b n rs) ∧ (True ∧ (if ((Mo.rAsked_v1 (Mo.Bd.r (Mo.dSettle_e4 b n))) = true) then (((lenR (Mo.dSettle_e5 b rs)) = (lenR (Mo.dSettle_e5 b rs))) ∧ ((n = n) ∧ (((iL 0 (castI n)) = (iL 0 (castI n))) ∧ ((Mo.dReset_pre 16 (Mo.dSettle_e4 b n) n (Mo.dSettle_e5 b rs)) ∧ (((lenR (Mo.dSettle_e10 b n rs)) = (lenR (Mo.dSettle_e10 b n rs))) ∧ ((n = n) ∧ (((iL 0 (castI n)) = (iL 0 (castI n))) ∧ ((Mo.dWire_p harts (Mo.dSettle_e6 b n) n) ∧ K (.tup []) (hm_LpE_1 harts counts dv (Mo.dSettle_e10 b n rs) (Mo.dSettle_e9 harts b n) n))))))))) else (((lenR (Mo.dSettle_e5 b rs)) = (lenR (Mo.dSettle_e5 b rs))) ∧ ((n = n) ∧ (((iL 0 (castI n)) = (iL 0 (castI n))) ∧ ((Mo.dWire_p harts (Mo.dSettle_e4 b n) n) ∧ K (.tup []) (hm_LpE_1 harts counts dv (Mo.dSettle_e5 b rs) (Mo.dSettle_e8 harts b n) n))))))))))) else (True ∧ (if ((Mo.rAsked_v1 (Mo.Bd.r b)) = true) then (((lenR rs) = (lenR rs)) ∧ ((n = n) ∧ (((iL 0 (castI n)) = (iL 0 (castI n))) ∧ ((Mo.dReset_pre 16 b n rs) ∧ (((lenR (Mo.dSettle_e2 b rs)) = (lenR (Mo.dSettle_e2 b rs))) ∧ ((n = n) ∧ (((iL 0 (castI n)) = (iL 0 (castI n))) ∧ ((Mo.dWire_p harts (Mo.dSettle_e1 b n) n) ∧ K (.tup []) (hm_LpE_1 harts counts dv (Mo.dSettle_e2 b rs) (Mo.dSettle_e7 harts b n) n))))))))) else (((lenR rs) = (lenR rs)) ∧ ((n = n) ∧ (((iL 0 (castI n)) = (iL 0 (castI n))) ∧ ((Mo.dWire_p harts b n) ∧ K (.tup []) (hm_LpE_1 harts counts dv rs (Mo.dSettle_e3 harts b n) n)))))))))
theorem dSettle_run (harts : Int) (counts : Int) (dv : Int) (b : Mo.Bd) (n : Nat) (rs : List (List Int)) (K : S → List Ob → Prop) : callX (std noW) tt ffLpD stopLpD (lpB noW Tryz.prog) noL 6 82 [.ptr 0 (.l 0)] (h_BD harts counts dv b n rs) (gcK 12 (nilK none (mvsK [8] (optK (o_BD n) (ivK false K))))) = dSettle_tree harts counts dv b n rs K := by kernel_rfl
noncomputable def dSettle_T (harts : Int) (counts : Int) (dv : Int) (b : Mo.Bd) (n : Nat) (rs : List (List Int)) (K : S → List Ob → Prop) : Prop := Mo.dSettle_pre harts b n rs ∧ K (.tup []) (hm_LpE_1 harts counts dv (Mo.dSettle_v1 b n rs) (Mo.dSettle_v2 harts b n) n)
theorem dSettle_all (harts : Int) (counts : Int) (dv : Int) (b : Mo.Bd) (n : Nat) (rs : List (List Int)) (K : S → List Ob → Prop) (h : dSettle_T harts counts dv b n rs K) : dSettle_tree harts counts dv b n rs K := by
  unfold dSettle_T at h; obtain ⟨h0, h⟩ := h; unfold dSettle_tree
  try simp only [Mo.dSettle_v1] at h0 h
  try simp only [Mo.dSettle_v2] at h0 h
  try simp only [Mo.dSettle_pre] at h0 h
  repeat' (first | (refine ite_intro (fun c => ?_) (fun c => ?_) <;> first | simp only [if_pos c] at h0 h | simp only [if_neg c] at h0 h | skip) | with_reducible (replace h0 := (h0 : True ∧ _).2) | with_reducible (refine ⟨rfl, ?_⟩) | with_reducible (refine ⟨h0.1, ?_⟩; replace h0 := h0.2) | with_reducible (refine ⟨h0, ?_⟩) | (refine ⟨h0.1, ?_⟩; replace h0 := h0.2) | refine ⟨h0, ?_⟩ | refine ⟨rfl, ?_⟩ | refine ⟨trivial, ?_⟩ | refine ⟨by assumption, ?_⟩ | refine ⟨Eq.symm (by assumption), ?_⟩ | exact h | refine ⟨?_, ?_⟩ | exact h0.elim | trivial | contradiction | (simp only [if_true, if_false, Bool.false_eq_true] at h; exact h))
theorem dSettle_sem (harts : Int) (counts : Int) (dv : Int) (b : Mo.Bd) (n : Nat) (rs : List (List Int)) (K : S → List Ob → Prop) (h : dSettle_T harts counts dv b n rs K) : CallSem noW Tryz.prog 82 [.ptr 0 (.l 0)] (h_BD harts counts dv b n rs) K := all_call (callX_ok tok (by kernel_rfl) ffLpDok stopLpD_ok _ _ _ _ (Eq.mpr (dSettle_run harts counts dv b n rs K) (dSettle_all harts counts dv b n rs K h)))
noncomputable def dSettle_con : Con := ⟨[.ptr 0], t_BD, [], fun a K => match a with | ⟨[harts, counts, dv, (.ofNat n), (.ofNat q1)], [q2], [], [cs_b_k, cs_b_w, cs_b_t, cs_b_r, cs_b_l, cs_b_n_c0], [rs]⟩ => (match Mo.Cl.is cs_b_k with | true => (match Mo.Wd.is cs_b_w with | true => (match Mo.Rt.is cs_b_t with | true => (match Mo.Rs.is cs_b_r with | true => (match Mo.Ln.is cs_b_l with | true => (match Mo.Cnt.is cs_b_n_c0 with | true => (q1 = n ∧ (q2 = (iL 0 (castI n)) ∧ dSettle_T harts counts dv (Mo.Bd.mk (Mo.Cl.of cs_b_k) (Mo.Wd.of cs_b_w) (Mo.Rt.of cs_b_t) (Mo.Rs.of cs_b_r) (Mo.Ln.of cs_b_l) (Mo.Bk.mk (Mo.Cnt.of cs_b_n_c0))) n rs K)) | false => False) | false => False) | false => False) | false => False) | false => False) | false => False) | _ => False⟩
theorem dSettle_ok : dSettle_con.ok noW Tryz.prog 82 := by
  intro a K h
  simp only [dSettle_con] at h
  split at h
  case h_2 => exact h.elim
  split at h
  case h_2 => exact h.elim
  rename_i is_b_k
  split at h
  case h_2 => exact h.elim
  rename_i is_b_w
  split at h
  case h_2 => exact h.elim
  rename_i is_b_t
  split at h
  case h_2 => exact h.elim
  rename_i is_b_r
  split at h
  case h_2 => exact h.elim
  rename_i is_b_l
  split at h
  case h_2 => exact h.elim
  rename_i is_b_n_c0
  obtain ⟨rfl, h⟩ := h
  obtain ⟨rfl, h⟩ := h
  exact CallSem.objs (dSettle_sem _ _ _ _ _ _ K h) (fun _ _ _ h => h) ⟨WkO.same, WkO.cells (Mo.Cl.is_ok is_b_k), WkO.same, WkO.cells (Mo.Wd.is_ok is_b_w), WkO.cells (Mo.Rt.is_ok is_b_t), WkO.cells (Mo.Rs.is_ok is_b_r), WkO.cells (Mo.Ln.is_ok is_b_l), WkO.same, WkO.same, WkO.same, WkO.same, WkO.opt (Mo.Cnt.is_ok is_b_n_c0), trivial⟩
noncomputable def tabLpE (n : Nat) : List Con := match Nat.beq n 82 with | true => [dSettle_con] | false => tabLpD n
theorem tabLpE_ok : ∀ f, ∀ c ∈ tabLpE f, c.ok noW Tryz.prog f := by
  intro f c hc
  unfold tabLpE at hc
  split at hc
  · rename_i hf; have := Nat.eq_of_beq_eq_true hf; subst this
    simp only [List.mem_cons, List.not_mem_nil, or_false] at hc
    subst hc; exact dSettle_ok
  exact tabLpD_ok f c hc
noncomputable def ffLpE (n : Nat) : Option FI := match Nat.beq n 82 with | true => none | false => ffLpD n
theorem ffLpEok : FOk Tryz.prog ffLpE := fun f fi hf => by
  unfold ffLpE at hf
  split at hf
  · cases hf
  exact ffLpDok f fi hf
noncomputable def stopLpE : CallT := stopC tabLpE stopB
theorem stopLpE_ok : ∀ f args h K, stopLpE f args h K → CallSem noW Tryz.prog f args h K := stopC_ok tabLpE_ok stopB_ok
end Go.SX.Y
