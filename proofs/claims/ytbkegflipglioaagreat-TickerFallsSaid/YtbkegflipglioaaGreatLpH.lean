/- What Go functions come to (lifted). -/
import Derived.Test.YtbkegflipglioaaGreatLpG
set_option maxRecDepth 20000
namespace Go.SX.Y
open Go.Proofs Go.RowKit
noncomputable def hm_LpH_1 (x1 : Int) (x2 : Int) (x3 : Int) (x4 : List (List Int)) (x5 : Int) (x6 : Int) (x7 : Int) (x8 : List (List Int)) (x9 : Mo.Bd) (x10 : Nat) : List Ob := [(.cells 135 [(.iv .i64 x1), (.iv .u64 x2), (.iv .i64 x3), (.ptr 1 (.l 0)), (.nsl 2 (.v (lenR x4)) false true)]), (.cells 131 [(.ptr 3 (.l 0)), (.ptr 4 (.l 0)), (.ptr 5 (.l 0)), (.ptr 6 (.l 0)), (.ptr 7 (.l 0)), (.ptr 8 (.l 0)), (.ptr 9 (.l 0)), (.iv .i64 x5), (.iv .i64 x6), (.iv .u32 x7), (.nsl 14 (.v (lenR x8)) false false)]), (.nrow 22 [.i .u32] x4), (.cells 183 (Mo.Cl.cells (Mo.Bd.k x9))), (.cells 188 [(.tsl 11 (.v x10) 1)]), (.cells 194 (Mo.Wd.cells (Mo.Bd.w x9))), (.cells 190 (Mo.Rt.cells (Mo.Bd.t x9))), (.cells 200 (Mo.Rs.cells (Mo.Bd.r x9))), (.cells 204 (Mo.Ln.cells (Mo.Bd.l x9))), (.cells 227 [(.mp 12)]), .dead, (.rowT 185 1 x10 [(.ptr 13 (.l 0))]), (.mapo [(.agg [(.il .u32 33554432), (.il .u32 49152)]), (.agg [(.il .u32 268500992), (.il .u32 256)]), (.agg [(.il .u32 268566528), (.il .u32 20)]), (.agg [(.il .u32 268632064), (.il .u32 16)]), (.agg [(.il .u32 268697600), (.il .u32 36)]), (.agg [(.il .u32 268763136), (.il .u32 12)])] [(.ifc 107 (.ptr 3 (.l 0))), (.ifc 110 (.ptr 4 (.l 0))), (.ifc 119 (.ptr 5 (.l 0))), (.ifc 125 (.ptr 7 (.l 0))), (.ifc 44 (.ptr 6 (.l 0))), (.ifc 127 (.ptr 8 (.l 0)))]), (.opt (iL 0 (castI x10)) 246 (Mo.Cnt.cells (Mo.Bk.c0 (Mo.Bd.n x9)))), (.nrow 73 [.i .u64, .i .i64] x8)]
noncomputable def Mo.pLoad_e1 (harts : Int) (b : Mo.Bd) (n : Nat) : Mo.Bd := Mo.pgap_v2 harts b n
noncomputable def Mo.pLoad_v1 (addr : Int) (seen : Int) (harts : Int) (b : Mo.Bd) (n : Nat) (rs : List (List Int)) : Int := (if ((iN (castI (lenR (Mo.dResets_v1 rs))) seen) = true) then 0 else (if ((iN (castI (lenR (Mo.dResets_v1 (Mo.pgap_e2 harts b n rs)))) seen) = true) then 0 else (Mo.uLoad_v1 addr (Mo.pLoad_e1 harts b n) n)))
noncomputable def Mo.pLoad_v2 (addr : Int) (seen : Int) (harts : Int) (b : Mo.Bd) (n : Nat) (rs : List (List Int)) : Int := (if ((iN (castI (lenR (Mo.dResets_v1 rs))) seen) = true) then 13 else (if ((iN (castI (lenR (Mo.dResets_v1 (Mo.pgap_e2 harts b n rs)))) seen) = true) then 13 else (Mo.uLoad_v2 addr (Mo.pLoad_e1 harts b n) n)))
noncomputable def Mo.pLoad_v3 (made : Int) (seen : Int) (rs : List (List Int)) : Int := (if ((iN (castI (lenR (Mo.dResets_v1 rs))) seen) = true) then made else (adi made 1))
noncomputable def Mo.pLoad_v4 (spent : Int) (seen : Int) (rs : List (List Int)) : Int := (if ((iN (castI (lenR (Mo.dResets_v1 rs))) seen) = true) then spent else (Mo.pgap_v1 spent))
noncomputable def Mo.pLoad_v5 (seen : Int) (harts : Int) (b : Mo.Bd) (n : Nat) (rs : List (List Int)) : List (List Int) := (if ((iN (castI (lenR (Mo.dResets_v1 rs))) seen) = true) then rs else (Mo.pgap_e2 harts b n rs))
noncomputable def Mo.pLoad_v6 (seen : Int) (harts : Int) (b : Mo.Bd) (n : Nat) (rs : List (List Int)) : Mo.Bd := (if ((iN (castI (lenR (Mo.dResets_v1 rs))) seen) = true) then b else (Mo.pLoad_e1 harts b n))
noncomputable def Mo.pLoad_pre (addr : Int) (spent : Int) (seen : Int) (harts : Int) (gs : List (List Int)) (b : Mo.Bd) (n : Nat) (rs : List (List Int)) : Prop := ((Mo.pDown_pre rs) ∧ (if ((iN (castI (lenR (Mo.dResets_v1 rs))) seen) = true) then True else ((Mo.pgap_pre spent harts gs b n rs) ∧ ((Mo.pDown_pre (Mo.pgap_e2 harts b n rs)) ∧ (if ((iN (castI (lenR (Mo.dResets_v1 (Mo.pgap_e2 harts b n rs)))) seen) = true) then True else ((Mo.dLoad_pre addr (Mo.pLoad_e1 harts b n) n) ∧ (Mo.pDown_pre (Mo.pgap_e2 harts b n rs))))))))
noncomputable def pLoad_tree (addr : Int) (made : Int) (spent : Int) (seen : Int) (harts : Int) (counts : Int) (dv : Int) (gs : List (List Int)) (b : Mo.Bd) (n : Nat) (rs : List (List Int)) (K : S → List Ob → Prop) : Prop := (((lenR rs) = (lenR rs)) ∧ (((lenR gs) = (lenR gs)) ∧ ((n = n) ∧ (((iL 0 (castI n)) = (iL 0 (castI n))) ∧ ((Mo.pDown_pre rs) ∧ (if ((iN (castI (lenR (Mo.dResets_v1 rs))) seen) = true) then K (.tup [(.iv .u32 0), (.iv .i64 13)]) (hm_LpH_1 made spent seen gs harts counts dv rs b n) else (((lenR rs) = (lenR rs)) ∧ (((lenR gs) = (lenR gs)) ∧ ((n = n) ∧ (((iL 0 (castI n)) = (iL 0 (castI n))) ∧ ((Mo.pgap_pre spent harts gs b n rs) ∧ (((lenR (Mo.pgap_e2 harts b n rs)) = (lenR (Mo.pgap_e2 harts b n rs))) ∧ (((lenR gs) = (lenR gs)) ∧ ((n = n) ∧ (((iL 0 (castI n)) = (iL 0 (castI n))) ∧ ((Mo.pDown_pre (Mo.pgap_e2 harts b n rs)) ∧ (if ((iN (castI (lenR (Mo.dResets_v1 (Mo.pgap_e2 harts b n rs)))) seen) = true) then K (.tup [(.iv .u32 0), (.iv .i64 13)]) (hm_LpH_1 (adi made 1) (Mo.pgap_v1 spent) seen gs harts counts dv (Mo.pgap_e2 harts b n rs) (Mo.pLoad_e1 harts b n) n) else (((lenR (Mo.pgap_e2 harts b n rs)) = (lenR (Mo.pgap_e2 harts b n rs))) ∧ ((n = n) ∧ (((iL 0 (castI n)) = (iL 0 (castI n))) ∧ ((Mo.dLoad_pre addr (Mo.pLoad_e1 harts b n) n) ∧ (((lenR (Mo.pgap_e2 harts b n rs)) = (lenR (Mo.pgap_e2 harts b n rs))) ∧ (((lenR gs) = (lenR gs)) ∧ ((n = n) ∧ (((iL 0 (castI n)) = (iL 0 (castI n))) ∧ ((Mo.pDown_pre (Mo.pgap_e2 harts b n rs)) ∧ (if ((iN (castI (lenR (Mo.dResets_v1 (Mo.pgap_e2 harts b n rs)))) seen) = true) then K (.tup [(.iv .u32 (Mo.uLoad_v1 addr (Mo.pLoad_e1 harts b n) n)), (.iv .i64 13)]) (hm_LpH_1 (adi made 1) (Mo.pgap_v1 spent) seen gs harts counts dv (Mo.pgap_e2 harts b n rs) (Mo.pLoad_e1 harts b n) n) else K (.tup [(.iv .u32 (Mo.uLoad_v1 addr (Mo.pLoad_e1 harts b n) n)), (.iv .i64 (Mo.uLoad_v2 addr (Mo.pLoad_e1 harts b n) n))]) (hm_LpH_1 (adi made 1) (Mo.pgap_v1 spent) seen gs harts counts dv (Mo.pgap_e2 harts b n rs) (Mo.pLoad_e1 harts b n) n))))))))))))))))))))))))))))
theorem pLoad_run (addr : Int) (made : Int) (spent : Int) (seen : Int) (harts : Int) (counts : Int) (dv : Int) (gs : List (List Int)) (b : Mo.Bd) (n : Nat) (rs : List (List Int)) (K : S → List Ob → Prop) : callX (std noW) tt ffLpG stopLpG (lpB noW Tryz.prog) noL 8 62 [.ptr 0 (.l 0), .iv .u32 addr] (h_PT made spent seen harts counts dv gs b n rs) (gcK 14 (nilK none (mvsK [10] (optK (o_PT n) (ivK true K))))) = pLoad_tree addr made spent seen harts counts dv gs b n rs K := by kernel_rfl
noncomputable def pLoad_T (addr : Int) (made : Int) (spent : Int) (seen : Int) (harts : Int) (counts : Int) (dv : Int) (gs : List (List Int)) (b : Mo.Bd) (n : Nat) (rs : List (List Int)) (K : S → List Ob → Prop) : Prop := Mo.pLoad_pre addr spent seen harts gs b n rs ∧ K (.tup [(.iv .u32 (Mo.pLoad_v1 addr seen harts b n rs)), (.iv .i64 (Mo.pLoad_v2 addr seen harts b n rs))]) (hm_LpH_1 (Mo.pLoad_v3 made seen rs) (Mo.pLoad_v4 spent seen rs) seen gs harts counts dv (Mo.pLoad_v5 seen harts b n rs) (Mo.pLoad_v6 seen harts b n rs) n)
theorem pLoad_all (addr : Int) (made : Int) (spent : Int) (seen : Int) (harts : Int) (counts : Int) (dv : Int) (gs : List (List Int)) (b : Mo.Bd) (n : Nat) (rs : List (List Int)) (K : S → List Ob → Prop) (h : pLoad_T addr made spent seen harts counts dv gs b n rs K) : pLoad_tree addr made spent seen harts counts dv gs b n rs K := by
  unfold pLoad_T at h; obtain ⟨h0, h⟩ := h; unfold pLoad_tree
  try simp only [Mo.pLoad_v1] at h0 h
  try simp only [Mo.pLoad_v2] at h0 h
  try simp only [Mo.pLoad_v3] at h0 h
  try simp only [Mo.pLoad_v4] at h0 h
  try simp only [Mo.pLoad_v5] at h0 h
  try simp only [Mo.pLoad_v6] at h0 h
  try simp only [Mo.pLoad_pre] at h0 h
  repeat' (first | (refine ite_intro (fun c => ?_) (fun c => ?_) <;> first | simp only [if_pos c] at h0 h | simp only [if_neg c] at h0 h | skip) | with_reducible (replace h0 := (h0 : True ∧ _).2) | with_reducible (refine ⟨rfl, ?_⟩) | with_reducible (refine ⟨h0.1, ?_⟩; replace h0 := h0.2) | with_reducible (refine ⟨h0, ?_⟩) | (refine ⟨h0.1, ?_⟩; replace h0 := h0.2) | refine ⟨h0, ?_⟩ | refine ⟨rfl, ?_⟩ | refine ⟨trivial, ?_⟩ | refine ⟨by assumption, ?_⟩ | refine ⟨Eq.symm (by assumption), ?_⟩ | exact h | refine ⟨?_, ?_⟩ | exact h0.elim | trivial | contradiction | (simp only [if_true, if_false, Bool.false_eq_true] at h; exact h))
theorem pLoad_sem (addr : Int) (made : Int) (spent : Int) (seen : Int) (harts : Int) (counts : Int) (dv : Int) (gs : List (List Int)) (b : Mo.Bd) (n : Nat) (rs : List (List Int)) (K : S → List Ob → Prop) (h : pLoad_T addr made spent seen harts counts dv gs b n rs K) : CallSem noW Tryz.prog 62 [.ptr 0 (.l 0), .iv .u32 addr] (h_PT made spent seen harts counts dv gs b n rs) K := all_call (callX_ok tok (by kernel_rfl) ffLpGok stopLpG_ok _ _ _ _ (Eq.mpr (pLoad_run addr made spent seen harts counts dv gs b n rs K) (pLoad_all addr made spent seen harts counts dv gs b n rs K h)))
noncomputable def pLoad_con : Con := ⟨[.ptr 0, .int .u32], t_PT, [], fun a K => match a with | ⟨[addr, made, spent, seen, harts, counts, dv, (.ofNat n), (.ofNat q1)], [q2], [], [cs_b_k, cs_b_w, cs_b_t, cs_b_r, cs_b_l, cs_b_n_c0], [gs, rs]⟩ => (match Mo.Cl.is cs_b_k with | true => (match Mo.Wd.is cs_b_w with | true => (match Mo.Rt.is cs_b_t with | true => (match Mo.Rs.is cs_b_r with | true => (match Mo.Ln.is cs_b_l with | true => (match Mo.Cnt.is cs_b_n_c0 with | true => (q1 = n ∧ (q2 = (iL 0 (castI n)) ∧ pLoad_T addr made spent seen harts counts dv gs (Mo.Bd.mk (Mo.Cl.of cs_b_k) (Mo.Wd.of cs_b_w) (Mo.Rt.of cs_b_t) (Mo.Rs.of cs_b_r) (Mo.Ln.of cs_b_l) (Mo.Bk.mk (Mo.Cnt.of cs_b_n_c0))) n rs K)) | false => False) | false => False) | false => False) | false => False) | false => False) | false => False) | _ => False⟩
theorem pLoad_ok : pLoad_con.ok noW Tryz.prog 62 := by
  intro a K h
  simp only [pLoad_con] at h
  split at h
  case h_2 => exact h.elim
  split at h
  case h_2 => exact h.elim
  rename_i is_b_k
  split at h
  case h_2 => exact h.elim
  rename_i is_b_w
  split at h
  case h_2 => exact h.elim
  rename_i is_b_t
  split at h
  case h_2 => exact h.elim
  rename_i is_b_r
  split at h
  case h_2 => exact h.elim
  rename_i is_b_l
  split at h
  case h_2 => exact h.elim
  rename_i is_b_n_c0
  obtain ⟨rfl, h⟩ := h
  obtain ⟨rfl, h⟩ := h
  exact CallSem.objs (pLoad_sem _ _ _ _ _ _ _ _ _ _ _ K h) (fun _ _ _ h => h) ⟨WkO.same, WkO.same, WkO.same, WkO.cells (Mo.Cl.is_ok is_b_k), WkO.same, WkO.cells (Mo.Wd.is_ok is_b_w), WkO.cells (Mo.Rt.is_ok is_b_t), WkO.cells (Mo.Rs.is_ok is_b_r), WkO.cells (Mo.Ln.is_ok is_b_l), WkO.same, WkO.same, WkO.same, WkO.same, WkO.opt (Mo.Cnt.is_ok is_b_n_c0), trivial⟩
noncomputable def Mo.pStore_e1 (harts : Int) (b : Mo.Bd) (n : Nat) : Mo.Bd := Mo.pgap_v2 harts b n
noncomputable def Mo.pStore_e2 (addr : Int) (v : Int) (harts : Int) (b : Mo.Bd) (n : Nat) : Mo.Bd := Mo.dStore_v1 addr v harts (Mo.pStore_e1 harts b n) n
noncomputable def Mo.pStore_v1 (addr : Int) (v : Int) (seen : Int) (harts : Int) (b : Mo.Bd) (n : Nat) (rs : List (List Int)) : Int := (if ((iN (castI (lenR (Mo.dResets_v1 rs))) seen) = true) then 13 else (if ((iN (castI (lenR (Mo.dResets_v1 (Mo.pgap_e2 harts b n rs)))) seen) = true) then 13 else (if ((iN (castI (lenR (Mo.dResets_v1 (Mo.dStore_e2 addr v (Mo.pStore_e1 harts b n) n (Mo.pgap_e2 harts b n rs))))) seen) = true) then 13 else (Mo.uStore_v1 addr (Mo.pStore_e1 harts b n) n))))
noncomputable def Mo.pStore_v2 (made : Int) (seen : Int) (rs : List (List Int)) : Int := (if ((iN (castI (lenR (Mo.dResets_v1 rs))) seen) = true) then made else (adi made 1))
noncomputable def Mo.pStore_v3 (spent : Int) (seen : Int) (rs : List (List Int)) : Int := (if ((iN (castI (lenR (Mo.dResets_v1 rs))) seen) = true) then spent else (Mo.pgap_v1 spent))
noncomputable def Mo.pStore_v4 (addr : Int) (v : Int) (seen : Int) (harts : Int) (b : Mo.Bd) (n : Nat) (rs : List (List Int)) : List (List Int) := (if ((iN (castI (lenR (Mo.dResets_v1 rs))) seen) = true) then rs else (if ((iN (castI (lenR (Mo.dResets_v1 (Mo.pgap_e2 harts b n rs)))) seen) = true) then (Mo.pgap_e2 harts b n rs) else (Mo.dStore_e2 addr v (Mo.pStore_e1 harts b n) n (Mo.pgap_e2 harts b n rs))))
noncomputable def Mo.pStore_v5 (addr : Int) (v : Int) (seen : Int) (harts : Int) (b : Mo.Bd) (n : Nat) (rs : List (List Int)) : Mo.Bd := (if ((iN (castI (lenR (Mo.dResets_v1 rs))) seen) = true) then b else (if ((iN (castI (lenR (Mo.dResets_v1 (Mo.pgap_e2 harts b n rs)))) seen) = true) then (Mo.pStore_e1 harts b n) else (Mo.pStore_e2 addr v harts b n)))
noncomputable def Mo.pStore_pre (addr : Int) (v : Int) (spent : Int) (seen : Int) (harts : Int) (gs : List (List Int)) (b : Mo.Bd) (n : Nat) (rs : List (List Int)) : Prop := ((Mo.pDown_pre rs) ∧ (if ((iN (castI (lenR (Mo.dResets_v1 rs))) seen) = true) then True else ((Mo.pgap_pre spent harts gs b n rs) ∧ ((Mo.pDown_pre (Mo.pgap_e2 harts b n rs)) ∧ (if ((iN (castI (lenR (Mo.dResets_v1 (Mo.pgap_e2 harts b n rs)))) seen) = true) then True else ((Mo.dStore_pre addr v harts (Mo.pStore_e1 harts b n) n (Mo.pgap_e2 harts b n rs)) ∧ (Mo.pDown_pre (Mo.dStore_e2 addr v (Mo.pStore_e1 harts b n) n (Mo.pgap_e2 harts b n rs)))))))))
noncomputable def pStore_tree (addr : Int) (v : Int) (made : Int) (spent : Int) (seen : Int) (harts : Int) (counts : Int) (dv : Int) (gs : List (List Int)) (b : Mo.Bd) (n : Nat) (rs : List (List Int)) (K : S → List Ob → Prop) : Prop := (((lenR rs) = (lenR rs)) ∧ (((lenR gs) = (lenR gs)) ∧ ((n = n) ∧ (((iL 0 (castI n)) = (iL 0 (castI n))) ∧ ((Mo.pDown_pre rs) ∧ (if ((iN (castI (lenR (Mo.dResets_v1 rs))) seen) = true) then K (.iv .i64 13) (hm_LpH_1 made spent seen gs harts counts dv rs b n) else (((lenR rs) = (lenR rs)) ∧ (((lenR gs) = (lenR gs)) ∧ ((n = n) ∧ (((iL 0 (castI n)) = (iL 0 (castI n))) ∧ ((Mo.pgap_pre spent harts gs b n rs) ∧ (((lenR (Mo.pgap_e2 harts b n rs)) = (lenR (Mo.pgap_e2 harts b n rs))) ∧ (((lenR gs) = (lenR gs)) ∧ ((n = n) ∧ (((iL 0 (castI n)) = (iL 0 (castI n))) ∧ ((Mo.pDown_pre (Mo.pgap_e2 harts b n rs)) ∧ (if ((iN (castI (lenR (Mo.dResets_v1 (Mo.pgap_e2 harts b n rs)))) seen) = true) then K (.iv .i64 13) (hm_LpH_1 (adi made 1) (Mo.pgap_v1 spent) seen gs harts counts dv (Mo.pgap_e2 harts b n rs) (Mo.pStore_e1 harts b n) n) else (((lenR (Mo.pgap_e2 harts b n rs)) = (lenR (Mo.pgap_e2 harts b n rs))) ∧ ((n = n) ∧ (((iL 0 (castI n)) = (iL 0 (castI n))) ∧ ((Mo.dStore_pre addr v harts (Mo.pStore_e1 harts b n) n (Mo.pgap_e2 harts b n rs)) ∧ (((lenR (Mo.dStore_e2 addr v (Mo.pStore_e1 harts b n) n (Mo.pgap_e2 harts b n rs))) = (lenR (Mo.dStore_e2 addr v (Mo.pStore_e1 harts b n) n (Mo.pgap_e2 harts b n rs)))) ∧ (((lenR gs) = (lenR gs)) ∧ ((n = n) ∧ (((iL 0 (castI n)) = (iL 0 (castI n))) ∧ ((Mo.pDown_pre (Mo.dStore_e2 addr v (Mo.pStore_e1 harts b n) n (Mo.pgap_e2 harts b n rs))) ∧ (if ((iN (castI (lenR (Mo.dResets_v1 (Mo.dStore_e2 addr v (Mo.pStore_e1 harts b n) n (Mo.pgap_e2 harts b n rs))))) seen) = true) then K (.iv .i64 13) (hm_LpH_1 (adi made 1) (Mo.pgap_v1 spent) seen gs harts counts dv (Mo.dStore_e2 addr v (Mo.pStore_e1 harts b n) n (Mo.pgap_e2 harts b n rs)) (Mo.pStore_e2 addr v harts b n) n) else K (.iv .i64 (Mo.uStore_v1 addr (Mo.pStore_e1 harts b n) n)) (hm_LpH_1 (adi made 1) (Mo.pgap_v1 spent) seen gs harts counts dv (Mo.dStore_e2 addr v (Mo.pStore_e1 harts b n) n (Mo.pgap_e2 harts b n rs)) (Mo.pStore_e2 addr v harts b n) n))))))))))))))))))))))))))))
theorem pStore_run (addr : Int) (v : Int) (made : Int) (spent : Int) (seen : Int) (harts : Int) (counts : Int) (dv : Int) (gs : List (List Int)) (b : Mo.Bd) (n : Nat) (rs : List (List Int)) (K : S → List Ob → Prop) : callX (std noW) tt ffLpG stopLpG (lpB noW Tryz.prog) noL 8 63 [.ptr 0 (.l 0), .iv .u32 addr, .iv .u32 v] (h_PT made spent seen harts counts dv gs b n rs) (gcK 14 (nilK none (mvsK [10] (optK (o_PT n) (ivK true K))))) = pStore_tree addr v made spent seen harts counts dv gs b n rs K := by kernel_rfl
noncomputable def pStore_T (addr : Int) (v : Int) (made : Int) (spent : Int) (seen : Int) (harts : Int) (counts : Int) (dv : Int) (gs : List (List Int)) (b : Mo.Bd) (n : Nat) (rs : List (List Int)) (K : S → List Ob → Prop) : Prop := Mo.pStore_pre addr v spent seen harts gs b n rs ∧ K (.iv .i64 (Mo.pStore_v1 addr v seen harts b n rs)) (hm_LpH_1 (Mo.pStore_v2 made seen rs) (Mo.pStore_v3 spent seen rs) seen gs harts counts dv (Mo.pStore_v4 addr v seen harts b n rs) (Mo.pStore_v5 addr v seen harts b n rs) n)
theorem pStore_all (addr : Int) (v : Int) (made : Int) (spent : Int) (seen : Int) (harts : Int) (counts : Int) (dv : Int) (gs : List (List Int)) (b : Mo.Bd) (n : Nat) (rs : List (List Int)) (K : S → List Ob → Prop) (h : pStore_T addr v made spent seen harts counts dv gs b n rs K) : pStore_tree addr v made spent seen harts counts dv gs b n rs K := by
  unfold pStore_T at h; obtain ⟨h0, h⟩ := h; unfold pStore_tree
  try simp only [Mo.pStore_v1] at h0 h
  try simp only [Mo.pStore_v2] at h0 h
  try simp only [Mo.pStore_v3] at h0 h
  try simp only [Mo.pStore_v4] at h0 h
  try simp only [Mo.pStore_v5] at h0 h
  try simp only [Mo.pStore_pre] at h0 h
  repeat' first | exact h | refine ⟨rfl, ?_⟩ | (refine ⟨h0.1, ?_⟩; replace h0 := h0.2) | refine ⟨h0, ?_⟩ | exact h0.elim | (refine ite_intro (fun c => ?_) fun c => ?_) <;> first | simp only [if_pos c] at h0 h | simp only [if_neg c] at h0 h | skip
theorem pStore_sem (addr : Int) (v : Int) (made : Int) (spent : Int) (seen : Int) (harts : Int) (counts : Int) (dv : Int) (gs : List (List Int)) (b : Mo.Bd) (n : Nat) (rs : List (List Int)) (K : S → List Ob → Prop) (h : pStore_T addr v made spent seen harts counts dv gs b n rs K) : CallSem noW Tryz.prog 63 [.ptr 0 (.l 0), .iv .u32 addr, .iv .u32 v] (h_PT made spent seen harts counts dv gs b n rs) K := all_call (callX_ok tok (by kernel_rfl) ffLpGok stopLpG_ok _ _ _ _ (Eq.mpr (pStore_run addr v made spent seen harts counts dv gs b n rs K) (pStore_all addr v made spent seen harts counts dv gs b n rs K h)))
noncomputable def pStore_con : Con := ⟨[.ptr 0, .int .u32, .int .u32], t_PT, [], fun a K => match a with | ⟨[addr, v, made, spent, seen, harts, counts, dv, (.ofNat n), (.ofNat q1)], [q2], [], [cs_b_k, cs_b_w, cs_b_t, cs_b_r, cs_b_l, cs_b_n_c0], [gs, rs]⟩ => (match Mo.Cl.is cs_b_k with | true => (match Mo.Wd.is cs_b_w with | true => (match Mo.Rt.is cs_b_t with | true => (match Mo.Rs.is cs_b_r with | true => (match Mo.Ln.is cs_b_l with | true => (match Mo.Cnt.is cs_b_n_c0 with | true => (q1 = n ∧ (q2 = (iL 0 (castI n)) ∧ pStore_T addr v made spent seen harts counts dv gs (Mo.Bd.mk (Mo.Cl.of cs_b_k) (Mo.Wd.of cs_b_w) (Mo.Rt.of cs_b_t) (Mo.Rs.of cs_b_r) (Mo.Ln.of cs_b_l) (Mo.Bk.mk (Mo.Cnt.of cs_b_n_c0))) n rs K)) | false => False) | false => False) | false => False) | false => False) | false => False) | false => False) | _ => False⟩
theorem pStore_ok : pStore_con.ok noW Tryz.prog 63 := by
  intro a K h
  simp only [pStore_con] at h
  split at h
  case h_2 => exact h.elim
  split at h
  case h_2 => exact h.elim
  rename_i is_b_k
  split at h
  case h_2 => exact h.elim
  rename_i is_b_w
  split at h
  case h_2 => exact h.elim
  rename_i is_b_t
  split at h
  case h_2 => exact h.elim
  rename_i is_b_r
  split at h
  case h_2 => exact h.elim
  rename_i is_b_l
  split at h
  case h_2 => exact h.elim
  rename_i is_b_n_c0
  obtain ⟨rfl, h⟩ := h
  obtain ⟨rfl, h⟩ := h
  exact CallSem.objs (pStore_sem _ _ _ _ _ _ _ _ _ _ _ _ K h) (fun _ _ _ h => h) ⟨WkO.same, WkO.same, WkO.same, WkO.cells (Mo.Cl.is_ok is_b_k), WkO.same, WkO.cells (Mo.Wd.is_ok is_b_w), WkO.cells (Mo.Rt.is_ok is_b_t), WkO.cells (Mo.Rs.is_ok is_b_r), WkO.cells (Mo.Ln.is_ok is_b_l), WkO.same, WkO.same, WkO.same, WkO.same, WkO.opt (Mo.Cnt.is_ok is_b_n_c0), trivial⟩
noncomputable def tabLpH (n : Nat) : List Con := match Nat.beq n 62 with | true => [pLoad_con] | false => match Nat.beq n 63 with | true => [pStore_con] | false => tabLpG n
theorem tabLpH_ok : ∀ f, ∀ c ∈ tabLpH f, c.ok noW Tryz.prog f := by
  intro f c hc
  unfold tabLpH at hc
  split at hc
  · rename_i hf; have := Nat.eq_of_beq_eq_true hf; subst this
    simp only [List.mem_cons, List.not_mem_nil, or_false] at hc
    subst hc; exact pLoad_ok
  split at hc
  · rename_i hf; have := Nat.eq_of_beq_eq_true hf; subst this
    simp only [List.mem_cons, List.not_mem_nil, or_false] at hc
    subst hc; exact pStore_ok
  exact tabLpG_ok f c hc
noncomputable def ffLpH (n : Nat) : Option FI := match Nat.beq n 62 with | true => none | false => match Nat.beq n 63 with | true => none | false => ffLpG n
theorem ffLpHok : FOk Tryz.prog ffLpH := fun f fi hf => by
  unfold ffLpH at hf
  split at hf
  · cases hf
  split at hf
  · cases hf
  exact ffLpGok f fi hf
noncomputable def stopLpH : CallT := stopC tabLpH stopB
theorem stopLpH_ok : ∀ f args h K, stopLpH f args h K → CallSem noW Tryz.prog f args h K := stopC_ok tabLpH_ok stopB_ok
end Go.SX.Y
