/- What Go functions come to (lifted). -/
import Derived.Test.YtbkegflipglioaaGreatLpE
set_option maxRecDepth 20000
namespace Go.SX.Y
open Go.Proofs Go.RowKit
noncomputable def hm_LpF_1 (x1 : Int) (x2 : Int) (x3 : Int) (x4 : List (List Int)) (x5 : Mo.Bd) (x6 : Nat) : List Ob := [(.cells 131 [(.ptr 1 (.l 0)), (.ptr 2 (.l 0)), (.ptr 3 (.l 0)), (.ptr 4 (.l 0)), (.ptr 5 (.l 0)), (.ptr 6 (.l 0)), (.ptr 7 (.l 0)), (.iv .i64 x1), (.iv .i64 x2), (.iv .u32 x3), (.nsl 12 (.v (lenR x4)) false false)]), (.cells 183 (Mo.Cl.cells (Mo.Bd.k x5))), (.cells 188 [(.tsl 9 (.v x6) 1)]), (.cells 194 (Mo.Wd.cells (Mo.Bd.w x5))), (.cells 190 (Mo.Rt.cells (Mo.Bd.t x5))), (.cells 200 (Mo.Rs.cells (Mo.Bd.r x5))), (.cells 204 (Mo.Ln.cells (Mo.Bd.l x5))), (.cells 227 [(.mp 10)]), .dead, (.rowT 185 1 x6 [(.ptr 11 (.l 0))]), (.mapo [(.agg [(.il .u32 33554432), (.il .u32 49152)]), (.agg [(.il .u32 268500992), (.il .u32 256)]), (.agg [(.il .u32 268566528), (.il .u32 20)]), (.agg [(.il .u32 268632064), (.il .u32 16)]), (.agg [(.il .u32 268697600), (.il .u32 36)]), (.agg [(.il .u32 268763136), (.il .u32 12)])] [(.ifc 107 (.ptr 1 (.l 0))), (.ifc 110 (.ptr 2 (.l 0))), (.ifc 119 (.ptr 3 (.l 0))), (.ifc 125 (.ptr 5 (.l 0))), (.ifc 44 (.ptr 4 (.l 0))), (.ifc 127 (.ptr 6 (.l 0)))]), (.opt (iL 0 (castI x6)) 246 (Mo.Cnt.cells (Mo.Bk.c0 (Mo.Bd.n x5)))), (.nrow 73 [.i .u64, .i .i64] x4)]
noncomputable def Mo.dTick_e1 (ticks : Int) (b : Mo.Bd) (n : Nat) (rs : List (List Int)) : List (List Int) := Mo.dSettle_v1 { b with k := (Mo.kTick_v1 (Mo.wTick_v1 ticks (Mo.Bd.w b)) (Mo.Bd.k b)), w := (Mo.wTick_v2 ticks (Mo.Bd.w b)), t := (Mo.tTick_v1 (Mo.wTick_v1 ticks (Mo.Bd.w b)) (Mo.Bd.t b)), n := (Mo.nTick_f2 (Mo.wTick_v1 ticks (Mo.Bd.w b)) n (Mo.Bd.n b)) } n rs
noncomputable def Mo.dTick_e2 (ticks : Int) (harts : Int) (b : Mo.Bd) (n : Nat) : Mo.Bd := Mo.dSettle_v2 harts { b with k := (Mo.kTick_v1 (Mo.wTick_v1 ticks (Mo.Bd.w b)) (Mo.Bd.k b)), w := (Mo.wTick_v2 ticks (Mo.Bd.w b)), t := (Mo.tTick_v1 (Mo.wTick_v1 ticks (Mo.Bd.w b)) (Mo.Bd.t b)), n := (Mo.nTick_f2 (Mo.wTick_v1 ticks (Mo.Bd.w b)) n (Mo.Bd.n b)) } n
noncomputable def Mo.dTick_e3 (ticks : Int) (harts : Int) (b : Mo.Bd) (n : Nat) : Int := Mo.wTick_v1 (sbq ticks (Mo.wTick_v1 ticks (Mo.Bd.w b))) (Mo.Bd.w (Mo.dTick_e2 ticks harts b n))
noncomputable def Mo.dTick_e4 (ticks : Int) (harts : Int) (b : Mo.Bd) (n : Nat) : Mo.Cl := Mo.kTick_v1 (Mo.dTick_e3 ticks harts b n) (Mo.Bd.k (Mo.dTick_e2 ticks harts b n))
noncomputable def Mo.dTick_e5 (ticks : Int) (harts : Int) (b : Mo.Bd) (n : Nat) : Mo.Rt := Mo.tTick_v1 (Mo.dTick_e3 ticks harts b n) (Mo.Bd.t (Mo.dTick_e2 ticks harts b n))
noncomputable def Mo.dTick_e6 (ticks : Int) (harts : Int) (b : Mo.Bd) (n : Nat) : Mo.Bk := Mo.nTick_f2 (Mo.dTick_e3 ticks harts b n) n (Mo.Bd.n (Mo.dTick_e2 ticks harts b n))
noncomputable def Mo.dTick_e7 (ticks : Int) (harts : Int) (b : Mo.Bd) (n : Nat) : Mo.Wd := Mo.wTick_v2 (sbq ticks (Mo.wTick_v1 ticks (Mo.Bd.w b))) (Mo.Bd.w (Mo.dTick_e2 ticks harts b n))
noncomputable def Mo.dTick_e8 (ticks : Int) (harts : Int) (b : Mo.Bd) (n : Nat) : Mo.Bd := Mo.dSettle_v2 harts { (Mo.dTick_e2 ticks harts b n) with k := (Mo.dTick_e4 ticks harts b n), w := (Mo.dTick_e7 ticks harts b n), t := (Mo.dTick_e5 ticks harts b n), n := (Mo.dTick_e6 ticks harts b n) } n
noncomputable def Mo.dTick_e9 (ticks : Int) (harts : Int) (b : Mo.Bd) (n : Nat) (rs : List (List Int)) : List (List Int) := Mo.dSettle_v1 { (Mo.dTick_e2 ticks harts b n) with k := (Mo.dTick_e4 ticks harts b n), w := (Mo.dTick_e7 ticks harts b n), t := (Mo.dTick_e5 ticks harts b n), n := (Mo.dTick_e6 ticks harts b n) } n (Mo.dTick_e1 ticks b n rs)
noncomputable def Mo.dTick_v1 (ticks : Int) (harts : Int) (b : Mo.Bd) (n : Nat) (rs : List (List Int)) : List (List Int) := (if ((iE (Mo.Wd.fault (Mo.wTick_v2 ticks (Mo.Bd.w b))) 0) = true) then (Mo.dTick_e1 ticks b n rs) else (Mo.dTick_e9 ticks harts b n rs))
noncomputable def Mo.dTick_v2 (ticks : Int) (harts : Int) (b : Mo.Bd) (n : Nat) : Mo.Bd := (if ((iE (Mo.Wd.fault (Mo.wTick_v2 ticks (Mo.Bd.w b))) 0) = true) then (Mo.dTick_e2 ticks harts b n) else (Mo.dTick_e8 ticks harts b n))
noncomputable def Mo.dTick_pre (ticks : Int) (harts : Int) (b : Mo.Bd) (n : Nat) (rs : List (List Int)) : Prop := ((Mo.kTick_pre (Mo.wTick_v1 ticks (Mo.Bd.w b)) (Mo.Bd.k b)) ∧ ((Mo.nTick_p (Mo.wTick_v1 ticks (Mo.Bd.w b)) n (Mo.Bd.n b)) ∧ ((Mo.tTick_pre (Mo.wTick_v1 ticks (Mo.Bd.w b)) (Mo.Bd.t b)) ∧ (if ((iE (Mo.Wd.fault (Mo.wTick_v2 ticks (Mo.Bd.w b))) 0) = true) then (Mo.dSettle_pre harts { b with k := (Mo.kTick_v1 (Mo.wTick_v1 ticks (Mo.Bd.w b)) (Mo.Bd.k b)), w := (Mo.wTick_v2 ticks (Mo.Bd.w b)), t := (Mo.tTick_v1 (Mo.wTick_v1 ticks (Mo.Bd.w b)) (Mo.Bd.t b)), n := (Mo.nTick_f2 (Mo.wTick_v1 ticks (Mo.Bd.w b)) n (Mo.Bd.n b)) } n rs) else ((Mo.dSettle_pre harts { b with k := (Mo.kTick_v1 (Mo.wTick_v1 ticks (Mo.Bd.w b)) (Mo.Bd.k b)), w := (Mo.wTick_v2 ticks (Mo.Bd.w b)), t := (Mo.tTick_v1 (Mo.wTick_v1 ticks (Mo.Bd.w b)) (Mo.Bd.t b)), n := (Mo.nTick_f2 (Mo.wTick_v1 ticks (Mo.Bd.w b)) n (Mo.Bd.n b)) } n rs) ∧ ((Mo.kTick_pre (Mo.dTick_e3 ticks harts b n) (Mo.Bd.k (Mo.dTick_e2 ticks harts b n))) ∧ ((Mo.nTick_p (Mo.dTick_e3 ticks harts b n) n (Mo.Bd.n (Mo.dTick_e2 ticks harts b n))) ∧ ((Mo.tTick_pre (Mo.dTick_e3 ticks harts b n) (Mo.Bd.t (Mo.dTick_e2 ticks harts b n))) ∧ (if ((iE (Mo.Wd.fault (Mo.dTick_e7 ticks harts b n)) 0) = true) then (Mo.dSettle_pre harts { (Mo.dTick_e2 ticks harts b n) with k := (Mo.dTick_e4 ticks harts b n), w := (Mo.dTick_e7 ticks harts b n), t := (Mo.dTick_e5 ticks harts b n), n := (Mo.dTick_e6 ticks harts b n) } n (Mo.dTick_e1 ticks b n rs)) else ((Mo.dSettle_pre harts { (Mo.dTick_e2 ticks harts b n) with k := (Mo.dTick_e4 ticks harts b n), w := (Mo.dTick_e7 ticks harts b n), t := (Mo.dTick_e5 ticks harts b n), n := (Mo.dTick_e6 ticks harts b n) } n (Mo.dTick_e1 ticks b n rs)) ∧ False))))))))))
noncomputable def dTick_tree (ticks : Int) (harts : Int) (counts : Int) (dv : Int) (b : Mo.Bd) (n : Nat) (rs : List (List Int)) (K : S → List Ob → Prop) : Prop := (True ∧ ((Mo.kTick_pre (Mo.wTick_v1 ticks (Mo.Bd.w b)) (Mo.Bd.k b)) ∧ ((n = n) ∧ (((iL 0 (castI n)) = (iL 0 (castI n))) ∧ ((Mo.nTick_p (Mo.wTick_v1 ticks (Mo.Bd.w b)) n (Mo.Bd.n b)) ∧ ((Mo.tTick_pre (Mo.wTick_v1 ticks (Mo.Bd.w b)) (Mo.Bd.t b)) ∧ (True ∧ (if ((iE (Mo.Wd.fault (Mo.wTick_v2 ticks (Mo.Bd.w b))) 0) = true) then (((lenR rs) = (lenR rs)) ∧ ((n = n) ∧ (((iL 0 (castI n)) = (iL 0 (castI n))) ∧ ((Mo.dSettle_pre harts { b with k := (Mo.kTick_v1 (Mo.wTick_v1 ticks (Mo.Bd.w b)) (Mo.Bd.k b)), w := (Mo.wTick_v2 ticks (Mo.Bd.w b)), t := (Mo.tTick_v1 (Mo.wTick_v1 ticks (Mo.Bd.w b)) (Mo.Bd.t b)), n := (Mo.nTick_f2 (Mo.wTick_v1 ticks (Mo.Bd.w b)) n (Mo.Bd.n b)) } n rs) ∧ K (.tup []) (hm_LpF_1 harts counts dv (Mo.dTick_e1 ticks b n rs) (Mo.dTick_e2 ticks harts b n) n))))) else (((lenR rs) = (lenR rs)) ∧ ((n = n) ∧ (((iL 0 (castI n)) = (iL 0 (castI n))) ∧ ((Mo.dSettle_pre harts { b with k := (Mo.kTick_v1 (Mo.wTick_v1 ticks (Mo.Bd.w b)) (Mo.Bd.k b)), w := (Mo.wTick_v2 ticks (Mo.Bd.w b)), t := (Mo.tTick_v1 (Mo.wTick_v1 ticks (Mo.Bd.w b)) (Mo.Bd.t b)), n := (Mo.nTick_f2 (Mo.wTick_v1 ticks (Mo.Bd.w b)) n (Mo.Bd.n b)) } n rs) ∧ (True ∧ ((Mo.kTick_pre (Mo.dTick_e3 ticks harts b n) (Mo.Bd.k (Mo.dTick_e2 ticks harts b n))) ∧ ((n = n) ∧ (((iL 0 (castI n)) = (iL 0 (castI n))) ∧ ((Mo.nTick_p (Mo.dTick_e3 ticks harts b n) n (Mo.Bd.n (Mo.dTick_e2 ticks harts b n))) ∧ ((Mo.tTick_pre (Mo.dTick_e3 ticks harts b n) (Mo.Bd.t (Mo.dTick_e2 ticks harts b n))) ∧ (True ∧ (if ((iE (Mo.Wd.fault (Mo.dTick_e7 ticks harts b n)) 0) = true) then (((lenR (Mo.dTick_e1 ticks b n rs)) = (lenR (Mo.dTick_e1 ticks b n rs))) ∧ ((n = n) ∧ (((iL 0 (castI n)) = (iL 0 (castI n))) ∧ ((Mo.dSettle_pre harts { (Mo.dTick_e2 ticks harts b n) with k := (Mo.dTick_e4 ticks harts b n), w := (Mo.dTick_e7 ticks harts b n), t := (Mo.dTick_e5 ticks harts b n), n := (Mo.dTick_e6 ticks harts b n) } n (Mo.dTick_e1 ticks b n rs)) ∧ K (.tup []) (hm_LpF_1 harts counts dv (Mo.dTick_e9 ticks harts b n rs) (Mo.dTick_e8 ticks harts b n) n))))) else (((lenR (Mo.dTick_e1 ticks b n rs)) = (lenR (Mo.dTick_e1 ticks b n rs))) ∧ ((n = n) ∧ (((iL 0 (castI n)) = (iL 0 (castI n))) ∧ ((Mo.dSettle_pre harts { (Mo.dTick_e2 ticks harts b n) with k := (Mo.dTick_e4 ticks harts b n), w := (Mo.dTick_e7 ticks harts b n), t := (Mo.dTick_e5 ticks harts b n), n := (Mo.dTick_e6 ticks harts b n) } n (Mo.dTick_e1 ticks b n rs)) ∧ False))))))))))))))))))))))))
theorem dTick_run (ticks : Int) (harts : Int) (counts : Int) (dv : Int) (b : Mo.Bd) (n : Nat) (rs : List (List Int)) (K : S → List Ob → Prop) : callX (std noW) tt ffLpE stopLpE (lpB noW Tryz.prog) noL 3 17 [.ptr 0 (.l 0), .iv .u64 ticks] (h_BD harts counts dv b n rs) (gcK 12 (nilK none (mvsK [8] (optK (o_BD n) (ivK false K))))) = dTick_tree ticks harts counts dv b n rs K := by kernel_rfl
noncomputable def dTick_T (ticks : Int) (harts : Int) (counts : Int) (dv : Int) (b : Mo.Bd) (n : Nat) (rs : List (List Int)) (K : S → List Ob → Prop) : Prop := Mo.dTick_pre ticks harts b n rs ∧ K (.tup []) (hm_LpF_1 harts counts dv (Mo.dTick_v1 ticks harts b n rs) (Mo.dTick_v2 ticks harts b n) n)
theorem dTick_all (ticks : Int) (harts : Int) (counts : Int) (dv : Int) (b : Mo.Bd) (n : Nat) (rs : List (List Int)) (K : S → List Ob → Prop) (h : dTick_T ticks harts counts dv b n rs K) : dTick_tree ticks harts counts dv b n rs K := by
  unfold dTick_T at h; obtain ⟨h0, h⟩ := h; unfold dTick_tree
  try simp only [Mo.dTick_v1] at h0 h
  try simp only [Mo.dTick_v2] at h0 h
  try simp only [Mo.dTick_pre] at h0 h
  repeat' (first | (refine ite_intro (fun c => ?_) (fun c => ?_) <;> first | simp only [if_pos c] at h0 h | simp only [if_neg c] at h0 h | skip) | with_reducible (replace h0 := (h0 : True ∧ _).2) | with_reducible (refine ⟨rfl, ?_⟩) | with_reducible (refine ⟨h0.1, ?_⟩; replace h0 := h0.2) | with_reducible (refine ⟨h0, ?_⟩) | (refine ⟨h0.1, ?_⟩; replace h0 := h0.2) | refine ⟨h0, ?_⟩ | refine ⟨rfl, ?_⟩ | refine ⟨trivial, ?_⟩ | refine ⟨by assumption, ?_⟩ | refine ⟨Eq.symm (by assumption), ?_⟩ | exact h | refine ⟨?_, ?_⟩ | exact h0.elim | trivial | contradiction | (simp only [if_true, if_false, Bool.false_eq_true] at h; exact h))
theorem dTick_sem (ticks : Int) (harts : Int) (counts : Int) (dv : Int) (b : Mo.Bd) (n : Nat) (rs : List (List Int)) (K : S → List Ob → Prop) (h : dTick_T ticks harts counts dv b n rs K) : CallSem noW Tryz.prog 17 [.ptr 0 (.l 0), .iv .u64 ticks] (h_BD harts counts dv b n rs) K := all_call (callX_ok tok (by kernel_rfl) ffLpEok stopLpE_ok _ _ _ _ (Eq.mpr (dTick_run ticks harts counts dv b n rs K) (dTick_all ticks harts counts dv b n rs K h)))
noncomputable def dTick_con : Con := ⟨[.ptr 0, .int .u64], t_BD, [], fun a K => match a with | ⟨[ticks, harts, counts, dv, (.ofNat n), (.ofNat q1)], [q2], [], [cs_b_k, cs_b_w, cs_b_t, cs_b_r, cs_b_l, cs_b_n_c0], [rs]⟩ => (match Mo.Cl.is cs_b_k with | true => (match Mo.Wd.is cs_b_w with | true => (match Mo.Rt.is cs_b_t with | true => (match Mo.Rs.is cs_b_r with | true => (match Mo.Ln.is cs_b_l with | true => (match Mo.Cnt.is cs_b_n_c0 with | true => (q1 = n ∧ (q2 = (iL 0 (castI n)) ∧ dTick_T ticks harts counts dv (Mo.Bd.mk (Mo.Cl.of cs_b_k) (Mo.Wd.of cs_b_w) (Mo.Rt.of cs_b_t) (Mo.Rs.of cs_b_r) (Mo.Ln.of cs_b_l) (Mo.Bk.mk (Mo.Cnt.of cs_b_n_c0))) n rs K)) | false => False) | false => False) | false => False) | false => False) | false => False) | false => False) | _ => False⟩
theorem dTick_ok : dTick_con.ok noW Tryz.prog 17 := by
  intro a K h
  simp only [dTick_con] at h
  split at h
  case h_2 => exact h.elim
  split at h
  case h_2 => exact h.elim
  rename_i is_b_k
  split at h
  case h_2 => exact h.elim
  rename_i is_b_w
  split at h
  case h_2 => exact h.elim
  rename_i is_b_t
  split at h
  case h_2 => exact h.elim
  rename_i is_b_r
  split at h
  case h_2 => exact h.elim
  rename_i is_b_l
  split at h
  case h_2 => exact h.elim
  rename_i is_b_n_c0
  obtain ⟨rfl, h⟩ := h
  obtain ⟨rfl, h⟩ := h
  exact CallSem.objs (dTick_sem _ _ _ _ _ _ _ K h) (fun _ _ _ h => h) ⟨WkO.same, WkO.cells (Mo.Cl.is_ok is_b_k), WkO.same, WkO.cells (Mo.Wd.is_ok is_b_w), WkO.cells (Mo.Rt.is_ok is_b_t), WkO.cells (Mo.Rs.is_ok is_b_r), WkO.cells (Mo.Ln.is_ok is_b_l), WkO.same, WkO.same, WkO.same, WkO.same, WkO.opt (Mo.Cnt.is_ok is_b_n_c0), trivial⟩
noncomputable def Mo.dStore_e1 (addr : Int) (v : Int) (b : Mo.Bd) (n : Nat) : Mo.Bd := Mo.uStore_v2 addr v b n
noncomputable def Mo.dStore_e2 (addr : Int) (v : Int) (b : Mo.Bd) (n : Nat) (rs : List (List Int)) : List (List Int) := Mo.dSettle_v1 (Mo.dStore_e1 addr v b n) n rs
noncomputable def Mo.dStore_e3 (addr : Int) (v : Int) (harts : Int) (b : Mo.Bd) (n : Nat) : Mo.Bd := Mo.dSettle_v2 harts (Mo.dStore_e1 addr v b n) n
noncomputable def Mo.dStore_v1 (addr : Int) (v : Int) (harts : Int) (b : Mo.Bd) (n : Nat) : Mo.Bd := (Mo.dStore_e3 addr v harts b n)
noncomputable def Mo.dStore_pre (addr : Int) (v : Int) (harts : Int) (b : Mo.Bd) (n : Nat) (rs : List (List Int)) : Prop := ((Mo.uStore_pre addr b n) ∧ (Mo.dSettle_pre harts (Mo.dStore_e1 addr v b n) n rs))
noncomputable def dStore_tree (addr : Int) (v : Int) (harts : Int) (counts : Int) (dv : Int) (b : Mo.Bd) (n : Nat) (rs : List (List Int)) (K : S → List Ob → Prop) : Prop := ((n = n) ∧ (((iL 0 (castI n)) = (iL 0 (castI n))) ∧ ((Mo.uStore_pre addr b n) ∧ (((lenR rs) = (lenR rs)) ∧ ((n = n) ∧ (((iL 0 (castI n)) = (iL 0 (castI n))) ∧ ((Mo.dSettle_pre harts (Mo.dStore_e1 addr v b n) n rs) ∧ K (.iv .i64 (Mo.uStore_v1 addr b n)) (hm_LpF_1 harts counts dv (Mo.dStore_e2 addr v b n rs) (Mo.dStore_e3 addr v harts b n) n))))))))
theorem dStore_run (addr : Int) (v : Int) (harts : Int) (counts : Int) (dv : Int) (b : Mo.Bd) (n : Nat) (rs : List (List Int)) (K : S → List Ob → Prop) : callX (std noW) tt ffLpE stopLpE (lpB noW Tryz.prog) noL 8 25 [.ptr 0 (.l 0), .iv .u32 addr, .iv .u32 v] (h_BD harts counts dv b n rs) (gcK 12 (nilK none (mvsK [8] (optK (o_BD n) (ivK false K))))) = dStore_tree addr v harts counts dv b n rs K := by kernel_rfl
noncomputable def dStore_T (addr : Int) (v : Int) (harts : Int) (counts : Int) (dv : Int) (b : Mo.Bd) (n : Nat) (rs : List (List Int)) (K : S → List Ob → Prop) : Prop := Mo.dStore_pre addr v harts b n rs ∧ K (.iv .i64 (Mo.uStore_v1 addr b n)) (hm_LpF_1 harts counts dv (Mo.dStore_e2 addr v b n rs) (Mo.dStore_v1 addr v harts b n) n)
theorem dStore_all (addr : Int) (v : Int) (harts : Int) (counts : Int) (dv : Int) (b : Mo.Bd) (n : Nat) (rs : List (List Int)) (K : S → List Ob → Prop) (h : dStore_T addr v harts counts dv b n rs K) : dStore_tree addr v harts counts dv b n rs K := by
  unfold dStore_T at h; obtain ⟨h0, h⟩ := h; unfold dStore_tree
  try simp only [Mo.dStore_v1] at h0 h
  try simp only [Mo.dStore_pre] at h0 h
  repeat' first | exact h | refine ⟨rfl, ?_⟩ | (refine ⟨h0.1, ?_⟩; replace h0 := h0.2) | refine ⟨h0, ?_⟩ | exact h0.elim | (refine ite_intro (fun c => ?_) fun c => ?_) <;> first | simp only [if_pos c] at h0 h | simp only [if_neg c] at h0 h | skip
theorem dStore_sem (addr : Int) (v : Int) (harts : Int) (counts : Int) (dv : Int) (b : Mo.Bd) (n : Nat) (rs : List (List Int)) (K : S → List Ob → Prop) (h : dStore_T addr v harts counts dv b n rs K) : CallSem noW Tryz.prog 25 [.ptr 0 (.l 0), .iv .u32 addr, .iv .u32 v] (h_BD harts counts dv b n rs) K := all_call (callX_ok tok (by kernel_rfl) ffLpEok stopLpE_ok _ _ _ _ (Eq.mpr (dStore_run addr v harts counts dv b n rs K) (dStore_all addr v harts counts dv b n rs K h)))
noncomputable def dStore_con : Con := ⟨[.ptr 0, .int .u32, .int .u32], t_BD, [], fun a K => match a with | ⟨[addr, v, harts, counts, dv, (.ofNat n), (.ofNat q1)], [q2], [], [cs_b_k, cs_b_w, cs_b_t, cs_b_r, cs_b_l, cs_b_n_c0], [rs]⟩ => (match Mo.Cl.is cs_b_k with | true => (match Mo.Wd.is cs_b_w with | true => (match Mo.Rt.is cs_b_t with | true => (match Mo.Rs.is cs_b_r with | true => (match Mo.Ln.is cs_b_l with | true => (match Mo.Cnt.is cs_b_n_c0 with | true => (q1 = n ∧ (q2 = (iL 0 (castI n)) ∧ dStore_T addr v harts counts dv (Mo.Bd.mk (Mo.Cl.of cs_b_k) (Mo.Wd.of cs_b_w) (Mo.Rt.of cs_b_t) (Mo.Rs.of cs_b_r) (Mo.Ln.of cs_b_l) (Mo.Bk.mk (Mo.Cnt.of cs_b_n_c0))) n rs K)) | false => False) | false => False) | false => False) | false => False) | false => False) | false => False) | _ => False⟩
theorem dStore_ok : dStore_con.ok noW Tryz.prog 25 := by
  intro a K h
  simp only [dStore_con] at h
  split at h
  case h_2 => exact h.elim
  split at h
  case h_2 => exact h.elim
  rename_i is_b_k
  split at h
  case h_2 => exact h.elim
  rename_i is_b_w
  split at h
  case h_2 => exact h.elim
  rename_i is_b_t
  split at h
  case h_2 => exact h.elim
  rename_i is_b_r
  split at h
  case h_2 => exact h.elim
  rename_i is_b_l
  split at h
  case h_2 => exact h.elim
  rename_i is_b_n_c0
  obtain ⟨rfl, h⟩ := h
  obtain ⟨rfl, h⟩ := h
  exact CallSem.objs (dStore_sem _ _ _ _ _ _ _ _ K h) (fun _ _ _ h => h) ⟨WkO.same, WkO.cells (Mo.Cl.is_ok is_b_k), WkO.same, WkO.cells (Mo.Wd.is_ok is_b_w), WkO.cells (Mo.Rt.is_ok is_b_t), WkO.cells (Mo.Rs.is_ok is_b_r), WkO.cells (Mo.Ln.is_ok is_b_l), WkO.same, WkO.same, WkO.same, WkO.same, WkO.opt (Mo.Cnt.is_ok is_b_n_c0), trivial⟩
noncomputable def Mo.dLoad_pre (addr : Int) (b : Mo.Bd) (n : Nat) : Prop := (Mo.uLoad_pre addr b n)
noncomputable def dLoad_tree (addr : Int) (harts : Int) (counts : Int) (dv : Int) (b : Mo.Bd) (n : Nat) (rs : List (List Int)) (K : S → List Ob → Prop) : Prop := ((n = n) ∧ (((iL 0 (castI n)) = (iL 0 (castI n))) ∧ ((Mo.uLoad_pre addr b n) ∧ K (.tup [(.iv .u32 (Mo.uLoad_v1 addr b n)), (.iv .i64 (Mo.uLoad_v2 addr b n))]) (h_BD harts counts dv b n rs))))
theorem dLoad_run (addr : Int) (harts : Int) (counts : Int) (dv : Int) (b : Mo.Bd) (n : Nat) (rs : List (List Int)) (K : S → List Ob → Prop) : callX (std noW) tt ffLpE stopLpE (lpB noW Tryz.prog) noL 8 90 [.ptr 0 (.l 0), .iv .u32 addr] (h_BD harts counts dv b n rs) (gcK 12 (optK (o_BD n) (ivK false K))) = dLoad_tree addr harts counts dv b n rs K := by kernel_rfl
noncomputable def dLoad_T (addr : Int) (harts : Int) (counts : Int) (dv : Int) (b : Mo.Bd) (n : Nat) (rs : List (List Int)) (K : S → List Ob → Prop) : Prop := Mo.dLoad_pre addr b n ∧ K (.tup [(.iv .u32 (Mo.uLoad_v1 addr b n)), (.iv .i64 (Mo.uLoad_v2 addr b n))]) (h_BD harts counts dv b n rs)
theorem dLoad_all (addr : Int) (harts : Int) (counts : Int) (dv : Int) (b : Mo.Bd) (n : Nat) (rs : List (List Int)) (K : S → List Ob → Prop) (h : dLoad_T addr harts counts dv b n rs K) : dLoad_tree addr harts counts dv b n rs K := by
  unfold dLoad_T at h; obtain ⟨h0, h⟩ := h; unfold dLoad_tree
  try simp only [Mo.dLoad_pre] at h0 h
  repeat' first | exact h | refine ⟨rfl, ?_⟩ | (refine ⟨h0.1, ?_⟩; replace h0 := h0.2) | refine ⟨h0, ?_⟩ | exact h0.elim | (refine ite_intro (fun c => ?_) fun c => ?_) <;> first | simp only [if_pos c] at h0 h | simp only [if_neg c] at h0 h | skip
theorem dLoad_sem (addr : Int) (harts : Int) (counts : Int) (dv : Int) (b : Mo.Bd) (n : Nat) (rs : List (List Int)) (K : S → List Ob → Prop) (h : dLoad_T addr harts counts dv b n rs K) : CallSem noW Tryz.prog 90 [.ptr 0 (.l 0), .iv .u32 addr] (h_BD harts counts dv b n rs) K := opt_call (callX_ok tok (by kernel_rfl) ffLpEok stopLpE_ok _ _ _ _ (Eq.mpr (dLoad_run addr harts counts dv b n rs K) (dLoad_all addr harts counts dv b n rs K h)))
noncomputable def dLoad_con : Con := ⟨[.ptr 0, .int .u32], t_BD, [], fun a K => match a with | ⟨[addr, harts, counts, dv, (.ofNat n), (.ofNat q1)], [q2], [], [cs_b_k, cs_b_w, cs_b_t, cs_b_r, cs_b_l, cs_b_n_c0], [rs]⟩ => (match Mo.Cl.is cs_b_k with | true => (match Mo.Wd.is cs_b_w with | true => (match Mo.Rt.is cs_b_t with | true => (match Mo.Rs.is cs_b_r with | true => (match Mo.Ln.is cs_b_l with | true => (match Mo.Cnt.is cs_b_n_c0 with | true => (q1 = n ∧ (q2 = (iL 0 (castI n)) ∧ dLoad_T addr harts counts dv (Mo.Bd.mk (Mo.Cl.of cs_b_k) (Mo.Wd.of cs_b_w) (Mo.Rt.of cs_b_t) (Mo.Rs.of cs_b_r) (Mo.Ln.of cs_b_l) (Mo.Bk.mk (Mo.Cnt.of cs_b_n_c0))) n rs K)) | false => False) | false => False) | false => False) | false => False) | false => False) | false => False) | _ => False⟩
theorem dLoad_ok : dLoad_con.ok noW Tryz.prog 90 := by
  intro a K h
  simp only [dLoad_con] at h
  split at h
  case h_2 => exact h.elim
  split at h
  case h_2 => exact h.elim
  rename_i is_b_k
  split at h
  case h_2 => exact h.elim
  rename_i is_b_w
  split at h
  case h_2 => exact h.elim
  rename_i is_b_t
  split at h
  case h_2 => exact h.elim
  rename_i is_b_r
  split at h
  case h_2 => exact h.elim
  rename_i is_b_l
  split at h
  case h_2 => exact h.elim
  rename_i is_b_n_c0
  obtain ⟨rfl, h⟩ := h
  obtain ⟨rfl, h⟩ := h
  exact CallSem.objs (dLoad_sem _ _ _ _ _ _ _ K h) (fun _ _ _ h => h) ⟨WkO.same, WkO.cells (Mo.Cl.is_ok is_b_k), WkO.same, WkO.cells (Mo.Wd.is_ok is_b_w), WkO.cells (Mo.Rt.is_ok is_b_t), WkO.cells (Mo.Rs.is_ok is_b_r), WkO.cells (Mo.Ln.is_ok is_b_l), WkO.same, WkO.same, WkO.same, WkO.same, WkO.opt (Mo.Cnt.is_ok is_b_n_c0), trivial⟩
noncomputable def dHigh_tree (harts : Int) (counts : Int) (dv : Int) (b : Mo.Bd) (n : Nat) (rs : List (List Int)) (K : S → List Ob → Prop) : Prop := (True ∧ K (.iv .u32 (Mo.Ln.high (Mo.Bd.l b))) (h_BD harts counts dv b n rs))
theorem dHigh_run (harts : Int) (counts : Int) (dv : Int) (b : Mo.Bd) (n : Nat) (rs : List (List Int)) (K : S → List Ob → Prop) : callX (std noW) tt ffLpE stopLpE (lpB noW Tryz.prog) noL 8 84 [.ptr 0 (.l 0)] (h_BD harts counts dv b n rs) (gcK 12 (optK (o_BD n) (ivK false K))) = dHigh_tree harts counts dv b n rs K := by kernel_rfl
noncomputable def dHigh_T (harts : Int) (counts : Int) (dv : Int) (b : Mo.Bd) (n : Nat) (rs : List (List Int)) (K : S → List Ob → Prop) : Prop := True ∧ K (.iv .u32 (Mo.Ln.high (Mo.Bd.l b))) (h_BD harts counts dv b n rs)
theorem dHigh_all (harts : Int) (counts : Int) (dv : Int) (b : Mo.Bd) (n : Nat) (rs : List (List Int)) (K : S → List Ob → Prop) (h : dHigh_T harts counts dv b n rs K) : dHigh_tree harts counts dv b n rs K := by
  unfold dHigh_T at h; obtain ⟨h0, h⟩ := h; unfold dHigh_tree
  repeat' first | exact h | refine ⟨rfl, ?_⟩ | (refine ⟨h0.1, ?_⟩; replace h0 := h0.2) | refine ⟨h0, ?_⟩ | exact h0.elim | (refine ite_intro (fun c => ?_) fun c => ?_) <;> first | simp only [if_pos c] at h0 h | simp only [if_neg c] at h0 h | skip
theorem dHigh_sem (harts : Int) (counts : Int) (dv : Int) (b : Mo.Bd) (n : Nat) (rs : List (List Int)) (K : S → List Ob → Prop) (h : dHigh_T harts counts dv b n rs K) : CallSem noW Tryz.prog 84 [.ptr 0 (.l 0)] (h_BD harts counts dv b n rs) K := opt_call (callX_ok tok (by kernel_rfl) ffLpEok stopLpE_ok _ _ _ _ (Eq.mpr (dHigh_run harts counts dv b n rs K) (dHigh_all harts counts dv b n rs K h)))
noncomputable def dHigh_con : Con := ⟨[.ptr 0], t_BD, [], fun a K => match a with | ⟨[harts, counts, dv, (.ofNat n), (.ofNat q1)], [q2], [], [cs_b_k, cs_b_w, cs_b_t, cs_b_r, cs_b_l, cs_b_n_c0], [rs]⟩ => (match Mo.Cl.is cs_b_k with | true => (match Mo.Wd.is cs_b_w with | true => (match Mo.Rt.is cs_b_t with | true => (match Mo.Rs.is cs_b_r with | true => (match Mo.Ln.is cs_b_l with | true => (match Mo.Cnt.is cs_b_n_c0 with | true => (q1 = n ∧ (q2 = (iL 0 (castI n)) ∧ dHigh_T harts counts dv (Mo.Bd.mk (Mo.Cl.of cs_b_k) (Mo.Wd.of cs_b_w) (Mo.Rt.of cs_b_t) (Mo.Rs.of cs_b_r) (Mo.Ln.of cs_b_l) (Mo.Bk.mk (Mo.Cnt.of cs_b_n_c0))) n rs K)) | false => False) | false => False) | false => False) | false => False) | false => False) | false => False) | _ => False⟩
theorem dHigh_ok : dHigh_con.ok noW Tryz.prog 84 := by
  intro a K h
  simp only [dHigh_con] at h
  split at h
  case h_2 => exact h.elim
  split at h
  case h_2 => exact h.elim
  rename_i is_b_k
  split at h
  case h_2 => exact h.elim
  rename_i is_b_w
  split at h
  case h_2 => exact h.elim
  rename_i is_b_t
  split at h
  case h_2 => exact h.elim
  rename_i is_b_r
  split at h
  case h_2 => exact h.elim
  rename_i is_b_l
  split at h
  case h_2 => exact h.elim
  rename_i is_b_n_c0
  obtain ⟨rfl, h⟩ := h
  obtain ⟨rfl, h⟩ := h
  exact CallSem.objs (dHigh_sem _ _ _ _ _ _ K h) (fun _ _ _ h => h) ⟨WkO.same, WkO.cells (Mo.Cl.is_ok is_b_k), WkO.same, WkO.cells (Mo.Wd.is_ok is_b_w), WkO.cells (Mo.Rt.is_ok is_b_t), WkO.cells (Mo.Rs.is_ok is_b_r), WkO.cells (Mo.Ln.is_ok is_b_l), WkO.same, WkO.same, WkO.same, WkO.same, WkO.opt (Mo.Cnt.is_ok is_b_n_c0), trivial⟩
noncomputable def hm_LpF_2 (x1 : Int) (x2 : Int) (x3 : Int) (x4 : List (List Int)) (x5 : Mo.Bd) (x6 : Nat) (x7 : List (List Int)) : List Ob := [(.cells 131 [(.ptr 1 (.l 0)), (.ptr 2 (.l 0)), (.ptr 3 (.l 0)), (.ptr 4 (.l 0)), (.ptr 5 (.l 0)), (.ptr 6 (.l 0)), (.ptr 7 (.l 0)), (.iv .i64 x1), (.iv .i64 x2), (.iv .u32 x3), (.nsl 8 (.v (lenR x4)) false false)]), (.cells 183 (Mo.Cl.cells (Mo.Bd.k x5))), (.cells 188 [(.tsl 9 (.v x6) 1)]), (.cells 194 (Mo.Wd.cells (Mo.Bd.w x5))), (.cells 190 (Mo.Rt.cells (Mo.Bd.t x5))), (.cells 200 (Mo.Rs.cells (Mo.Bd.r x5))), (.cells 204 (Mo.Ln.cells (Mo.Bd.l x5))), (.cells 227 [(.mp 10)]), (.nrow 73 [.i .u64, .i .i64] x4), (.rowT 185 1 x6 [(.ptr 11 (.l 0))]), (.mapo [(.agg [(.il .u32 33554432), (.il .u32 49152)]), (.agg [(.il .u32 268500992), (.il .u32 256)]), (.agg [(.il .u32 268566528), (.il .u32 20)]), (.agg [(.il .u32 268632064), (.il .u32 16)]), (.agg [(.il .u32 268697600), (.il .u32 36)]), (.agg [(.il .u32 268763136), (.il .u32 12)])] [(.ifc 107 (.ptr 1 (.l 0))), (.ifc 110 (.ptr 2 (.l 0))), (.ifc 119 (.ptr 3 (.l 0))), (.ifc 125 (.ptr 5 (.l 0))), (.ifc 44 (.ptr 4 (.l 0))), (.ifc 127 (.ptr 6 (.l 0)))]), (.opt (iL 0 (castI x6)) 246 (Mo.Cnt.cells (Mo.Bk.c0 (Mo.Bd.n x5)))), (.nrow 73 [.i .u64, .i .i64] x7)]
noncomputable def hm_LpF_3 (x1 : Int) (x2 : Int) (x3 : Int) (x4 : List (List Int)) (x5 : Mo.Bd) (x6 : Nat) : List Ob := [(.cells 131 [(.ptr 1 (.l 0)), (.ptr 2 (.l 0)), (.ptr 3 (.l 0)), (.ptr 4 (.l 0)), (.ptr 5 (.l 0)), (.ptr 6 (.l 0)), (.ptr 7 (.l 0)), (.iv .i64 x1), (.iv .i64 x2), (.iv .u32 x3), (.nsl 8 (.v (lenR x4)) false false)]), (.cells 183 (Mo.Cl.cells (Mo.Bd.k x5))), (.cells 188 [(.tsl 9 (.v x6) 1)]), (.cells 194 (Mo.Wd.cells (Mo.Bd.w x5))), (.cells 190 (Mo.Rt.cells (Mo.Bd.t x5))), (.cells 200 (Mo.Rs.cells (Mo.Bd.r x5))), (.cells 204 (Mo.Ln.cells (Mo.Bd.l x5))), (.cells 227 [(.mp 10)]), (.nrow 73 [.i .u64, .i .i64] x4), (.rowT 185 1 x6 [(.ptr 11 (.l 0))]), (.mapo [(.agg [(.il .u32 33554432), (.il .u32 49152)]), (.agg [(.il .u32 268500992), (.il .u32 256)]), (.agg [(.il .u32 268566528), (.il .u32 20)]), (.agg [(.il .u32 268632064), (.il .u32 16)]), (.agg [(.il .u32 268697600), (.il .u32 36)]), (.agg [(.il .u32 268763136), (.il .u32 12)])] [(.ifc 107 (.ptr 1 (.l 0))), (.ifc 110 (.ptr 2 (.l 0))), (.ifc 119 (.ptr 3 (.l 0))), (.ifc 125 (.ptr 5 (.l 0))), (.ifc 44 (.ptr 4 (.l 0))), (.ifc 127 (.ptr 6 (.l 0)))]), (.opt (iL 0 (castI x6)) 246 (Mo.Cnt.cells (Mo.Bk.c0 (Mo.Bd.n x5)))), (.nrow 73 [.i .u64, .i .i64] x4)]
noncomputable def Mo.dResets_v1 (rs : List (List Int)) : List (List Int) := (if ((iE (castI (lenR rs)) 0) = true) then List.nil else rs)
noncomputable def Mo.dResets_pre (rs : List (List Int)) : Prop := (if ((iE (castI (lenR rs)) 0) = true) then True else (if ((iM (castI (stdN NO.mul (lenR rs) (16 + 1))) 140737488355328) = true) then True else False))
noncomputable def dResets_tree (harts : Int) (counts : Int) (dv : Int) (b : Mo.Bd) (n : Nat) (rs : List (List Int)) (K : S → List Ob → Prop) : Prop := (if ((iE (castI (lenR rs)) 0) = true) then K (.nsl 12 (.v (lenR List.nil)) false true) (hm_LpF_2 harts counts dv rs b n List.nil) else (if ((iM (castI (stdN NO.mul (lenR rs) (16 + 1))) 140737488355328) = true) then K (.nsl 12 (.v (lenR rs)) false true) (hm_LpF_3 harts counts dv rs b n) else False))
theorem dResets_run (harts : Int) (counts : Int) (dv : Int) (b : Mo.Bd) (n : Nat) (rs : List (List Int)) (K : S → List Ob → Prop) : callX (std noW) tt ffLpE stopLpE (lpB noW Tryz.prog) noL 8 45 [.ptr 0 (.l 0)] (h_BD harts counts dv b n rs) (gcK 12 (nilK (some (73, [.i .u64, .i .i64])) (mvsK [] (optK (o_BD n) (ivK false K))))) = dResets_tree harts counts dv b n rs K := by kernel_rfl
noncomputable def dResets_T (harts : Int) (counts : Int) (dv : Int) (b : Mo.Bd) (n : Nat) (rs : List (List Int)) (K : S → List Ob → Prop) : Prop := Mo.dResets_pre rs ∧ K (.nsl 12 (.v (lenR (Mo.dResets_v1 rs))) false true) (hm_LpF_2 harts counts dv rs b n (Mo.dResets_v1 rs))
theorem dResets_all (harts : Int) (counts : Int) (dv : Int) (b : Mo.Bd) (n : Nat) (rs : List (List Int)) (K : S → List Ob → Prop) (h : dResets_T harts counts dv b n rs K) : dResets_tree harts counts dv b n rs K := by
  unfold dResets_T at h; obtain ⟨h0, h⟩ := h; unfold dResets_tree
  try simp only [Mo.dResets_v1] at h0 h
  try simp only [Mo.dResets_pre] at h0 h
  repeat' first | exact h | (refine ite_intro (fun c => ?_) fun c => ?_) <;> first | simp only [if_pos c] at h0 h | simp only [if_neg c] at h0 h | skip
theorem dResets_sem (harts : Int) (counts : Int) (dv : Int) (b : Mo.Bd) (n : Nat) (rs : List (List Int)) (K : S → List Ob → Prop) (h : dResets_T harts counts dv b n rs K) : CallSem noW Tryz.prog 45 [.ptr 0 (.l 0)] (h_BD harts counts dv b n rs) K := all_call (callX_ok tok (by kernel_rfl) ffLpEok stopLpE_ok _ _ _ _ (Eq.mpr (dResets_run harts counts dv b n rs K) (dResets_all harts counts dv b n rs K h)))
noncomputable def dResets_con : Con := ⟨[.ptr 0], t_BD, [], fun a K => match a with | ⟨[harts, counts, dv, (.ofNat n), (.ofNat q1)], [q2], [], [cs_b_k, cs_b_w, cs_b_t, cs_b_r, cs_b_l, cs_b_n_c0], [rs]⟩ => (match Mo.Cl.is cs_b_k with | true => (match Mo.Wd.is cs_b_w with | true => (match Mo.Rt.is cs_b_t with | true => (match Mo.Rs.is cs_b_r with | true => (match Mo.Ln.is cs_b_l with | true => (match Mo.Cnt.is cs_b_n_c0 with | true => (q1 = n ∧ (q2 = (iL 0 (castI n)) ∧ dResets_T harts counts dv (Mo.Bd.mk (Mo.Cl.of cs_b_k) (Mo.Wd.of cs_b_w) (Mo.Rt.of cs_b_t) (Mo.Rs.of cs_b_r) (Mo.Ln.of cs_b_l) (Mo.Bk.mk (Mo.Cnt.of cs_b_n_c0))) n rs K)) | false => False) | false => False) | false => False) | false => False) | false => False) | false => False) | _ => False⟩
theorem dResets_ok : dResets_con.ok noW Tryz.prog 45 := by
  intro a K h
  simp only [dResets_con] at h
  split at h
  case h_2 => exact h.elim
  split at h
  case h_2 => exact h.elim
  rename_i is_b_k
  split at h
  case h_2 => exact h.elim
  rename_i is_b_w
  split at h
  case h_2 => exact h.elim
  rename_i is_b_t
  split at h
  case h_2 => exact h.elim
  rename_i is_b_r
  split at h
  case h_2 => exact h.elim
  rename_i is_b_l
  split at h
  case h_2 => exact h.elim
  rename_i is_b_n_c0
  obtain ⟨rfl, h⟩ := h
  obtain ⟨rfl, h⟩ := h
  exact CallSem.objs (dResets_sem _ _ _ _ _ _ K h) (fun _ _ _ h => h) ⟨WkO.same, WkO.cells (Mo.Cl.is_ok is_b_k), WkO.same, WkO.cells (Mo.Wd.is_ok is_b_w), WkO.cells (Mo.Rt.is_ok is_b_t), WkO.cells (Mo.Rs.is_ok is_b_r), WkO.cells (Mo.Ln.is_ok is_b_l), WkO.same, WkO.same, WkO.same, WkO.same, WkO.opt (Mo.Cnt.is_ok is_b_n_c0), trivial⟩
noncomputable def dConfig_tree (harts : Int) (counts : Int) (dv : Int) (b : Mo.Bd) (n : Nat) (rs : List (List Int)) (K : S → List Ob → Prop) : Prop := K (.agg [(.iv .i64 harts), (.iv .i64 counts), (.iv .u32 dv)]) (h_BD harts counts dv b n rs)
theorem dConfig_run (harts : Int) (counts : Int) (dv : Int) (b : Mo.Bd) (n : Nat) (rs : List (List Int)) (K : S → List Ob → Prop) : callX (std noW) tt ffLpE stopLpE (lpB noW Tryz.prog) noL 8 89 [.ptr 0 (.l 0)] (h_BD harts counts dv b n rs) (gcK 12 (optK (o_BD n) (ivK false K))) = dConfig_tree harts counts dv b n rs K := by kernel_rfl
noncomputable def dConfig_T (harts : Int) (counts : Int) (dv : Int) (b : Mo.Bd) (n : Nat) (rs : List (List Int)) (K : S → List Ob → Prop) : Prop := True ∧ K (.agg [(.iv .i64 harts), (.iv .i64 counts), (.iv .u32 dv)]) (h_BD harts counts dv b n rs)
theorem dConfig_all (harts : Int) (counts : Int) (dv : Int) (b : Mo.Bd) (n : Nat) (rs : List (List Int)) (K : S → List Ob → Prop) (h : dConfig_T harts counts dv b n rs K) : dConfig_tree harts counts dv b n rs K := by
  unfold dConfig_T at h; obtain ⟨h0, h⟩ := h; unfold dConfig_tree
  repeat' first | exact h | (refine ite_intro (fun c => ?_) fun c => ?_) <;> first | simp only [if_pos c] at h0 h | simp only [if_neg c] at h0 h | skip
theorem dConfig_sem (harts : Int) (counts : Int) (dv : Int) (b : Mo.Bd) (n : Nat) (rs : List (List Int)) (K : S → List Ob → Prop) (h : dConfig_T harts counts dv b n rs K) : CallSem noW Tryz.prog 89 [.ptr 0 (.l 0)] (h_BD harts counts dv b n rs) K := opt_call (callX_ok tok (by kernel_rfl) ffLpEok stopLpE_ok _ _ _ _ (Eq.mpr (dConfig_run harts counts dv b n rs K) (dConfig_all harts counts dv b n rs K h)))
noncomputable def dConfig_con : Con := ⟨[.ptr 0], t_BD, [], fun a K => match a with | ⟨[harts, counts, dv, (.ofNat n), (.ofNat q1)], [q2], [], [cs_b_k, cs_b_w, cs_b_t, cs_b_r, cs_b_l, cs_b_n_c0], [rs]⟩ => (match Mo.Cl.is cs_b_k with | true => (match Mo.Wd.is cs_b_w with | true => (match Mo.Rt.is cs_b_t with | true => (match Mo.Rs.is cs_b_r with | true => (match Mo.Ln.is cs_b_l with | true => (match Mo.Cnt.is cs_b_n_c0 with | true => (q1 = n ∧ (q2 = (iL 0 (castI n)) ∧ dConfig_T harts counts dv (Mo.Bd.mk (Mo.Cl.of cs_b_k) (Mo.Wd.of cs_b_w) (Mo.Rt.of cs_b_t) (Mo.Rs.of cs_b_r) (Mo.Ln.of cs_b_l) (Mo.Bk.mk (Mo.Cnt.of cs_b_n_c0))) n rs K)) | false => False) | false => False) | false => False) | false => False) | false => False) | false => False) | _ => False⟩
theorem dConfig_ok : dConfig_con.ok noW Tryz.prog 89 := by
  intro a K h
  simp only [dConfig_con] at h
  split at h
  case h_2 => exact h.elim
  split at h
  case h_2 => exact h.elim
  rename_i is_b_k
  split at h
  case h_2 => exact h.elim
  rename_i is_b_w
  split at h
  case h_2 => exact h.elim
  rename_i is_b_t
  split at h
  case h_2 => exact h.elim
  rename_i is_b_r
  split at h
  case h_2 => exact h.elim
  rename_i is_b_l
  split at h
  case h_2 => exact h.elim
  rename_i is_b_n_c0
  obtain ⟨rfl, h⟩ := h
  obtain ⟨rfl, h⟩ := h
  exact CallSem.objs (dConfig_sem _ _ _ _ _ _ K h) (fun _ _ _ h => h) ⟨WkO.same, WkO.cells (Mo.Cl.is_ok is_b_k), WkO.same, WkO.cells (Mo.Wd.is_ok is_b_w), WkO.cells (Mo.Rt.is_ok is_b_t), WkO.cells (Mo.Rs.is_ok is_b_r), WkO.cells (Mo.Ln.is_ok is_b_l), WkO.same, WkO.same, WkO.same, WkO.same, WkO.opt (Mo.Cnt.is_ok is_b_n_c0), trivial⟩
noncomputable def tabLpF (n : Nat) : List Con := match Nat.beq n 17 with | true => [dTick_con] | false => match Nat.beq n 25 with | true => [dStore_con] | false => match Nat.beq n 90 with | true => [dLoad_con] | false => match Nat.beq n 84 with | true => [dHigh_con] | false => match Nat.beq n 45 with | true => [dResets_con] | false => match Nat.beq n 89 with | true => [dConfig_con] | false => tabLpE n
theorem tabLpF_ok : ∀ f, ∀ c ∈ tabLpF f, c.ok noW Tryz.prog f := by
  intro f c hc
  unfold tabLpF at hc
  split at hc
  · rename_i hf; have := Nat.eq_of_beq_eq_true hf; subst this
    simp only [List.mem_cons, List.not_mem_nil, or_false] at hc
    subst hc; exact dTick_ok
  split at hc
  · rename_i hf; have := Nat.eq_of_beq_eq_true hf; subst this
    simp only [List.mem_cons, List.not_mem_nil, or_false] at hc
    subst hc; exact dStore_ok
  split at hc
  · rename_i hf; have := Nat.eq_of_beq_eq_true hf; subst this
    simp only [List.mem_cons, List.not_mem_nil, or_false] at hc
    subst hc; exact dLoad_ok
  split at hc
  · rename_i hf; have := Nat.eq_of_beq_eq_true hf; subst this
    simp only [List.mem_cons, List.not_mem_nil, or_false] at hc
    subst hc; exact dHigh_ok
  split at hc
  · rename_i hf; have := Nat.eq_of_beq_eq_true hf; subst this
    simp only [List.mem_cons, List.not_mem_nil, or_false] at hc
    subst hc; exact dResets_ok
  split at hc
  · rename_i hf; have := Nat.eq_of_beq_eq_true hf; subst this
    simp only [List.mem_cons, List.not_mem_nil, or_false] at hc
    subst hc; exact dConfig_ok
  exact tabLpE_ok f c hc
noncomputable def ffLpF (n : Nat) : Option FI := match Nat.beq n 17 with | true => none | false => match Nat.beq n 25 with | true => none | false => match Nat.beq n 90 with | true => none | false => match Nat.beq n 84 with | true => none | false => match Nat.beq n 45 with | true => none | false => match Nat.beq n 89 with | true => none | false => ffLpE n
theorem ffLpFok : FOk Tryz.prog ffLpF := fun f fi hf => by
  unfold ffLpF at hf
  split at hf
  · cases hf
  split at hf
  · cases hf
  split at hf
  · cases hf
  split at hf
  · cases hf
  split at hf
  · cases hf
  split at hf
  · cases hf
  exact ffLpEok f fi hf
noncomputable def stopLpF : CallT := stopC tabLpF stopB
theorem stopLpF_ok : ∀ f args h K, stopLpF f args h K → CallSem noW Tryz.prog f args h K := stopC_ok tabLpF_ok stopB_ok
end Go.SX.Y
