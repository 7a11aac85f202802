/- What Go functions come to (lifted). -/
import Derived.Test.YtbkegflipglioaaGreatLpH
set_option maxRecDepth 20000
namespace Go.SX.Y
open Go.Proofs Go.RowKit
noncomputable def h_TK (i : Int) (made : Int) (spent : Int) (seen : Int) (harts : Int) (counts : Int) (dv : Int) (gs : List (List Int)) (b : Mo.Bd) (n : Nat) (rs : List (List Int)) : List Ob := [.cells 156 [.ptr 1 (.l 0), .iv .i64 i], .cells 135 [.iv .i64 made, .iv .u64 spent, .iv .i64 seen, .ptr 2 (.l 0), .nsl 3 (.v (lenR gs)) false true], .cells 131 [.ptr 4 (.l 0), .ptr 5 (.l 0), .ptr 6 (.l 0), .ptr 7 (.l 0), .ptr 8 (.l 0), .ptr 9 (.l 0), .ptr 10 (.l 0), .iv .i64 harts, .iv .i64 counts, .iv .u32 dv, .nsl 11 (.v (lenR rs)) false false], .nrow 22 [.i .u32] gs, .cells 183 (Mo.Cl.cells (Mo.Bd.k b)), .cells 188 [.tsl 12 (.v n) 1], .cells 194 (Mo.Wd.cells (Mo.Bd.w b)), .cells 190 (Mo.Rt.cells (Mo.Bd.t b)), .cells 200 (Mo.Rs.cells (Mo.Bd.r b)), .cells 204 (Mo.Ln.cells (Mo.Bd.l b)), .cells 227 [.mp 13], .nrow 73 [.i .u64, .i .i64] rs, .rowT 185 1 n [.ptr 14 (.l 0)], .mapo [.agg [.il .u32 33554432, .il .u32 49152], .agg [.il .u32 268500992, .il .u32 256], .agg [.il .u32 268566528, .il .u32 20], .agg [.il .u32 268632064, .il .u32 16], .agg [.il .u32 268697600, .il .u32 36], .agg [.il .u32 268763136, .il .u32 12]] [.ifc 107 (.ptr 4 (.l 0)), .ifc 110 (.ptr 5 (.l 0)), .ifc 119 (.ptr 6 (.l 0)), .ifc 125 (.ptr 8 (.l 0)), .ifc 44 (.ptr 7 (.l 0)), .ifc 127 (.ptr 9 (.l 0))], .opt (iL 0 (castI n)) 246 (Mo.Cnt.cells (Mo.Bk.c0 (Mo.Bd.n b)))]
def t_TK : List OTm := [.cells 156 [.ptr 1, .int .i64], .cells 135 [.int .i64, .int .u64, .int .i64, .ptr 2, .nsl 3 0 true], .cells 131 [.ptr 4, .ptr 5, .ptr 6, .ptr 7, .ptr 8, .ptr 9, .ptr 10, .int .i64, .int .i64, .int .u32, .nsl 11 1 false], .nrow 22 [.i .u32], .cellsV 183, .cells 188 [.tsl 12 1], .cellsV 194, .cellsV 190, .cellsV 200, .cellsV 204, .cells 227 [.mp 13], .nrow 73 [.i .u64, .i .i64], .rowT 185 1 [.ptr 14], .mapo [.agg [.same (.il .u32 33554432), .same (.il .u32 49152)], .agg [.same (.il .u32 268500992), .same (.il .u32 256)], .agg [.same (.il .u32 268566528), .same (.il .u32 20)], .agg [.same (.il .u32 268632064), .same (.il .u32 16)], .agg [.same (.il .u32 268697600), .same (.il .u32 36)], .agg [.same (.il .u32 268763136), .same (.il .u32 12)]] [.ifc 107 (.ptr 4), .ifc 110 (.ptr 5), .ifc 119 (.ptr 6), .ifc 125 (.ptr 8), .ifc 44 (.ptr 7), .ifc 127 (.ptr 9)], .optV 246]
noncomputable def o_TK (n : Nat) : List (Option (Bool × TypeId)) := [none, none, none, none, none, none, none, none, none, none, none, none, none, none, some ((iL 0 (castI n)), 246)]
noncomputable def h_BG (harts : Int) (counts : Int) (dv : Int) (gs : List (List Int)) (b : Mo.Bd) (n : Nat) (rs : List (List Int)) : List Ob := [.cells 131 [.ptr 2 (.l 0), .ptr 3 (.l 0), .ptr 4 (.l 0), .ptr 5 (.l 0), .ptr 6 (.l 0), .ptr 7 (.l 0), .ptr 8 (.l 0), .iv .i64 harts, .iv .i64 counts, .iv .u32 dv, .nsl 9 (.v (lenR rs)) false false], .nrow 22 [.i .u32] gs, .cells 183 (Mo.Cl.cells (Mo.Bd.k b)), .cells 188 [.tsl 10 (.v n) 1], .cells 194 (Mo.Wd.cells (Mo.Bd.w b)), .cells 190 (Mo.Rt.cells (Mo.Bd.t b)), .cells 200 (Mo.Rs.cells (Mo.Bd.r b)), .cells 204 (Mo.Ln.cells (Mo.Bd.l b)), .cells 227 [.mp 11], .nrow 73 [.i .u64, .i .i64] rs, .rowT 185 1 n [.ptr 12 (.l 0)], .mapo [.agg [.il .u32 33554432, .il .u32 49152], .agg [.il .u32 268500992, .il .u32 256], .agg [.il .u32 268566528, .il .u32 20], .agg [.il .u32 268632064, .il .u32 16], .agg [.il .u32 268697600, .il .u32 36], .agg [.il .u32 268763136, .il .u32 12]] [.ifc 107 (.ptr 2 (.l 0)), .ifc 110 (.ptr 3 (.l 0)), .ifc 119 (.ptr 4 (.l 0)), .ifc 125 (.ptr 6 (.l 0)), .ifc 44 (.ptr 5 (.l 0)), .ifc 127 (.ptr 7 (.l 0))], .opt (iL 0 (castI n)) 246 (Mo.Cnt.cells (Mo.Bk.c0 (Mo.Bd.n b)))]
def t_BG : List OTm := [.cells 131 [.ptr 2, .ptr 3, .ptr 4, .ptr 5, .ptr 6, .ptr 7, .ptr 8, .int .i64, .int .i64, .int .u32, .nsl 9 1 false], .nrow 22 [.i .u32], .cellsV 183, .cells 188 [.tsl 10 1], .cellsV 194, .cellsV 190, .cellsV 200, .cellsV 204, .cells 227 [.mp 11], .nrow 73 [.i .u64, .i .i64], .rowT 185 1 [.ptr 12], .mapo [.agg [.same (.il .u32 33554432), .same (.il .u32 49152)], .agg [.same (.il .u32 268500992), .same (.il .u32 256)], .agg [.same (.il .u32 268566528), .same (.il .u32 20)], .agg [.same (.il .u32 268632064), .same (.il .u32 16)], .agg [.same (.il .u32 268697600), .same (.il .u32 36)], .agg [.same (.il .u32 268763136), .same (.il .u32 12)]] [.ifc 107 (.ptr 2), .ifc 110 (.ptr 3), .ifc 119 (.ptr 4), .ifc 125 (.ptr 6), .ifc 44 (.ptr 5), .ifc 127 (.ptr 7)], .optV 246]
noncomputable def o_BG (n : Nat) : List (Option (Bool × TypeId)) := [none, none, none, none, none, none, none, none, none, none, none, none, some ((iL 0 (castI n)), 246)]
noncomputable def h_BN (harts : Int) (counts : Int) (dv : Int) (b : Mo.Bd) (n : Nat) (rs : List (List Int)) (gs : List (List Int)) : List Ob := [.cells 131 [.ptr 1 (.l 0), .ptr 2 (.l 0), .ptr 3 (.l 0), .ptr 4 (.l 0), .ptr 5 (.l 0), .ptr 6 (.l 0), .ptr 7 (.l 0), .iv .i64 harts, .iv .i64 counts, .iv .u32 dv, .nsl 8 (.v (lenR rs)) false false], .cells 183 (Mo.Cl.cells (Mo.Bd.k b)), .cells 188 [.tsl 9 (.v n) 1], .cells 194 (Mo.Wd.cells (Mo.Bd.w b)), .cells 190 (Mo.Rt.cells (Mo.Bd.t b)), .cells 200 (Mo.Rs.cells (Mo.Bd.r b)), .cells 204 (Mo.Ln.cells (Mo.Bd.l b)), .cells 227 [.mp 10], .nrow 73 [.i .u64, .i .i64] rs, .rowT 185 1 n [.ptr 11 (.l 0)], .mapo [.agg [.il .u32 33554432, .il .u32 49152], .agg [.il .u32 268500992, .il .u32 256], .agg [.il .u32 268566528, .il .u32 20], .agg [.il .u32 268632064, .il .u32 16], .agg [.il .u32 268697600, .il .u32 36], .agg [.il .u32 268763136, .il .u32 12]] [.ifc 107 (.ptr 1 (.l 0)), .ifc 110 (.ptr 2 (.l 0)), .ifc 119 (.ptr 3 (.l 0)), .ifc 125 (.ptr 5 (.l 0)), .ifc 44 (.ptr 4 (.l 0)), .ifc 127 (.ptr 6 (.l 0))], .opt (iL 0 (castI n)) 246 (Mo.Cnt.cells (Mo.Bk.c0 (Mo.Bd.n b))), .nrow 22 [.i .u32] gs]
def t_BN : List OTm := [.cells 131 [.ptr 1, .ptr 2, .ptr 3, .ptr 4, .ptr 5, .ptr 6, .ptr 7, .int .i64, .int .i64, .int .u32, .nsl 8 0 false], .cellsV 183, .cells 188 [.tsl 9 1], .cellsV 194, .cellsV 190, .cellsV 200, .cellsV 204, .cells 227 [.mp 10], .nrow 73 [.i .u64, .i .i64], .rowT 185 1 [.ptr 11], .mapo [.agg [.same (.il .u32 33554432), .same (.il .u32 49152)], .agg [.same (.il .u32 268500992), .same (.il .u32 256)], .agg [.same (.il .u32 268566528), .same (.il .u32 20)], .agg [.same (.il .u32 268632064), .same (.il .u32 16)], .agg [.same (.il .u32 268697600), .same (.il .u32 36)], .agg [.same (.il .u32 268763136), .same (.il .u32 12)]] [.ifc 107 (.ptr 1), .ifc 110 (.ptr 2), .ifc 119 (.ptr 3), .ifc 125 (.ptr 5), .ifc 44 (.ptr 4), .ifc 127 (.ptr 6)], .optV 246, .nrow 22 [.i .u32]]
noncomputable def o_BN (n : Nat) : List (Option (Bool × TypeId)) := [none, none, none, none, none, none, none, none, none, none, none, some ((iL 0 (castI n)), 246), none]
noncomputable def hm_LpI_1 (x1 : Int) (x2 : Int) (x3 : Int) (x4 : List (List Int)) (x5 : List (List Int)) (x6 : Mo.Bd) (x7 : Nat) (x8 : Int) : List Ob := [(.cells 131 [(.ptr 2 (.l 0)), (.ptr 3 (.l 0)), (.ptr 4 (.l 0)), (.ptr 5 (.l 0)), (.ptr 6 (.l 0)), (.ptr 7 (.l 0)), (.ptr 8 (.l 0)), (.iv .i64 x1), (.iv .i64 x2), (.iv .u32 x3), (.nsl 9 (.v (lenR x4)) false false)]), (.nrow 22 [.i .u32] x5), (.cells 183 (Mo.Cl.cells (Mo.Bd.k x6))), (.cells 188 [(.tsl 10 (.v x7) 1)]), (.cells 194 (Mo.Wd.cells (Mo.Bd.w x6))), (.cells 190 (Mo.Rt.cells (Mo.Bd.t x6))), (.cells 200 (Mo.Rs.cells (Mo.Bd.r x6))), (.cells 204 (Mo.Ln.cells (Mo.Bd.l x6))), (.cells 227 [(.mp 11)]), (.nrow 73 [.i .u64, .i .i64] x4), (.rowT 185 1 x7 [(.ptr 12 (.l 0))]), (.mapo [(.agg [(.il .u32 33554432), (.il .u32 49152)]), (.agg [(.il .u32 268500992), (.il .u32 256)]), (.agg [(.il .u32 268566528), (.il .u32 20)]), (.agg [(.il .u32 268632064), (.il .u32 16)]), (.agg [(.il .u32 268697600), (.il .u32 36)]), (.agg [(.il .u32 268763136), (.il .u32 12)])] [(.ifc 107 (.ptr 2 (.l 0))), (.ifc 110 (.ptr 3 (.l 0))), (.ifc 119 (.ptr 4 (.l 0))), (.ifc 125 (.ptr 6 (.l 0))), (.ifc 44 (.ptr 5 (.l 0))), (.ifc 127 (.ptr 7 (.l 0)))]), (.opt (iL 0 (castI x7)) 246 (Mo.Cnt.cells (Mo.Bk.c0 (Mo.Bd.n x6)))), (.cells 135 [(.iv .i64 0), (.iv .u64 0), (.iv .i64 x8), (.ptr 0 (.l 0)), (.nsl 14 (.v (lenR x5)) false true)]), (.nrow 22 [.i .u32] x5)]
noncomputable def Mo.pNew_g1 (gs : List (List Int)) : Bool := (if ((iL 64 (castI (lenR gs))) = true) then true else false)
noncomputable def Mo.pNew_pre (gs : List (List Int)) (rs : List (List Int)) : Prop := (if ((iL 64 (castI (lenR gs))) = true) then True else (if ((iM (castI (stdN NO.mul (lenR gs) (4 + 1))) 140737488355328) = true) then (Mo.pBoot_pre rs) else False))
noncomputable def pNew_tree (harts : Int) (counts : Int) (dv : Int) (gs : List (List Int)) (b : Mo.Bd) (n : Nat) (rs : List (List Int)) (K : S → List Ob → Prop) : Prop := (if ((iL 64 (castI (lenR gs))) = true) then K (.tup [.nil, (.iv .i64 6)]) (h_BG harts counts dv gs b n rs) else (if ((iM (castI (stdN NO.mul (lenR gs) (4 + 1))) 140737488355328) = true) then (((lenR rs) = (lenR rs)) ∧ (((lenR gs) = (lenR gs)) ∧ ((n = n) ∧ (((iL 0 (castI n)) = (iL 0 (castI n))) ∧ ((Mo.pBoot_pre rs) ∧ K (.tup [(.ptr 13 (.l 0)), (.iv .i64 0)]) (hm_LpI_1 harts counts dv rs gs b n (adi 0 (sbi (castI (lenR (Mo.dResets_v1 rs))) 0)))))))) else False))
theorem pNew_run (harts : Int) (counts : Int) (dv : Int) (gs : List (List Int)) (b : Mo.Bd) (n : Nat) (rs : List (List Int)) (K : S → List Ob → Prop) : callX (std noW) tt ffLpH stopLpH (lpB noW Tryz.prog) noL 8 12 [.ptr 0 (.l 0), .nsl 1 (.v (lenR gs)) false true] (h_BG harts counts dv gs b n rs) (gcK 13 (optK (o_BG n) (ivK true K))) = pNew_tree harts counts dv gs b n rs K := by kernel_rfl
noncomputable def pNew_T (harts : Int) (counts : Int) (dv : Int) (gs : List (List Int)) (b : Mo.Bd) (n : Nat) (rs : List (List Int)) (K : S → List Ob → Prop) : Prop := Mo.pNew_pre gs rs ∧ (if (Mo.pNew_g1 gs) = true then K (.tup [.nil, (.iv .i64 6)]) (h_BG harts counts dv gs b n rs) else K (.tup [(.ptr 13 (.l 0)), (.iv .i64 0)]) (hm_LpI_1 harts counts dv rs gs b n (adi 0 (sbi (castI (lenR (Mo.dResets_v1 rs))) 0))))
theorem pNew_all (harts : Int) (counts : Int) (dv : Int) (gs : List (List Int)) (b : Mo.Bd) (n : Nat) (rs : List (List Int)) (K : S → List Ob → Prop) (h : pNew_T harts counts dv gs b n rs K) : pNew_tree harts counts dv gs b n rs K := by
  unfold pNew_T at h; obtain ⟨h0, h⟩ := h; unfold pNew_tree
  try simp only [Mo.pNew_g1] at h0 h
  try simp only [Mo.pNew_pre] at h0 h
  repeat' first | exact h | refine ⟨rfl, ?_⟩ | (refine ⟨h0.1, ?_⟩; replace h0 := h0.2) | refine ⟨h0, ?_⟩ | exact h0.elim | (refine ite_intro (fun c => ?_) fun c => ?_) <;> first | simp only [if_pos c] at h0 h | simp only [if_neg c] at h0 h | skip
theorem pNew_sem (harts : Int) (counts : Int) (dv : Int) (gs : List (List Int)) (b : Mo.Bd) (n : Nat) (rs : List (List Int)) (K : S → List Ob → Prop) (h : pNew_T harts counts dv gs b n rs K) : CallSem noW Tryz.prog 12 [.ptr 0 (.l 0), .nsl 1 (.v (lenR gs)) false true] (h_BG harts counts dv gs b n rs) K := opt_call (callX_ok tok (by kernel_rfl) ffLpHok stopLpH_ok _ _ _ _ (Eq.mpr (pNew_run harts counts dv gs b n rs K) (pNew_all harts counts dv gs b n rs K h)))
noncomputable def pNew_con : Con := ⟨[.ptr 0, .nsl 1 0 true], t_BG, [(1, 22, [.i .u32])], fun a K => match a with | ⟨[harts, counts, dv, (.ofNat n), (.ofNat q1)], [q2], [], [cs_b_k, cs_b_w, cs_b_t, cs_b_r, cs_b_l, cs_b_n_c0], [gs, rs]⟩ => (match Mo.Cl.is cs_b_k with | true => (match Mo.Wd.is cs_b_w with | true => (match Mo.Rt.is cs_b_t with | true => (match Mo.Rs.is cs_b_r with | true => (match Mo.Ln.is cs_b_l with | true => (match Mo.Cnt.is cs_b_n_c0 with | true => (q1 = n ∧ (q2 = (iL 0 (castI n)) ∧ pNew_T harts counts dv gs (Mo.Bd.mk (Mo.Cl.of cs_b_k) (Mo.Wd.of cs_b_w) (Mo.Rt.of cs_b_t) (Mo.Rs.of cs_b_r) (Mo.Ln.of cs_b_l) (Mo.Bk.mk (Mo.Cnt.of cs_b_n_c0))) n rs K)) | false => False) | false => False) | false => False) | false => False) | false => False) | false => False) | _ => False⟩
theorem pNew_ok : pNew_con.ok noW Tryz.prog 12 := by
  intro a K h
  simp only [pNew_con] at h
  split at h
  case h_2 => exact h.elim
  split at h
  case h_2 => exact h.elim
  rename_i is_b_k
  split at h
  case h_2 => exact h.elim
  rename_i is_b_w
  split at h
  case h_2 => exact h.elim
  rename_i is_b_t
  split at h
  case h_2 => exact h.elim
  rename_i is_b_r
  split at h
  case h_2 => exact h.elim
  rename_i is_b_l
  split at h
  case h_2 => exact h.elim
  rename_i is_b_n_c0
  obtain ⟨rfl, h⟩ := h
  obtain ⟨rfl, h⟩ := h
  exact CallSem.objs (pNew_sem _ _ _ _ _ _ _ K h) (fun _ _ _ h => h) ⟨WkO.same, WkO.same, WkO.cells (Mo.Cl.is_ok is_b_k), WkO.same, WkO.cells (Mo.Wd.is_ok is_b_w), WkO.cells (Mo.Rt.is_ok is_b_t), WkO.cells (Mo.Rs.is_ok is_b_r), WkO.cells (Mo.Ln.is_ok is_b_l), WkO.same, WkO.same, WkO.same, WkO.same, WkO.opt (Mo.Cnt.is_ok is_b_n_c0), trivial⟩
noncomputable def hm_LpI_2 (x1 : Int) (x2 : Int) (x3 : Int) (x4 : List (List Int)) (x5 : Mo.Bd) (x6 : Nat) (x7 : List (List Int)) (x8 : Int) : List Ob := [(.cells 131 [(.ptr 1 (.l 0)), (.ptr 2 (.l 0)), (.ptr 3 (.l 0)), (.ptr 4 (.l 0)), (.ptr 5 (.l 0)), (.ptr 6 (.l 0)), (.ptr 7 (.l 0)), (.iv .i64 x1), (.iv .i64 x2), (.iv .u32 x3), (.nsl 8 (.v (lenR x4)) false false)]), (.cells 183 (Mo.Cl.cells (Mo.Bd.k x5))), (.cells 188 [(.tsl 9 (.v x6) 1)]), (.cells 194 (Mo.Wd.cells (Mo.Bd.w x5))), (.cells 190 (Mo.Rt.cells (Mo.Bd.t x5))), (.cells 200 (Mo.Rs.cells (Mo.Bd.r x5))), (.cells 204 (Mo.Ln.cells (Mo.Bd.l x5))), (.cells 227 [(.mp 10)]), (.nrow 73 [.i .u64, .i .i64] x4), (.rowT 185 1 x6 [(.ptr 11 (.l 0))]), (.mapo [(.agg [(.il .u32 33554432), (.il .u32 49152)]), (.agg [(.il .u32 268500992), (.il .u32 256)]), (.agg [(.il .u32 268566528), (.il .u32 20)]), (.agg [(.il .u32 268632064), (.il .u32 16)]), (.agg [(.il .u32 268697600), (.il .u32 36)]), (.agg [(.il .u32 268763136), (.il .u32 12)])] [(.ifc 107 (.ptr 1 (.l 0))), (.ifc 110 (.ptr 2 (.l 0))), (.ifc 119 (.ptr 3 (.l 0))), (.ifc 125 (.ptr 5 (.l 0))), (.ifc 44 (.ptr 4 (.l 0))), (.ifc 127 (.ptr 6 (.l 0)))]), (.opt (iL 0 (castI x6)) 246 (Mo.Cnt.cells (Mo.Bk.c0 (Mo.Bd.n x5)))), (.nrow 22 [.i .u32] x7), (.cells 135 [(.iv .i64 0), (.iv .u64 0), (.iv .i64 x8), (.ptr 0 (.l 0)), (.nsl 14 (.v (lenR x7)) false true)]), (.nrow 22 [.i .u32] x7)]
noncomputable def Mo.pNewN_g1 (gs : List (List Int)) : Bool := (if ((iL 64 (castI (lenR gs))) = true) then true else false)
noncomputable def Mo.pNewN_pre (rs : List (List Int)) (gs : List (List Int)) : Prop := (if ((iL 64 (castI (lenR gs))) = true) then True else (if ((iM (castI (stdN NO.mul (lenR gs) (4 + 1))) 140737488355328) = true) then (Mo.pBoot_pre rs) else False))
noncomputable def pNewN_tree (harts : Int) (counts : Int) (dv : Int) (b : Mo.Bd) (n : Nat) (rs : List (List Int)) (gs : List (List Int)) (K : S → List Ob → Prop) : Prop := (if ((iL 64 (castI (lenR gs))) = true) then K (.tup [.nil, (.iv .i64 6)]) (h_BN harts counts dv b n rs gs) else (if ((iM (castI (stdN NO.mul (lenR gs) (4 + 1))) 140737488355328) = true) then (((lenR rs) = (lenR rs)) ∧ (((lenR gs) = (lenR gs)) ∧ ((n = n) ∧ (((iL 0 (castI n)) = (iL 0 (castI n))) ∧ ((Mo.pBoot_pre rs) ∧ K (.tup [(.ptr 13 (.l 0)), (.iv .i64 0)]) (hm_LpI_2 harts counts dv rs b n gs (adi 0 (sbi (castI (lenR (Mo.dResets_v1 rs))) 0)))))))) else False))
theorem pNewN_run (harts : Int) (counts : Int) (dv : Int) (b : Mo.Bd) (n : Nat) (rs : List (List Int)) (gs : List (List Int)) (K : S → List Ob → Prop) : callX (std noW) tt ffLpH stopLpH (lpB noW Tryz.prog) noL 8 12 [.ptr 0 (.l 0), .nsl 12 (.v (lenR gs)) false true] (h_BN harts counts dv b n rs gs) (gcK 13 (optK (o_BN n) (ivK true K))) = pNewN_tree harts counts dv b n rs gs K := by kernel_rfl
noncomputable def pNewN_T (harts : Int) (counts : Int) (dv : Int) (b : Mo.Bd) (n : Nat) (rs : List (List Int)) (gs : List (List Int)) (K : S → List Ob → Prop) : Prop := Mo.pNewN_pre rs gs ∧ (if (Mo.pNewN_g1 gs) = true then K (.tup [.nil, (.iv .i64 6)]) (h_BN harts counts dv b n rs gs) else K (.tup [(.ptr 13 (.l 0)), (.iv .i64 0)]) (hm_LpI_2 harts counts dv rs b n gs (adi 0 (sbi (castI (lenR (Mo.dResets_v1 rs))) 0))))
theorem pNewN_all (harts : Int) (counts : Int) (dv : Int) (b : Mo.Bd) (n : Nat) (rs : List (List Int)) (gs : List (List Int)) (K : S → List Ob → Prop) (h : pNewN_T harts counts dv b n rs gs K) : pNewN_tree harts counts dv b n rs gs K := by
  unfold pNewN_T at h; obtain ⟨h0, h⟩ := h; unfold pNewN_tree
  try simp only [Mo.pNewN_g1] at h0 h
  try simp only [Mo.pNewN_pre] at h0 h
  repeat' first | exact h | refine ⟨rfl, ?_⟩ | (refine ⟨h0.1, ?_⟩; replace h0 := h0.2) | refine ⟨h0, ?_⟩ | exact h0.elim | (refine ite_intro (fun c => ?_) fun c => ?_) <;> first | simp only [if_pos c] at h0 h | simp only [if_neg c] at h0 h | skip
theorem pNewN_sem (harts : Int) (counts : Int) (dv : Int) (b : Mo.Bd) (n : Nat) (rs : List (List Int)) (gs : List (List Int)) (K : S → List Ob → Prop) (h : pNewN_T harts counts dv b n rs gs K) : CallSem noW Tryz.prog 12 [.ptr 0 (.l 0), .nsl 12 (.v (lenR gs)) false true] (h_BN harts counts dv b n rs gs) K := opt_call (callX_ok tok (by kernel_rfl) ffLpHok stopLpH_ok _ _ _ _ (Eq.mpr (pNewN_run harts counts dv b n rs gs K) (pNewN_all harts counts dv b n rs gs K h)))
noncomputable def pNewN_con : Con := ⟨[.ptr 0, .nsl 12 1 true], t_BN, [(1, 22, [.i .u32])], fun a K => match a with | ⟨[harts, counts, dv, (.ofNat n), (.ofNat q1)], [q2], [], [cs_b_k, cs_b_w, cs_b_t, cs_b_r, cs_b_l, cs_b_n_c0], [rs, gs]⟩ => (match Mo.Cl.is cs_b_k with | true => (match Mo.Wd.is cs_b_w with | true => (match Mo.Rt.is cs_b_t with | true => (match Mo.Rs.is cs_b_r with | true => (match Mo.Ln.is cs_b_l with | true => (match Mo.Cnt.is cs_b_n_c0 with | true => (q1 = n ∧ (q2 = (iL 0 (castI n)) ∧ pNewN_T harts counts dv (Mo.Bd.mk (Mo.Cl.of cs_b_k) (Mo.Wd.of cs_b_w) (Mo.Rt.of cs_b_t) (Mo.Rs.of cs_b_r) (Mo.Ln.of cs_b_l) (Mo.Bk.mk (Mo.Cnt.of cs_b_n_c0))) n rs gs K)) | false => False) | false => False) | false => False) | false => False) | false => False) | false => False) | _ => False⟩
theorem pNewN_ok : pNewN_con.ok noW Tryz.prog 12 := by
  intro a K h
  simp only [pNewN_con] at h
  split at h
  case h_2 => exact h.elim
  split at h
  case h_2 => exact h.elim
  rename_i is_b_k
  split at h
  case h_2 => exact h.elim
  rename_i is_b_w
  split at h
  case h_2 => exact h.elim
  rename_i is_b_t
  split at h
  case h_2 => exact h.elim
  rename_i is_b_r
  split at h
  case h_2 => exact h.elim
  rename_i is_b_l
  split at h
  case h_2 => exact h.elim
  rename_i is_b_n_c0
  obtain ⟨rfl, h⟩ := h
  obtain ⟨rfl, h⟩ := h
  exact CallSem.objs (pNewN_sem _ _ _ _ _ _ _ K h) (fun _ _ _ h => h) ⟨WkO.same, WkO.cells (Mo.Cl.is_ok is_b_k), WkO.same, WkO.cells (Mo.Wd.is_ok is_b_w), WkO.cells (Mo.Rt.is_ok is_b_t), WkO.cells (Mo.Rs.is_ok is_b_r), WkO.cells (Mo.Ln.is_ok is_b_l), WkO.same, WkO.same, WkO.same, WkO.same, WkO.opt (Mo.Cnt.is_ok is_b_n_c0), WkO.same, trivial⟩
noncomputable def hm_LpI_3 (x1 : Int) (x2 : Int) (x3 : Int) (x4 : List (List Int)) (x5 : Int) (x6 : Int) (x7 : Int) (x8 : List (List Int)) (x9 : Mo.Bd) (x10 : Nat) (x11 : Int) : List Ob := [(.cells 135 [(.iv .i64 x1), (.iv .u64 x2), (.iv .i64 x3), (.ptr 1 (.l 0)), (.nsl 2 (.v (lenR x4)) false true)]), (.cells 131 [(.ptr 3 (.l 0)), (.ptr 4 (.l 0)), (.ptr 5 (.l 0)), (.ptr 6 (.l 0)), (.ptr 7 (.l 0)), (.ptr 8 (.l 0)), (.ptr 9 (.l 0)), (.iv .i64 x5), (.iv .i64 x6), (.iv .u32 x7), (.nsl 10 (.v (lenR x8)) false false)]), (.nrow 22 [.i .u32] x4), (.cells 183 (Mo.Cl.cells (Mo.Bd.k x9))), (.cells 188 [(.tsl 11 (.v x10) 1)]), (.cells 194 (Mo.Wd.cells (Mo.Bd.w x9))), (.cells 190 (Mo.Rt.cells (Mo.Bd.t x9))), (.cells 200 (Mo.Rs.cells (Mo.Bd.r x9))), (.cells 204 (Mo.Ln.cells (Mo.Bd.l x9))), (.cells 227 [(.mp 12)]), (.nrow 73 [.i .u64, .i .i64] x8), (.rowT 185 1 x10 [(.ptr 13 (.l 0))]), (.mapo [(.agg [(.il .u32 33554432), (.il .u32 49152)]), (.agg [(.il .u32 268500992), (.il .u32 256)]), (.agg [(.il .u32 268566528), (.il .u32 20)]), (.agg [(.il .u32 268632064), (.il .u32 16)]), (.agg [(.il .u32 268697600), (.il .u32 36)]), (.agg [(.il .u32 268763136), (.il .u32 12)])] [(.ifc 107 (.ptr 3 (.l 0))), (.ifc 110 (.ptr 4 (.l 0))), (.ifc 119 (.ptr 5 (.l 0))), (.ifc 125 (.ptr 7 (.l 0))), (.ifc 44 (.ptr 6 (.l 0))), (.ifc 127 (.ptr 8 (.l 0)))]), (.opt (iL 0 (castI x10)) 246 (Mo.Cnt.cells (Mo.Bk.c0 (Mo.Bd.n x9)))), (.cells 156 [(.ptr 0 (.l 0)), (.iv .i64 x11)])]
noncomputable def Mo.tNew_g1 (i : Int) (counts : Int) : Bool := (if ((iL i 0) = true) then true else (if ((iM counts i) = true) then true else false))
noncomputable def tNew_tree (i : Int) (made : Int) (spent : Int) (seen : Int) (harts : Int) (counts : Int) (dv : Int) (gs : List (List Int)) (b : Mo.Bd) (n : Nat) (rs : List (List Int)) (K : S → List Ob → Prop) : Prop := (if ((iL i 0) = true) then K (.tup [.nil, (.iv .i64 5)]) (h_PT made spent seen harts counts dv gs b n rs) else (((lenR rs) = (lenR rs)) ∧ (((lenR gs) = (lenR gs)) ∧ ((n = n) ∧ (((iL 0 (castI n)) = (iL 0 (castI n))) ∧ (True ∧ (((lenR rs) = (lenR rs)) ∧ ((n = n) ∧ (((iL 0 (castI n)) = (iL 0 (castI n))) ∧ (True ∧ (if ((iM counts i) = true) then K (.tup [.nil, (.iv .i64 5)]) (h_PT made spent seen harts counts dv gs b n rs) else K (.tup [(.ptr 14 (.l 0)), (.iv .i64 0)]) (hm_LpI_3 made spent seen gs harts counts dv rs b n i))))))))))))
theorem tNew_run (i : Int) (made : Int) (spent : Int) (seen : Int) (harts : Int) (counts : Int) (dv : Int) (gs : List (List Int)) (b : Mo.Bd) (n : Nat) (rs : List (List Int)) (K : S → List Ob → Prop) : callX (std noW) tt ffLpH stopLpH (lpB noW Tryz.prog) noL 8 29 [.ptr 0 (.l 0), .iv .i64 i] (h_PT made spent seen harts counts dv gs b n rs) (gcK 14 (optK (o_PT n) (ivK true K))) = tNew_tree i made spent seen harts counts dv gs b n rs K := by kernel_rfl
noncomputable def tNew_T (i : Int) (made : Int) (spent : Int) (seen : Int) (harts : Int) (counts : Int) (dv : Int) (gs : List (List Int)) (b : Mo.Bd) (n : Nat) (rs : List (List Int)) (K : S → List Ob → Prop) : Prop := True ∧ (if (Mo.tNew_g1 i counts) = true then K (.tup [.nil, (.iv .i64 5)]) (h_PT made spent seen harts counts dv gs b n rs) else K (.tup [(.ptr 14 (.l 0)), (.iv .i64 0)]) (hm_LpI_3 made spent seen gs harts counts dv rs b n i))
theorem tNew_all (i : Int) (made : Int) (spent : Int) (seen : Int) (harts : Int) (counts : Int) (dv : Int) (gs : List (List Int)) (b : Mo.Bd) (n : Nat) (rs : List (List Int)) (K : S → List Ob → Prop) (h : tNew_T i made spent seen harts counts dv gs b n rs K) : tNew_tree i made spent seen harts counts dv gs b n rs K := by
  unfold tNew_T at h; obtain ⟨h0, h⟩ := h; unfold tNew_tree
  try simp only [Mo.tNew_g1] at h0 h
  repeat' first | exact h | refine ⟨rfl, ?_⟩ | (refine ⟨h0.1, ?_⟩; replace h0 := h0.2) | refine ⟨h0, ?_⟩ | exact h0.elim | (refine ite_intro (fun c => ?_) fun c => ?_) <;> first | simp only [if_pos c] at h0 h | simp only [if_neg c] at h0 h | skip
theorem tNew_sem (i : Int) (made : Int) (spent : Int) (seen : Int) (harts : Int) (counts : Int) (dv : Int) (gs : List (List Int)) (b : Mo.Bd) (n : Nat) (rs : List (List Int)) (K : S → List Ob → Prop) (h : tNew_T i made spent seen harts counts dv gs b n rs K) : CallSem noW Tryz.prog 29 [.ptr 0 (.l 0), .iv .i64 i] (h_PT made spent seen harts counts dv gs b n rs) K := opt_call (callX_ok tok (by kernel_rfl) ffLpHok stopLpH_ok _ _ _ _ (Eq.mpr (tNew_run i made spent seen harts counts dv gs b n rs K) (tNew_all i made spent seen harts counts dv gs b n rs K h)))
noncomputable def tNew_con : Con := ⟨[.ptr 0, .int .i64], t_PT, [], fun a K => match a with | ⟨[i, made, spent, seen, harts, counts, dv, (.ofNat n), (.ofNat q1)], [q2], [], [cs_b_k, cs_b_w, cs_b_t, cs_b_r, cs_b_l, cs_b_n_c0], [gs, rs]⟩ => (match Mo.Cl.is cs_b_k with | true => (match Mo.Wd.is cs_b_w with | true => (match Mo.Rt.is cs_b_t with | true => (match Mo.Rs.is cs_b_r with | true => (match Mo.Ln.is cs_b_l with | true => (match Mo.Cnt.is cs_b_n_c0 with | true => (q1 = n ∧ (q2 = (iL 0 (castI n)) ∧ tNew_T i made spent seen harts counts dv gs (Mo.Bd.mk (Mo.Cl.of cs_b_k) (Mo.Wd.of cs_b_w) (Mo.Rt.of cs_b_t) (Mo.Rs.of cs_b_r) (Mo.Ln.of cs_b_l) (Mo.Bk.mk (Mo.Cnt.of cs_b_n_c0))) n rs K)) | false => False) | false => False) | false => False) | false => False) | false => False) | false => False) | _ => False⟩
theorem tNew_ok : tNew_con.ok noW Tryz.prog 29 := by
  intro a K h
  simp only [tNew_con] at h
  split at h
  case h_2 => exact h.elim
  split at h
  case h_2 => exact h.elim
  rename_i is_b_k
  split at h
  case h_2 => exact h.elim
  rename_i is_b_w
  split at h
  case h_2 => exact h.elim
  rename_i is_b_t
  split at h
  case h_2 => exact h.elim
  rename_i is_b_r
  split at h
  case h_2 => exact h.elim
  rename_i is_b_l
  split at h
  case h_2 => exact h.elim
  rename_i is_b_n_c0
  obtain ⟨rfl, h⟩ := h
  obtain ⟨rfl, h⟩ := h
  exact CallSem.objs (tNew_sem _ _ _ _ _ _ _ _ _ _ _ K h) (fun _ _ _ h => h) ⟨WkO.same, WkO.same, WkO.same, WkO.cells (Mo.Cl.is_ok is_b_k), WkO.same, WkO.cells (Mo.Wd.is_ok is_b_w), WkO.cells (Mo.Rt.is_ok is_b_t), WkO.cells (Mo.Rs.is_ok is_b_r), WkO.cells (Mo.Ln.is_ok is_b_l), WkO.same, WkO.same, WkO.same, WkO.same, WkO.opt (Mo.Cnt.is_ok is_b_n_c0), trivial⟩
noncomputable def hm_LpI_4 (x1 : Int) (x2 : Int) (x3 : Int) (x4 : Int) (x5 : List (List Int)) (x6 : Int) (x7 : Int) (x8 : Int) (x9 : List (List Int)) (x10 : Mo.Bd) (x11 : Nat) : List Ob := [(.cells 156 [(.ptr 1 (.l 0)), (.iv .i64 x1)]), (.cells 135 [(.iv .i64 x2), (.iv .u64 x3), (.iv .i64 x4), (.ptr 2 (.l 0)), (.nsl 3 (.v (lenR x5)) false true)]), (.cells 131 [(.ptr 4 (.l 0)), (.ptr 5 (.l 0)), (.ptr 6 (.l 0)), (.ptr 7 (.l 0)), (.ptr 8 (.l 0)), (.ptr 9 (.l 0)), (.ptr 10 (.l 0)), (.iv .i64 x6), (.iv .i64 x7), (.iv .u32 x8), (.nsl 15 (.v (lenR x9)) false false)]), (.nrow 22 [.i .u32] x5), (.cells 183 (Mo.Cl.cells (Mo.Bd.k x10))), (.cells 188 [(.tsl 12 (.v x11) 1)]), (.cells 194 (Mo.Wd.cells (Mo.Bd.w x10))), (.cells 190 (Mo.Rt.cells (Mo.Bd.t x10))), (.cells 200 (Mo.Rs.cells (Mo.Bd.r x10))), (.cells 204 (Mo.Ln.cells (Mo.Bd.l x10))), (.cells 227 [(.mp 13)]), .dead, (.rowT 185 1 x11 [(.ptr 14 (.l 0))]), (.mapo [(.agg [(.il .u32 33554432), (.il .u32 49152)]), (.agg [(.il .u32 268500992), (.il .u32 256)]), (.agg [(.il .u32 268566528), (.il .u32 20)]), (.agg [(.il .u32 268632064), (.il .u32 16)]), (.agg [(.il .u32 268697600), (.il .u32 36)]), (.agg [(.il .u32 268763136), (.il .u32 12)])] [(.ifc 107 (.ptr 4 (.l 0))), (.ifc 110 (.ptr 5 (.l 0))), (.ifc 119 (.ptr 6 (.l 0))), (.ifc 125 (.ptr 8 (.l 0))), (.ifc 44 (.ptr 7 (.l 0))), (.ifc 127 (.ptr 9 (.l 0)))]), (.opt (iL 0 (castI x11)) 246 (Mo.Cnt.cells (Mo.Bk.c0 (Mo.Bd.n x10)))), (.nrow 73 [.i .u64, .i .i64] x9)]
noncomputable def Mo.tStart_e1 (i : Int) (seen : Int) (harts : Int) (b : Mo.Bd) (n : Nat) (rs : List (List Int)) : Int := Mo.pStore_v1 (adw (cvw (adi 268500992 (mli i 32)) 0) 8) 0 seen harts b n rs
noncomputable def Mo.tStart_e2 (i : Int) (seen : Int) (harts : Int) (b : Mo.Bd) (n : Nat) (rs : List (List Int)) : List (List Int) := Mo.pStore_v4 (adw (cvw (adi 268500992 (mli i 32)) 0) 8) 0 seen harts b n rs
noncomputable def Mo.tStart_e3 (i : Int) (made : Int) (seen : Int) (harts : Int) (b : Mo.Bd) (n : Nat) (rs : List (List Int)) : Int := Mo.pStore_v2 (Mo.pStore_v2 made seen rs) seen (Mo.tStart_e2 i seen harts b n rs)
noncomputable def Mo.tStart_e4 (i : Int) (spent : Int) (seen : Int) (harts : Int) (b : Mo.Bd) (n : Nat) (rs : List (List Int)) : Int := Mo.pStore_v3 (Mo.pStore_v3 spent seen rs) seen (Mo.tStart_e2 i seen harts b n rs)
noncomputable def Mo.tStart_e5 (i : Int) (seen : Int) (harts : Int) (b : Mo.Bd) (n : Nat) (rs : List (List Int)) : Mo.Bd := Mo.pStore_v5 (adw (cvw (adi 268500992 (mli i 32)) 0) 8) 0 seen harts b n rs
noncomputable def Mo.tStart_e6 (ld : Int) (i : Int) (seen : Int) (harts : Int) (b : Mo.Bd) (n : Nat) (rs : List (List Int)) : Int := Mo.pStore_v1 (adw (cvw (adi 268500992 (mli i 32)) 0) 0) ld seen harts (Mo.tStart_e5 i seen harts b n rs) n (Mo.tStart_e2 i seen harts b n rs)
noncomputable def Mo.tStart_e7 (ld : Int) (i : Int) (seen : Int) (harts : Int) (b : Mo.Bd) (n : Nat) (rs : List (List Int)) : List (List Int) := Mo.pStore_v4 (adw (cvw (adi 268500992 (mli i 32)) 0) 0) ld seen harts (Mo.tStart_e5 i seen harts b n rs) n (Mo.tStart_e2 i seen harts b n rs)
noncomputable def Mo.tStart_e8 (ld : Int) (i : Int) (made : Int) (seen : Int) (harts : Int) (b : Mo.Bd) (n : Nat) (rs : List (List Int)) : Int := Mo.pStore_v2 (Mo.tStart_e3 i made seen harts b n rs) seen (Mo.tStart_e7 ld i seen harts b n rs)
noncomputable def Mo.tStart_e9 (ld : Int) (i : Int) (spent : Int) (seen : Int) (harts : Int) (b : Mo.Bd) (n : Nat) (rs : List (List Int)) : Int := Mo.pStore_v3 (Mo.tStart_e4 i spent seen harts b n rs) seen (Mo.tStart_e7 ld i seen harts b n rs)
noncomputable def Mo.tStart_e10 (ld : Int) (i : Int) (seen : Int) (harts : Int) (b : Mo.Bd) (n : Nat) (rs : List (List Int)) : Mo.Bd := Mo.pStore_v5 (adw (cvw (adi 268500992 (mli i 32)) 0) 0) ld seen harts (Mo.tStart_e5 i seen harts b n rs) n (Mo.tStart_e2 i seen harts b n rs)
noncomputable def Mo.tStart_e11 (ld : Int) (i : Int) (seen : Int) (harts : Int) (b : Mo.Bd) (n : Nat) (rs : List (List Int)) : Int := Mo.pStore_v1 (adw (cvw (adi 268500992 (mli i 32)) 0) 12) 1 seen harts (Mo.tStart_e10 ld i seen harts b n rs) n (Mo.tStart_e7 ld i seen harts b n rs)
noncomputable def Mo.tStart_e12 (ld : Int) (i : Int) (seen : Int) (harts : Int) (b : Mo.Bd) (n : Nat) (rs : List (List Int)) : List (List Int) := Mo.pStore_v4 (adw (cvw (adi 268500992 (mli i 32)) 0) 12) 1 seen harts (Mo.tStart_e10 ld i seen harts b n rs) n (Mo.tStart_e7 ld i seen harts b n rs)
noncomputable def Mo.tStart_e13 (ld : Int) (i : Int) (made : Int) (seen : Int) (harts : Int) (b : Mo.Bd) (n : Nat) (rs : List (List Int)) : Int := Mo.pStore_v2 (Mo.tStart_e8 ld i made seen harts b n rs) seen (Mo.tStart_e12 ld i seen harts b n rs)
noncomputable def Mo.tStart_e14 (ld : Int) (i : Int) (spent : Int) (seen : Int) (harts : Int) (b : Mo.Bd) (n : Nat) (rs : List (List Int)) : Int := Mo.pStore_v3 (Mo.tStart_e9 ld i spent seen harts b n rs) seen (Mo.tStart_e12 ld i seen harts b n rs)
noncomputable def Mo.tStart_e15 (ld : Int) (i : Int) (seen : Int) (harts : Int) (b : Mo.Bd) (n : Nat) (rs : List (List Int)) : Mo.Bd := Mo.pStore_v5 (adw (cvw (adi 268500992 (mli i 32)) 0) 12) 1 seen harts (Mo.tStart_e10 ld i seen harts b n rs) n (Mo.tStart_e7 ld i seen harts b n rs)
noncomputable def Mo.tStart_e16 (ld : Int) (scale : Int) (i : Int) (seen : Int) (harts : Int) (b : Mo.Bd) (n : Nat) (rs : List (List Int)) : Int := Mo.pStore_v1 (adw (cvw (adi 268500992 (mli i 32)) 0) 8) (rrw (nnw 5 65280) (anw (slw scale 8) 65280)) seen harts (Mo.tStart_e15 ld i seen harts b n rs) n (Mo.tStart_e12 ld i seen harts b n rs)
noncomputable def Mo.tStart_e17 (ld : Int) (scale : Int) (i : Int) (seen : Int) (harts : Int) (b : Mo.Bd) (n : Nat) (rs : List (List Int)) : List (List Int) := Mo.pStore_v4 (adw (cvw (adi 268500992 (mli i 32)) 0) 8) (rrw (nnw 5 65280) (anw (slw scale 8) 65280)) seen harts (Mo.tStart_e15 ld i seen harts b n rs) n (Mo.tStart_e12 ld i seen harts b n rs)
noncomputable def Mo.tStart_e18 (ld : Int) (scale : Int) (i : Int) (seen : Int) (harts : Int) (b : Mo.Bd) (n : Nat) (rs : List (List Int)) : Mo.Bd := Mo.pStore_v5 (adw (cvw (adi 268500992 (mli i 32)) 0) 8) (rrw (nnw 5 65280) (anw (slw scale 8) 65280)) seen harts (Mo.tStart_e15 ld i seen harts b n rs) n (Mo.tStart_e12 ld i seen harts b n rs)
noncomputable def Mo.tStart_e19 (ld : Int) (scale : Int) (i : Int) (seen : Int) (harts : Int) (b : Mo.Bd) (n : Nat) (rs : List (List Int)) : Int := Mo.pStore_v1 (adw (cvw (adi 268500992 (mli i 32)) 0) 8) (Mo.bPut1_v1 (rrw (nnw 5 65280) (anw (slw scale 8) 65280)) 1) seen harts (Mo.tStart_e15 ld i seen harts b n rs) n (Mo.tStart_e12 ld i seen harts b n rs)
noncomputable def Mo.tStart_e20 (ld : Int) (scale : Int) (i : Int) (seen : Int) (harts : Int) (b : Mo.Bd) (n : Nat) (rs : List (List Int)) : List (List Int) := Mo.pStore_v4 (adw (cvw (adi 268500992 (mli i 32)) 0) 8) (Mo.bPut1_v1 (rrw (nnw 5 65280) (anw (slw scale 8) 65280)) 1) seen harts (Mo.tStart_e15 ld i seen harts b n rs) n (Mo.tStart_e12 ld i seen harts b n rs)
noncomputable def Mo.tStart_e21 (ld : Int) (scale : Int) (i : Int) (seen : Int) (harts : Int) (b : Mo.Bd) (n : Nat) (rs : List (List Int)) : Mo.Bd := Mo.pStore_v5 (adw (cvw (adi 268500992 (mli i 32)) 0) 8) (Mo.bPut1_v1 (rrw (nnw 5 65280) (anw (slw scale 8) 65280)) 1) seen harts (Mo.tStart_e15 ld i seen harts b n rs) n (Mo.tStart_e12 ld i seen harts b n rs)
noncomputable def Mo.tStart_v1 (ld : Int) (scale : Int) (again : Bool) (i : Int) (seen : Int) (harts : Int) (b : Mo.Bd) (n : Nat) (rs : List (List Int)) : Int := (if ((iL 255 scale) = true) then 5 else (if (again = true) then (if ((iN (Mo.tStart_e1 i seen harts b n rs) 0) = true) then (Mo.tStart_e1 i seen harts b n rs) else (if ((iN (Mo.tStart_e6 ld i seen harts b n rs) 0) = true) then (Mo.tStart_e6 ld i seen harts b n rs) else (if ((iN (Mo.tStart_e11 ld i seen harts b n rs) 0) = true) then (Mo.tStart_e11 ld i seen harts b n rs) else (Mo.tStart_e19 ld scale i seen harts b n rs)))) else (if ((iN (Mo.tStart_e1 i seen harts b n rs) 0) = true) then (Mo.tStart_e1 i seen harts b n rs) else (if ((iN (Mo.tStart_e6 ld i seen harts b n rs) 0) = true) then (Mo.tStart_e6 ld i seen harts b n rs) else (if ((iN (Mo.tStart_e11 ld i seen harts b n rs) 0) = true) then (Mo.tStart_e11 ld i seen harts b n rs) else (Mo.tStart_e16 ld scale i seen harts b n rs))))))
noncomputable def Mo.tStart_v2 (ld : Int) (scale : Int) (i : Int) (made : Int) (seen : Int) (harts : Int) (b : Mo.Bd) (n : Nat) (rs : List (List Int)) : Int := (if ((iL 255 scale) = true) then made else (if ((iN (Mo.tStart_e1 i seen harts b n rs) 0) = true) then (Mo.pStore_v2 made seen rs) else (if ((iN (Mo.tStart_e6 ld i seen harts b n rs) 0) = true) then (Mo.tStart_e3 i made seen harts b n rs) else (if ((iN (Mo.tStart_e11 ld i seen harts b n rs) 0) = true) then (Mo.tStart_e8 ld i made seen harts b n rs) else (Mo.tStart_e13 ld i made seen harts b n rs)))))
noncomputable def Mo.tStart_v3 (ld : Int) (scale : Int) (i : Int) (spent : Int) (seen : Int) (harts : Int) (b : Mo.Bd) (n : Nat) (rs : List (List Int)) : Int := (if ((iL 255 scale) = true) then spent else (if ((iN (Mo.tStart_e1 i seen harts b n rs) 0) = true) then (Mo.pStore_v3 spent seen rs) else (if ((iN (Mo.tStart_e6 ld i seen harts b n rs) 0) = true) then (Mo.tStart_e4 i spent seen harts b n rs) else (if ((iN (Mo.tStart_e11 ld i seen harts b n rs) 0) = true) then (Mo.tStart_e9 ld i spent seen harts b n rs) else (Mo.tStart_e14 ld i spent seen harts b n rs)))))
noncomputable def Mo.tStart_v4 (ld : Int) (scale : Int) (again : Bool) (i : Int) (seen : Int) (harts : Int) (b : Mo.Bd) (n : Nat) (rs : List (List Int)) : List (List Int) := (if ((iL 255 scale) = true) then rs else (if (again = true) then (if ((iN (Mo.tStart_e1 i seen harts b n rs) 0) = true) then (Mo.tStart_e2 i seen harts b n rs) else (if ((iN (Mo.tStart_e6 ld i seen harts b n rs) 0) = true) then (Mo.tStart_e7 ld i seen harts b n rs) else (if ((iN (Mo.tStart_e11 ld i seen harts b n rs) 0) = true) then (Mo.tStart_e12 ld i seen harts b n rs) else (Mo.tStart_e20 ld scale i seen harts b n rs)))) else (if ((iN (Mo.tStart_e1 i seen harts b n rs) 0) = true) then (Mo.tStart_e2 i seen harts b n rs) else (if ((iN (Mo.tStart_e6 ld i seen harts b n rs) 0) = true) then (Mo.tStart_e7 ld i seen harts b n rs) else (if ((iN (Mo.tStart_e11 ld i seen harts b n rs) 0) = true) then (Mo.tStart_e12 ld i seen harts b n rs) else (Mo.tStart_e17 ld scale i seen harts b n rs))))))
noncomputable def Mo.tStart_v5 (ld : Int) (scale : Int) (again : Bool) (i : Int) (seen : Int) (harts : Int) (b : Mo.Bd) (n : Nat) (rs : List (List Int)) : Mo.Bd := (if ((iL 255 scale) = true) then b else (if (again = true) then (if ((iN (Mo.tStart_e1 i seen harts b n rs) 0) = true) then (Mo.tStart_e5 i seen harts b n rs) else (if ((iN (Mo.tStart_e6 ld i seen harts b n rs) 0) = true) then (Mo.tStart_e10 ld i seen harts b n rs) else (if ((iN (Mo.tStart_e11 ld i seen harts b n rs) 0) = true) then (Mo.tStart_e15 ld i seen harts b n rs) else (Mo.tStart_e21 ld scale i seen harts b n rs)))) else (if ((iN (Mo.tStart_e1 i seen harts b n rs) 0) = true) then (Mo.tStart_e5 i seen harts b n rs) else (if ((iN (Mo.tStart_e6 ld i seen harts b n rs) 0) = true) then (Mo.tStart_e10 ld i seen harts b n rs) else (if ((iN (Mo.tStart_e11 ld i seen harts b n rs) 0) = true) then (Mo.tStart_e15 ld i seen harts b n rs) else (Mo.tStart_e18 ld scale i seen harts b n rs))))))
noncomputable def Mo.tStart_pre (ld : Int) (scale : Int) (again : Bool) (i : Int) (spent : Int) (seen : Int) (harts : Int) (gs : List (List Int)) (b : Mo.Bd) (n : Nat) (rs : List (List Int)) : Prop := (if ((iL 255 scale) = true) then True else (if (again = true) then ((Mo.bPut1_pre 1) ∧ ((Mo.pStore_pre (adw (cvw (adi 268500992 (mli i 32)) 0) 8) 0 spent seen harts gs b n rs) ∧ (if ((iN (Mo.tStart_e1 i seen harts b n rs) 0) = true) then True else ((Mo.pStore_pre (adw (cvw (adi 268500992 (mli i 32)) 0) 0) ld (Mo.pStore_v3 spent seen rs) seen harts gs (Mo.tStart_e5 i seen harts b n rs) n (Mo.tStart_e2 i seen harts b n rs)) ∧ (if ((iN (Mo.tStart_e6 ld i seen harts b n rs) 0) = true) then True else ((Mo.pStore_pre (adw (cvw (adi 268500992 (mli i 32)) 0) 12) 1 (Mo.tStart_e4 i spent seen harts b n rs) seen harts gs (Mo.tStart_e10 ld i seen harts b n rs) n (Mo.tStart_e7 ld i seen harts b n rs)) ∧ (if ((iN (Mo.tStart_e11 ld i seen harts b n rs) 0) = true) then True else (Mo.pStore_pre (adw (cvw (adi 268500992 (mli i 32)) 0) 8) (Mo.bPut1_v1 (rrw (nnw 5 65280) (anw (slw scale 8) 65280)) 1) (Mo.tStart_e9 ld i spent seen harts b n rs) seen harts gs (Mo.tStart_e15 ld i seen harts b n rs) n (Mo.tStart_e12 ld i seen harts b n rs))))))))) else ((Mo.pStore_pre (adw (cvw (adi 268500992 (mli i 32)) 0) 8) 0 spent seen harts gs b n rs) ∧ (if ((iN (Mo.tStart_e1 i seen harts b n rs) 0) = true) then True else ((Mo.pStore_pre (adw (cvw (adi 268500992 (mli i 32)) 0) 0) ld (Mo.pStore_v3 spent seen rs) seen harts gs (Mo.tStart_e5 i seen harts b n rs) n (Mo.tStart_e2 i seen harts b n rs)) ∧ (if ((iN (Mo.tStart_e6 ld i seen harts b n rs) 0) = true) then True else ((Mo.pStore_pre (adw (cvw (adi 268500992 (mli i 32)) 0) 12) 1 (Mo.tStart_e4 i spent seen harts b n rs) seen harts gs (Mo.tStart_e10 ld i seen harts b n rs) n (Mo.tStart_e7 ld i seen harts b n rs)) ∧ (if ((iN (Mo.tStart_e11 ld i seen harts b n rs) 0) = true) then True else (Mo.pStore_pre (adw (cvw (adi 268500992 (mli i 32)) 0) 8) (rrw (nnw 5 65280) (anw (slw scale 8) 65280)) (Mo.tStart_e9 ld i spent seen harts b n rs) seen harts gs (Mo.tStart_e15 ld i seen harts b n rs) n (Mo.tStart_e12 ld i seen harts b n rs))))))))))
noncomputable def tStart_tree (ld : Int) (scale : Int) (again : Bool) (i : Int) (made : Int) (spent : Int) (seen : Int) (harts : Int) (counts : Int) (dv : Int) (gs : List (List Int)) (b : Mo.Bd) (n : Nat) (rs : List (List Int)) (K : S → List Ob → Prop) : Prop := (if ((iL 255 scale) = true) then K (.iv .i64 5) (hm_LpI_4 i made spent seen gs harts counts dv rs b n) else (True ∧ (if (again = true) then ((Mo.bPut1_pre 1) ∧ (((lenR rs) = (lenR rs)) ∧ (((lenR gs) = (lenR gs)) ∧ ((n = n) ∧ (((iL 0 (castI n)) = (iL 0 (castI n))) ∧ ((Mo.pStore_pre (adw (cvw (adi 268500992 (mli i 32)) 0) 8) 0 spent seen harts gs b n rs) ∧ (if ((iN (Mo.tStart_e1 i seen harts b n rs) 0) = true) then K (.iv .i64 (Mo.tStart_e1 i seen harts b n rs)) (hm_LpI_4 i (Mo.pStore_v2 made seen rs) (Mo.pStore_v3 spent seen rs) seen gs harts counts dv (Mo.tStart_e2 i seen harts b n rs) (Mo.tStart_e5 i seen harts b n rs) n) else (((some (S.iv IntKind.u32 ld)) = (some (S.iv IntKind.u32 ld))) ∧ (((lenR (Mo.tStart_e2 i seen harts b n rs)) = (lenR (Mo.tStart_e2 i seen harts b n rs))) ∧ (((lenR gs) = (lenR gs)) ∧ ((n = n) ∧ (((iL 0 (castI n)) = (iL 0 (castI n))) ∧ ((Mo.pStore_pre (adw (cvw (adi 268500992 (mli i 32)) 0) 0) ld (Mo.pStore_v3 spent seen rs) seen harts gs (Mo.tStart_e5 i seen harts b n rs) n (Mo.tStart_e2 i seen harts b n rs)) ∧ (if ((iN (Mo.tStart_e6 ld i seen harts b n rs) 0) = true) then K (.iv .i64 (Mo.tStart_e6 ld i seen harts b n rs)) (hm_LpI_4 i (Mo.tStart_e3 i made seen harts b n rs) (Mo.tStart_e4 i spent seen harts b n rs) seen gs harts counts dv (Mo.tStart_e7 ld i seen harts b n rs) (Mo.tStart_e10 ld i seen harts b n rs) n) else (((lenR (Mo.tStart_e7 ld i seen harts b n rs)) = (lenR (Mo.tStart_e7 ld i seen harts b n rs))) ∧ (((lenR gs) = (lenR gs)) ∧ ((n = n) ∧ (((iL 0 (castI n)) = (iL 0 (castI n))) ∧ ((Mo.pStore_pre (adw (cvw (adi 268500992 (mli i 32)) 0) 12) 1 (Mo.tStart_e4 i spent seen harts b n rs) seen harts gs (Mo.tStart_e10 ld i seen harts b n rs) n (Mo.tStart_e7 ld i seen harts b n rs)) ∧ (if ((iN (Mo.tStart_e11 ld i seen harts b n rs) 0) = true) then K (.iv .i64 (Mo.tStart_e11 ld i seen harts b n rs)) (hm_LpI_4 i (Mo.tStart_e8 ld i made seen harts b n rs) (Mo.tStart_e9 ld i spent seen harts b n rs) seen gs harts counts dv (Mo.tStart_e12 ld i seen harts b n rs) (Mo.tStart_e15 ld i seen harts b n rs) n) else (((some (S.iv IntKind.u32 (Mo.bPut1_v1 (rrw (nnw 5 65280) (anw (slw scale 8) 65280)) 1))) = (some (S.iv IntKind.u32 (Mo.bPut1_v1 (rrw (nnw 5 65280) (anw (slw scale 8) 65280)) 1)))) ∧ (((lenR (Mo.tStart_e12 ld i seen harts b n rs)) = (lenR (Mo.tStart_e12 ld i seen harts b n rs))) ∧ (((lenR gs) = (lenR gs)) ∧ ((n = n) ∧ (((iL 0 (castI n)) = (iL 0 (castI n))) ∧ ((Mo.pStore_pre (adw (cvw (adi 268500992 (mli i 32)) 0) 8) (Mo.bPut1_v1 (rrw (nnw 5 65280) (anw (slw scale 8) 65280)) 1) (Mo.tStart_e9 ld i spent seen harts b n rs) seen harts gs (Mo.tStart_e15 ld i seen harts b n rs) n (Mo.tStart_e12 ld i seen harts b n rs)) ∧ (if ((iN (Mo.tStart_e19 ld scale i seen harts b n rs) 0) = true) then K (.iv .i64 (Mo.tStart_e19 ld scale i seen harts b n rs)) (hm_LpI_4 i (Mo.tStart_e13 ld i made seen harts b n rs) (Mo.tStart_e14 ld i spent seen harts b n rs) seen gs harts counts dv (Mo.tStart_e20 ld scale i seen harts b n rs) (Mo.tStart_e21 ld scale i seen harts b n rs) n) else K (.iv .i64 (Mo.tStart_e19 ld scale i seen harts b n rs)) (hm_LpI_4 i (Mo.tStart_e13 ld i made seen harts b n rs) (Mo.tStart_e14 ld i spent seen harts b n rs) seen gs harts counts dv (Mo.tStart_e20 ld scale i seen harts b n rs) (Mo.tStart_e21 ld scale i seen harts b n rs) n)))))))))))))))))))))))))))) else (((lenR rs) = (lenR rs)) ∧ (((lenR gs) = (lenR gs)) ∧ ((n = n) ∧ (((iL 0 (castI n)) = (iL 0 (castI n))) ∧ ((Mo.pStore_pre (adw (cvw (adi 268500992 (mli i 32)) 0) 8) 0 spent seen harts gs b n rs) ∧ (if ((iN (Mo.tStart_e1 i seen harts b n rs) 0) = true) then K (.iv .i64 (Mo.tStart_e1 i seen harts b n rs)) (hm_LpI_4 i (Mo.pStore_v2 made seen rs) (Mo.pStore_v3 spent seen rs) seen gs harts counts dv (Mo.tStart_e2 i seen harts b n rs) (Mo.tStart_e5 i seen harts b n rs) n) else (((some (S.iv IntKind.u32 ld)) = (some (S.iv IntKind.u32 ld))) ∧ (((lenR (Mo.tStart_e2 i seen harts b n rs)) = (lenR (Mo.tStart_e2 i seen harts b n rs))) ∧ (((lenR gs) = (lenR gs)) ∧ ((n = n) ∧ (((iL 0 (castI n)) = (iL 0 (castI n))) ∧ ((Mo.pStore_pre (adw (cvw (adi 268500992 (mli i 32)) 0) 0) ld (Mo.pStore_v3 spent seen rs) seen harts gs (Mo.tStart_e5 i seen harts b n rs) n (Mo.tStart_e2 i seen harts b n rs)) ∧ (if ((iN (Mo.tStart_e6 ld i seen harts b n rs) 0) = true) then K (.iv .i64 (Mo.tStart_e6 ld i seen harts b n rs)) (hm_LpI_4 i (Mo.tStart_e3 i made seen harts b n rs) (Mo.tStart_e4 i spent seen harts b n rs) seen gs harts counts dv (Mo.tStart_e7 ld i seen harts b n rs) (Mo.tStart_e10 ld i seen harts b n rs) n) else (((lenR (Mo.tStart_e7 ld i seen harts b n rs)) = (lenR (Mo.tStart_e7 ld i seen harts b n rs))) ∧ (((lenR gs) = (lenR gs)) ∧ ((n = n) ∧ (((iL 0 (castI n)) = (iL 0 (castI n))) ∧ ((Mo.pStore_pre (adw (cvw (adi 268500992 (mli i 32)) 0) 12) 1 (Mo.tStart_e4 i spent seen harts b n rs) seen harts gs (Mo.tStart_e10 ld i seen harts b n rs) n (Mo.tStart_e7 ld i seen harts b n rs)) ∧ (if ((iN (Mo.tStart_e11 ld i seen harts b n rs) 0) = true) then K (.iv .i64 (Mo.tStart_e11 ld i seen harts b n rs)) (hm_LpI_4 i (Mo.tStart_e8 ld i made seen harts b n rs) (Mo.tStart_e9 ld i spent seen harts b n rs) seen gs harts counts dv (Mo.tStart_e12 ld i seen harts b n rs) (Mo.tStart_e15 ld i seen harts b n rs) n) else (((some (S.iv IntKind.u32 (rrw (nnw 5 65280) (anw (slw scale 8) 65280)))) = (some (S.iv IntKind.u32 (rrw (nnw 5 65280) (anw (slw scale 8) 65280))))) ∧ (((lenR (Mo.tStart_e12 ld i seen harts b n rs)) = (lenR (Mo.tStart_e12 ld i seen harts b n rs))) ∧ (((lenR gs) = (lenR gs)) ∧ ((n = n) ∧ (((iL 0 (castI n)) = (iL 0 (castI n))) ∧ ((Mo.pStore_pre (adw (cvw (adi 268500992 (mli i 32)) 0) 8) (rrw (nnw 5 65280) (anw (slw scale 8) 65280)) (Mo.tStart_e9 ld i spent seen harts b n rs) seen harts gs (Mo.tStart_e15 ld i seen harts b n rs) n (Mo.tStart_e12 ld i seen harts b n rs)) ∧ (if ((iN (Mo.tStart_e16 ld scale i seen harts b n rs) 0) = true) then K (.iv .i64 (Mo.tStart_e16 ld scale i seen harts b n rs)) (hm_LpI_4 i (Mo.tStart_e13 ld i made seen harts b n rs) (Mo.tStart_e14 ld i spent seen harts b n rs) seen gs harts counts dv (Mo.tStart_e17 ld scale i seen harts b n rs) (Mo.tStart_e18 ld scale i seen harts b n rs) n) else K (.iv .i64 (Mo.tStart_e16 ld scale i seen harts b n rs)) (hm_LpI_4 i (Mo.tStart_e13 ld i made seen harts b n rs) (Mo.tStart_e14 ld i spent seen harts b n rs) seen gs harts counts dv (Mo.tStart_e17 ld scale i seen harts b n rs) (Mo.tStart_e18 ld scale i seen harts b n rs) n))))))))))))))))))))))))))))))
theorem tStart_run (ld : Int) (scale : Int) (again : Bool) (i : Int) (made : Int) (spent : Int) (seen : Int) (harts : Int) (counts : Int) (dv : Int) (gs : List (List Int)) (b : Mo.Bd) (n : Nat) (rs : List (List Int)) (K : S → List Ob → Prop) : callX (std noW) tt ffLpH stopLpH (lpB noW Tryz.prog) noL 12 30 [.ptr 0 (.l 0), .iv .u32 ld, .iv .u32 scale, .bv again] (h_TK i made spent seen harts counts dv gs b n rs) (gcK 15 (nilK none (mvsK [11] (optK (o_TK n) (ivK true K))))) = tStart_tree ld scale again i made spent seen harts counts dv gs b n rs K := by kernel_rfl
noncomputable def tStart_T (ld : Int) (scale : Int) (again : Bool) (i : Int) (made : Int) (spent : Int) (seen : Int) (harts : Int) (counts : Int) (dv : Int) (gs : List (List Int)) (b : Mo.Bd) (n : Nat) (rs : List (List Int)) (K : S → List Ob → Prop) : Prop := Mo.tStart_pre ld scale again i spent seen harts gs b n rs ∧ K (.iv .i64 (Mo.tStart_v1 ld scale again i seen harts b n rs)) (hm_LpI_4 i (Mo.tStart_v2 ld scale i made seen harts b n rs) (Mo.tStart_v3 ld scale i spent seen harts b n rs) seen gs harts counts dv (Mo.tStart_v4 ld scale again i seen harts b n rs) (Mo.tStart_v5 ld scale again i seen harts b n rs) n)
theorem tStart_all (ld : Int) (scale : Int) (again : Bool) (i : Int) (made : Int) (spent : Int) (seen : Int) (harts : Int) (counts : Int) (dv : Int) (gs : List (List Int)) (b : Mo.Bd) (n : Nat) (rs : List (List Int)) (K : S → List Ob → Prop) (h : tStart_T ld scale again i made spent seen harts counts dv gs b n rs K) : tStart_tree ld scale again i made spent seen harts counts dv gs b n rs K := by
  unfold tStart_T at h; obtain ⟨h0, h⟩ := h; unfold tStart_tree
  try simp only [Mo.tStart_v1] at h0 h
  try simp only [Mo.tStart_v2] at h0 h
  try simp only [Mo.tStart_v3] at h0 h
  try simp only [Mo.tStart_v4] at h0 h
  try simp only [Mo.tStart_v5] at h0 h
  try simp only [Mo.tStart_pre] at h0 h
  repeat' (first | (refine ite_intro (fun c => ?_) (fun c => ?_) <;> first | simp only [if_pos c] at h0 h | simp only [if_neg c] at h0 h | skip) | with_reducible (replace h0 := (h0 : True ∧ _).2) | with_reducible (refine ⟨rfl, ?_⟩) | with_reducible (refine ⟨h0.1, ?_⟩; replace h0 := h0.2) | with_reducible (refine ⟨h0, ?_⟩) | (refine ⟨h0.1, ?_⟩; replace h0 := h0.2) | refine ⟨h0, ?_⟩ | refine ⟨rfl, ?_⟩ | refine ⟨trivial, ?_⟩ | refine ⟨by assumption, ?_⟩ | refine ⟨Eq.symm (by assumption), ?_⟩ | exact h | refine ⟨?_, ?_⟩ | exact h0.elim | trivial | contradiction | (simp only [if_true, if_false, Bool.false_eq_true] at h; exact h))
theorem tStart_sem (ld : Int) (scale : Int) (again : Bool) (i : Int) (made : Int) (spent : Int) (seen : Int) (harts : Int) (counts : Int) (dv : Int) (gs : List (List Int)) (b : Mo.Bd) (n : Nat) (rs : List (List Int)) (K : S → List Ob → Prop) (h : tStart_T ld scale again i made spent seen harts counts dv gs b n rs K) : CallSem noW Tryz.prog 30 [.ptr 0 (.l 0), .iv .u32 ld, .iv .u32 scale, .bv again] (h_TK i made spent seen harts counts dv gs b n rs) K := all_call (callX_ok tok (by kernel_rfl) ffLpHok stopLpH_ok _ _ _ _ (Eq.mpr (tStart_run ld scale again i made spent seen harts counts dv gs b n rs K) (tStart_all ld scale again i made spent seen harts counts dv gs b n rs K h)))
noncomputable def tStart_con : Con := ⟨[.ptr 0, .int .u32, .int .u32, .bool], t_TK, [], fun a K => match a with | ⟨[ld, scale, i, made, spent, seen, harts, counts, dv, (.ofNat n), (.ofNat q1)], [again, q2], [], [cs_b_k, cs_b_w, cs_b_t, cs_b_r, cs_b_l, cs_b_n_c0], [gs, rs]⟩ => (match Mo.Cl.is cs_b_k with | true => (match Mo.Wd.is cs_b_w with | true => (match Mo.Rt.is cs_b_t with | true => (match Mo.Rs.is cs_b_r with | true => (match Mo.Ln.is cs_b_l with | true => (match Mo.Cnt.is cs_b_n_c0 with | true => (q1 = n ∧ (q2 = (iL 0 (castI n)) ∧ tStart_T ld scale again i made spent seen harts counts dv gs (Mo.Bd.mk (Mo.Cl.of cs_b_k) (Mo.Wd.of cs_b_w) (Mo.Rt.of cs_b_t) (Mo.Rs.of cs_b_r) (Mo.Ln.of cs_b_l) (Mo.Bk.mk (Mo.Cnt.of cs_b_n_c0))) n rs K)) | false => False) | false => False) | false => False) | false => False) | false => False) | false => False) | _ => False⟩
theorem tStart_ok : tStart_con.ok noW Tryz.prog 30 := by
  intro a K h
  simp only [tStart_con] at h
  split at h
  case h_2 => exact h.elim
  split at h
  case h_2 => exact h.elim
  rename_i is_b_k
  split at h
  case h_2 => exact h.elim
  rename_i is_b_w
  split at h
  case h_2 => exact h.elim
  rename_i is_b_t
  split at h
  case h_2 => exact h.elim
  rename_i is_b_r
  split at h
  case h_2 => exact h.elim
  rename_i is_b_l
  split at h
  case h_2 => exact h.elim
  rename_i is_b_n_c0
  obtain ⟨rfl, h⟩ := h
  obtain ⟨rfl, h⟩ := h
  exact CallSem.objs (tStart_sem _ _ _ _ _ _ _ _ _ _ _ _ _ _ K h) (fun _ _ _ h => h) ⟨WkO.same, WkO.same, WkO.same, WkO.same, WkO.cells (Mo.Cl.is_ok is_b_k), WkO.same, WkO.cells (Mo.Wd.is_ok is_b_w), WkO.cells (Mo.Rt.is_ok is_b_t), WkO.cells (Mo.Rs.is_ok is_b_r), WkO.cells (Mo.Ln.is_ok is_b_l), WkO.same, WkO.same, WkO.same, WkO.same, WkO.opt (Mo.Cnt.is_ok is_b_n_c0), trivial⟩
noncomputable def Mo.tValue_e1 (seen : Int) (harts : Int) (b : Mo.Bd) (n : Nat) (rs : List (List Int)) : Mo.Bd := Mo.pLoad_v6 seen harts b n rs
noncomputable def Mo.tValue_v1 (seen : Int) (harts : Int) (b : Mo.Bd) (n : Nat) (rs : List (List Int)) : Mo.Bd := (Mo.tValue_e1 seen harts b n rs)
noncomputable def Mo.tValue_pre (i : Int) (spent : Int) (seen : Int) (harts : Int) (gs : List (List Int)) (b : Mo.Bd) (n : Nat) (rs : List (List Int)) : Prop := (Mo.pLoad_pre (adw (cvw (adi 268500992 (mli i 32)) 0) 4) spent seen harts gs b n rs)
noncomputable def tValue_tree (i : Int) (made : Int) (spent : Int) (seen : Int) (harts : Int) (counts : Int) (dv : Int) (gs : List (List Int)) (b : Mo.Bd) (n : Nat) (rs : List (List Int)) (K : S → List Ob → Prop) : Prop := (((lenR rs) = (lenR rs)) ∧ (((lenR gs) = (lenR gs)) ∧ ((n = n) ∧ (((iL 0 (castI n)) = (iL 0 (castI n))) ∧ ((Mo.pLoad_pre (adw (cvw (adi 268500992 (mli i 32)) 0) 4) spent seen harts gs b n rs) ∧ K (.tup [(.iv .u32 (Mo.pLoad_v1 (adw (cvw (adi 268500992 (mli i 32)) 0) 4) seen harts b n rs)), (.iv .i64 (Mo.pLoad_v2 (adw (cvw (adi 268500992 (mli i 32)) 0) 4) seen harts b n rs))]) (hm_LpI_4 i (Mo.pLoad_v3 made seen rs) (Mo.pLoad_v4 spent seen rs) seen gs harts counts dv (Mo.pLoad_v5 seen harts b n rs) (Mo.tValue_e1 seen harts b n rs) n))))))
theorem tValue_run (i : Int) (made : Int) (spent : Int) (seen : Int) (harts : Int) (counts : Int) (dv : Int) (gs : List (List Int)) (b : Mo.Bd) (n : Nat) (rs : List (List Int)) (K : S → List Ob → Prop) : callX (std noW) tt ffLpH stopLpH (lpB noW Tryz.prog) noL 12 40 [.ptr 0 (.l 0)] (h_TK i made spent seen harts counts dv gs b n rs) (gcK 15 (nilK none (mvsK [11] (optK (o_TK n) (ivK false K))))) = tValue_tree i made spent seen harts counts dv gs b n rs K := by kernel_rfl
noncomputable def tValue_T (i : Int) (made : Int) (spent : Int) (seen : Int) (harts : Int) (counts : Int) (dv : Int) (gs : List (List Int)) (b : Mo.Bd) (n : Nat) (rs : List (List Int)) (K : S → List Ob → Prop) : Prop := Mo.tValue_pre i spent seen harts gs b n rs ∧ K (.tup [(.iv .u32 (Mo.pLoad_v1 (adw (cvw (adi 268500992 (mli i 32)) 0) 4) seen harts b n rs)), (.iv .i64 (Mo.pLoad_v2 (adw (cvw (adi 268500992 (mli i 32)) 0) 4) seen harts b n rs))]) (hm_LpI_4 i (Mo.pLoad_v3 made seen rs) (Mo.pLoad_v4 spent seen rs) seen gs harts counts dv (Mo.pLoad_v5 seen harts b n rs) (Mo.tValue_v1 seen harts b n rs) n)
theorem tValue_all (i : Int) (made : Int) (spent : Int) (seen : Int) (harts : Int) (counts : Int) (dv : Int) (gs : List (List Int)) (b : Mo.Bd) (n : Nat) (rs : List (List Int)) (K : S → List Ob → Prop) (h : tValue_T i made spent seen harts counts dv gs b n rs K) : tValue_tree i made spent seen harts counts dv gs b n rs K := by
  unfold tValue_T at h; obtain ⟨h0, h⟩ := h; unfold tValue_tree
  try simp only [Mo.tValue_v1] at h0 h
  try simp only [Mo.tValue_pre] at h0 h
  repeat' first | exact h | refine ⟨rfl, ?_⟩ | (refine ⟨h0.1, ?_⟩; replace h0 := h0.2) | refine ⟨h0, ?_⟩ | exact h0.elim | (refine ite_intro (fun c => ?_) fun c => ?_) <;> first | simp only [if_pos c] at h0 h | simp only [if_neg c] at h0 h | skip
theorem tValue_sem (i : Int) (made : Int) (spent : Int) (seen : Int) (harts : Int) (counts : Int) (dv : Int) (gs : List (List Int)) (b : Mo.Bd) (n : Nat) (rs : List (List Int)) (K : S → List Ob → Prop) (h : tValue_T i made spent seen harts counts dv gs b n rs K) : CallSem noW Tryz.prog 40 [.ptr 0 (.l 0)] (h_TK i made spent seen harts counts dv gs b n rs) K := all_call (callX_ok tok (by kernel_rfl) ffLpHok stopLpH_ok _ _ _ _ (Eq.mpr (tValue_run i made spent seen harts counts dv gs b n rs K) (tValue_all i made spent seen harts counts dv gs b n rs K h)))
noncomputable def tValue_con : Con := ⟨[.ptr 0], t_TK, [], fun a K => match a with | ⟨[i, made, spent, seen, harts, counts, dv, (.ofNat n), (.ofNat q1)], [q2], [], [cs_b_k, cs_b_w, cs_b_t, cs_b_r, cs_b_l, cs_b_n_c0], [gs, rs]⟩ => (match Mo.Cl.is cs_b_k with | true => (match Mo.Wd.is cs_b_w with | true => (match Mo.Rt.is cs_b_t with | true => (match Mo.Rs.is cs_b_r with | true => (match Mo.Ln.is cs_b_l with | true => (match Mo.Cnt.is cs_b_n_c0 with | true => (q1 = n ∧ (q2 = (iL 0 (castI n)) ∧ tValue_T i made spent seen harts counts dv gs (Mo.Bd.mk (Mo.Cl.of cs_b_k) (Mo.Wd.of cs_b_w) (Mo.Rt.of cs_b_t) (Mo.Rs.of cs_b_r) (Mo.Ln.of cs_b_l) (Mo.Bk.mk (Mo.Cnt.of cs_b_n_c0))) n rs K)) | false => False) | false => False) | false => False) | false => False) | false => False) | false => False) | _ => False⟩
theorem tValue_ok : tValue_con.ok noW Tryz.prog 40 := by
  intro a K h
  simp only [tValue_con] at h
  split at h
  case h_2 => exact h.elim
  split at h
  case h_2 => exact h.elim
  rename_i is_b_k
  split at h
  case h_2 => exact h.elim
  rename_i is_b_w
  split at h
  case h_2 => exact h.elim
  rename_i is_b_t
  split at h
  case h_2 => exact h.elim
  rename_i is_b_r
  split at h
  case h_2 => exact h.elim
  rename_i is_b_l
  split at h
  case h_2 => exact h.elim
  rename_i is_b_n_c0
  obtain ⟨rfl, h⟩ := h
  obtain ⟨rfl, h⟩ := h
  exact CallSem.objs (tValue_sem _ _ _ _ _ _ _ _ _ _ _ K h) (fun _ _ _ h => h) ⟨WkO.same, WkO.same, WkO.same, WkO.same, WkO.cells (Mo.Cl.is_ok is_b_k), WkO.same, WkO.cells (Mo.Wd.is_ok is_b_w), WkO.cells (Mo.Rt.is_ok is_b_t), WkO.cells (Mo.Rs.is_ok is_b_r), WkO.cells (Mo.Ln.is_ok is_b_l), WkO.same, WkO.same, WkO.same, WkO.same, WkO.opt (Mo.Cnt.is_ok is_b_n_c0), trivial⟩
noncomputable def Mo.tTake_e1 (seen : Int) (harts : Int) (b : Mo.Bd) (n : Nat) (rs : List (List Int)) : List (List Int) := Mo.pLoad_v5 seen harts b n rs
noncomputable def Mo.tTake_e2 (seen : Int) (harts : Int) (b : Mo.Bd) (n : Nat) (rs : List (List Int)) : Mo.Bd := Mo.pLoad_v6 seen harts b n rs
noncomputable def Mo.tTake_e3 (i : Int) (seen : Int) (harts : Int) (b : Mo.Bd) (n : Nat) (rs : List (List Int)) : Int := Mo.pLoad_v2 (adw (cvw (adi 268500992 (mli i 32)) 0) 12) seen harts b n rs
noncomputable def Mo.tTake_e4 (i : Int) (seen : Int) (harts : Int) (b : Mo.Bd) (n : Nat) (rs : List (List Int)) : Int := Mo.pStore_v1 (adw (cvw (adi 268500992 (mli i 32)) 0) 12) 1 seen harts (Mo.tTake_e2 seen harts b n rs) n (Mo.tTake_e1 seen harts b n rs)
noncomputable def Mo.tTake_e5 (i : Int) (seen : Int) (harts : Int) (b : Mo.Bd) (n : Nat) (rs : List (List Int)) : List (List Int) := Mo.pStore_v4 (adw (cvw (adi 268500992 (mli i 32)) 0) 12) 1 seen harts (Mo.tTake_e2 seen harts b n rs) n (Mo.tTake_e1 seen harts b n rs)
noncomputable def Mo.tTake_e6 (i : Int) (seen : Int) (harts : Int) (b : Mo.Bd) (n : Nat) (rs : List (List Int)) : Mo.Bd := Mo.pStore_v5 (adw (cvw (adi 268500992 (mli i 32)) 0) 12) 1 seen harts (Mo.tTake_e2 seen harts b n rs) n (Mo.tTake_e1 seen harts b n rs)
noncomputable def Mo.tTake_v1 (i : Int) (seen : Int) (harts : Int) (b : Mo.Bd) (n : Nat) (rs : List (List Int)) : Bool := (if ((iN (Mo.tTake_e3 i seen harts b n rs) 0) = true) then false else (if ((iN (Mo.pLoad_v1 (adw (cvw (adi 268500992 (mli i 32)) 0) 12) seen harts b n rs) 1) = true) then false else (iE (Mo.tTake_e4 i seen harts b n rs) 0)))
noncomputable def Mo.tTake_v2 (i : Int) (seen : Int) (harts : Int) (b : Mo.Bd) (n : Nat) (rs : List (List Int)) : Int := (if ((iN (Mo.tTake_e3 i seen harts b n rs) 0) = true) then (Mo.tTake_e3 i seen harts b n rs) else (if ((iN (Mo.pLoad_v1 (adw (cvw (adi 268500992 (mli i 32)) 0) 12) seen harts b n rs) 1) = true) then (Mo.tTake_e3 i seen harts b n rs) else (Mo.tTake_e4 i seen harts b n rs)))
noncomputable def Mo.tTake_v3 (i : Int) (made : Int) (seen : Int) (harts : Int) (b : Mo.Bd) (n : Nat) (rs : List (List Int)) : Int := (if ((iN (Mo.tTake_e3 i seen harts b n rs) 0) = true) then (Mo.pLoad_v3 made seen rs) else (if ((iN (Mo.pLoad_v1 (adw (cvw (adi 268500992 (mli i 32)) 0) 12) seen harts b n rs) 1) = true) then (Mo.pLoad_v3 made seen rs) else (Mo.pStore_v2 (Mo.pLoad_v3 made seen rs) seen (Mo.tTake_e1 seen harts b n rs))))
noncomputable def Mo.tTake_v4 (i : Int) (spent : Int) (seen : Int) (harts : Int) (b : Mo.Bd) (n : Nat) (rs : List (List Int)) : Int := (if ((iN (Mo.tTake_e3 i seen harts b n rs) 0) = true) then (Mo.pLoad_v4 spent seen rs) else (if ((iN (Mo.pLoad_v1 (adw (cvw (adi 268500992 (mli i 32)) 0) 12) seen harts b n rs) 1) = true) then (Mo.pLoad_v4 spent seen rs) else (Mo.pStore_v3 (Mo.pLoad_v4 spent seen rs) seen (Mo.tTake_e1 seen harts b n rs))))
noncomputable def Mo.tTake_v5 (i : Int) (seen : Int) (harts : Int) (b : Mo.Bd) (n : Nat) (rs : List (List Int)) : List (List Int) := (if ((iN (Mo.tTake_e3 i seen harts b n rs) 0) = true) then (Mo.tTake_e1 seen harts b n rs) else (if ((iN (Mo.pLoad_v1 (adw (cvw (adi 268500992 (mli i 32)) 0) 12) seen harts b n rs) 1) = true) then (Mo.tTake_e1 seen harts b n rs) else (Mo.tTake_e5 i seen harts b n rs)))
noncomputable def Mo.tTake_v6 (i : Int) (seen : Int) (harts : Int) (b : Mo.Bd) (n : Nat) (rs : List (List Int)) : Mo.Bd := (if ((iN (Mo.tTake_e3 i seen harts b n rs) 0) = true) then (Mo.tTake_e2 seen harts b n rs) else (if ((iN (Mo.pLoad_v1 (adw (cvw (adi 268500992 (mli i 32)) 0) 12) seen harts b n rs) 1) = true) then (Mo.tTake_e2 seen harts b n rs) else (Mo.tTake_e6 i seen harts b n rs)))
noncomputable def Mo.tTake_pre (i : Int) (spent : Int) (seen : Int) (harts : Int) (gs : List (List Int)) (b : Mo.Bd) (n : Nat) (rs : List (List Int)) : Prop := ((Mo.pLoad_pre (adw (cvw (adi 268500992 (mli i 32)) 0) 12) spent seen harts gs b n rs) ∧ (if ((iN (Mo.tTake_e3 i seen harts b n rs) 0) = true) then True else (if ((iN (Mo.pLoad_v1 (adw (cvw (adi 268500992 (mli i 32)) 0) 12) seen harts b n rs) 1) = true) then True else (Mo.pStore_pre (adw (cvw (adi 268500992 (mli i 32)) 0) 12) 1 (Mo.pLoad_v4 spent seen rs) seen harts gs (Mo.tTake_e2 seen harts b n rs) n (Mo.tTake_e1 seen harts b n rs)))))
noncomputable def tTake_tree (i : Int) (made : Int) (spent : Int) (seen : Int) (harts : Int) (counts : Int) (dv : Int) (gs : List (List Int)) (b : Mo.Bd) (n : Nat) (rs : List (List Int)) (K : S → List Ob → Prop) : Prop := (((lenR rs) = (lenR rs)) ∧ (((lenR gs) = (lenR gs)) ∧ ((n = n) ∧ (((iL 0 (castI n)) = (iL 0 (castI n))) ∧ ((Mo.pLoad_pre (adw (cvw (adi 268500992 (mli i 32)) 0) 12) spent seen harts gs b n rs) ∧ (if ((iN (Mo.tTake_e3 i seen harts b n rs) 0) = true) then K (.tup [(.bv false), (.iv .i64 (Mo.tTake_e3 i seen harts b n rs))]) (hm_LpI_4 i (Mo.pLoad_v3 made seen rs) (Mo.pLoad_v4 spent seen rs) seen gs harts counts dv (Mo.tTake_e1 seen harts b n rs) (Mo.tTake_e2 seen harts b n rs) n) else (if ((iN (Mo.pLoad_v1 (adw (cvw (adi 268500992 (mli i 32)) 0) 12) seen harts b n rs) 1) = true) then K (.tup [(.bv false), (.iv .i64 (Mo.tTake_e3 i seen harts b n rs))]) (hm_LpI_4 i (Mo.pLoad_v3 made seen rs) (Mo.pLoad_v4 spent seen rs) seen gs harts counts dv (Mo.tTake_e1 seen harts b n rs) (Mo.tTake_e2 seen harts b n rs) n) else (((lenR (Mo.tTake_e1 seen harts b n rs)) = (lenR (Mo.tTake_e1 seen harts b n rs))) ∧ (((lenR gs) = (lenR gs)) ∧ ((n = n) ∧ (((iL 0 (castI n)) = (iL 0 (castI n))) ∧ ((Mo.pStore_pre (adw (cvw (adi 268500992 (mli i 32)) 0) 12) 1 (Mo.pLoad_v4 spent seen rs) seen harts gs (Mo.tTake_e2 seen harts b n rs) n (Mo.tTake_e1 seen harts b n rs)) ∧ (if ((iN (Mo.tTake_e4 i seen harts b n rs) 0) = true) then K (.tup [(.bv (iE (Mo.tTake_e4 i seen harts b n rs) 0)), (.iv .i64 (Mo.tTake_e4 i seen harts b n rs))]) (hm_LpI_4 i (Mo.pStore_v2 (Mo.pLoad_v3 made seen rs) seen (Mo.tTake_e1 seen harts b n rs)) (Mo.pStore_v3 (Mo.pLoad_v4 spent seen rs) seen (Mo.tTake_e1 seen harts b n rs)) seen gs harts counts dv (Mo.tTake_e5 i seen harts b n rs) (Mo.tTake_e6 i seen harts b n rs) n) else K (.tup [(.bv (iE (Mo.tTake_e4 i seen harts b n rs) 0)), (.iv .i64 (Mo.tTake_e4 i seen harts b n rs))]) (hm_LpI_4 i (Mo.pStore_v2 (Mo.pLoad_v3 made seen rs) seen (Mo.tTake_e1 seen harts b n rs)) (Mo.pStore_v3 (Mo.pLoad_v4 spent seen rs) seen (Mo.tTake_e1 seen harts b n rs)) seen gs harts counts dv (Mo.tTake_e5 i seen harts b n rs) (Mo.tTake_e6 i seen harts b n rs) n))))))))))))))
theorem tTake_run (i : Int) (made : Int) (spent : Int) (seen : Int) (harts : Int) (counts : Int) (dv : Int) (gs : List (List Int)) (b : Mo.Bd) (n : Nat) (rs : List (List Int)) (K : S → List Ob → Prop) : callX (std noW) tt ffLpH stopLpH (lpB noW Tryz.prog) noL 12 36 [.ptr 0 (.l 0)] (h_TK i made spent seen harts counts dv gs b n rs) (gcK 15 (nilK none (mvsK [11] (optK (o_TK n) (ivK true K))))) = tTake_tree i made spent seen harts counts dv gs b n rs K := by kernel_rfl
noncomputable def tTake_T (i : Int) (made : Int) (spent : Int) (seen : Int) (harts : Int) (counts : Int) (dv : Int) (gs : List (List Int)) (b : Mo.Bd) (n : Nat) (rs : List (List Int)) (K : S → List Ob → Prop) : Prop := Mo.tTake_pre i spent seen harts gs b n rs ∧ K (.tup [(.bv (Mo.tTake_v1 i seen harts b n rs)), (.iv .i64 (Mo.tTake_v2 i seen harts b n rs))]) (hm_LpI_4 i (Mo.tTake_v3 i made seen harts b n rs) (Mo.tTake_v4 i spent seen harts b n rs) seen gs harts counts dv (Mo.tTake_v5 i seen harts b n rs) (Mo.tTake_v6 i seen harts b n rs) n)
theorem tTake_all (i : Int) (made : Int) (spent : Int) (seen : Int) (harts : Int) (counts : Int) (dv : Int) (gs : List (List Int)) (b : Mo.Bd) (n : Nat) (rs : List (List Int)) (K : S → List Ob → Prop) (h : tTake_T i made spent seen harts counts dv gs b n rs K) : tTake_tree i made spent seen harts counts dv gs b n rs K := by
  unfold tTake_T at h; obtain ⟨h0, h⟩ := h; unfold tTake_tree
  try simp only [Mo.tTake_v1] at h0 h
  try simp only [Mo.tTake_v2] at h0 h
  try simp only [Mo.tTake_v3] at h0 h
  try simp only [Mo.tTake_v4] at h0 h
  try simp only [Mo.tTake_v5] at h0 h
  try simp only [Mo.tTake_v6] at h0 h
  try simp only [Mo.tTake_pre] at h0 h
  repeat' first | exact h | refine ⟨rfl, ?_⟩ | (refine ⟨h0.1, ?_⟩; replace h0 := h0.2) | refine ⟨h0, ?_⟩ | exact h0.elim | (refine ite_intro (fun c => ?_) fun c => ?_) <;> first | simp only [if_pos c] at h0 h | simp only [if_neg c] at h0 h | skip
theorem tTake_sem (i : Int) (made : Int) (spent : Int) (seen : Int) (harts : Int) (counts : Int) (dv : Int) (gs : List (List Int)) (b : Mo.Bd) (n : Nat) (rs : List (List Int)) (K : S → List Ob → Prop) (h : tTake_T i made spent seen harts counts dv gs b n rs K) : CallSem noW Tryz.prog 36 [.ptr 0 (.l 0)] (h_TK i made spent seen harts counts dv gs b n rs) K := all_call (callX_ok tok (by kernel_rfl) ffLpHok stopLpH_ok _ _ _ _ (Eq.mpr (tTake_run i made spent seen harts counts dv gs b n rs K) (tTake_all i made spent seen harts counts dv gs b n rs K h)))
noncomputable def tTake_con : Con := ⟨[.ptr 0], t_TK, [], fun a K => match a with | ⟨[i, made, spent, seen, harts, counts, dv, (.ofNat n), (.ofNat q1)], [q2], [], [cs_b_k, cs_b_w, cs_b_t, cs_b_r, cs_b_l, cs_b_n_c0], [gs, rs]⟩ => (match Mo.Cl.is cs_b_k with | true => (match Mo.Wd.is cs_b_w with | true => (match Mo.Rt.is cs_b_t with | true => (match Mo.Rs.is cs_b_r with | true => (match Mo.Ln.is cs_b_l with | true => (match Mo.Cnt.is cs_b_n_c0 with | true => (q1 = n ∧ (q2 = (iL 0 (castI n)) ∧ tTake_T i made spent seen harts counts dv gs (Mo.Bd.mk (Mo.Cl.of cs_b_k) (Mo.Wd.of cs_b_w) (Mo.Rt.of cs_b_t) (Mo.Rs.of cs_b_r) (Mo.Ln.of cs_b_l) (Mo.Bk.mk (Mo.Cnt.of cs_b_n_c0))) n rs K)) | false => False) | false => False) | false => False) | false => False) | false => False) | false => False) | _ => False⟩
theorem tTake_ok : tTake_con.ok noW Tryz.prog 36 := by
  intro a K h
  simp only [tTake_con] at h
  split at h
  case h_2 => exact h.elim
  split at h
  case h_2 => exact h.elim
  rename_i is_b_k
  split at h
  case h_2 => exact h.elim
  rename_i is_b_w
  split at h
  case h_2 => exact h.elim
  rename_i is_b_t
  split at h
  case h_2 => exact h.elim
  rename_i is_b_r
  split at h
  case h_2 => exact h.elim
  rename_i is_b_l
  split at h
  case h_2 => exact h.elim
  rename_i is_b_n_c0
  obtain ⟨rfl, h⟩ := h
  obtain ⟨rfl, h⟩ := h
  exact CallSem.objs (tTake_sem _ _ _ _ _ _ _ _ _ _ _ K h) (fun _ _ _ h => h) ⟨WkO.same, WkO.same, WkO.same, WkO.same, WkO.cells (Mo.Cl.is_ok is_b_k), WkO.same, WkO.cells (Mo.Wd.is_ok is_b_w), WkO.cells (Mo.Rt.is_ok is_b_t), WkO.cells (Mo.Rs.is_ok is_b_r), WkO.cells (Mo.Ln.is_ok is_b_l), WkO.same, WkO.same, WkO.same, WkO.same, WkO.opt (Mo.Cnt.is_ok is_b_n_c0), trivial⟩
noncomputable def Mo.tPending_v1 (i : Int) (b : Mo.Bd) : Bool := (if ((iL (adi 8 i) 0) = true) then false else (if ((iM 32 (adi 8 i)) = true) then false else (if ((iE (cvw (slq 1 (adi 8 i)) 0) 0) = true) then false else (iE (srw (anw (Mo.Ln.high (Mo.Bd.l b)) (cvw (slq 1 (adi 8 i)) 0)) (adi 8 i)) 1))))
noncomputable def Mo.tPending_pre (i : Int) : Prop := (if ((iL (adi 8 i) 0) = true) then True else (if ((iM 32 (adi 8 i)) = true) then True else (if ((iM 0 (adi 8 i)) = true) then True else False)))
noncomputable def tPending_tree (i : Int) (made : Int) (spent : Int) (seen : Int) (harts : Int) (counts : Int) (dv : Int) (gs : List (List Int)) (b : Mo.Bd) (n : Nat) (rs : List (List Int)) (K : S → List Ob → Prop) : Prop := (((lenR rs) = (lenR rs)) ∧ (((lenR gs) = (lenR gs)) ∧ ((n = n) ∧ (((iL 0 (castI n)) = (iL 0 (castI n))) ∧ (True ∧ (((some (S.iv IntKind.i64 i)) = (some (S.iv IntKind.i64 i))) ∧ (((lenR rs) = (lenR rs)) ∧ ((n = n) ∧ (((iL 0 (castI n)) = (iL 0 (castI n))) ∧ (True ∧ (((some (S.iv IntKind.i64 i)) = (some (S.iv IntKind.i64 i))) ∧ (if ((iL (adi 8 i) 0) = true) then K (.bv false) (h_TK i made spent seen harts counts dv gs b n rs) else (if ((iM 32 (adi 8 i)) = true) then K (.bv false) (h_TK i made spent seen harts counts dv gs b n rs) else (if ((iM 0 (adi 8 i)) = true) then (if ((iE (cvw (slq 1 (adi 8 i)) 0) 0) = true) then K (.bv false) (h_TK i made spent seen harts counts dv gs b n rs) else (if ((iM 0 (adi 8 i)) = true) then K (.bv (iE (srw (anw (Mo.Ln.high (Mo.Bd.l b)) (cvw (slq 1 (adi 8 i)) 0)) (adi 8 i)) 1)) (h_TK i made spent seen harts counts dv gs b n rs) else False)) else False))))))))))))))
theorem tPending_run (i : Int) (made : Int) (spent : Int) (seen : Int) (harts : Int) (counts : Int) (dv : Int) (gs : List (List Int)) (b : Mo.Bd) (n : Nat) (rs : List (List Int)) (K : S → List Ob → Prop) : callX (std noW) tt ffLpH stopLpH (lpB noW Tryz.prog) noL 12 35 [.ptr 0 (.l 0)] (h_TK i made spent seen harts counts dv gs b n rs) (gcK 15 (optK (o_TK n) (ivK true K))) = tPending_tree i made spent seen harts counts dv gs b n rs K := by kernel_rfl
noncomputable def tPending_T (i : Int) (made : Int) (spent : Int) (seen : Int) (harts : Int) (counts : Int) (dv : Int) (gs : List (List Int)) (b : Mo.Bd) (n : Nat) (rs : List (List Int)) (K : S → List Ob → Prop) : Prop := Mo.tPending_pre i ∧ K (.bv (Mo.tPending_v1 i b)) (h_TK i made spent seen harts counts dv gs b n rs)
theorem tPending_all (i : Int) (made : Int) (spent : Int) (seen : Int) (harts : Int) (counts : Int) (dv : Int) (gs : List (List Int)) (b : Mo.Bd) (n : Nat) (rs : List (List Int)) (K : S → List Ob → Prop) (h : tPending_T i made spent seen harts counts dv gs b n rs K) : tPending_tree i made spent seen harts counts dv gs b n rs K := by
  unfold tPending_T at h; obtain ⟨h0, h⟩ := h; unfold tPending_tree
  try simp only [Mo.tPending_v1] at h0 h
  try simp only [Mo.tPending_pre] at h0 h
  repeat' (first | (refine ite_intro (fun c => ?_) (fun c => ?_) <;> first | simp only [if_pos c] at h0 h | simp only [if_neg c] at h0 h | skip) | with_reducible (replace h0 := (h0 : True ∧ _).2) | with_reducible (refine ⟨rfl, ?_⟩) | with_reducible (refine ⟨h0.1, ?_⟩; replace h0 := h0.2) | with_reducible (refine ⟨h0, ?_⟩) | (refine ⟨h0.1, ?_⟩; replace h0 := h0.2) | refine ⟨h0, ?_⟩ | refine ⟨rfl, ?_⟩ | refine ⟨trivial, ?_⟩ | refine ⟨by assumption, ?_⟩ | refine ⟨Eq.symm (by assumption), ?_⟩ | exact h | refine ⟨?_, ?_⟩ | exact h0.elim | trivial | contradiction | (simp only [if_true, if_false, Bool.false_eq_true] at h; exact h))
theorem tPending_sem (i : Int) (made : Int) (spent : Int) (seen : Int) (harts : Int) (counts : Int) (dv : Int) (gs : List (List Int)) (b : Mo.Bd) (n : Nat) (rs : List (List Int)) (K : S → List Ob → Prop) (h : tPending_T i made spent seen harts counts dv gs b n rs K) : CallSem noW Tryz.prog 35 [.ptr 0 (.l 0)] (h_TK i made spent seen harts counts dv gs b n rs) K := opt_call (callX_ok tok (by kernel_rfl) ffLpHok stopLpH_ok _ _ _ _ (Eq.mpr (tPending_run i made spent seen harts counts dv gs b n rs K) (tPending_all i made spent seen harts counts dv gs b n rs K h)))
noncomputable def tPending_con : Con := ⟨[.ptr 0], t_TK, [], fun a K => match a with | ⟨[i, made, spent, seen, harts, counts, dv, (.ofNat n), (.ofNat q1)], [q2], [], [cs_b_k, cs_b_w, cs_b_t, cs_b_r, cs_b_l, cs_b_n_c0], [gs, rs]⟩ => (match Mo.Cl.is cs_b_k with | true => (match Mo.Wd.is cs_b_w with | true => (match Mo.Rt.is cs_b_t with | true => (match Mo.Rs.is cs_b_r with | true => (match Mo.Ln.is cs_b_l with | true => (match Mo.Cnt.is cs_b_n_c0 with | true => (q1 = n ∧ (q2 = (iL 0 (castI n)) ∧ tPending_T i made spent seen harts counts dv gs (Mo.Bd.mk (Mo.Cl.of cs_b_k) (Mo.Wd.of cs_b_w) (Mo.Rt.of cs_b_t) (Mo.Rs.of cs_b_r) (Mo.Ln.of cs_b_l) (Mo.Bk.mk (Mo.Cnt.of cs_b_n_c0))) n rs K)) | false => False) | false => False) | false => False) | false => False) | false => False) | false => False) | _ => False⟩
theorem tPending_ok : tPending_con.ok noW Tryz.prog 35 := by
  intro a K h
  simp only [tPending_con] at h
  split at h
  case h_2 => exact h.elim
  split at h
  case h_2 => exact h.elim
  rename_i is_b_k
  split at h
  case h_2 => exact h.elim
  rename_i is_b_w
  split at h
  case h_2 => exact h.elim
  rename_i is_b_t
  split at h
  case h_2 => exact h.elim
  rename_i is_b_r
  split at h
  case h_2 => exact h.elim
  rename_i is_b_l
  split at h
  case h_2 => exact h.elim
  rename_i is_b_n_c0
  obtain ⟨rfl, h⟩ := h
  obtain ⟨rfl, h⟩ := h
  exact CallSem.objs (tPending_sem _ _ _ _ _ _ _ _ _ _ _ K h) (fun _ _ _ h => h) ⟨WkO.same, WkO.same, WkO.same, WkO.same, WkO.cells (Mo.Cl.is_ok is_b_k), WkO.same, WkO.cells (Mo.Wd.is_ok is_b_w), WkO.cells (Mo.Rt.is_ok is_b_t), WkO.cells (Mo.Rs.is_ok is_b_r), WkO.cells (Mo.Ln.is_ok is_b_l), WkO.same, WkO.same, WkO.same, WkO.same, WkO.opt (Mo.Cnt.is_ok is_b_n_c0), trivial⟩
noncomputable def tPeriod_tree (ld : Int) (scale : Int) (K : S → List Ob → Prop) : Prop := K (.iv .u64 (mlq (cvq (maw ld 1) 0) (adq (cvq (srw (anw scale 255) 0) 0) 1))) []
theorem tPeriod_run (ld : Int) (scale : Int) (K : S → List Ob → Prop) : callX (std noW) tt ffLpH stopLpH (lpB noW Tryz.prog) noL 6 31 [.iv .u32 ld, .iv .u32 scale] [] (gcK 0 (ivK false K)) = tPeriod_tree ld scale K := by kernel_rfl
noncomputable def tPeriod_T (ld : Int) (scale : Int) (K : S → List Ob → Prop) : Prop := True ∧ K (.iv .u64 (mlq (cvq (maw ld 1) 0) (adq (cvq (srw (anw scale 255) 0) 0) 1))) []
theorem tPeriod_all (ld : Int) (scale : Int) (K : S → List Ob → Prop) (h : tPeriod_T ld scale K) : tPeriod_tree ld scale K := by
  unfold tPeriod_T at h; obtain ⟨h0, h⟩ := h; unfold tPeriod_tree
  repeat' first | exact h | (refine ite_intro (fun c => ?_) fun c => ?_) <;> first | simp only [if_pos c] at h0 h | simp only [if_neg c] at h0 h | skip
theorem tPeriod_sem (ld : Int) (scale : Int) (K : S → List Ob → Prop) (h : tPeriod_T ld scale K) : CallSem noW Tryz.prog 31 [.iv .u32 ld, .iv .u32 scale] [] K := iv_call (callX_ok tok (by kernel_rfl) ffLpHok stopLpH_ok _ _ _ _ (Eq.mpr (tPeriod_run ld scale K) (tPeriod_all ld scale K h)))
noncomputable def tPeriod_con : Con := ⟨[.int .u32, .int .u32], [], [], fun a K => match a with | ⟨[ld, scale], [], [], [], []⟩ => tPeriod_T ld scale K | _ => False⟩
theorem tPeriod_ok : tPeriod_con.ok noW Tryz.prog 31 := by
  intro a K h
  simp only [tPeriod_con] at h
  split at h
  case h_2 => exact h.elim
  exact tPeriod_sem _ _ K h
noncomputable def tabLpI (n : Nat) : List Con := match Nat.beq n 12 with | true => [pNew_con, pNewN_con] | false => match Nat.beq n 29 with | true => [tNew_con] | false => match Nat.beq n 30 with | true => [tStart_con] | false => match Nat.beq n 40 with | true => [tValue_con] | false => match Nat.beq n 36 with | true => [tTake_con] | false => match Nat.beq n 35 with | true => [tPending_con] | false => match Nat.beq n 31 with | true => [tPeriod_con] | false => tabLpH n
theorem tabLpI_ok : ∀ f, ∀ c ∈ tabLpI f, c.ok noW Tryz.prog f := by
  intro f c hc
  unfold tabLpI at hc
  split at hc
  · rename_i hf; have := Nat.eq_of_beq_eq_true hf; subst this
    simp only [List.mem_cons, List.not_mem_nil, or_false] at hc
    rcases hc with rfl | rfl
    · exact pNew_ok
    · exact pNewN_ok
  split at hc
  · rename_i hf; have := Nat.eq_of_beq_eq_true hf; subst this
    simp only [List.mem_cons, List.not_mem_nil, or_false] at hc
    subst hc; exact tNew_ok
  split at hc
  · rename_i hf; have := Nat.eq_of_beq_eq_true hf; subst this
    simp only [List.mem_cons, List.not_mem_nil, or_false] at hc
    subst hc; exact tStart_ok
  split at hc
  · rename_i hf; have := Nat.eq_of_beq_eq_true hf; subst this
    simp only [List.mem_cons, List.not_mem_nil, or_false] at hc
    subst hc; exact tValue_ok
  split at hc
  · rename_i hf; have := Nat.eq_of_beq_eq_true hf; subst this
    simp only [List.mem_cons, List.not_mem_nil, or_false] at hc
    subst hc; exact tTake_ok
  split at hc
  · rename_i hf; have := Nat.eq_of_beq_eq_true hf; subst this
    simp only [List.mem_cons, List.not_mem_nil, or_false] at hc
    subst hc; exact tPending_ok
  split at hc
  · rename_i hf; have := Nat.eq_of_beq_eq_true hf; subst this
    simp only [List.mem_cons, List.not_mem_nil, or_false] at hc
    subst hc; exact tPeriod_ok
  exact tabLpH_ok f c hc
noncomputable def ffLpI (n : Nat) : Option FI := match Nat.beq n 12 with | true => none | false => match Nat.beq n 29 with | true => none | false => match Nat.beq n 30 with | true => none | false => match Nat.beq n 40 with | true => none | false => match Nat.beq n 36 with | true => none | false => match Nat.beq n 35 with | true => none | false => match Nat.beq n 31 with | true => none | false => ffLpH n
theorem ffLpIok : FOk Tryz.prog ffLpI := fun f fi hf => by
  unfold ffLpI at hf
  split at hf
  · cases hf
  split at hf
  · cases hf
  split at hf
  · cases hf
  split at hf
  · cases hf
  split at hf
  · cases hf
  split at hf
  · cases hf
  split at hf
  · cases hf
  exact ffLpHok f fi hf
noncomputable def stopLpI : CallT := stopC tabLpI stopB
theorem stopLpI_ok : ∀ f args h K, stopLpI f args h K → CallSem noW Tryz.prog f args h K := stopC_ok tabLpI_ok stopB_ok
end Go.SX.Y
