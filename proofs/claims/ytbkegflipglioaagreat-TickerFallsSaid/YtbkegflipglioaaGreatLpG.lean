/- What Go functions come to (lifted). -/
import Derived.Test.YtbkegflipglioaaGreatLpF
set_option maxRecDepth 20000
namespace Go.SX.Y
open Go.Proofs Go.RowKit
noncomputable def h_PT (made : Int) (spent : Int) (seen : Int) (harts : Int) (counts : Int) (dv : Int) (gs : List (List Int)) (b : Mo.Bd) (n : Nat) (rs : List (List Int)) : List Ob := [.cells 135 [.iv .i64 made, .iv .u64 spent, .iv .i64 seen, .ptr 1 (.l 0), .nsl 2 (.v (lenR gs)) false true], .cells 131 [.ptr 3 (.l 0), .ptr 4 (.l 0), .ptr 5 (.l 0), .ptr 6 (.l 0), .ptr 7 (.l 0), .ptr 8 (.l 0), .ptr 9 (.l 0), .iv .i64 harts, .iv .i64 counts, .iv .u32 dv, .nsl 10 (.v (lenR rs)) false false], .nrow 22 [.i .u32] gs, .cells 183 (Mo.Cl.cells (Mo.Bd.k b)), .cells 188 [.tsl 11 (.v n) 1], .cells 194 (Mo.Wd.cells (Mo.Bd.w b)), .cells 190 (Mo.Rt.cells (Mo.Bd.t b)), .cells 200 (Mo.Rs.cells (Mo.Bd.r b)), .cells 204 (Mo.Ln.cells (Mo.Bd.l b)), .cells 227 [.mp 12], .nrow 73 [.i .u64, .i .i64] rs, .rowT 185 1 n [.ptr 13 (.l 0)], .mapo [.agg [.il .u32 33554432, .il .u32 49152], .agg [.il .u32 268500992, .il .u32 256], .agg [.il .u32 268566528, .il .u32 20], .agg [.il .u32 268632064, .il .u32 16], .agg [.il .u32 268697600, .il .u32 36], .agg [.il .u32 268763136, .il .u32 12]] [.ifc 107 (.ptr 3 (.l 0)), .ifc 110 (.ptr 4 (.l 0)), .ifc 119 (.ptr 5 (.l 0)), .ifc 125 (.ptr 7 (.l 0)), .ifc 44 (.ptr 6 (.l 0)), .ifc 127 (.ptr 8 (.l 0))], .opt (iL 0 (castI n)) 246 (Mo.Cnt.cells (Mo.Bk.c0 (Mo.Bd.n b)))]
def t_PT : List OTm := [.cells 135 [.int .i64, .int .u64, .int .i64, .ptr 1, .nsl 2 0 true], .cells 131 [.ptr 3, .ptr 4, .ptr 5, .ptr 6, .ptr 7, .ptr 8, .ptr 9, .int .i64, .int .i64, .int .u32, .nsl 10 1 false], .nrow 22 [.i .u32], .cellsV 183, .cells 188 [.tsl 11 1], .cellsV 194, .cellsV 190, .cellsV 200, .cellsV 204, .cells 227 [.mp 12], .nrow 73 [.i .u64, .i .i64], .rowT 185 1 [.ptr 13], .mapo [.agg [.same (.il .u32 33554432), .same (.il .u32 49152)], .agg [.same (.il .u32 268500992), .same (.il .u32 256)], .agg [.same (.il .u32 268566528), .same (.il .u32 20)], .agg [.same (.il .u32 268632064), .same (.il .u32 16)], .agg [.same (.il .u32 268697600), .same (.il .u32 36)], .agg [.same (.il .u32 268763136), .same (.il .u32 12)]] [.ifc 107 (.ptr 3), .ifc 110 (.ptr 4), .ifc 119 (.ptr 5), .ifc 125 (.ptr 7), .ifc 44 (.ptr 6), .ifc 127 (.ptr 8)], .optV 246]
noncomputable def o_PT (n : Nat) : List (Option (Bool × TypeId)) := [none, none, none, none, none, none, none, none, none, none, none, none, none, some ((iL 0 (castI n)), 246)]
noncomputable def Mo.pDown_pre (rs : List (List Int)) : Prop := (Mo.dResets_pre rs)
noncomputable def pDown_tree (made : Int) (spent : Int) (seen : Int) (harts : Int) (counts : Int) (dv : Int) (gs : List (List Int)) (b : Mo.Bd) (n : Nat) (rs : List (List Int)) (K : S → List Ob → Prop) : Prop := (((lenR rs) = (lenR rs)) ∧ ((n = n) ∧ (((iL 0 (castI n)) = (iL 0 (castI n))) ∧ ((Mo.dResets_pre rs) ∧ (((some (S.iv IntKind.i64 seen)) = (some (S.iv IntKind.i64 seen))) ∧ K (.bv (iN (castI (lenR (Mo.dResets_v1 rs))) seen)) (h_PT made spent seen harts counts dv gs b n rs))))))
theorem pDown_run (made : Int) (spent : Int) (seen : Int) (harts : Int) (counts : Int) (dv : Int) (gs : List (List Int)) (b : Mo.Bd) (n : Nat) (rs : List (List Int)) (K : S → List Ob → Prop) : callX (std noW) tt ffLpF stopLpF (lpB noW Tryz.prog) noL 8 47 [.ptr 0 (.l 0)] (h_PT made spent seen harts counts dv gs b n rs) (gcK 14 (optK (o_PT n) (ivK false K))) = pDown_tree made spent seen harts counts dv gs b n rs K := by kernel_rfl
noncomputable def pDown_T (made : Int) (spent : Int) (seen : Int) (harts : Int) (counts : Int) (dv : Int) (gs : List (List Int)) (b : Mo.Bd) (n : Nat) (rs : List (List Int)) (K : S → List Ob → Prop) : Prop := Mo.pDown_pre rs ∧ K (.bv (iN (castI (lenR (Mo.dResets_v1 rs))) seen)) (h_PT made spent seen harts counts dv gs b n rs)
theorem pDown_all (made : Int) (spent : Int) (seen : Int) (harts : Int) (counts : Int) (dv : Int) (gs : List (List Int)) (b : Mo.Bd) (n : Nat) (rs : List (List Int)) (K : S → List Ob → Prop) (h : pDown_T made spent seen harts counts dv gs b n rs K) : pDown_tree made spent seen harts counts dv gs b n rs K := by
  unfold pDown_T at h; obtain ⟨h0, h⟩ := h; unfold pDown_tree
  try simp only [Mo.pDown_pre] at h0 h
  repeat' first | exact h | refine ⟨rfl, ?_⟩ | (refine ⟨h0.1, ?_⟩; replace h0 := h0.2) | refine ⟨h0, ?_⟩ | exact h0.elim | (refine ite_intro (fun c => ?_) fun c => ?_) <;> first | simp only [if_pos c] at h0 h | simp only [if_neg c] at h0 h | skip
theorem pDown_sem (made : Int) (spent : Int) (seen : Int) (harts : Int) (counts : Int) (dv : Int) (gs : List (List Int)) (b : Mo.Bd) (n : Nat) (rs : List (List Int)) (K : S → List Ob → Prop) (h : pDown_T made spent seen harts counts dv gs b n rs K) : CallSem noW Tryz.prog 47 [.ptr 0 (.l 0)] (h_PT made spent seen harts counts dv gs b n rs) K := opt_call (callX_ok tok (by kernel_rfl) ffLpFok stopLpF_ok _ _ _ _ (Eq.mpr (pDown_run made spent seen harts counts dv gs b n rs K) (pDown_all made spent seen harts counts dv gs b n rs K h)))
noncomputable def pDown_con : Con := ⟨[.ptr 0], t_PT, [], fun a K => match a with | ⟨[made, spent, seen, harts, counts, dv, (.ofNat n), (.ofNat q1)], [q2], [], [cs_b_k, cs_b_w, cs_b_t, cs_b_r, cs_b_l, cs_b_n_c0], [gs, rs]⟩ => (match Mo.Cl.is cs_b_k with | true => (match Mo.Wd.is cs_b_w with | true => (match Mo.Rt.is cs_b_t with | true => (match Mo.Rs.is cs_b_r with | true => (match Mo.Ln.is cs_b_l with | true => (match Mo.Cnt.is cs_b_n_c0 with | true => (q1 = n ∧ (q2 = (iL 0 (castI n)) ∧ pDown_T made spent seen harts counts dv gs (Mo.Bd.mk (Mo.Cl.of cs_b_k) (Mo.Wd.of cs_b_w) (Mo.Rt.of cs_b_t) (Mo.Rs.of cs_b_r) (Mo.Ln.of cs_b_l) (Mo.Bk.mk (Mo.Cnt.of cs_b_n_c0))) n rs K)) | false => False) | false => False) | false => False) | false => False) | false => False) | false => False) | _ => False⟩
theorem pDown_ok : pDown_con.ok noW Tryz.prog 47 := by
  intro a K h
  simp only [pDown_con] at h
  split at h
  case h_2 => exact h.elim
  split at h
  case h_2 => exact h.elim
  rename_i is_b_k
  split at h
  case h_2 => exact h.elim
  rename_i is_b_w
  split at h
  case h_2 => exact h.elim
  rename_i is_b_t
  split at h
  case h_2 => exact h.elim
  rename_i is_b_r
  split at h
  case h_2 => exact h.elim
  rename_i is_b_l
  split at h
  case h_2 => exact h.elim
  rename_i is_b_n_c0
  obtain ⟨rfl, h⟩ := h
  obtain ⟨rfl, h⟩ := h
  exact CallSem.objs (pDown_sem _ _ _ _ _ _ _ _ _ _ K h) (fun _ _ _ h => h) ⟨WkO.same, WkO.same, WkO.same, WkO.cells (Mo.Cl.is_ok is_b_k), WkO.same, WkO.cells (Mo.Wd.is_ok is_b_w), WkO.cells (Mo.Rt.is_ok is_b_t), WkO.cells (Mo.Rs.is_ok is_b_r), WkO.cells (Mo.Ln.is_ok is_b_l), WkO.same, WkO.same, WkO.same, WkO.same, WkO.opt (Mo.Cnt.is_ok is_b_n_c0), trivial⟩
noncomputable def Mo.pBoot_pre (rs : List (List Int)) : Prop := (Mo.dResets_pre rs)
noncomputable def pBoot_tree (made : Int) (spent : Int) (seen : Int) (harts : Int) (counts : Int) (dv : Int) (gs : List (List Int)) (b : Mo.Bd) (n : Nat) (rs : List (List Int)) (K : S → List Ob → Prop) : Prop := (((lenR rs) = (lenR rs)) ∧ ((n = n) ∧ (((iL 0 (castI n)) = (iL 0 (castI n))) ∧ ((Mo.dResets_pre rs) ∧ (((some (S.iv IntKind.i64 seen)) = (some (S.iv IntKind.i64 seen))) ∧ K (.iv .i64 (sbi (castI (lenR (Mo.dResets_v1 rs))) seen)) (h_PT made spent (adi seen (sbi (castI (lenR (Mo.dResets_v1 rs))) seen)) harts counts dv gs b n rs))))))
theorem pBoot_run (made : Int) (spent : Int) (seen : Int) (harts : Int) (counts : Int) (dv : Int) (gs : List (List Int)) (b : Mo.Bd) (n : Nat) (rs : List (List Int)) (K : S → List Ob → Prop) : callX (std noW) tt ffLpF stopLpF (lpB noW Tryz.prog) noL 8 64 [.ptr 0 (.l 0)] (h_PT made spent seen harts counts dv gs b n rs) (gcK 14 (optK (o_PT n) (ivK false K))) = pBoot_tree made spent seen harts counts dv gs b n rs K := by kernel_rfl
noncomputable def pBoot_T (made : Int) (spent : Int) (seen : Int) (harts : Int) (counts : Int) (dv : Int) (gs : List (List Int)) (b : Mo.Bd) (n : Nat) (rs : List (List Int)) (K : S → List Ob → Prop) : Prop := Mo.pBoot_pre rs ∧ K (.iv .i64 (sbi (castI (lenR (Mo.dResets_v1 rs))) seen)) (h_PT made spent (adi seen (sbi (castI (lenR (Mo.dResets_v1 rs))) seen)) harts counts dv gs b n rs)
theorem pBoot_all (made : Int) (spent : Int) (seen : Int) (harts : Int) (counts : Int) (dv : Int) (gs : List (List Int)) (b : Mo.Bd) (n : Nat) (rs : List (List Int)) (K : S → List Ob → Prop) (h : pBoot_T made spent seen harts counts dv gs b n rs K) : pBoot_tree made spent seen harts counts dv gs b n rs K := by
  unfold pBoot_T at h; obtain ⟨h0, h⟩ := h; unfold pBoot_tree
  try simp only [Mo.pBoot_pre] at h0 h
  repeat' first | exact h | refine ⟨rfl, ?_⟩ | (refine ⟨h0.1, ?_⟩; replace h0 := h0.2) | refine ⟨h0, ?_⟩ | exact h0.elim | (refine ite_intro (fun c => ?_) fun c => ?_) <;> first | simp only [if_pos c] at h0 h | simp only [if_neg c] at h0 h | skip
theorem pBoot_sem (made : Int) (spent : Int) (seen : Int) (harts : Int) (counts : Int) (dv : Int) (gs : List (List Int)) (b : Mo.Bd) (n : Nat) (rs : List (List Int)) (K : S → List Ob → Prop) (h : pBoot_T made spent seen harts counts dv gs b n rs K) : CallSem noW Tryz.prog 64 [.ptr 0 (.l 0)] (h_PT made spent seen harts counts dv gs b n rs) K := opt_call (callX_ok tok (by kernel_rfl) ffLpFok stopLpF_ok _ _ _ _ (Eq.mpr (pBoot_run made spent seen harts counts dv gs b n rs K) (pBoot_all made spent seen harts counts dv gs b n rs K h)))
noncomputable def pBoot_con : Con := ⟨[.ptr 0], t_PT, [], fun a K => match a with | ⟨[made, spent, seen, harts, counts, dv, (.ofNat n), (.ofNat q1)], [q2], [], [cs_b_k, cs_b_w, cs_b_t, cs_b_r, cs_b_l, cs_b_n_c0], [gs, rs]⟩ => (match Mo.Cl.is cs_b_k with | true => (match Mo.Wd.is cs_b_w with | true => (match Mo.Rt.is cs_b_t with | true => (match Mo.Rs.is cs_b_r with | true => (match Mo.Ln.is cs_b_l with | true => (match Mo.Cnt.is cs_b_n_c0 with | true => (q1 = n ∧ (q2 = (iL 0 (castI n)) ∧ pBoot_T made spent seen harts counts dv gs (Mo.Bd.mk (Mo.Cl.of cs_b_k) (Mo.Wd.of cs_b_w) (Mo.Rt.of cs_b_t) (Mo.Rs.of cs_b_r) (Mo.Ln.of cs_b_l) (Mo.Bk.mk (Mo.Cnt.of cs_b_n_c0))) n rs K)) | false => False) | false => False) | false => False) | false => False) | false => False) | false => False) | _ => False⟩
theorem pBoot_ok : pBoot_con.ok noW Tryz.prog 64 := by
  intro a K h
  simp only [pBoot_con] at h
  split at h
  case h_2 => exact h.elim
  split at h
  case h_2 => exact h.elim
  rename_i is_b_k
  split at h
  case h_2 => exact h.elim
  rename_i is_b_w
  split at h
  case h_2 => exact h.elim
  rename_i is_b_t
  split at h
  case h_2 => exact h.elim
  rename_i is_b_r
  split at h
  case h_2 => exact h.elim
  rename_i is_b_l
  split at h
  case h_2 => exact h.elim
  rename_i is_b_n_c0
  obtain ⟨rfl, h⟩ := h
  obtain ⟨rfl, h⟩ := h
  exact CallSem.objs (pBoot_sem _ _ _ _ _ _ _ _ _ _ K h) (fun _ _ _ h => h) ⟨WkO.same, WkO.same, WkO.same, WkO.cells (Mo.Cl.is_ok is_b_k), WkO.same, WkO.cells (Mo.Wd.is_ok is_b_w), WkO.cells (Mo.Rt.is_ok is_b_t), WkO.cells (Mo.Rs.is_ok is_b_r), WkO.cells (Mo.Ln.is_ok is_b_l), WkO.same, WkO.same, WkO.same, WkO.same, WkO.opt (Mo.Cnt.is_ok is_b_n_c0), trivial⟩
noncomputable def pBoard_tree (made : Int) (spent : Int) (seen : Int) (harts : Int) (counts : Int) (dv : Int) (gs : List (List Int)) (b : Mo.Bd) (n : Nat) (rs : List (List Int)) (K : S → List Ob → Prop) : Prop := K (.ptr 1 (.l 0)) (h_PT made spent seen harts counts dv gs b n rs)
theorem pBoard_run (made : Int) (spent : Int) (seen : Int) (harts : Int) (counts : Int) (dv : Int) (gs : List (List Int)) (b : Mo.Bd) (n : Nat) (rs : List (List Int)) (K : S → List Ob → Prop) : callX (std noW) tt ffLpF stopLpF (lpB noW Tryz.prog) noL 8 50 [.ptr 0 (.l 0)] (h_PT made spent seen harts counts dv gs b n rs) (gcK 14 (optK (o_PT n) (ivK false K))) = pBoard_tree made spent seen harts counts dv gs b n rs K := by kernel_rfl
noncomputable def pBoard_T (made : Int) (spent : Int) (seen : Int) (harts : Int) (counts : Int) (dv : Int) (gs : List (List Int)) (b : Mo.Bd) (n : Nat) (rs : List (List Int)) (K : S → List Ob → Prop) : Prop := True ∧ K (.ptr 1 (.l 0)) (h_PT made spent seen harts counts dv gs b n rs)
theorem pBoard_all (made : Int) (spent : Int) (seen : Int) (harts : Int) (counts : Int) (dv : Int) (gs : List (List Int)) (b : Mo.Bd) (n : Nat) (rs : List (List Int)) (K : S → List Ob → Prop) (h : pBoard_T made spent seen harts counts dv gs b n rs K) : pBoard_tree made spent seen harts counts dv gs b n rs K := by
  unfold pBoard_T at h; obtain ⟨h0, h⟩ := h; unfold pBoard_tree
  repeat' first | exact h | (refine ite_intro (fun c => ?_) fun c => ?_) <;> first | simp only [if_pos c] at h0 h | simp only [if_neg c] at h0 h | skip
theorem pBoard_sem (made : Int) (spent : Int) (seen : Int) (harts : Int) (counts : Int) (dv : Int) (gs : List (List Int)) (b : Mo.Bd) (n : Nat) (rs : List (List Int)) (K : S → List Ob → Prop) (h : pBoard_T made spent seen harts counts dv gs b n rs K) : CallSem noW Tryz.prog 50 [.ptr 0 (.l 0)] (h_PT made spent seen harts counts dv gs b n rs) K := opt_call (callX_ok tok (by kernel_rfl) ffLpFok stopLpF_ok _ _ _ _ (Eq.mpr (pBoard_run made spent seen harts counts dv gs b n rs K) (pBoard_all made spent seen harts counts dv gs b n rs K h)))
noncomputable def pBoard_con : Con := ⟨[.ptr 0], t_PT, [], fun a K => match a with | ⟨[made, spent, seen, harts, counts, dv, (.ofNat n), (.ofNat q1)], [q2], [], [cs_b_k, cs_b_w, cs_b_t, cs_b_r, cs_b_l, cs_b_n_c0], [gs, rs]⟩ => (match Mo.Cl.is cs_b_k with | true => (match Mo.Wd.is cs_b_w with | true => (match Mo.Rt.is cs_b_t with | true => (match Mo.Rs.is cs_b_r with | true => (match Mo.Ln.is cs_b_l with | true => (match Mo.Cnt.is cs_b_n_c0 with | true => (q1 = n ∧ (q2 = (iL 0 (castI n)) ∧ pBoard_T made spent seen harts counts dv gs (Mo.Bd.mk (Mo.Cl.of cs_b_k) (Mo.Wd.of cs_b_w) (Mo.Rt.of cs_b_t) (Mo.Rs.of cs_b_r) (Mo.Ln.of cs_b_l) (Mo.Bk.mk (Mo.Cnt.of cs_b_n_c0))) n rs K)) | false => False) | false => False) | false => False) | false => False) | false => False) | false => False) | _ => False⟩
theorem pBoard_ok : pBoard_con.ok noW Tryz.prog 50 := by
  intro a K h
  simp only [pBoard_con] at h
  split at h
  case h_2 => exact h.elim
  split at h
  case h_2 => exact h.elim
  rename_i is_b_k
  split at h
  case h_2 => exact h.elim
  rename_i is_b_w
  split at h
  case h_2 => exact h.elim
  rename_i is_b_t
  split at h
  case h_2 => exact h.elim
  rename_i is_b_r
  split at h
  case h_2 => exact h.elim
  rename_i is_b_l
  split at h
  case h_2 => exact h.elim
  rename_i is_b_n_c0
  obtain ⟨rfl, h⟩ := h
  obtain ⟨rfl, h⟩ := h
  exact CallSem.objs (pBoard_sem _ _ _ _ _ _ _ _ _ _ K h) (fun _ _ _ h => h) ⟨WkO.same, WkO.same, WkO.same, WkO.cells (Mo.Cl.is_ok is_b_k), WkO.same, WkO.cells (Mo.Wd.is_ok is_b_w), WkO.cells (Mo.Rt.is_ok is_b_t), WkO.cells (Mo.Rs.is_ok is_b_r), WkO.cells (Mo.Ln.is_ok is_b_l), WkO.same, WkO.same, WkO.same, WkO.same, WkO.opt (Mo.Cnt.is_ok is_b_n_c0), trivial⟩
noncomputable def hm_LpG_1 (x1 : Int) (x2 : Int) (x3 : Int) (x4 : List (List Int)) (x5 : Int) (x6 : Int) (x7 : Int) (x8 : List (List Int)) (x9 : Mo.Bd) (x10 : Nat) : List Ob := [(.cells 135 [(.iv .i64 x1), (.iv .u64 x2), (.iv .i64 x3), (.ptr 1 (.l 0)), (.nsl 2 (.v (lenR x4)) false true)]), (.cells 131 [(.ptr 3 (.l 0)), (.ptr 4 (.l 0)), (.ptr 5 (.l 0)), (.ptr 6 (.l 0)), (.ptr 7 (.l 0)), (.ptr 8 (.l 0)), (.ptr 9 (.l 0)), (.iv .i64 x5), (.iv .i64 x6), (.iv .u32 x7), (.nsl 14 (.v (lenR x8)) false false)]), (.nrow 22 [.i .u32] x4), (.cells 183 (Mo.Cl.cells (Mo.Bd.k x9))), (.cells 188 [(.tsl 11 (.v x10) 1)]), (.cells 194 (Mo.Wd.cells (Mo.Bd.w x9))), (.cells 190 (Mo.Rt.cells (Mo.Bd.t x9))), (.cells 200 (Mo.Rs.cells (Mo.Bd.r x9))), (.cells 204 (Mo.Ln.cells (Mo.Bd.l x9))), (.cells 227 [(.mp 12)]), .dead, (.rowT 185 1 x10 [(.ptr 13 (.l 0))]), (.mapo [(.agg [(.il .u32 33554432), (.il .u32 49152)]), (.agg [(.il .u32 268500992), (.il .u32 256)]), (.agg [(.il .u32 268566528), (.il .u32 20)]), (.agg [(.il .u32 268632064), (.il .u32 16)]), (.agg [(.il .u32 268697600), (.il .u32 36)]), (.agg [(.il .u32 268763136), (.il .u32 12)])] [(.ifc 107 (.ptr 3 (.l 0))), (.ifc 110 (.ptr 4 (.l 0))), (.ifc 119 (.ptr 5 (.l 0))), (.ifc 125 (.ptr 7 (.l 0))), (.ifc 44 (.ptr 6 (.l 0))), (.ifc 127 (.ptr 8 (.l 0)))]), (.opt (iL 0 (castI x10)) 246 (Mo.Cnt.cells (Mo.Bk.c0 (Mo.Bd.n x9)))), (.nrow 73 [.i .u64, .i .i64] x8)]
noncomputable def hm_LpG_2 (x1 : Int) (x2 : Int) (x3 : List (List Int)) (x4 : Int) (x5 : Int) (x6 : Int) (x7 : List (List Int)) (x8 : Mo.Bd) (x9 : Nat) : List Ob := [(.cells 135 [(.iv .i64 x1), (.iv .u64 18446744073709551615), (.iv .i64 x2), (.ptr 1 (.l 0)), (.nsl 2 (.v (lenR x3)) false true)]), (.cells 131 [(.ptr 3 (.l 0)), (.ptr 4 (.l 0)), (.ptr 5 (.l 0)), (.ptr 6 (.l 0)), (.ptr 7 (.l 0)), (.ptr 8 (.l 0)), (.ptr 9 (.l 0)), (.iv .i64 x4), (.iv .i64 x5), (.iv .u32 x6), (.nsl 14 (.v (lenR x7)) false false)]), (.nrow 22 [.i .u32] x3), (.cells 183 (Mo.Cl.cells (Mo.Bd.k x8))), (.cells 188 [(.tsl 11 (.v x9) 1)]), (.cells 194 (Mo.Wd.cells (Mo.Bd.w x8))), (.cells 190 (Mo.Rt.cells (Mo.Bd.t x8))), (.cells 200 (Mo.Rs.cells (Mo.Bd.r x8))), (.cells 204 (Mo.Ln.cells (Mo.Bd.l x8))), (.cells 227 [(.mp 12)]), .dead, (.rowT 185 1 x9 [(.ptr 13 (.l 0))]), (.mapo [(.agg [(.il .u32 33554432), (.il .u32 49152)]), (.agg [(.il .u32 268500992), (.il .u32 256)]), (.agg [(.il .u32 268566528), (.il .u32 20)]), (.agg [(.il .u32 268632064), (.il .u32 16)]), (.agg [(.il .u32 268697600), (.il .u32 36)]), (.agg [(.il .u32 268763136), (.il .u32 12)])] [(.ifc 107 (.ptr 3 (.l 0))), (.ifc 110 (.ptr 4 (.l 0))), (.ifc 119 (.ptr 5 (.l 0))), (.ifc 125 (.ptr 7 (.l 0))), (.ifc 44 (.ptr 6 (.l 0))), (.ifc 127 (.ptr 8 (.l 0)))]), (.opt (iL 0 (castI x9)) 246 (Mo.Cnt.cells (Mo.Bk.c0 (Mo.Bd.n x8)))), (.nrow 73 [.i .u64, .i .i64] x7)]
noncomputable def Mo.pgap_e1 (harts : Int) (b : Mo.Bd) (n : Nat) : Mo.Bd := Mo.dTick_v2 0 harts b n
noncomputable def Mo.pgap_e2 (harts : Int) (b : Mo.Bd) (n : Nat) (rs : List (List Int)) : List (List Int) := Mo.dTick_v1 0 harts b n rs
noncomputable def Mo.pgap_v1 (spent : Int) : Int := (if ((iE ((spent + 0) / 18446744073709551616) 0) = true) then ((spent + 0) % 18446744073709551616) else 18446744073709551615)
noncomputable def Mo.pgap_v2 (harts : Int) (b : Mo.Bd) (n : Nat) : Mo.Bd := (Mo.pgap_e1 harts b n)
noncomputable def Mo.pgap_pre (spent : Int) (harts : Int) (gs : List (List Int)) (b : Mo.Bd) (n : Nat) (rs : List (List Int)) : Prop := (if ((iL 0 (castI (lenR gs))) = true) then False else ((((0 : Int) ≤ spent) ∧ ((0 : Int) ≤ 0)) ∧ (Mo.dTick_pre 0 harts b n rs)))
noncomputable def pgap_tree (made : Int) (spent : Int) (seen : Int) (harts : Int) (counts : Int) (dv : Int) (gs : List (List Int)) (b : Mo.Bd) (n : Nat) (rs : List (List Int)) (K : S → List Ob → Prop) : Prop := (if ((iL 0 (castI (lenR gs))) = true) then False else ((((0 : Int) ≤ spent) ∧ ((0 : Int) ≤ 0)) ∧ (((0 : Int) = 0) ∧ (if ((iE ((spent + 0) / 18446744073709551616) 0) = true) then (((lenR rs) = (lenR rs)) ∧ ((n = n) ∧ (((iL 0 (castI n)) = (iL 0 (castI n))) ∧ ((Mo.dTick_pre 0 harts b n rs) ∧ K (.tup []) (hm_LpG_1 (adi made 1) ((spent + 0) % 18446744073709551616) seen gs harts counts dv (Mo.pgap_e2 harts b n rs) (Mo.pgap_e1 harts b n) n))))) else (((lenR rs) = (lenR rs)) ∧ ((n = n) ∧ (((iL 0 (castI n)) = (iL 0 (castI n))) ∧ ((Mo.dTick_pre 0 harts b n rs) ∧ K (.tup []) (hm_LpG_2 (adi made 1) seen gs harts counts dv (Mo.pgap_e2 harts b n rs) (Mo.pgap_e1 harts b n) n)))))))))
theorem pgap_run (made : Int) (spent : Int) (seen : Int) (harts : Int) (counts : Int) (dv : Int) (gs : List (List Int)) (b : Mo.Bd) (n : Nat) (rs : List (List Int)) (K : S → List Ob → Prop) : callX (std noW) tt ffLpF stopLpF (lpB noW Tryz.prog) noL 8 138 [.ptr 0 (.l 0)] (h_PT made spent seen harts counts dv gs b n rs) (gcK 14 (nilK none (mvsK [10] (optK (o_PT n) (ivK false K))))) = pgap_tree made spent seen harts counts dv gs b n rs K := by kernel_rfl
noncomputable def pgap_T (made : Int) (spent : Int) (seen : Int) (harts : Int) (counts : Int) (dv : Int) (gs : List (List Int)) (b : Mo.Bd) (n : Nat) (rs : List (List Int)) (K : S → List Ob → Prop) : Prop := Mo.pgap_pre spent harts gs b n rs ∧ K (.tup []) (hm_LpG_1 (adi made 1) (Mo.pgap_v1 spent) seen gs harts counts dv (Mo.pgap_e2 harts b n rs) (Mo.pgap_v2 harts b n) n)
theorem pgap_all (made : Int) (spent : Int) (seen : Int) (harts : Int) (counts : Int) (dv : Int) (gs : List (List Int)) (b : Mo.Bd) (n : Nat) (rs : List (List Int)) (K : S → List Ob → Prop) (h : pgap_T made spent seen harts counts dv gs b n rs K) : pgap_tree made spent seen harts counts dv gs b n rs K := by
  unfold pgap_T at h; obtain ⟨h0, h⟩ := h; unfold pgap_tree
  try simp only [Mo.pgap_v1] at h0 h
  try simp only [Mo.pgap_v2] at h0 h
  try simp only [Mo.pgap_pre] at h0 h
  repeat' first | exact h | refine ⟨rfl, ?_⟩ | (refine ⟨h0.1, ?_⟩; replace h0 := h0.2) | refine ⟨h0, ?_⟩ | exact h0.elim | (refine ite_intro (fun c => ?_) fun c => ?_) <;> first | simp only [if_pos c] at h0 h | simp only [if_neg c] at h0 h | skip
theorem pgap_sem (made : Int) (spent : Int) (seen : Int) (harts : Int) (counts : Int) (dv : Int) (gs : List (List Int)) (b : Mo.Bd) (n : Nat) (rs : List (List Int)) (K : S → List Ob → Prop) (h : pgap_T made spent seen harts counts dv gs b n rs K) : CallSem noW Tryz.prog 138 [.ptr 0 (.l 0)] (h_PT made spent seen harts counts dv gs b n rs) K := all_call (callX_ok tok (by kernel_rfl) ffLpFok stopLpF_ok _ _ _ _ (Eq.mpr (pgap_run made spent seen harts counts dv gs b n rs K) (pgap_all made spent seen harts counts dv gs b n rs K h)))
noncomputable def pgap_con : Con := ⟨[.ptr 0], t_PT, [], fun a K => match a with | ⟨[made, spent, seen, harts, counts, dv, (.ofNat n), (.ofNat q1)], [q2], [], [cs_b_k, cs_b_w, cs_b_t, cs_b_r, cs_b_l, cs_b_n_c0], [gs, rs]⟩ => (match Mo.Cl.is cs_b_k with | true => (match Mo.Wd.is cs_b_w with | true => (match Mo.Rt.is cs_b_t with | true => (match Mo.Rs.is cs_b_r with | true => (match Mo.Ln.is cs_b_l with | true => (match Mo.Cnt.is cs_b_n_c0 with | true => (q1 = n ∧ (q2 = (iL 0 (castI n)) ∧ pgap_T made spent seen harts counts dv gs (Mo.Bd.mk (Mo.Cl.of cs_b_k) (Mo.Wd.of cs_b_w) (Mo.Rt.of cs_b_t) (Mo.Rs.of cs_b_r) (Mo.Ln.of cs_b_l) (Mo.Bk.mk (Mo.Cnt.of cs_b_n_c0))) n rs K)) | false => False) | false => False) | false => False) | false => False) | false => False) | false => False) | _ => False⟩
theorem pgap_ok : pgap_con.ok noW Tryz.prog 138 := by
  intro a K h
  simp only [pgap_con] at h
  split at h
  case h_2 => exact h.elim
  split at h
  case h_2 => exact h.elim
  rename_i is_b_k
  split at h
  case h_2 => exact h.elim
  rename_i is_b_w
  split at h
  case h_2 => exact h.elim
  rename_i is_b_t
  split at h
  case h_2 => exact h.elim
  rename_i is_b_r
  split at h
  case h_2 => exact h.elim
  rename_i is_b_l
  split at h
  case h_2 => exact h.elim
  rename_i is_b_n_c0
  obtain ⟨rfl, h⟩ := h
  obtain ⟨rfl, h⟩ := h
  exact CallSem.objs (pgap_sem _ _ _ _ _ _ _ _ _ _ K h) (fun _ _ _ h => h) ⟨WkO.same, WkO.same, WkO.same, WkO.cells (Mo.Cl.is_ok is_b_k), WkO.same, WkO.cells (Mo.Wd.is_ok is_b_w), WkO.cells (Mo.Rt.is_ok is_b_t), WkO.cells (Mo.Rs.is_ok is_b_r), WkO.cells (Mo.Ln.is_ok is_b_l), WkO.same, WkO.same, WkO.same, WkO.same, WkO.opt (Mo.Cnt.is_ok is_b_n_c0), trivial⟩
noncomputable def tabLpG (n : Nat) : List Con := match Nat.beq n 47 with | true => [pDown_con] | false => match Nat.beq n 64 with | true => [pBoot_con] | false => match Nat.beq n 50 with | true => [pBoard_con] | false => match Nat.beq n 138 with | true => [pgap_con] | false => tabLpF n
theorem tabLpG_ok : ∀ f, ∀ c ∈ tabLpG f, c.ok noW Tryz.prog f := by
  intro f c hc
  unfold tabLpG at hc
  split at hc
  · rename_i hf; have := Nat.eq_of_beq_eq_true hf; subst this
    simp only [List.mem_cons, List.not_mem_nil, or_false] at hc
    subst hc; exact pDown_ok
  split at hc
  · rename_i hf; have := Nat.eq_of_beq_eq_true hf; subst this
    simp only [List.mem_cons, List.not_mem_nil, or_false] at hc
    subst hc; exact pBoot_ok
  split at hc
  · rename_i hf; have := Nat.eq_of_beq_eq_true hf; subst this
    simp only [List.mem_cons, List.not_mem_nil, or_false] at hc
    subst hc; exact pBoard_ok
  split at hc
  · rename_i hf; have := Nat.eq_of_beq_eq_true hf; subst this
    simp only [List.mem_cons, List.not_mem_nil, or_false] at hc
    subst hc; exact pgap_ok
  exact tabLpF_ok f c hc
noncomputable def ffLpG (n : Nat) : Option FI := match Nat.beq n 47 with | true => none | false => match Nat.beq n 64 with | true => none | false => match Nat.beq n 50 with | true => none | false => match Nat.beq n 138 with | true => none | false => ffLpF n
theorem ffLpGok : FOk Tryz.prog ffLpG := fun f fi hf => by
  unfold ffLpG at hf
  split at hf
  · cases hf
  split at hf
  · cases hf
  split at hf
  · cases hf
  split at hf
  · cases hf
  exact ffLpFok f fi hf
noncomputable def stopLpG : CallT := stopC tabLpG stopB
theorem stopLpG_ok : ∀ f args h K, stopLpG f args h K → CallSem noW Tryz.prog f args h K := stopC_ok tabLpG_ok stopB_ok
end Go.SX.Y
