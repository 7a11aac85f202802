/- What Go functions come to (lifted). -/
import Derived.Test.YtbkegflipglioaaGreatLpC
set_option maxRecDepth 20000
namespace Go.SX.Y
open Go.Proofs Go.RowKit
noncomputable def h_UB (b : Mo.Bd) (n : Nat) : List Ob := [.cells 227 [.mp 1], .mapo [.agg [.il .u32 33554432, .il .u32 49152], .agg [.il .u32 268500992, .il .u32 256], .agg [.il .u32 268566528, .il .u32 20], .agg [.il .u32 268632064, .il .u32 16], .agg [.il .u32 268697600, .il .u32 36], .agg [.il .u32 268763136, .il .u32 12]] [.ifc 107 (.ptr 2 (.l 0)), .ifc 110 (.ptr 3 (.l 0)), .ifc 119 (.ptr 4 (.l 0)), .ifc 125 (.ptr 5 (.l 0)), .ifc 44 (.ptr 6 (.l 0)), .ifc 127 (.ptr 7 (.l 0))], .cells 183 (Mo.Cl.cells (Mo.Bd.k b)), .cells 188 [.tsl 8 (.v n) 1], .cells 194 (Mo.Wd.cells (Mo.Bd.w b)), .cells 200 (Mo.Rs.cells (Mo.Bd.r b)), .cells 190 (Mo.Rt.cells (Mo.Bd.t b)), .cells 204 (Mo.Ln.cells (Mo.Bd.l b)), .rowT 185 1 n [.ptr 9 (.l 0)], .opt (iL 0 (castI n)) 246 (Mo.Cnt.cells (Mo.Bk.c0 (Mo.Bd.n b)))]
def t_UB : List OTm := [.cells 227 [.mp 1], .mapo [.agg [.same (.il .u32 33554432), .same (.il .u32 49152)], .agg [.same (.il .u32 268500992), .same (.il .u32 256)], .agg [.same (.il .u32 268566528), .same (.il .u32 20)], .agg [.same (.il .u32 268632064), .same (.il .u32 16)], .agg [.same (.il .u32 268697600), .same (.il .u32 36)], .agg [.same (.il .u32 268763136), .same (.il .u32 12)]] [.ifc 107 (.ptr 2), .ifc 110 (.ptr 3), .ifc 119 (.ptr 4), .ifc 125 (.ptr 5), .ifc 44 (.ptr 6), .ifc 127 (.ptr 7)], .cellsV 183, .cells 188 [.tsl 8 1], .cellsV 194, .cellsV 200, .cellsV 190, .cellsV 204, .rowT 185 1 [.ptr 9], .optV 246]
noncomputable def o_UB (n : Nat) : List (Option (Bool × TypeId)) := [none, none, none, none, none, none, none, none, none, some ((iL 0 (castI n)), 246)]
noncomputable def h_BD (harts : Int) (counts : Int) (dv : Int) (b : Mo.Bd) (n : Nat) (rs : List (List Int)) : List Ob := [.cells 131 [.ptr 1 (.l 0), .ptr 2 (.l 0), .ptr 3 (.l 0), .ptr 4 (.l 0), .ptr 5 (.l 0), .ptr 6 (.l 0), .ptr 7 (.l 0), .iv .i64 harts, .iv .i64 counts, .iv .u32 dv, .nsl 8 (.v (lenR rs)) false false], .cells 183 (Mo.Cl.cells (Mo.Bd.k b)), .cells 188 [.tsl 9 (.v n) 1], .cells 194 (Mo.Wd.cells (Mo.Bd.w b)), .cells 190 (Mo.Rt.cells (Mo.Bd.t b)), .cells 200 (Mo.Rs.cells (Mo.Bd.r b)), .cells 204 (Mo.Ln.cells (Mo.Bd.l b)), .cells 227 [.mp 10], .nrow 73 [.i .u64, .i .i64] rs, .rowT 185 1 n [.ptr 11 (.l 0)], .mapo [.agg [.il .u32 33554432, .il .u32 49152], .agg [.il .u32 268500992, .il .u32 256], .agg [.il .u32 268566528, .il .u32 20], .agg [.il .u32 268632064, .il .u32 16], .agg [.il .u32 268697600, .il .u32 36], .agg [.il .u32 268763136, .il .u32 12]] [.ifc 107 (.ptr 1 (.l 0)), .ifc 110 (.ptr 2 (.l 0)), .ifc 119 (.ptr 3 (.l 0)), .ifc 125 (.ptr 5 (.l 0)), .ifc 44 (.ptr 4 (.l 0)), .ifc 127 (.ptr 6 (.l 0))], .opt (iL 0 (castI n)) 246 (Mo.Cnt.cells (Mo.Bk.c0 (Mo.Bd.n b)))]
def t_BD : List OTm := [.cells 131 [.ptr 1, .ptr 2, .ptr 3, .ptr 4, .ptr 5, .ptr 6, .ptr 7, .int .i64, .int .i64, .int .u32, .nsl 8 0 false], .cellsV 183, .cells 188 [.tsl 9 1], .cellsV 194, .cellsV 190, .cellsV 200, .cellsV 204, .cells 227 [.mp 10], .nrow 73 [.i .u64, .i .i64], .rowT 185 1 [.ptr 11], .mapo [.agg [.same (.il .u32 33554432), .same (.il .u32 49152)], .agg [.same (.il .u32 268500992), .same (.il .u32 256)], .agg [.same (.il .u32 268566528), .same (.il .u32 20)], .agg [.same (.il .u32 268632064), .same (.il .u32 16)], .agg [.same (.il .u32 268697600), .same (.il .u32 36)], .agg [.same (.il .u32 268763136), .same (.il .u32 12)]] [.ifc 107 (.ptr 1), .ifc 110 (.ptr 2), .ifc 119 (.ptr 3), .ifc 125 (.ptr 5), .ifc 44 (.ptr 4), .ifc 127 (.ptr 6)], .optV 246]
noncomputable def o_BD (n : Nat) : List (Option (Bool × TypeId)) := [none, none, none, none, none, none, none, none, none, none, none, some ((iL 0 (castI n)), 246)]
noncomputable def Mo.uStore_v1 (addr : Int) (b : Mo.Bd) (n : Nat) : Int := (if ((iN (rmw addr 4) 0) = true) then 11 else (if ((iL (cvq (maw 33554432 addr) 0) (miq 33603584 (miq (adq (cvq addr 0) 1) 4294967296))) = true) then (Mo.kStore_v1 (sbw addr 33554432) (Mo.Bd.k b)) else (if ((iL (cvq (maw 268500992 addr) 0) (miq 268501248 (miq (adq (cvq addr 0) 1) 4294967296))) = true) then (Mo.nStore_v1 (sbw addr 268500992) n) else (if ((iL (cvq (maw 268566528 addr) 0) (miq 268566548 (miq (adq (cvq addr 0) 1) 4294967296))) = true) then (Mo.wStore_v1 (sbw addr 268566528)) else (if ((iL (cvq (maw 268632064 addr) 0) (miq 268632080 (miq (adq (cvq addr 0) 1) 4294967296))) = true) then (Mo.rStore_v1 (sbw addr 268632064)) else (if ((iL (cvq (maw 268697600 addr) 0) (miq 268697636 (miq (adq (cvq addr 0) 1) 4294967296))) = true) then (Mo.tStore_v1 (sbw addr 268697600)) else (if ((iL (cvq (maw 268763136 addr) 0) (miq 268763148 (miq (adq (cvq addr 0) 1) 4294967296))) = true) then (Mo.lStore_v1 (sbw addr 268763136)) else 10)))))))
noncomputable def Mo.uStore_v2 (addr : Int) (v : Int) (b : Mo.Bd) (n : Nat) : Mo.Bd := (if ((iN (rmw addr 4) 0) = true) then b else (if ((iL (cvq (maw 33554432 addr) 0) (miq 33603584 (miq (adq (cvq addr 0) 1) 4294967296))) = true) then { b with k := (Mo.kStore_v2 (sbw addr 33554432) v (Mo.Bd.k b)) } else (if ((iL (cvq (maw 268500992 addr) 0) (miq 268501248 (miq (adq (cvq addr 0) 1) 4294967296))) = true) then { b with n := (Mo.nStore_v2 (sbw addr 268500992) v n (Mo.Bd.n b)) } else (if ((iL (cvq (maw 268566528 addr) 0) (miq 268566548 (miq (adq (cvq addr 0) 1) 4294967296))) = true) then { b with w := (Mo.wStore_v2 (sbw addr 268566528) v (Mo.Bd.w b)) } else (if ((iL (cvq (maw 268632064 addr) 0) (miq 268632080 (miq (adq (cvq addr 0) 1) 4294967296))) = true) then { b with r := (Mo.rStore_v2 (sbw addr 268632064) v (Mo.Bd.r b)) } else (if ((iL (cvq (maw 268697600 addr) 0) (miq 268697636 (miq (adq (cvq addr 0) 1) 4294967296))) = true) then { b with t := (Mo.tStore_v2 (sbw addr 268697600) v (Mo.Bd.t b)) } else (if ((iL (cvq (maw 268763136 addr) 0) (miq 268763148 (miq (adq (cvq addr 0) 1) 4294967296))) = true) then { b with l := (Mo.lStore_v2 (sbw addr 268763136) v (Mo.Bd.l b)) } else b)))))))
noncomputable def Mo.uStore_pre (addr : Int) (b : Mo.Bd) (n : Nat) : Prop := (if ((iN (rmw addr 4) 0) = true) then True else (if ((iL (cvq (maw 33554432 addr) 0) (miq 33603584 (miq (adq (cvq addr 0) 1) 4294967296))) = true) then (Mo.kStore_pre (sbw addr 33554432) (Mo.Bd.k b)) else (if ((iL (cvq (maw 268500992 addr) 0) (miq 268501248 (miq (adq (cvq addr 0) 1) 4294967296))) = true) then (Mo.nStore_pre (sbw addr 268500992) n) else True)))
noncomputable def uStore_tree (addr : Int) (v : Int) (b : Mo.Bd) (n : Nat) (K : S → List Ob → Prop) : Prop := (if ((iN (rmw addr 4) 0) = true) then K (.iv .i64 11) (h_UB b n) else (((some (S.agg ((S.iv IntKind.u32 addr) :: ((S.il IntKind.u32 1) :: List.nil)))) = (some (S.agg ((S.iv IntKind.u32 addr) :: ((S.il IntKind.u32 1) :: List.nil))))) ∧ (((some (S.iv IntKind.u32 addr)) = (some (S.iv IntKind.u32 addr))) ∧ (((some (S.iv IntKind.u32 addr)) = (some (S.iv IntKind.u32 addr))) ∧ (if ((iL (cvq (maw 33554432 addr) 0) (miq 33603584 (miq (adq (cvq addr 0) 1) 4294967296))) = true) then ((Mo.kStore_pre (sbw addr 33554432) (Mo.Bd.k b)) ∧ K (.iv .i64 (Mo.kStore_v1 (sbw addr 33554432) (Mo.Bd.k b))) (h_UB { b with k := (Mo.kStore_v2 (sbw addr 33554432) v (Mo.Bd.k b)) } n)) else (((some (S.agg ((S.iv IntKind.u32 addr) :: ((S.il IntKind.u32 1) :: List.nil)))) = (some (S.agg ((S.iv IntKind.u32 addr) :: ((S.il IntKind.u32 1) :: List.nil))))) ∧ (((some (S.iv IntKind.u32 addr)) = (some (S.iv IntKind.u32 addr))) ∧ (((some (S.iv IntKind.u32 addr)) = (some (S.iv IntKind.u32 addr))) ∧ (if ((iL (cvq (maw 268500992 addr) 0) (miq 268501248 (miq (adq (cvq addr 0) 1) 4294967296))) = true) then ((n = n) ∧ (((iL 0 (castI n)) = (iL 0 (castI n))) ∧ ((Mo.nStore_pre (sbw addr 268500992) n) ∧ K (.iv .i64 (Mo.nStore_v1 (sbw addr 268500992) n)) (h_UB { b with n := (Mo.nStore_v2 (sbw addr 268500992) v n (Mo.Bd.n b)) } n)))) else (((some (S.agg ((S.iv IntKind.u32 addr) :: ((S.il IntKind.u32 1) :: List.nil)))) = (some (S.agg ((S.iv IntKind.u32 addr) :: ((S.il IntKind.u32 1) :: List.nil))))) ∧ (((some (S.iv IntKind.u32 addr)) = (some (S.iv IntKind.u32 addr))) ∧ (((some (S.iv IntKind.u32 addr)) = (some (S.iv IntKind.u32 addr))) ∧ (if ((iL (cvq (maw 268566528 addr) 0) (miq 268566548 (miq (adq (cvq addr 0) 1) 4294967296))) = true) then (True ∧ K (.iv .i64 (Mo.wStore_v1 (sbw addr 268566528))) (h_UB { b with w := (Mo.wStore_v2 (sbw addr 268566528) v (Mo.Bd.w b)) } n)) else (((some (S.agg ((S.iv IntKind.u32 addr) :: ((S.il IntKind.u32 1) :: List.nil)))) = (some (S.agg ((S.iv IntKind.u32 addr) :: ((S.il IntKind.u32 1) :: List.nil))))) ∧ (((some (S.iv IntKind.u32 addr)) = (some (S.iv IntKind.u32 addr))) ∧ (((some (S.iv IntKind.u32 addr)) = (some (S.iv IntKind.u32 addr))) ∧ (if ((iL (cvq (maw 268632064 addr) 0) (miq 268632080 (miq (adq (cvq addr 0) 1) 4294967296))) = true) then (True ∧ K (.iv .i64 (Mo.rStore_v1 (sbw addr 268632064))) (h_UB { b with r := (Mo.rStore_v2 (sbw addr 268632064) v (Mo.Bd.r b)) } n)) else (((some (S.agg ((S.iv IntKind.u32 addr) :: ((S.il IntKind.u32 1) :: List.nil)))) = (some (S.agg ((S.iv IntKind.u32 addr) :: ((S.il IntKind.u32 1) :: List.nil))))) ∧ (((some (S.iv IntKind.u32 addr)) = (some (S.iv IntKind.u32 addr))) ∧ (((some (S.iv IntKind.u32 addr)) = (some (S.iv IntKind.u32 addr))) ∧ (if ((iL (cvq (maw 268697600 addr) 0) (miq 268697636 (miq (adq (cvq addr 0) 1) 4294967296))) = true) then (True ∧ K (.iv .i64 (Mo.tStore_v1 (sbw addr 268697600))) (h_UB { b with t := (Mo.tStore_v2 (sbw addr 268697600) v (Mo.Bd.t b)) } n)) else (((some (S.agg ((S.iv IntKind.u32 addr) :: ((S.il IntKind.u32 1) :: List.nil)))) = (some (S.agg ((S.iv IntKind.u32 addr) :: ((S.il IntKind.u32 1) :: List.nil))))) ∧ (((some (S.iv IntKind.u32 addr)) = (some (S.iv IntKind.u32 addr))) ∧ (((some (S.iv IntKind.u32 addr)) = (some (S.iv IntKind.u32 addr))) ∧ (if ((iL (cvq (maw 268763136 addr) 0) (miq 268763148 (miq (adq (cvq addr 0) 1) 4294967296))) = true) then (True ∧ K (.iv .i64 (Mo.lStore_v1 (sbw addr 268763136))) (h_UB { b with l := (Mo.lStore_v2 (sbw addr 268763136) v (Mo.Bd.l b)) } n)) else K (.iv .i64 10) (h_UB b n))))))))))))))))))))))))))
theorem uStore_run (addr : Int) (v : Int) (b : Mo.Bd) (n : Nat) (K : S → List Ob → Prop) : callX (std noW) tt ffLpC stopLpC (lpB noW Tryz.prog) noL 100 91 [.ptr 0 (.l 0), .iv .u32 addr, .iv .u32 v] (h_UB b n) (gcK 10 (optK (o_UB n) (ivK true K))) = uStore_tree addr v b n K := by kernel_rfl
noncomputable def uStore_T (addr : Int) (v : Int) (b : Mo.Bd) (n : Nat) (K : S → List Ob → Prop) : Prop := Mo.uStore_pre addr b n ∧ K (.iv .i64 (Mo.uStore_v1 addr b n)) (h_UB (Mo.uStore_v2 addr v b n) n)
theorem uStore_all (addr : Int) (v : Int) (b : Mo.Bd) (n : Nat) (K : S → List Ob → Prop) (h : uStore_T addr v b n K) : uStore_tree addr v b n K := by
  unfold uStore_T at h; obtain ⟨h0, h⟩ := h; unfold uStore_tree
  try simp only [Mo.uStore_v1] at h0 h
  try simp only [Mo.uStore_v2] at h0 h
  try simp only [Mo.uStore_pre] at h0 h
  repeat' first | exact h | refine ⟨rfl, ?_⟩ | (refine ⟨h0.1, ?_⟩; replace h0 := h0.2) | refine ⟨h0, ?_⟩ | exact h0.elim | (refine ite_intro (fun c => ?_) fun c => ?_) <;> first | simp only [if_pos c] at h0 h | simp only [if_neg c] at h0 h | skip
theorem uStore_sem (addr : Int) (v : Int) (b : Mo.Bd) (n : Nat) (K : S → List Ob → Prop) (h : uStore_T addr v b n K) : CallSem noW Tryz.prog 91 [.ptr 0 (.l 0), .iv .u32 addr, .iv .u32 v] (h_UB b n) K := opt_call (callX_ok tok (by kernel_rfl) ffLpCok stopLpC_ok _ _ _ _ (Eq.mpr (uStore_run addr v b n K) (uStore_all addr v b n K h)))
noncomputable def uStore_con : Con := ⟨[.ptr 0, .int .u32, .int .u32], t_UB, [], fun a K => match a with | ⟨[addr, v, (.ofNat n), (.ofNat q1)], [q2], [], [cs_b_k, cs_b_w, cs_b_r, cs_b_t, cs_b_l, cs_b_n_c0], []⟩ => (match Mo.Cl.is cs_b_k with | true => (match Mo.Wd.is cs_b_w with | true => (match Mo.Rs.is cs_b_r with | true => (match Mo.Rt.is cs_b_t with | true => (match Mo.Ln.is cs_b_l with | true => (match Mo.Cnt.is cs_b_n_c0 with | true => (q1 = n ∧ (q2 = (iL 0 (castI n)) ∧ uStore_T addr v (Mo.Bd.mk (Mo.Cl.of cs_b_k) (Mo.Wd.of cs_b_w) (Mo.Rt.of cs_b_t) (Mo.Rs.of cs_b_r) (Mo.Ln.of cs_b_l) (Mo.Bk.mk (Mo.Cnt.of cs_b_n_c0))) n K)) | false => False) | false => False) | false => False) | false => False) | false => False) | false => False) | _ => False⟩
theorem uStore_ok : uStore_con.ok noW Tryz.prog 91 := by
  intro a K h
  simp only [uStore_con] at h
  split at h
  case h_2 => exact h.elim
  split at h
  case h_2 => exact h.elim
  rename_i is_b_k
  split at h
  case h_2 => exact h.elim
  rename_i is_b_w
  split at h
  case h_2 => exact h.elim
  rename_i is_b_r
  split at h
  case h_2 => exact h.elim
  rename_i is_b_t
  split at h
  case h_2 => exact h.elim
  rename_i is_b_l
  split at h
  case h_2 => exact h.elim
  rename_i is_b_n_c0
  obtain ⟨rfl, h⟩ := h
  obtain ⟨rfl, h⟩ := h
  exact CallSem.objs (uStore_sem _ _ _ _ K h) (fun _ _ _ h => h) ⟨WkO.same, WkO.same, WkO.cells (Mo.Cl.is_ok is_b_k), WkO.same, WkO.cells (Mo.Wd.is_ok is_b_w), WkO.cells (Mo.Rs.is_ok is_b_r), WkO.cells (Mo.Rt.is_ok is_b_t), WkO.cells (Mo.Ln.is_ok is_b_l), WkO.same, WkO.opt (Mo.Cnt.is_ok is_b_n_c0), trivial⟩
noncomputable def Mo.uLoad_v1 (addr : Int) (b : Mo.Bd) (n : Nat) : Int := (if ((iN (rmw addr 4) 0) = true) then 0 else (if ((iL (cvq (maw 33554432 addr) 0) (miq 33603584 (miq (adq (cvq addr 0) 1) 4294967296))) = true) then (if ((iN (Mo.kLoad_v2 (sbw addr 33554432) (Mo.Bd.k b)) 0) = true) then 0 else (Mo.kLoad_v1 (sbw addr 33554432) (Mo.Bd.k b))) else (if ((iL (cvq (maw 268500992 addr) 0) (miq 268501248 (miq (adq (cvq addr 0) 1) 4294967296))) = true) then (if ((iN (Mo.nLoad_v2 (sbw addr 268500992) n) 0) = true) then 0 else (Mo.nLoad_v1 (sbw addr 268500992) n (Mo.Bd.n b))) else (if ((iL (cvq (maw 268566528 addr) 0) (miq 268566548 (miq (adq (cvq addr 0) 1) 4294967296))) = true) then (if ((iN (Mo.wLoad_v2 (sbw addr 268566528)) 0) = true) then 0 else (Mo.wLoad_v1 (sbw addr 268566528) (Mo.Bd.w b))) else (if ((iL (cvq (maw 268632064 addr) 0) (miq 268632080 (miq (adq (cvq addr 0) 1) 4294967296))) = true) then (if ((iN (Mo.rLoad_v2 (sbw addr 268632064)) 0) = true) then 0 else (Mo.rLoad_v1 (sbw addr 268632064) (Mo.Bd.r b))) else (if ((iL (cvq (maw 268697600 addr) 0) (miq 268697636 (miq (adq (cvq addr 0) 1) 4294967296))) = true) then (if ((iN (Mo.tLoad_v2 (sbw addr 268697600)) 0) = true) then 0 else (Mo.tLoad_v1 (sbw addr 268697600) (Mo.Bd.t b))) else (if ((iL (cvq (maw 268763136 addr) 0) (miq 268763148 (miq (adq (cvq addr 0) 1) 4294967296))) = true) then (if ((iN (Mo.lLoad_v2 (sbw addr 268763136)) 0) = true) then 0 else (Mo.lLoad_v1 (sbw addr 268763136) (Mo.Bd.l b))) else 0)))))))
noncomputable def Mo.uLoad_v2 (addr : Int) (b : Mo.Bd) (n : Nat) : Int := (if ((iN (rmw addr 4) 0) = true) then 11 else (if ((iL (cvq (maw 33554432 addr) 0) (miq 33603584 (miq (adq (cvq addr 0) 1) 4294967296))) = true) then (if ((iN (Mo.kLoad_v2 (sbw addr 33554432) (Mo.Bd.k b)) 0) = true) then (Mo.kLoad_v2 (sbw addr 33554432) (Mo.Bd.k b)) else 0) else (if ((iL (cvq (maw 268500992 addr) 0) (miq 268501248 (miq (adq (cvq addr 0) 1) 4294967296))) = true) then (if ((iN (Mo.nLoad_v2 (sbw addr 268500992) n) 0) = true) then (Mo.nLoad_v2 (sbw addr 268500992) n) else 0) else (if ((iL (cvq (maw 268566528 addr) 0) (miq 268566548 (miq (adq (cvq addr 0) 1) 4294967296))) = true) then (if ((iN (Mo.wLoad_v2 (sbw addr 268566528)) 0) = true) then (Mo.wLoad_v2 (sbw addr 268566528)) else 0) else (if ((iL (cvq (maw 268632064 addr) 0) (miq 268632080 (miq (adq (cvq addr 0) 1) 4294967296))) = true) then (if ((iN (Mo.rLoad_v2 (sbw addr 268632064)) 0) = true) then (Mo.rLoad_v2 (sbw addr 268632064)) else 0) else (if ((iL (cvq (maw 268697600 addr) 0) (miq 268697636 (miq (adq (cvq addr 0) 1) 4294967296))) = true) then (if ((iN (Mo.tLoad_v2 (sbw addr 268697600)) 0) = true) then (Mo.tLoad_v2 (sbw addr 268697600)) else 0) else (if ((iL (cvq (maw 268763136 addr) 0) (miq 268763148 (miq (adq (cvq addr 0) 1) 4294967296))) = true) then (if ((iN (Mo.lLoad_v2 (sbw addr 268763136)) 0) = true) then (Mo.lLoad_v2 (sbw addr 268763136)) else 0) else 10)))))))
noncomputable def Mo.uLoad_pre (addr : Int) (b : Mo.Bd) (n : Nat) : Prop := (if ((iN (rmw addr 4) 0) = true) then True else (if ((iL (cvq (maw 33554432 addr) 0) (miq 33603584 (miq (adq (cvq addr 0) 1) 4294967296))) = true) then (Mo.kLoad_pre (sbw addr 33554432) (Mo.Bd.k b)) else (if ((iL (cvq (maw 268500992 addr) 0) (miq 268501248 (miq (adq (cvq addr 0) 1) 4294967296))) = true) then (Mo.nLoad_pre (sbw addr 268500992) n) else (if ((iL (cvq (maw 268566528 addr) 0) (miq 268566548 (miq (adq (cvq addr 0) 1) 4294967296))) = true) then (Mo.wLoad_pre (sbw addr 268566528)) else (if ((iL (cvq (maw 268632064 addr) 0) (miq 268632080 (miq (adq (cvq addr 0) 1) 4294967296))) = true) then (Mo.rLoad_pre (sbw addr 268632064)) else (if ((iL (cvq (maw 268697600 addr) 0) (miq 268697636 (miq (adq (cvq addr 0) 1) 4294967296))) = true) then (Mo.tLoad_pre (sbw addr 268697600)) else True))))))
noncomputable def uLoad_tree (addr : Int) (b : Mo.Bd) (n : Nat) (K : S → List Ob → Prop) : Prop := (if ((iN (rmw addr 4) 0) = true) then K (.tup [(.iv .u32 0), (.iv .i64 11)]) (h_UB b n) else (((some (S.agg ((S.iv IntKind.u32 addr) :: ((S.il IntKind.u32 1) :: List.nil)))) = (some (S.agg ((S.iv IntKind.u32 addr) :: ((S.il IntKind.u32 1) :: List.nil))))) ∧ (((some (S.iv IntKind.u32 addr)) = (some (S.iv IntKind.u32 addr))) ∧ (((some (S.iv IntKind.u32 addr)) = (some (S.iv IntKind.u32 addr))) ∧ (if ((iL (cvq (maw 33554432 addr) 0) (miq 33603584 (miq (adq (cvq addr 0) 1) 4294967296))) = true) then ((Mo.kLoad_pre (sbw addr 33554432) (Mo.Bd.k b)) ∧ (if ((iN (Mo.kLoad_v2 (sbw addr 33554432) (Mo.Bd.k b)) 0) = true) then K (.tup [(.iv .u32 0), (.iv .i64 (Mo.kLoad_v2 (sbw addr 33554432) (Mo.Bd.k b)))]) (h_UB b n) else K (.tup [(.iv .u32 (Mo.kLoad_v1 (sbw addr 33554432) (Mo.Bd.k b))), (.iv .i64 0)]) (h_UB b n))) else (((some (S.agg ((S.iv IntKind.u32 addr) :: ((S.il IntKind.u32 1) :: List.nil)))) = (some (S.agg ((S.iv IntKind.u32 addr) :: ((S.il IntKind.u32 1) :: List.nil))))) ∧ (((some (S.iv IntKind.u32 addr)) = (some (S.iv IntKind.u32 addr))) ∧ (((some (S.iv IntKind.u32 addr)) = (some (S.iv IntKind.u32 addr))) ∧ (if ((iL (cvq (maw 268500992 addr) 0) (miq 268501248 (miq (adq (cvq addr 0) 1) 4294967296))) = true) then ((n = n) ∧ (((iL 0 (castI n)) = (iL 0 (castI n))) ∧ ((Mo.nLoad_pre (sbw addr 268500992) n) ∧ (if ((iN (Mo.nLoad_v2 (sbw addr 268500992) n) 0) = true) then K (.tup [(.iv .u32 0), (.iv .i64 (Mo.nLoad_v2 (sbw addr 268500992) n))]) (h_UB b n) else K (.tup [(.iv .u32 (Mo.nLoad_v1 (sbw addr 268500992) n (Mo.Bd.n b))), (.iv .i64 0)]) (h_UB b n))))) else (((some (S.agg ((S.iv IntKind.u32 addr) :: ((S.il IntKind.u32 1) :: List.nil)))) = (some (S.agg ((S.iv IntKind.u32 addr) :: ((S.il IntKind.u32 1) :: List.nil))))) ∧ (((some (S.iv IntKind.u32 addr)) = (some (S.iv IntKind.u32 addr))) ∧ (((some (S.iv IntKind.u32 addr)) = (some (S.iv IntKind.u32 addr))) ∧ (if ((iL (cvq (maw 268566528 addr) 0) (miq 268566548 (miq (adq (cvq addr 0) 1) 4294967296))) = true) then ((Mo.wLoad_pre (sbw addr 268566528)) ∧ (if ((iN (Mo.wLoad_v2 (sbw addr 268566528)) 0) = true) then K (.tup [(.iv .u32 0), (.iv .i64 (Mo.wLoad_v2 (sbw addr 268566528)))]) (h_UB b n) else K (.tup [(.iv .u32 (Mo.wLoad_v1 (sbw addr 268566528) (Mo.Bd.w b))), (.iv .i64 0)]) (h_UB b n))) else (((some (S.agg ((S.iv IntKind.u32 addr) :: ((S.il IntKind.u32 1) :: List.nil)))) = (some (S.agg ((S.iv IntKind.u32 addr) :: ((S.il IntKind.u32 1) :: List.nil))))) ∧ (((some (S.iv IntKind.u32 addr)) = (some (S.iv IntKind.u32 addr))) ∧ (((some (S.iv IntKind.u32 addr)) = (some (S.iv IntKind.u32 addr))) ∧ (if ((iL (cvq (maw 268632064 addr) 0) (miq 268632080 (miq (adq (cvq addr 0) 1) 4294967296))) = true) then ((Mo.rLoad_pre (sbw addr 268632064)) ∧ (if ((iN (Mo.rLoad_v2 (sbw addr 268632064)) 0) = true) then K (.tup [(.iv .u32 0), (.iv .i64 (Mo.rLoad_v2 (sbw addr 268632064)))]) (h_UB b n) else K (.tup [(.iv .u32 (Mo.rLoad_v1 (sbw addr 268632064) (Mo.Bd.r b))), (.iv .i64 0)]) (h_UB b n))) else (((some (S.agg ((S.iv IntKind.u32 addr) :: ((S.il IntKind.u32 1) :: List.nil)))) = (some (S.agg ((S.iv IntKind.u32 addr) :: ((S.il IntKind.u32 1) :: List.nil))))) ∧ (((some (S.iv IntKind.u32 addr)) = (some (S.iv IntKind.u32 addr))) ∧ (((some (S.iv IntKind.u32 addr)) = (some (S.iv IntKind.u32 addr))) ∧ (if ((iL (cvq (maw 268697600 addr) 0) (miq 268697636 (miq (adq (cvq addr 0) 1) 4294967296))) = true) then ((Mo.tLoad_pre (sbw addr 268697600)) ∧ (if ((iN (Mo.tLoad_v2 (sbw addr 268697600)) 0) = true) then K (.tup [(.iv .u32 0), (.iv .i64 (Mo.tLoad_v2 (sbw addr 268697600)))]) (h_UB b n) else K (.tup [(.iv .u32 (Mo.tLoad_v1 (sbw addr 268697600) (Mo.Bd.t b))), (.iv .i64 0)]) (h_UB b n))) else (((some (S.agg ((S.iv IntKind.u32 addr) :: ((S.il IntKind.u32 1) :: List.nil)))) = (some (S.agg ((S.iv IntKind.u32 addr) :: ((S.il IntKind.u32 1) :: List.nil))))) ∧ (((some (S.iv IntKind.u32 addr)) = (some (S.iv IntKind.u32 addr))) ∧ (((some (S.iv IntKind.u32 addr)) = (some (S.iv IntKind.u32 addr))) ∧ (if ((iL (cvq (maw 268763136 addr) 0) (miq 268763148 (miq (adq (cvq addr 0) 1) 4294967296))) = true) then (True ∧ (if ((iN (Mo.lLoad_v2 (sbw addr 268763136)) 0) = true) then K (.tup [(.iv .u32 0), (.iv .i64 (Mo.lLoad_v2 (sbw addr 268763136)))]) (h_UB b n) else K (.tup [(.iv .u32 (Mo.lLoad_v1 (sbw addr 268763136) (Mo.Bd.l b))), (.iv .i64 0)]) (h_UB b n))) else K (.tup [(.iv .u32 0), (.iv .i64 10)]) (h_UB b n))))))))))))))))))))))))))
theorem uLoad_run (addr : Int) (b : Mo.Bd) (n : Nat) (K : S → List Ob → Prop) : callX (std noW) tt ffLpC stopLpC (lpB noW Tryz.prog) noL 100 129 [.ptr 0 (.l 0), .iv .u32 addr] (h_UB b n) (gcK 10 (optK (o_UB n) (ivK true K))) = uLoad_tree addr b n K := by kernel_rfl
noncomputable def uLoad_T (addr : Int) (b : Mo.Bd) (n : Nat) (K : S → List Ob → Prop) : Prop := Mo.uLoad_pre addr b n ∧ K (.tup [(.iv .u32 (Mo.uLoad_v1 addr b n)), (.iv .i64 (Mo.uLoad_v2 addr b n))]) (h_UB b n)
theorem uLoad_all (addr : Int) (b : Mo.Bd) (n : Nat) (K : S → List Ob → Prop) (h : uLoad_T addr b n K) : uLoad_tree addr b n K := by
  unfold uLoad_T at h; obtain ⟨h0, h⟩ := h; unfold uLoad_tree
  try simp only [Mo.uLoad_v1] at h0 h
  try simp only [Mo.uLoad_v2] at h0 h
  try simp only [Mo.uLoad_pre] at h0 h
  repeat' first | exact h | refine ⟨rfl, ?_⟩ | (refine ⟨h0.1, ?_⟩; replace h0 := h0.2) | refine ⟨h0, ?_⟩ | exact h0.elim | (refine ite_intro (fun c => ?_) fun c => ?_) <;> first | simp only [if_pos c] at h0 h | simp only [if_neg c] at h0 h | skip
theorem uLoad_sem (addr : Int) (b : Mo.Bd) (n : Nat) (K : S → List Ob → Prop) (h : uLoad_T addr b n K) : CallSem noW Tryz.prog 129 [.ptr 0 (.l 0), .iv .u32 addr] (h_UB b n) K := opt_call (callX_ok tok (by kernel_rfl) ffLpCok stopLpC_ok _ _ _ _ (Eq.mpr (uLoad_run addr b n K) (uLoad_all addr b n K h)))
noncomputable def uLoad_con : Con := ⟨[.ptr 0, .int .u32], t_UB, [], fun a K => match a with | ⟨[addr, (.ofNat n), (.ofNat q1)], [q2], [], [cs_b_k, cs_b_w, cs_b_r, cs_b_t, cs_b_l, cs_b_n_c0], []⟩ => (match Mo.Cl.is cs_b_k with | true => (match Mo.Wd.is cs_b_w with | true => (match Mo.Rs.is cs_b_r with | true => (match Mo.Rt.is cs_b_t with | true => (match Mo.Ln.is cs_b_l with | true => (match Mo.Cnt.is cs_b_n_c0 with | true => (q1 = n ∧ (q2 = (iL 0 (castI n)) ∧ uLoad_T addr (Mo.Bd.mk (Mo.Cl.of cs_b_k) (Mo.Wd.of cs_b_w) (Mo.Rt.of cs_b_t) (Mo.Rs.of cs_b_r) (Mo.Ln.of cs_b_l) (Mo.Bk.mk (Mo.Cnt.of cs_b_n_c0))) n K)) | false => False) | false => False) | false => False) | false => False) | false => False) | false => False) | _ => False⟩
theorem uLoad_ok : uLoad_con.ok noW Tryz.prog 129 := by
  intro a K h
  simp only [uLoad_con] at h
  split at h
  case h_2 => exact h.elim
  split at h
  case h_2 => exact h.elim
  rename_i is_b_k
  split at h
  case h_2 => exact h.elim
  rename_i is_b_w
  split at h
  case h_2 => exact h.elim
  rename_i is_b_r
  split at h
  case h_2 => exact h.elim
  rename_i is_b_t
  split at h
  case h_2 => exact h.elim
  rename_i is_b_l
  split at h
  case h_2 => exact h.elim
  rename_i is_b_n_c0
  obtain ⟨rfl, h⟩ := h
  obtain ⟨rfl, h⟩ := h
  exact CallSem.objs (uLoad_sem _ _ _ K h) (fun _ _ _ h => h) ⟨WkO.same, WkO.same, WkO.cells (Mo.Cl.is_ok is_b_k), WkO.same, WkO.cells (Mo.Wd.is_ok is_b_w), WkO.cells (Mo.Rs.is_ok is_b_r), WkO.cells (Mo.Rt.is_ok is_b_t), WkO.cells (Mo.Ln.is_ok is_b_l), WkO.same, WkO.opt (Mo.Cnt.is_ok is_b_n_c0), trivial⟩
noncomputable def lcb_dWire_0 (tt : List Tm) : LCon := ⟨[true, false, true, false, false, false, false, false, false, false, false, false, false, false, false, true, true, false, false, false, false, false, false, false, false, false, false, false, false, false, false, false, false, false, false, false, false, false, false, false, false, false, false, false, false, false, false, false, false, false, false, false, false, false, false], [], tt, t_BD, [(0, fun a => (iL 0 (castI (nthI a.i 5).toNat)))]⟩
noncomputable def lc_dWire_0 : LCon := lcb_dWire_0 [.ptr 0, .junk, .int .u32, .junk, .junk, .junk, .junk, .junk, .junk, .junk, .junk, .junk, .junk, .junk, .junk, .int .i64, .same (.il .i64 0), .junk, .junk, .junk, .junk, .junk, .junk, .junk, .junk, .junk, .junk, .junk, .junk, .junk, .junk, .junk, .junk, .junk, .junk, .junk, .junk, .junk, .junk, .junk, .junk, .junk, .junk, .junk, .junk, .junk, .junk, .junk, .junk, .junk, .junk, .junk, .junk, .junk, .junk]
noncomputable def acc_dWire_0 (high : Int) (harts : Int) (counts : Int) (dv : Int) (b : Mo.Bd) (n : Nat) (rs : List (List Int)) : Acc := ⟨[high, harts, harts, counts, dv, (Int.ofNat n), (Int.ofNat n)], [(iL 0 (castI n))], [], [(Mo.Cl.cells (Mo.Bd.k b)), (Mo.Wd.cells (Mo.Bd.w b)), (Mo.Rt.cells (Mo.Bd.t b)), (Mo.Rs.cells (Mo.Bd.r b)), (Mo.Ln.cells (Mo.Bd.l b)), (Mo.Cnt.cells (Mo.Bk.c0 (Mo.Bd.n b)))], [rs]⟩
noncomputable def lc_dWire_1 : LCon := lcb_dWire_0 [.ptr 0, .junk, .int .u32, .junk, .junk, .junk, .junk, .junk, .junk, .junk, .junk, .junk, .junk, .junk, .junk, .int .i64, .same (.il .i64 1), .junk, .junk, .junk, .junk, .junk, .junk, .junk, .junk, .junk, .junk, .junk, .junk, .junk, .junk, .junk, .junk, .junk, .junk, .junk, .junk, .junk, .junk, .junk, .junk, .junk, .junk, .junk, .junk, .junk, .junk, .junk, .junk, .junk, .junk, .junk, .junk, .junk, .junk]
noncomputable def L_dWire : Nat → List LCon := fun k => match Nat.beq k (keyC (loopAt ffLpC 116 0).2) with | true => [lc_dWire_0, lc_dWire_1] | false => []
noncomputable def dWire_L0 (high : Int) (harts : Int) (counts : Int) (dv : Int) (b : Mo.Bd) (n : Nat) (rs : List (List Int)) (K : S → List Ob → Prop) : Prop := lpF noW Tryz.prog tt ffLpC stopLpC L_dWire 100 116 0 12 lc_dWire_0 (acc_dWire_0 high harts counts dv b n rs) (gcK 12 (optK (o_BD n) (ivK false K)))
noncomputable def dWire_L1 (high : Int) (harts : Int) (counts : Int) (dv : Int) (b : Mo.Bd) (n : Nat) (rs : List (List Int)) (K : S → List Ob → Prop) : Prop := lpF noW Tryz.prog tt ffLpC stopLpC L_dWire 100 116 0 12 lc_dWire_1 (acc_dWire_0 high harts counts dv b n rs) (gcK 12 (optK (o_BD n) (ivK false K)))
noncomputable def Mo.dWire_pre (b : Mo.Bd) (n : Nat) : Prop := (Mo.nWLine_p n (Mo.Bd.n b))
noncomputable def dWire_tree (harts : Int) (counts : Int) (dv : Int) (b : Mo.Bd) (n : Nat) (rs : List (List Int)) (K : S → List Ob → Prop) : Prop := ((n = n) ∧ (((iL 0 (castI n)) = (iL 0 (castI n))) ∧ ((Mo.nWLine_p n (Mo.Bd.n b)) ∧ (((lenR rs) = (lenR rs)) ∧ (((iL 0 (castI n)) = (iL 0 (castI n))) ∧ dWire_L0 (slw (Mo.nWLine_f1 n (Mo.Bd.n b)) 8) harts counts dv b n rs K)))))
theorem dWire_run (harts : Int) (counts : Int) (dv : Int) (b : Mo.Bd) (n : Nat) (rs : List (List Int)) (K : S → List Ob → Prop) : callX (std noW) tt ffLpC stopLpC (lpB noW Tryz.prog) L_dWire 100 116 [.ptr 0 (.l 0)] (h_BD harts counts dv b n rs) (gcK 12 (optK (o_BD n) (ivK false K))) = dWire_tree harts counts dv b n rs K := by kernel_rfl
noncomputable def dWire_T (harts : Int) (counts : Int) (dv : Int) (b : Mo.Bd) (n : Nat) (rs : List (List Int)) (K : S → List Ob → Prop) : Prop := Mo.dWire_pre b n ∧ dWire_L0 (slw (Mo.nWLine_f1 n (Mo.Bd.n b)) 8) harts counts dv b n rs K
theorem dWire_all (harts : Int) (counts : Int) (dv : Int) (b : Mo.Bd) (n : Nat) (rs : List (List Int)) (K : S → List Ob → Prop) (h : dWire_T harts counts dv b n rs K) : dWire_tree harts counts dv b n rs K := by
  unfold dWire_T at h; obtain ⟨h0, h⟩ := h; unfold dWire_tree
  try simp only [Mo.dWire_pre] at h0 h
  repeat' first | exact h | refine ⟨rfl, ?_⟩ | (refine ⟨h0.1, ?_⟩; replace h0 := h0.2) | refine ⟨h0, ?_⟩ | exact h0.elim | (refine ite_intro (fun c => ?_) fun c => ?_) <;> first | simp only [if_pos c] at h0 h | simp only [if_neg c] at h0 h | skip
theorem dWire_sem (harts : Int) (counts : Int) (dv : Int) (b : Mo.Bd) (n : Nat) (rs : List (List Int)) (K : S → List Ob → Prop) (h : dWire_T harts counts dv b n rs K) : CallSem noW Tryz.prog 116 [.ptr 0 (.l 0)] (h_BD harts counts dv b n rs) K := opt_call (callX_ok tok (by kernel_rfl) ffLpCok stopLpC_ok _ _ _ _ (Eq.mpr (dWire_run harts counts dv b n rs K) (dWire_all harts counts dv b n rs K h)))
noncomputable def Mo.RdWire_0_v1 (high : Int) (b : Mo.Bd) : Int := (if ((Mo.kLine_v1 0 (Mo.Bd.k b)) = true) then (if ((Mo.kSoft_v1 0 (Mo.Bd.k b)) = true) then (Mo.bPut1_v1 (Mo.bPut1_v1 high 0) 24) else (Mo.bPut1_v1 high 0)) else (if ((Mo.kSoft_v1 0 (Mo.Bd.k b)) = true) then (Mo.bPut1_v1 high 24) else high))
noncomputable def Mo.RdWire_0_v2 (high : Int) (b : Mo.Bd) : Mo.Bd := (if ((Mo.Rt.raised (Mo.Bd.t b)) = true) then { b with l := (Mo.lAll_v1 (Mo.bPut1_v1 high 16) (Mo.Bd.l b)) } else { b with l := (Mo.lAll_v1 high (Mo.Bd.l b)) })
noncomputable def Mo.RdWire_0_g1 (harts : Int) : Bool := (if ((iL 0 harts) = true) then true else false)
noncomputable def Mo.RdWire_0_pre (harts : Int) (b : Mo.Bd) : Prop := (if ((iL 0 harts) = true) then ((Mo.kLine_pre 0 (Mo.Bd.k b)) ∧ (if ((Mo.kLine_v1 0 (Mo.Bd.k b)) = true) then ((Mo.bPut1_pre 0) ∧ ((Mo.kSoft_pre 0 (Mo.Bd.k b)) ∧ (if ((Mo.kSoft_v1 0 (Mo.Bd.k b)) = true) then (Mo.bPut1_pre 24) else True))) else ((Mo.kSoft_pre 0 (Mo.Bd.k b)) ∧ (if ((Mo.kSoft_v1 0 (Mo.Bd.k b)) = true) then (Mo.bPut1_pre 24) else True)))) else (if ((Mo.Rt.raised (Mo.Bd.t b)) = true) then (Mo.bPut1_pre 16) else True))
noncomputable def RdWire_0_tree (high : Int) (harts : Int) (counts : Int) (dv : Int) (b : Mo.Bd) (n : Nat) (rs : List (List Int)) (K : S → List Ob → Prop) : Prop := (if ((iL 0 harts) = true) then ((Mo.kLine_pre 0 (Mo.Bd.k b)) ∧ (if ((Mo.kLine_v1 0 (Mo.Bd.k b)) = true) then ((Mo.bPut1_pre 0) ∧ ((Mo.kSoft_pre 0 (Mo.Bd.k b)) ∧ (if ((Mo.kSoft_v1 0 (Mo.Bd.k b)) = true) then ((Mo.bPut1_pre 24) ∧ (((lenR rs) = (lenR rs)) ∧ (((lenR rs) = (lenR rs)) ∧ (((iL 0 (castI n)) = (iL 0 (castI n))) ∧ dWire_L1 (Mo.bPut1_v1 (Mo.bPut1_v1 high 0) 24) harts counts dv b n rs K)))) else (((lenR rs) = (lenR rs)) ∧ (((lenR rs) = (lenR rs)) ∧ (((iL 0 (castI n)) = (iL 0 (castI n))) ∧ dWire_L1 (Mo.bPut1_v1 high 0) harts counts dv b n rs K)))))) else ((Mo.kSoft_pre 0 (Mo.Bd.k b)) ∧ (if ((Mo.kSoft_v1 0 (Mo.Bd.k b)) = true) then ((Mo.bPut1_pre 24) ∧ (((lenR rs) = (lenR rs)) ∧ (((lenR rs) = (lenR rs)) ∧ (((iL 0 (castI n)) = (iL 0 (castI n))) ∧ dWire_L1 (Mo.bPut1_v1 high 24) harts counts dv b n rs K)))) else (((lenR rs) = (lenR rs)) ∧ (((lenR rs) = (lenR rs)) ∧ (((iL 0 (castI n)) = (iL 0 (castI n))) ∧ dWire_L1 high harts counts dv b n rs K))))))) else (True ∧ (if ((Mo.Rt.raised (Mo.Bd.t b)) = true) then ((Mo.bPut1_pre 16) ∧ (True ∧ K (.tup []) (h_BD harts counts dv { b with l := (Mo.lAll_v1 (Mo.bPut1_v1 high 16) (Mo.Bd.l b)) } n rs))) else (True ∧ K (.tup []) (h_BD harts counts dv { b with l := (Mo.lAll_v1 high (Mo.Bd.l b)) } n rs)))))
theorem RdWire_0_run (high : Int) (harts : Int) (counts : Int) (dv : Int) (b : Mo.Bd) (n : Nat) (rs : List (List Int)) (K : S → List Ob → Prop) : roundX (std noW) tt ffLpC stopLpC (lpB noW Tryz.prog) L_dWire 100 116 0 12 (lc_dWire_0.st (acc_dWire_0 high harts counts dv b n rs)) (gcK 12 (optK (o_BD n) (ivK false K))) = RdWire_0_tree high harts counts dv b n rs K := by kernel_rfl
noncomputable def RdWire_0_T (high : Int) (harts : Int) (counts : Int) (dv : Int) (b : Mo.Bd) (n : Nat) (rs : List (List Int)) (K : S → List Ob → Prop) : Prop := Mo.RdWire_0_pre harts b ∧ (if (Mo.RdWire_0_g1 harts) = true then dWire_L1 (Mo.RdWire_0_v1 high b) harts counts dv b n rs K else K (.tup []) (h_BD harts counts dv (Mo.RdWire_0_v2 high b) n rs))
theorem RdWire_0_all (high : Int) (harts : Int) (counts : Int) (dv : Int) (b : Mo.Bd) (n : Nat) (rs : List (List Int)) (K : S → List Ob → Prop) (h : RdWire_0_T high harts counts dv b n rs K) : RdWire_0_tree high harts counts dv b n rs K := by
  unfold RdWire_0_T at h; obtain ⟨h0, h⟩ := h; unfold RdWire_0_tree
  try simp only [Mo.RdWire_0_v1] at h0 h
  try simp only [Mo.RdWire_0_v2] at h0 h
  try simp only [Mo.RdWire_0_g1] at h0 h
  try simp only [Mo.RdWire_0_pre] at h0 h
  repeat' (first | (refine ite_intro (fun c => ?_) (fun c => ?_) <;> first | simp only [if_pos c] at h0 h | simp only [if_neg c] at h0 h | skip) | with_reducible (replace h0 := (h0 : True ∧ _).2) | with_reducible (refine ⟨rfl, ?_⟩) | with_reducible (refine ⟨h0.1, ?_⟩; replace h0 := h0.2) | with_reducible (refine ⟨h0, ?_⟩) | (refine ⟨h0.1, ?_⟩; replace h0 := h0.2) | refine ⟨h0, ?_⟩ | refine ⟨rfl, ?_⟩ | refine ⟨trivial, ?_⟩ | refine ⟨by assumption, ?_⟩ | refine ⟨Eq.symm (by assumption), ?_⟩ | exact h | refine ⟨?_, ?_⟩ | exact h0.elim | trivial | contradiction | (simp only [if_true, if_false, Bool.false_eq_true] at h; exact h))
theorem RdWire_0_step (high : Int) (harts : Int) (counts : Int) (dv : Int) (b : Mo.Bd) (n : Nat) (rs : List (List Int)) (K : S → List Ob → Prop) (h : RdWire_0_T high harts counts dv b n rs K) : dWire_L0 high harts counts dv b n rs K := roundX_ok tok (by kernel_rfl) ffLpCok stopLpC_ok (Eq.mpr (RdWire_0_run high harts counts dv b n rs K) (RdWire_0_all high harts counts dv b n rs K h))
noncomputable def Mo.RdWire_1_v1 (high : Int) (b : Mo.Bd) : Mo.Bd := (if ((Mo.Rt.raised (Mo.Bd.t b)) = true) then { b with l := (Mo.lAll_v1 (Mo.bPut1_v1 high 16) (Mo.Bd.l b)) } else { b with l := (Mo.lAll_v1 high (Mo.Bd.l b)) })
noncomputable def Mo.RdWire_1_pre (harts : Int) (b : Mo.Bd) : Prop := (if ((iL 1 harts) = true) then ((Mo.kLine_pre 1 (Mo.Bd.k b)) ∧ (if ((Mo.kLine_v1 1 (Mo.Bd.k b)) = true) then ((Mo.bPut1_pre 1) ∧ ((Mo.kSoft_pre 1 (Mo.Bd.k b)) ∧ (if ((Mo.kSoft_v1 1 (Mo.Bd.k b)) = true) then ((Mo.bPut1_pre 25) ∧ False) else False))) else ((Mo.kSoft_pre 1 (Mo.Bd.k b)) ∧ (if ((Mo.kSoft_v1 1 (Mo.Bd.k b)) = true) then ((Mo.bPut1_pre 25) ∧ False) else False)))) else (if ((Mo.Rt.raised (Mo.Bd.t b)) = true) then (Mo.bPut1_pre 16) else True))
noncomputable def RdWire_1_tree (high : Int) (harts : Int) (counts : Int) (dv : Int) (b : Mo.Bd) (n : Nat) (rs : List (List Int)) (K : S → List Ob → Prop) : Prop := (if ((iL 1 harts) = true) then ((Mo.kLine_pre 1 (Mo.Bd.k b)) ∧ (if ((Mo.kLine_v1 1 (Mo.Bd.k b)) = true) then ((Mo.bPut1_pre 1) ∧ ((Mo.kSoft_pre 1 (Mo.Bd.k b)) ∧ (if ((Mo.kSoft_v1 1 (Mo.Bd.k b)) = true) then ((Mo.bPut1_pre 25) ∧ (((lenR rs) = (lenR rs)) ∧ (((lenR rs) = (lenR rs)) ∧ False))) else (((lenR rs) = (lenR rs)) ∧ (((lenR rs) = (lenR rs)) ∧ False))))) else ((Mo.kSoft_pre 1 (Mo.Bd.k b)) ∧ (if ((Mo.kSoft_v1 1 (Mo.Bd.k b)) = true) then ((Mo.bPut1_pre 25) ∧ (((lenR rs) = (lenR rs)) ∧ (((lenR rs) = (lenR rs)) ∧ False))) else (((lenR rs) = (lenR rs)) ∧ (((lenR rs) = (lenR rs)) ∧ False)))))) else (True ∧ (if ((Mo.Rt.raised (Mo.Bd.t b)) = true) then ((Mo.bPut1_pre 16) ∧ (True ∧ K (.tup []) (h_BD harts counts dv { b with l := (Mo.lAll_v1 (Mo.bPut1_v1 high 16) (Mo.Bd.l b)) } n rs))) else (True ∧ K (.tup []) (h_BD harts counts dv { b with l := (Mo.lAll_v1 high (Mo.Bd.l b)) } n rs)))))
theorem RdWire_1_run (high : Int) (harts : Int) (counts : Int) (dv : Int) (b : Mo.Bd) (n : Nat) (rs : List (List Int)) (K : S → List Ob → Prop) : roundX (std noW) tt ffLpC stopLpC (lpB noW Tryz.prog) L_dWire 100 116 0 12 (lc_dWire_1.st (acc_dWire_0 high harts counts dv b n rs)) (gcK 12 (optK (o_BD n) (ivK false K))) = RdWire_1_tree high harts counts dv b n rs K := by kernel_rfl
noncomputable def RdWire_1_T (high : Int) (harts : Int) (counts : Int) (dv : Int) (b : Mo.Bd) (n : Nat) (rs : List (List Int)) (K : S → List Ob → Prop) : Prop := Mo.RdWire_1_pre harts b ∧ K (.tup []) (h_BD harts counts dv (Mo.RdWire_1_v1 high b) n rs)
theorem RdWire_1_all (high : Int) (harts : Int) (counts : Int) (dv : Int) (b : Mo.Bd) (n : Nat) (rs : List (List Int)) (K : S → List Ob → Prop) (h : RdWire_1_T high harts counts dv b n rs K) : RdWire_1_tree high harts counts dv b n rs K := by
  unfold RdWire_1_T at h; obtain ⟨h0, h⟩ := h; unfold RdWire_1_tree
  try simp only [Mo.RdWire_1_v1] at h0 h
  try simp only [Mo.RdWire_1_pre] at h0 h
  repeat' (first | (refine ite_intro (fun c => ?_) (fun c => ?_) <;> first | simp only [if_pos c] at h0 h | simp only [if_neg c] at h0 h | skip) | with_reducible (replace h0 := (h0 : True ∧ _).2) | with_reducible (refine ⟨rfl, ?_⟩) | with_reducible (refine ⟨h0.1, ?_⟩; replace h0 := h0.2) | with_reducible (refine ⟨h0, ?_⟩) | (refine ⟨h0.1, ?_⟩; replace h0 := h0.2) | refine ⟨h0, ?_⟩ | refine ⟨rfl, ?_⟩ | refine ⟨trivial, ?_⟩ | refine ⟨by assumption, ?_⟩ | refine ⟨Eq.symm (by assumption), ?_⟩ | exact h | refine ⟨?_, ?_⟩ | exact h0.elim | trivial | contradiction | (simp only [if_true, if_false, Bool.false_eq_true] at h; exact h))
theorem RdWire_1_step (high : Int) (harts : Int) (counts : Int) (dv : Int) (b : Mo.Bd) (n : Nat) (rs : List (List Int)) (K : S → List Ob → Prop) (h : RdWire_1_T high harts counts dv b n rs K) : dWire_L1 high harts counts dv b n rs K := roundX_ok tok (by kernel_rfl) ffLpCok stopLpC_ok (Eq.mpr (RdWire_1_run high harts counts dv b n rs K) (RdWire_1_all high harts counts dv b n rs K h))
noncomputable def Mo.dWire_p1 (harts : Int) (b : Mo.Bd) : Prop := (Mo.RdWire_1_pre harts b)
noncomputable def Mo.dWire_f18_1 (high : Int) (b : Mo.Bd) : Mo.Bd := (Mo.RdWire_1_v1 high b)
theorem dWire_c1 (high : Int) (harts : Int) (counts : Int) (dv : Int) (b : Mo.Bd) (n : Nat) (rs : List (List Int)) (K : S → List Ob → Prop) (h0 : (Mo.dWire_p1 harts b)) (h : K (.tup []) (h_BD harts counts dv (Mo.dWire_f18_1 high b) n rs)) : dWire_L1 high harts counts dv b n rs K := by
  unfold Mo.dWire_p1 at h0
  refine RdWire_1_step high harts counts dv b n rs K ?_
  unfold RdWire_1_T
  refine ⟨h0, ?_⟩
  try unfold Mo.dWire_f18_1 at h
  exact h
noncomputable def Mo.dWire_p0 (harts : Int) (b : Mo.Bd) : Prop := (Mo.RdWire_0_pre harts b) ∧ (if (Mo.RdWire_0_g1 harts) = true then (Mo.dWire_p1 harts b) else True)
noncomputable def Mo.dWire_f18_0 (high : Int) (harts : Int) (b : Mo.Bd) : Mo.Bd := (if (Mo.RdWire_0_g1 harts) = true then (Mo.dWire_f18_1 (Mo.RdWire_0_v1 high b) b) else (Mo.RdWire_0_v2 high b))
theorem dWire_c0 (high : Int) (harts : Int) (counts : Int) (dv : Int) (b : Mo.Bd) (n : Nat) (rs : List (List Int)) (K : S → List Ob → Prop) (h0 : (Mo.dWire_p0 harts b)) (h : K (.tup []) (h_BD harts counts dv (Mo.dWire_f18_0 high harts b) n rs)) : dWire_L0 high harts counts dv b n rs K := by
  unfold Mo.dWire_p0 at h0
  refine RdWire_0_step high harts counts dv b n rs K ?_
  unfold RdWire_0_T
  refine ⟨h0.1, ?_⟩
  replace h0 := h0.2
  try unfold Mo.dWire_f18_0 at h
  by_cases hg0 : (Mo.RdWire_0_g1 harts) = true
  · simp only [if_pos hg0] at h0 h ⊢
    exact dWire_c1 _ _ _ _ _ _ _ K h0 h
  simp only [if_neg hg0] at h0 h ⊢
  exact h
noncomputable def Mo.dWire_p (harts : Int) (b : Mo.Bd) (n : Nat) : Prop := (Mo.dWire_pre b n) ∧ (Mo.dWire_p0 harts b)
noncomputable def Mo.dWire_f18 (harts : Int) (b : Mo.Bd) (n : Nat) : Mo.Bd := (Mo.dWire_f18_0 (slw (Mo.nWLine_f1 n (Mo.Bd.n b)) 8) harts b)
theorem dWire_com (harts : Int) (counts : Int) (dv : Int) (b : Mo.Bd) (n : Nat) (rs : List (List Int)) (K : S → List Ob → Prop) (h0 : (Mo.dWire_p harts b n)) (h : K (.tup []) (h_BD harts counts dv (Mo.dWire_f18 harts b n) n rs)) : dWire_T harts counts dv b n rs K := by
  unfold Mo.dWire_p at h0
  unfold dWire_T
  refine ⟨h0.1, ?_⟩
  replace h0 := h0.2
  try unfold Mo.dWire_f18 at h
  exact dWire_c0 _ _ _ _ _ _ _ K h0 h
noncomputable def dWire_J (harts : Int) (counts : Int) (dv : Int) (b : Mo.Bd) (n : Nat) (rs : List (List Int)) (K : S → List Ob → Prop) : Prop := (Mo.dWire_p harts b n) ∧ K (.tup []) (h_BD harts counts dv (Mo.dWire_f18 harts b n) n rs)
theorem dWire_jsem (harts : Int) (counts : Int) (dv : Int) (b : Mo.Bd) (n : Nat) (rs : List (List Int)) (K : S → List Ob → Prop) (h : dWire_J harts counts dv b n rs K) : CallSem noW Tryz.prog 116 [.ptr 0 (.l 0)] (h_BD harts counts dv b n rs) K := dWire_sem harts counts dv b n rs K (dWire_com harts counts dv b n rs K h.1 h.2)
noncomputable def dWire_con : Con := ⟨[.ptr 0], t_BD, [], fun a K => match a with | ⟨[harts, counts, dv, (.ofNat n), (.ofNat q1)], [q2], [], [cs_b_k, cs_b_w, cs_b_t, cs_b_r, cs_b_l, cs_b_n_c0], [rs]⟩ => (match Mo.Cl.is cs_b_k with | true => (match Mo.Wd.is cs_b_w with | true => (match Mo.Rt.is cs_b_t with | true => (match Mo.Rs.is cs_b_r with | true => (match Mo.Ln.is cs_b_l with | true => (match Mo.Cnt.is cs_b_n_c0 with | true => (q1 = n ∧ (q2 = (iL 0 (castI n)) ∧ dWire_J harts counts dv (Mo.Bd.mk (Mo.Cl.of cs_b_k) (Mo.Wd.of cs_b_w) (Mo.Rt.of cs_b_t) (Mo.Rs.of cs_b_r) (Mo.Ln.of cs_b_l) (Mo.Bk.mk (Mo.Cnt.of cs_b_n_c0))) n rs K)) | false => False) | false => False) | false => False) | false => False) | false => False) | false => False) | _ => False⟩
theorem dWire_ok : dWire_con.ok noW Tryz.prog 116 := by
  intro a K h
  simp only [dWire_con] at h
  split at h
  case h_2 => exact h.elim
  split at h
  case h_2 => exact h.elim
  rename_i is_b_k
  split at h
  case h_2 => exact h.elim
  rename_i is_b_w
  split at h
  case h_2 => exact h.elim
  rename_i is_b_t
  split at h
  case h_2 => exact h.elim
  rename_i is_b_r
  split at h
  case h_2 => exact h.elim
  rename_i is_b_l
  split at h
  case h_2 => exact h.elim
  rename_i is_b_n_c0
  obtain ⟨rfl, h⟩ := h
  obtain ⟨rfl, h⟩ := h
  exact CallSem.objs (dWire_jsem _ _ _ _ _ _ K h) (fun _ _ _ h => h) ⟨WkO.same, WkO.cells (Mo.Cl.is_ok is_b_k), WkO.same, WkO.cells (Mo.Wd.is_ok is_b_w), WkO.cells (Mo.Rt.is_ok is_b_t), WkO.cells (Mo.Rs.is_ok is_b_r), WkO.cells (Mo.Ln.is_ok is_b_l), WkO.same, WkO.same, WkO.same, WkO.same, WkO.opt (Mo.Cnt.is_ok is_b_n_c0), trivial⟩
noncomputable def hm_LpD_1 (x1 : Int) (x2 : Int) (x3 : Int) (x4 : List (List Int)) (x5 : Mo.Bd) (x6 : Nat) : List Ob := [(.cells 131 [(.ptr 1 (.l 0)), (.ptr 2 (.l 0)), (.ptr 3 (.l 0)), (.ptr 4 (.l 0)), (.ptr 5 (.l 0)), (.ptr 6 (.l 0)), (.ptr 7 (.l 0)), (.iv .i64 x1), (.iv .i64 x2), (.iv .u32 x3), (.nsl 12 (.v (lenR x4)) false false)]), (.cells 183 (Mo.Cl.cells (Mo.Bd.k x5))), (.cells 188 [(.tsl 9 (.v x6) 1)]), (.cells 194 (Mo.Wd.cells (Mo.Bd.w x5))), (.cells 190 (Mo.Rt.cells (Mo.Bd.t x5))), (.cells 200 (Mo.Rs.cells (Mo.Bd.r x5))), (.cells 204 (Mo.Ln.cells (Mo.Bd.l x5))), (.cells 227 [(.mp 10)]), .dead, (.rowT 185 1 x6 [(.ptr 11 (.l 0))]), (.mapo [(.agg [(.il .u32 33554432), (.il .u32 49152)]), (.agg [(.il .u32 268500992), (.il .u32 256)]), (.agg [(.il .u32 268566528), (.il .u32 20)]), (.agg [(.il .u32 268632064), (.il .u32 16)]), (.agg [(.il .u32 268697600), (.il .u32 36)]), (.agg [(.il .u32 268763136), (.il .u32 12)])] [(.ifc 107 (.ptr 1 (.l 0))), (.ifc 110 (.ptr 2 (.l 0))), (.ifc 119 (.ptr 3 (.l 0))), (.ifc 125 (.ptr 5 (.l 0))), (.ifc 44 (.ptr 4 (.l 0))), (.ifc 127 (.ptr 6 (.l 0)))]), (.opt (iL 0 (castI x6)) 246 (Mo.Cnt.cells (Mo.Bk.c0 (Mo.Bd.n x5)))), (.nrow 73 [.i .u64, .i .i64] x4)]
noncomputable def Mo.dReset_v1 (cause : Int) (b : Mo.Bd) (rs : List (List Int)) : List (List Int) := (if ((stdQ QO.not (Mo.rLatch_v1 cause) (Mo.rLatch_v1 cause)) = true) then rs else (apI rs (((Mo.Cl.time (Mo.kReset_v1 (Mo.Bd.k b))) :: (cause :: List.nil)) :: List.nil)))
noncomputable def Mo.dReset_v2 (cause : Int) (b : Mo.Bd) (n : Nat) : Mo.Bd := (if ((stdQ QO.not (Mo.rLatch_v1 cause) (Mo.rLatch_v1 cause)) = true) then { b with r := (Mo.rLatch_v2 cause (Mo.Bd.r b)) } else (Mo.Bd.mk (Mo.kReset_v1 (Mo.Bd.k b)) (Mo.wReset_v1) (Mo.tReset_v1 (Mo.Bd.t b)) (Mo.rLatch_v2 cause (Mo.Bd.r b)) (Mo.lReset_v1 (Mo.Bd.l b)) (Mo.nReset_f2 n (Mo.Bd.n b))))
noncomputable def Mo.dReset_pre (cause : Int) (b : Mo.Bd) (n : Nat) (rs : List (List Int)) : Prop := (if ((stdQ QO.not (Mo.rLatch_v1 cause) (Mo.rLatch_v1 cause)) = true) then True else ((Mo.nReset_p n) ∧ (if ((iM (castI (stdN NO.mul (lenR (apI rs (((Mo.Cl.time (Mo.kReset_v1 (Mo.Bd.k b))) :: (cause :: List.nil)) :: List.nil))) (16 + 1))) 140737488355328) = true) then True else False)))
noncomputable def dReset_tree (cause : Int) (harts : Int) (counts : Int) (dv : Int) (b : Mo.Bd) (n : Nat) (rs : List (List Int)) (K : S → List Ob → Prop) : Prop := (True ∧ (if ((stdQ QO.not (Mo.rLatch_v1 cause) (Mo.rLatch_v1 cause)) = true) then K (.tup []) (hm_LpD_1 harts counts dv rs { b with r := (Mo.rLatch_v2 cause (Mo.Bd.r b)) } n) else (True ∧ ((n = n) ∧ (((iL 0 (castI n)) = (iL 0 (castI n))) ∧ ((Mo.nReset_p n) ∧ (True ∧ (True ∧ (True ∧ (True ∧ (((some (S.nsl 8 (NN.v (lenR rs)) false false)) = (some (S.nsl 8 (NN.v (lenR rs)) false false))) ∧ (((some (S.nsl 8 (NN.v (lenR rs)) false false)) = (some (S.nsl 8 (NN.v (lenR rs)) false false))) ∧ (if ((iM (castI (stdN NO.mul (lenR (apI rs (((Mo.Cl.time (Mo.kReset_v1 (Mo.Bd.k b))) :: (cause :: List.nil)) :: List.nil))) (16 + 1))) 140737488355328) = true) then K (.tup []) (hm_LpD_1 harts counts dv (apI rs (((Mo.Cl.time (Mo.kReset_v1 (Mo.Bd.k b))) :: (cause :: List.nil)) :: List.nil)) (Mo.Bd.mk (Mo.kReset_v1 (Mo.Bd.k b)) (Mo.wReset_v1) (Mo.tReset_v1 (Mo.Bd.t b)) (Mo.rLatch_v2 cause (Mo.Bd.r b)) (Mo.lReset_v1 (Mo.Bd.l b)) (Mo.nReset_f2 n (Mo.Bd.n b))) n) else False)))))))))))))
theorem dReset_run (cause : Int) (harts : Int) (counts : Int) (dv : Int) (b : Mo.Bd) (n : Nat) (rs : List (List Int)) (K : S → List Ob → Prop) : callX (std noW) tt ffLpC stopLpC (lpB noW Tryz.prog) noL 100 124 [.ptr 0 (.l 0), .iv .i64 cause] (h_BD harts counts dv b n rs) (gcK 12 (nilK none (mvsK [8] (optK (o_BD n) (ivK false K))))) = dReset_tree cause harts counts dv b n rs K := by kernel_rfl
noncomputable def dReset_T (cause : Int) (harts : Int) (counts : Int) (dv : Int) (b : Mo.Bd) (n : Nat) (rs : List (List Int)) (K : S → List Ob → Prop) : Prop := Mo.dReset_pre cause b n rs ∧ K (.tup []) (hm_LpD_1 harts counts dv (Mo.dReset_v1 cause b rs) (Mo.dReset_v2 cause b n) n)
theorem dReset_all (cause : Int) (harts : Int) (counts : Int) (dv : Int) (b : Mo.Bd) (n : Nat) (rs : List (List Int)) (K : S → List Ob → Prop) (h : dReset_T cause harts counts dv b n rs K) : dReset_tree cause harts counts dv b n rs K := by
  unfold dReset_T at h; obtain ⟨h0, h⟩ := h; unfold dReset_tree
  try simp only [Mo.dReset_v1] at h0 h
  try simp only [Mo.dReset_v2] at h0 h
  try simp only [Mo.dReset_pre] at h0 h
  repeat' (first | (refine ite_intro (fun c => ?_) (fun c => ?_) <;> first | simp only [if_pos c] at h0 h | simp only [if_neg c] at h0 h | skip) | with_reducible (replace h0 := (h0 : True ∧ _).2) | with_reducible (refine ⟨rfl, ?_⟩) | with_reducible (refine ⟨h0.1, ?_⟩; replace h0 := h0.2) | with_reducible (refine ⟨h0, ?_⟩) | (refine ⟨h0.1, ?_⟩; replace h0 := h0.2) | refine ⟨h0, ?_⟩ | refine ⟨rfl, ?_⟩ | refine ⟨trivial, ?_⟩ | refine ⟨by assumption, ?_⟩ | refine ⟨Eq.symm (by assumption), ?_⟩ | exact h | refine ⟨?_, ?_⟩ | exact h0.elim | trivial | contradiction | (simp only [if_true, if_false, Bool.false_eq_true] at h; exact h))
theorem dReset_sem (cause : Int) (harts : Int) (counts : Int) (dv : Int) (b : Mo.Bd) (n : Nat) (rs : List (List Int)) (K : S → List Ob → Prop) (h : dReset_T cause harts counts dv b n rs K) : CallSem noW Tryz.prog 124 [.ptr 0 (.l 0), .iv .i64 cause] (h_BD harts counts dv b n rs) K := all_call (callX_ok tok (by kernel_rfl) ffLpCok stopLpC_ok _ _ _ _ (Eq.mpr (dReset_run cause harts counts dv b n rs K) (dReset_all cause harts counts dv b n rs K h)))
noncomputable def dReset_con : Con := ⟨[.ptr 0, .int .i64], t_BD, [], fun a K => match a with | ⟨[cause, harts, counts, dv, (.ofNat n), (.ofNat q1)], [q2], [], [cs_b_k, cs_b_w, cs_b_t, cs_b_r, cs_b_l, cs_b_n_c0], [rs]⟩ => (match Mo.Cl.is cs_b_k with | true => (match Mo.Wd.is cs_b_w with | true => (match Mo.Rt.is cs_b_t with | true => (match Mo.Rs.is cs_b_r with | true => (match Mo.Ln.is cs_b_l with | true => (match Mo.Cnt.is cs_b_n_c0 with | true => (q1 = n ∧ (q2 = (iL 0 (castI n)) ∧ dReset_T cause harts counts dv (Mo.Bd.mk (Mo.Cl.of cs_b_k) (Mo.Wd.of cs_b_w) (Mo.Rt.of cs_b_t) (Mo.Rs.of cs_b_r) (Mo.Ln.of cs_b_l) (Mo.Bk.mk (Mo.Cnt.of cs_b_n_c0))) n rs K)) | false => False) | false => False) | false => False) | false => False) | false => False) | false => False) | _ => False⟩
theorem dReset_ok : dReset_con.ok noW Tryz.prog 124 := by
  intro a K h
  simp only [dReset_con] at h
  split at h
  case h_2 => exact h.elim
  split at h
  case h_2 => exact h.elim
  rename_i is_b_k
  split at h
  case h_2 => exact h.elim
  rename_i is_b_w
  split at h
  case h_2 => exact h.elim
  rename_i is_b_t
  split at h
  case h_2 => exact h.elim
  rename_i is_b_r
  split at h
  case h_2 => exact h.elim
  rename_i is_b_l
  split at h
  case h_2 => exact h.elim
  rename_i is_b_n_c0
  obtain ⟨rfl, h⟩ := h
  obtain ⟨rfl, h⟩ := h
  exact CallSem.objs (dReset_sem _ _ _ _ _ _ _ K h) (fun _ _ _ h => h) ⟨WkO.same, WkO.cells (Mo.Cl.is_ok is_b_k), WkO.same, WkO.cells (Mo.Wd.is_ok is_b_w), WkO.cells (Mo.Rt.is_ok is_b_t), WkO.cells (Mo.Rs.is_ok is_b_r), WkO.cells (Mo.Ln.is_ok is_b_l), WkO.same, WkO.same, WkO.same, WkO.same, WkO.opt (Mo.Cnt.is_ok is_b_n_c0), trivial⟩
noncomputable def tabLpD (n : Nat) : List Con := match Nat.beq n 91 with | true => [uStore_con] | false => match Nat.beq n 129 with | true => [uLoad_con] | false => match Nat.beq n 116 with | true => [dWire_con] | false => match Nat.beq n 124 with | true => [dReset_con] | false => tabLpC n
theorem tabLpD_ok : ∀ f, ∀ c ∈ tabLpD f, c.ok noW Tryz.prog f := by
  intro f c hc
  unfold tabLpD at hc
  split at hc
  · rename_i hf; have := Nat.eq_of_beq_eq_true hf; subst this
    simp only [List.mem_cons, List.not_mem_nil, or_false] at hc
    subst hc; exact uStore_ok
  split at hc
  · rename_i hf; have := Nat.eq_of_beq_eq_true hf; subst this
    simp only [List.mem_cons, List.not_mem_nil, or_false] at hc
    subst hc; exact uLoad_ok
  split at hc
  · rename_i hf; have := Nat.eq_of_beq_eq_true hf; subst this
    simp only [List.mem_cons, List.not_mem_nil, or_false] at hc
    subst hc; exact dWire_ok
  split at hc
  · rename_i hf; have := Nat.eq_of_beq_eq_true hf; subst this
    simp only [List.mem_cons, List.not_mem_nil, or_false] at hc
    subst hc; exact dReset_ok
  exact tabLpC_ok f c hc
noncomputable def ffLpD (n : Nat) : Option FI := match Nat.beq n 91 with | true => none | false => match Nat.beq n 129 with | true => none | false => match Nat.beq n 116 with | true => none | false => match Nat.beq n 124 with | true => none | false => ffLpC n
theorem ffLpDok : FOk Tryz.prog ffLpD := fun f fi hf => by
  unfold ffLpD at hf
  split at hf
  · cases hf
  split at hf
  · cases hf
  split at hf
  · cases hf
  split at hf
  · cases hf
  exact ffLpCok f fi hf
noncomputable def stopLpD : CallT := stopC tabLpD stopB
theorem stopLpD_ok : ∀ f args h K, stopLpD f args h K → CallSem noW Tryz.prog f args h K := stopC_ok tabLpD_ok stopB_ok
end Go.SX.Y
