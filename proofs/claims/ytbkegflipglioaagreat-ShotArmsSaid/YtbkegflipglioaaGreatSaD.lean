/- What Go functions come to (lifted). -/
import Derived.Test.YtbkegflipglioaaGreatSaC
set_option maxRecDepth 20000
namespace Go.SX.Y
open Go.Proofs Go.RowKit
noncomputable def h_U1 (b : Mo.Bd) : List Ob := [.cells 227 [.mp 1], .mapo [.agg [.il .u32 33554432, .il .u32 49152], .agg [.il .u32 268500992, .il .u32 256], .agg [.il .u32 268566528, .il .u32 20], .agg [.il .u32 268632064, .il .u32 16], .agg [.il .u32 268697600, .il .u32 36], .agg [.il .u32 268763136, .il .u32 12]] [.ifc 107 (.ptr 2 (.l 0)), .ifc 110 (.ptr 3 (.l 0)), .ifc 119 (.ptr 4 (.l 0)), .ifc 125 (.ptr 5 (.l 0)), .ifc 44 (.ptr 6 (.l 0)), .ifc 127 (.ptr 7 (.l 0))], .cells 183 (Mo.Cl.cells (Mo.Bd.k b)), .cells 188 [.sli 8 (.l 0) (.l 1) (.lit (.l 1)) false], .cells 194 (Mo.Wd.cells (Mo.Bd.w b)), .cells 200 (Mo.Rs.cells (Mo.Bd.r b)), .cells 190 (Mo.Rt.cells (Mo.Bd.t b)), .cells 204 (Mo.Ln.cells (Mo.Bd.l b)), .row 185 1 (.l 1) [.ptr 9 (.l 0)], .cells 246 (Mo.Cnt.cells (Mo.Bd.c b))]
def t_U1 : List OTm := [.cells 227 [.mp 1], .mapo [.agg [.same (.il .u32 33554432), .same (.il .u32 49152)], .agg [.same (.il .u32 268500992), .same (.il .u32 256)], .agg [.same (.il .u32 268566528), .same (.il .u32 20)], .agg [.same (.il .u32 268632064), .same (.il .u32 16)], .agg [.same (.il .u32 268697600), .same (.il .u32 36)], .agg [.same (.il .u32 268763136), .same (.il .u32 12)]] [.ifc 107 (.ptr 2), .ifc 110 (.ptr 3), .ifc 119 (.ptr 4), .ifc 125 (.ptr 5), .ifc 44 (.ptr 6), .ifc 127 (.ptr 7)], .cellsV 183, .cells 188 [.same (.sli 8 (.l 0) (.l 1) (.lit (.l 1)) false)], .cellsV 194, .cellsV 200, .cellsV 190, .cellsV 204, .row 185 1 1 [.ptr 9], .cellsV 246]
noncomputable def h_BD (harts : Int) (dv : Int) (b : Mo.Bd) : List Ob := [.cells 131 [.ptr 1 (.l 0), .ptr 2 (.l 0), .ptr 3 (.l 0), .ptr 4 (.l 0), .ptr 5 (.l 0), .ptr 6 (.l 0), .ptr 7 (.l 0), .iv .i64 harts, .iv .i64 1, .iv .u32 dv, .raw (.slice none 0 0)], .cells 183 (Mo.Cl.cells (Mo.Bd.k b)), .cells 188 [.sli 8 (.l 0) (.l 1) (.lit (.l 1)) false], .cells 194 (Mo.Wd.cells (Mo.Bd.w b)), .cells 190 (Mo.Rt.cells (Mo.Bd.t b)), .cells 200 (Mo.Rs.cells (Mo.Bd.r b)), .cells 204 (Mo.Ln.cells (Mo.Bd.l b)), .cells 227 [.mp 9], .row 185 1 (.l 1) [.ptr 10 (.l 0)], .mapo [.agg [.il .u32 33554432, .il .u32 49152], .agg [.il .u32 268500992, .il .u32 256], .agg [.il .u32 268566528, .il .u32 20], .agg [.il .u32 268632064, .il .u32 16], .agg [.il .u32 268697600, .il .u32 36], .agg [.il .u32 268763136, .il .u32 12]] [.ifc 107 (.ptr 1 (.l 0)), .ifc 110 (.ptr 2 (.l 0)), .ifc 119 (.ptr 3 (.l 0)), .ifc 125 (.ptr 5 (.l 0)), .ifc 44 (.ptr 4 (.l 0)), .ifc 127 (.ptr 6 (.l 0))], .cells 246 (Mo.Cnt.cells (Mo.Bd.c b))]
def t_BD : List OTm := [.cells 131 [.ptr 1, .ptr 2, .ptr 3, .ptr 4, .ptr 5, .ptr 6, .ptr 7, .int .i64, .eqI .i64 1, .int .u32, .same (.raw (.slice none 0 0))], .cellsV 183, .cells 188 [.same (.sli 8 (.l 0) (.l 1) (.lit (.l 1)) false)], .cellsV 194, .cellsV 190, .cellsV 200, .cellsV 204, .cells 227 [.mp 9], .row 185 1 1 [.ptr 10], .mapo [.agg [.same (.il .u32 33554432), .same (.il .u32 49152)], .agg [.same (.il .u32 268500992), .same (.il .u32 256)], .agg [.same (.il .u32 268566528), .same (.il .u32 20)], .agg [.same (.il .u32 268632064), .same (.il .u32 16)], .agg [.same (.il .u32 268697600), .same (.il .u32 36)], .agg [.same (.il .u32 268763136), .same (.il .u32 12)]] [.ifc 107 (.ptr 1), .ifc 110 (.ptr 2), .ifc 119 (.ptr 3), .ifc 125 (.ptr 5), .ifc 44 (.ptr 4), .ifc 127 (.ptr 6)], .cellsV 246]
noncomputable def ffDSaD (n : Nat) : Option FI := match Nat.beq n 220 with | true => none | false => match Nat.beq n 229 with | true => none | false => match Nat.beq n 209 with | true => none | false => match Nat.beq n 236 with | true => none | false => match Nat.beq n 240 with | true => none | false => ffSaC n
theorem ffDSaDok : FOk Tryz.prog ffDSaD := fun f fi hf => by
  unfold ffDSaD at hf
  split at hf
  · cases hf
  split at hf
  · cases hf
  split at hf
  · cases hf
  split at hf
  · cases hf
  split at hf
  · cases hf
  exact ffSaCok f fi hf
noncomputable def Mo.uStore_v1 (addr : Int) (v : Int) (b : Mo.Bd) : Mo.Bd := { b with k := (Mo.kStore_v2 (sbw addr 33554432) v (Mo.Bd.k b)) }
noncomputable def Mo.uStore_pre (addr : Int) (b : Mo.Bd) : Prop := (if ((iN (rmw addr 4) 0) = true) then False else (if ((iL (cvq (maw 33554432 addr) 0) (miq 33603584 (miq (adq (cvq addr 0) 1) 4294967296))) = true) then (Mo.kStore_pre (sbw addr 33554432) (Mo.Bd.k b)) else False))
noncomputable def uStore_tree (addr : Int) (v : Int) (b : Mo.Bd) (K : S → List Ob → Prop) : Prop := (if ((iN (rmw addr 4) 0) = true) then K (.il .i64 11) (h_U1 b) else (((some (S.agg ((S.iv IntKind.u32 addr) :: ((S.il IntKind.u32 1) :: List.nil)))) = (some (S.agg ((S.iv IntKind.u32 addr) :: ((S.il IntKind.u32 1) :: List.nil))))) ∧ (((some (S.iv IntKind.u32 addr)) = (some (S.iv IntKind.u32 addr))) ∧ (((some (S.iv IntKind.u32 addr)) = (some (S.iv IntKind.u32 addr))) ∧ (if ((iL (cvq (maw 33554432 addr) 0) (miq 33603584 (miq (adq (cvq addr 0) 1) 4294967296))) = true) then ((Mo.kStore_pre (sbw addr 33554432) (Mo.Bd.k b)) ∧ K (.iv .i64 (Mo.kStore_v1 (sbw addr 33554432) (Mo.Bd.k b))) (h_U1 { b with k := (Mo.kStore_v2 (sbw addr 33554432) v (Mo.Bd.k b)) })) else (((some (S.agg ((S.iv IntKind.u32 addr) :: ((S.il IntKind.u32 1) :: List.nil)))) = (some (S.agg ((S.iv IntKind.u32 addr) :: ((S.il IntKind.u32 1) :: List.nil))))) ∧ (((some (S.iv IntKind.u32 addr)) = (some (S.iv IntKind.u32 addr))) ∧ (((some (S.iv IntKind.u32 addr)) = (some (S.iv IntKind.u32 addr))) ∧ (if ((iL (cvq (maw 268500992 addr) 0) (miq 268501248 (miq (adq (cvq addr 0) 1) 4294967296))) = true) then False else (((some (S.agg ((S.iv IntKind.u32 addr) :: ((S.il IntKind.u32 1) :: List.nil)))) = (some (S.agg ((S.iv IntKind.u32 addr) :: ((S.il IntKind.u32 1) :: List.nil))))) ∧ (((some (S.iv IntKind.u32 addr)) = (some (S.iv IntKind.u32 addr))) ∧ (((some (S.iv IntKind.u32 addr)) = (some (S.iv IntKind.u32 addr))) ∧ (if ((iL (cvq (maw 268566528 addr) 0) (miq 268566548 (miq (adq (cvq addr 0) 1) 4294967296))) = true) then False else (((some (S.agg ((S.iv IntKind.u32 addr) :: ((S.il IntKind.u32 1) :: List.nil)))) = (some (S.agg ((S.iv IntKind.u32 addr) :: ((S.il IntKind.u32 1) :: List.nil))))) ∧ (((some (S.iv IntKind.u32 addr)) = (some (S.iv IntKind.u32 addr))) ∧ (((some (S.iv IntKind.u32 addr)) = (some (S.iv IntKind.u32 addr))) ∧ (if ((iL (cvq (maw 268632064 addr) 0) (miq 268632080 (miq (adq (cvq addr 0) 1) 4294967296))) = true) then False else (((some (S.agg ((S.iv IntKind.u32 addr) :: ((S.il IntKind.u32 1) :: List.nil)))) = (some (S.agg ((S.iv IntKind.u32 addr) :: ((S.il IntKind.u32 1) :: List.nil))))) ∧ (((some (S.iv IntKind.u32 addr)) = (some (S.iv IntKind.u32 addr))) ∧ (((some (S.iv IntKind.u32 addr)) = (some (S.iv IntKind.u32 addr))) ∧ (if ((iL (cvq (maw 268697600 addr) 0) (miq 268697636 (miq (adq (cvq addr 0) 1) 4294967296))) = true) then False else (((some (S.agg ((S.iv IntKind.u32 addr) :: ((S.il IntKind.u32 1) :: List.nil)))) = (some (S.agg ((S.iv IntKind.u32 addr) :: ((S.il IntKind.u32 1) :: List.nil))))) ∧ (((some (S.iv IntKind.u32 addr)) = (some (S.iv IntKind.u32 addr))) ∧ (((some (S.iv IntKind.u32 addr)) = (some (S.iv IntKind.u32 addr))) ∧ (if ((iL (cvq (maw 268763136 addr) 0) (miq 268763148 (miq (adq (cvq addr 0) 1) 4294967296))) = true) then False else K (.il .i64 10) (h_U1 b))))))))))))))))))))))))))
theorem uStore_run (addr : Int) (v : Int) (b : Mo.Bd) (K : S → List Ob → Prop) : callX (std noW) tt ffDSaD stopSaC (lpB noW Tryz.prog) noL 100 91 [.ptr 0 (.l 0), .iv .u32 addr, .iv .u32 v] (h_U1 b) (gcK 10 (ivK false K)) = uStore_tree addr v b K := by kernel_rfl
noncomputable def uStore_T (addr : Int) (v : Int) (b : Mo.Bd) (K : S → List Ob → Prop) : Prop := Mo.uStore_pre addr b ∧ K (.iv .i64 (Mo.kStore_v1 (sbw addr 33554432) (Mo.Bd.k b))) (h_U1 (Mo.uStore_v1 addr v b))
theorem uStore_all (addr : Int) (v : Int) (b : Mo.Bd) (K : S → List Ob → Prop) (h : uStore_T addr v b K) : uStore_tree addr v b K := by
  unfold uStore_T at h; obtain ⟨h0, h⟩ := h; unfold uStore_tree
  try simp only [Mo.uStore_v1] at h0 h
  try simp only [Mo.uStore_pre] at h0 h
  repeat' first | exact h | refine ⟨rfl, ?_⟩ | (refine ⟨h0.1, ?_⟩; replace h0 := h0.2) | refine ⟨h0, ?_⟩ | exact h0.elim | (refine ite_intro (fun c => ?_) fun c => ?_) <;> first | simp only [if_pos c] at h0 h | simp only [if_neg c] at h0 h | skip
theorem uStore_sem (addr : Int) (v : Int) (b : Mo.Bd) (K : S → List Ob → Prop) (h : uStore_T addr v b K) : CallSem noW Tryz.prog 91 [.ptr 0 (.l 0), .iv .u32 addr, .iv .u32 v] (h_U1 b) K := iv_call (callX_ok tok (by kernel_rfl) ffDSaDok stopSaC_ok _ _ _ _ (Eq.mpr (uStore_run addr v b K) (uStore_all addr v b K h)))
noncomputable def uStore_con : Con := ⟨[.ptr 0, .int .u32, .int .u32], t_U1, [], fun a K => match a with | ⟨[addr, v], [], [], [cs_b_k, cs_b_w, cs_b_r, cs_b_t, cs_b_l, cs_b_c], []⟩ => (match Mo.Cl.is cs_b_k with | true => (match Mo.Wd.is cs_b_w with | true => (match Mo.Rs.is cs_b_r with | true => (match Mo.Rt.is cs_b_t with | true => (match Mo.Ln.is cs_b_l with | true => (match Mo.Cnt.is cs_b_c with | true => uStore_T addr v (Mo.Bd.mk (Mo.Cl.of cs_b_k) (Mo.Wd.of cs_b_w) (Mo.Rt.of cs_b_t) (Mo.Rs.of cs_b_r) (Mo.Ln.of cs_b_l) (Mo.Cnt.of cs_b_c)) K | false => False) | false => False) | false => False) | false => False) | false => False) | false => False) | _ => False⟩
theorem uStore_ok : uStore_con.ok noW Tryz.prog 91 := by
  intro a K h
  simp only [uStore_con] at h
  split at h
  case h_2 => exact h.elim
  split at h
  case h_2 => exact h.elim
  rename_i is_b_k
  split at h
  case h_2 => exact h.elim
  rename_i is_b_w
  split at h
  case h_2 => exact h.elim
  rename_i is_b_r
  split at h
  case h_2 => exact h.elim
  rename_i is_b_t
  split at h
  case h_2 => exact h.elim
  rename_i is_b_l
  split at h
  case h_2 => exact h.elim
  rename_i is_b_c
  exact CallSem.objs (uStore_sem _ _ _ K h) (fun _ _ _ h => h) ⟨WkO.same, WkO.same, WkO.cells (Mo.Cl.is_ok is_b_k), WkO.same, WkO.cells (Mo.Wd.is_ok is_b_w), WkO.cells (Mo.Rs.is_ok is_b_r), WkO.cells (Mo.Rt.is_ok is_b_t), WkO.cells (Mo.Ln.is_ok is_b_l), WkO.same, WkO.cells (Mo.Cnt.is_ok is_b_c), trivial⟩
noncomputable def lcb_dWire_0 (tt : List Tm) : LCon := ⟨[true, false, true, false, false, false, false, false, false, false, false, false, false, false, false, true, true, false, false, false, false, false, false, false, false, false, false, false, false, false, false, false, false, false, false, false, false, false, false, false, false, false, false, false, false, false, false, false, false, false, false, false, false, false, false], [], tt, t_BD, []⟩
noncomputable def lc_dWire_0 : LCon := lcb_dWire_0 [.ptr 0, .junk, .int .u32, .junk, .junk, .junk, .junk, .junk, .junk, .junk, .junk, .junk, .junk, .junk, .junk, .int .i64, .same (.il .i64 0), .junk, .junk, .junk, .junk, .junk, .junk, .junk, .junk, .junk, .junk, .junk, .junk, .junk, .junk, .junk, .junk, .junk, .junk, .junk, .junk, .junk, .junk, .junk, .junk, .junk, .junk, .junk, .junk, .junk, .junk, .junk, .junk, .junk, .junk, .junk, .junk, .junk, .junk]
noncomputable def acc_dWire_0 (high : Int) (harts : Int) (dv : Int) (b : Mo.Bd) : Acc := ⟨[high, harts, harts, dv], [], [], [(Mo.Cl.cells (Mo.Bd.k b)), (Mo.Wd.cells (Mo.Bd.w b)), (Mo.Rt.cells (Mo.Bd.t b)), (Mo.Rs.cells (Mo.Bd.r b)), (Mo.Ln.cells (Mo.Bd.l b)), (Mo.Cnt.cells (Mo.Bd.c b))], []⟩
noncomputable def lc_dWire_1 : LCon := lcb_dWire_0 [.ptr 0, .junk, .int .u32, .junk, .junk, .junk, .junk, .junk, .junk, .junk, .junk, .junk, .junk, .junk, .junk, .int .i64, .same (.il .i64 1), .junk, .junk, .junk, .junk, .junk, .junk, .junk, .junk, .junk, .junk, .junk, .junk, .junk, .junk, .junk, .junk, .junk, .junk, .junk, .junk, .junk, .junk, .junk, .junk, .junk, .junk, .junk, .junk, .junk, .junk, .junk, .junk, .junk, .junk, .junk, .junk, .junk, .junk]
noncomputable def lc_dWire_2 : LCon := lcb_dWire_0 [.ptr 0, .junk, .int .u32, .junk, .junk, .junk, .junk, .junk, .junk, .junk, .junk, .junk, .junk, .junk, .junk, .int .i64, .same (.il .i64 2), .junk, .junk, .junk, .junk, .junk, .junk, .junk, .junk, .junk, .junk, .junk, .junk, .junk, .junk, .junk, .junk, .junk, .junk, .junk, .junk, .junk, .junk, .junk, .junk, .junk, .junk, .junk, .junk, .junk, .junk, .junk, .junk, .junk, .junk, .junk, .junk, .junk, .junk]
noncomputable def lc_dWire_3 : LCon := lcb_dWire_0 [.ptr 0, .junk, .int .u32, .junk, .junk, .junk, .junk, .junk, .junk, .junk, .junk, .junk, .junk, .junk, .junk, .int .i64, .same (.il .i64 3), .junk, .junk, .junk, .junk, .junk, .junk, .junk, .junk, .junk, .junk, .junk, .junk, .junk, .junk, .junk, .junk, .junk, .junk, .junk, .junk, .junk, .junk, .junk, .junk, .junk, .junk, .junk, .junk, .junk, .junk, .junk, .junk, .junk, .junk, .junk, .junk, .junk, .junk]
noncomputable def lc_dWire_4 : LCon := lcb_dWire_0 [.ptr 0, .junk, .int .u32, .junk, .junk, .junk, .junk, .junk, .junk, .junk, .junk, .junk, .junk, .junk, .junk, .int .i64, .same (.il .i64 4), .junk, .junk, .junk, .junk, .junk, .junk, .junk, .junk, .junk, .junk, .junk, .junk, .junk, .junk, .junk, .junk, .junk, .junk, .junk, .junk, .junk, .junk, .junk, .junk, .junk, .junk, .junk, .junk, .junk, .junk, .junk, .junk, .junk, .junk, .junk, .junk, .junk, .junk]
noncomputable def lc_dWire_5 : LCon := lcb_dWire_0 [.ptr 0, .junk, .int .u32, .junk, .junk, .junk, .junk, .junk, .junk, .junk, .junk, .junk, .junk, .junk, .junk, .int .i64, .same (.il .i64 5), .junk, .junk, .junk, .junk, .junk, .junk, .junk, .junk, .junk, .junk, .junk, .junk, .junk, .junk, .junk, .junk, .junk, .junk, .junk, .junk, .junk, .junk, .junk, .junk, .junk, .junk, .junk, .junk, .junk, .junk, .junk, .junk, .junk, .junk, .junk, .junk, .junk, .junk]
noncomputable def lc_dWire_6 : LCon := lcb_dWire_0 [.ptr 0, .junk, .int .u32, .junk, .junk, .junk, .junk, .junk, .junk, .junk, .junk, .junk, .junk, .junk, .junk, .int .i64, .same (.il .i64 6), .junk, .junk, .junk, .junk, .junk, .junk, .junk, .junk, .junk, .junk, .junk, .junk, .junk, .junk, .junk, .junk, .junk, .junk, .junk, .junk, .junk, .junk, .junk, .junk, .junk, .junk, .junk, .junk, .junk, .junk, .junk, .junk, .junk, .junk, .junk, .junk, .junk, .junk]
noncomputable def lc_dWire_7 : LCon := lcb_dWire_0 [.ptr 0, .junk, .int .u32, .junk, .junk, .junk, .junk, .junk, .junk, .junk, .junk, .junk, .junk, .junk, .junk, .int .i64, .same (.il .i64 7), .junk, .junk, .junk, .junk, .junk, .junk, .junk, .junk, .junk, .junk, .junk, .junk, .junk, .junk, .junk, .junk, .junk, .junk, .junk, .junk, .junk, .junk, .junk, .junk, .junk, .junk, .junk, .junk, .junk, .junk, .junk, .junk, .junk, .junk, .junk, .junk, .junk, .junk]
noncomputable def lc_dWire_8 : LCon := lcb_dWire_0 [.ptr 0, .junk, .int .u32, .junk, .junk, .junk, .junk, .junk, .junk, .junk, .junk, .junk, .junk, .junk, .junk, .int .i64, .same (.il .i64 8), .junk, .junk, .junk, .junk, .junk, .junk, .junk, .junk, .junk, .junk, .junk, .junk, .junk, .junk, .junk, .junk, .junk, .junk, .junk, .junk, .junk, .junk, .junk, .junk, .junk, .junk, .junk, .junk, .junk, .junk, .junk, .junk, .junk, .junk, .junk, .junk, .junk, .junk]
noncomputable def L_dWire : Nat → List LCon := fun k => match Nat.beq k (keyC (loopAt ffDSaD 116 0).2) with | true => [lc_dWire_0, lc_dWire_1, lc_dWire_2, lc_dWire_3, lc_dWire_4, lc_dWire_5, lc_dWire_6, lc_dWire_7, lc_dWire_8] | false => []
noncomputable def dWire_L0 (high : Int) (harts : Int) (dv : Int) (b : Mo.Bd) (K : S → List Ob → Prop) : Prop := lpF noW Tryz.prog tt ffDSaD stopSaC L_dWire 100 116 0 11 lc_dWire_0 (acc_dWire_0 high harts dv b) (gcK 11 (ivK false K))
noncomputable def dWire_L1 (high : Int) (harts : Int) (dv : Int) (b : Mo.Bd) (K : S → List Ob → Prop) : Prop := lpF noW Tryz.prog tt ffDSaD stopSaC L_dWire 100 116 0 11 lc_dWire_1 (acc_dWire_0 high harts dv b) (gcK 11 (ivK false K))
noncomputable def dWire_L2 (high : Int) (harts : Int) (dv : Int) (b : Mo.Bd) (K : S → List Ob → Prop) : Prop := lpF noW Tryz.prog tt ffDSaD stopSaC L_dWire 100 116 0 11 lc_dWire_2 (acc_dWire_0 high harts dv b) (gcK 11 (ivK false K))
noncomputable def dWire_L3 (high : Int) (harts : Int) (dv : Int) (b : Mo.Bd) (K : S → List Ob → Prop) : Prop := lpF noW Tryz.prog tt ffDSaD stopSaC L_dWire 100 116 0 11 lc_dWire_3 (acc_dWire_0 high harts dv b) (gcK 11 (ivK false K))
noncomputable def dWire_L4 (high : Int) (harts : Int) (dv : Int) (b : Mo.Bd) (K : S → List Ob → Prop) : Prop := lpF noW Tryz.prog tt ffDSaD stopSaC L_dWire 100 116 0 11 lc_dWire_4 (acc_dWire_0 high harts dv b) (gcK 11 (ivK false K))
noncomputable def dWire_L5 (high : Int) (harts : Int) (dv : Int) (b : Mo.Bd) (K : S → List Ob → Prop) : Prop := lpF noW Tryz.prog tt ffDSaD stopSaC L_dWire 100 116 0 11 lc_dWire_5 (acc_dWire_0 high harts dv b) (gcK 11 (ivK false K))
noncomputable def dWire_L6 (high : Int) (harts : Int) (dv : Int) (b : Mo.Bd) (K : S → List Ob → Prop) : Prop := lpF noW Tryz.prog tt ffDSaD stopSaC L_dWire 100 116 0 11 lc_dWire_6 (acc_dWire_0 high harts dv b) (gcK 11 (ivK false K))
noncomputable def dWire_L7 (high : Int) (harts : Int) (dv : Int) (b : Mo.Bd) (K : S → List Ob → Prop) : Prop := lpF noW Tryz.prog tt ffDSaD stopSaC L_dWire 100 116 0 11 lc_dWire_7 (acc_dWire_0 high harts dv b) (gcK 11 (ivK false K))
noncomputable def dWire_L8 (high : Int) (harts : Int) (dv : Int) (b : Mo.Bd) (K : S → List Ob → Prop) : Prop := lpF noW Tryz.prog tt ffDSaD stopSaC L_dWire 100 116 0 11 lc_dWire_8 (acc_dWire_0 high harts dv b) (gcK 11 (ivK false K))
noncomputable def Mo.dWire_pre (b : Mo.Bd) : Prop := (Mo.nLines_pre (Mo.Bd.c b))
noncomputable def dWire_tree (harts : Int) (dv : Int) (b : Mo.Bd) (K : S → List Ob → Prop) : Prop := ((Mo.nLines_pre (Mo.Bd.c b)) ∧ (((1 : Int) = 1) ∧ dWire_L0 (slw (Mo.nLines_v1 (Mo.Bd.c b)) 8) harts dv b K))
theorem dWire_run (harts : Int) (dv : Int) (b : Mo.Bd) (K : S → List Ob → Prop) : callX (std noW) tt ffDSaD stopSaC (lpB noW Tryz.prog) L_dWire 100 116 [.ptr 0 (.l 0)] (h_BD harts dv b) (gcK 11 (ivK false K)) = dWire_tree harts dv b K := by kernel_rfl
noncomputable def dWire_T (harts : Int) (dv : Int) (b : Mo.Bd) (K : S → List Ob → Prop) : Prop := Mo.dWire_pre b ∧ dWire_L0 (slw (Mo.nLines_v1 (Mo.Bd.c b)) 8) harts dv b K
theorem dWire_all (harts : Int) (dv : Int) (b : Mo.Bd) (K : S → List Ob → Prop) (h : dWire_T harts dv b K) : dWire_tree harts dv b K := by
  unfold dWire_T at h; obtain ⟨h0, h⟩ := h; unfold dWire_tree
  try simp only [Mo.dWire_pre] at h0 h
  repeat' first | exact h | refine ⟨rfl, ?_⟩ | (refine ⟨h0.1, ?_⟩; replace h0 := h0.2) | refine ⟨h0, ?_⟩ | exact h0.elim | (refine ite_intro (fun c => ?_) fun c => ?_) <;> first | simp only [if_pos c] at h0 h | simp only [if_neg c] at h0 h | skip
theorem dWire_sem (harts : Int) (dv : Int) (b : Mo.Bd) (K : S → List Ob → Prop) (h : dWire_T harts dv b K) : CallSem noW Tryz.prog 116 [.ptr 0 (.l 0)] (h_BD harts dv b) K := iv_call (callX_ok tok (by kernel_rfl) ffDSaDok stopSaC_ok _ _ _ _ (Eq.mpr (dWire_run harts dv b K) (dWire_all harts dv b K h)))
noncomputable def Mo.RdWire_0_v1 (high : Int) (b : Mo.Bd) : Int := (if ((Mo.kLine_v1 0 (Mo.Bd.k b)) = true) then (if ((Mo.kSoft_v1 0 (Mo.Bd.k b)) = true) then (Mo.bPut1_v1 (Mo.bPut1_v1 high 0) 24) else (Mo.bPut1_v1 high 0)) else (if ((Mo.kSoft_v1 0 (Mo.Bd.k b)) = true) then (Mo.bPut1_v1 high 24) else high))
noncomputable def Mo.RdWire_0_v2 (high : Int) (b : Mo.Bd) : Mo.Bd := (if ((Mo.Rt.raised (Mo.Bd.t b)) = true) then { b with l := (Mo.lAll_v1 (Mo.bPut1_v1 high 16) (Mo.Bd.l b)) } else { b with l := (Mo.lAll_v1 high (Mo.Bd.l b)) })
noncomputable def Mo.RdWire_0_g1 (harts : Int) : Bool := (if ((iL 0 harts) = true) then true else false)
noncomputable def Mo.RdWire_0_pre (harts : Int) (b : Mo.Bd) : Prop := (if ((iL 0 harts) = true) then ((Mo.kLine_pre 0 (Mo.Bd.k b)) ∧ (if ((Mo.kLine_v1 0 (Mo.Bd.k b)) = true) then ((Mo.bPut1_pre 0) ∧ ((Mo.kSoft_pre 0 (Mo.Bd.k b)) ∧ (if ((Mo.kSoft_v1 0 (Mo.Bd.k b)) = true) then (Mo.bPut1_pre 24) else True))) else ((Mo.kSoft_pre 0 (Mo.Bd.k b)) ∧ (if ((Mo.kSoft_v1 0 (Mo.Bd.k b)) = true) then (Mo.bPut1_pre 24) else True)))) else (if ((Mo.Rt.raised (Mo.Bd.t b)) = true) then (Mo.bPut1_pre 16) else True))
noncomputable def RdWire_0_tree (high : Int) (harts : Int) (dv : Int) (b : Mo.Bd) (K : S → List Ob → Prop) : Prop := (if ((iL 0 harts) = true) then ((Mo.kLine_pre 0 (Mo.Bd.k b)) ∧ (if ((Mo.kLine_v1 0 (Mo.Bd.k b)) = true) then ((Mo.bPut1_pre 0) ∧ ((Mo.kSoft_pre 0 (Mo.Bd.k b)) ∧ (if ((Mo.kSoft_v1 0 (Mo.Bd.k b)) = true) then ((Mo.bPut1_pre 24) ∧ (((1 : Int) = 1) ∧ (((1 : Int) = 1) ∧ dWire_L1 (Mo.bPut1_v1 (Mo.bPut1_v1 high 0) 24) harts dv b K))) else (((1 : Int) = 1) ∧ (((1 : Int) = 1) ∧ dWire_L1 (Mo.bPut1_v1 high 0) harts dv b K))))) else ((Mo.kSoft_pre 0 (Mo.Bd.k b)) ∧ (if ((Mo.kSoft_v1 0 (Mo.Bd.k b)) = true) then ((Mo.bPut1_pre 24) ∧ (((1 : Int) = 1) ∧ (((1 : Int) = 1) ∧ dWire_L1 (Mo.bPut1_v1 high 24) harts dv b K))) else (((1 : Int) = 1) ∧ (((1 : Int) = 1) ∧ dWire_L1 high harts dv b K)))))) else (True ∧ (if ((Mo.Rt.raised (Mo.Bd.t b)) = true) then ((Mo.bPut1_pre 16) ∧ (True ∧ K (.tup []) (h_BD harts dv { b with l := (Mo.lAll_v1 (Mo.bPut1_v1 high 16) (Mo.Bd.l b)) }))) else (True ∧ K (.tup []) (h_BD harts dv { b with l := (Mo.lAll_v1 high (Mo.Bd.l b)) })))))
theorem RdWire_0_run (high : Int) (harts : Int) (dv : Int) (b : Mo.Bd) (K : S → List Ob → Prop) : roundX (std noW) tt ffDSaD stopSaC (lpB noW Tryz.prog) L_dWire 100 116 0 11 (lc_dWire_0.st (acc_dWire_0 high harts dv b)) (gcK 11 (ivK false K)) = RdWire_0_tree high harts dv b K := by kernel_rfl
noncomputable def RdWire_0_T (high : Int) (harts : Int) (dv : Int) (b : Mo.Bd) (K : S → List Ob → Prop) : Prop := Mo.RdWire_0_pre harts b ∧ (if (Mo.RdWire_0_g1 harts) = true then dWire_L1 (Mo.RdWire_0_v1 high b) harts dv b K else K (.tup []) (h_BD harts dv (Mo.RdWire_0_v2 high b)))
theorem RdWire_0_all (high : Int) (harts : Int) (dv : Int) (b : Mo.Bd) (K : S → List Ob → Prop) (h : RdWire_0_T high harts dv b K) : RdWire_0_tree high harts dv b K := by
  unfold RdWire_0_T at h; obtain ⟨h0, h⟩ := h; unfold RdWire_0_tree
  try simp only [Mo.RdWire_0_v1] at h0 h
  try simp only [Mo.RdWire_0_v2] at h0 h
  try simp only [Mo.RdWire_0_g1] at h0 h
  try simp only [Mo.RdWire_0_pre] at h0 h
  repeat' (first | (refine ite_intro (fun c => ?_) (fun c => ?_) <;> first | simp only [if_pos c] at h0 h | simp only [if_neg c] at h0 h | skip) | with_reducible (replace h0 := (h0 : True ∧ _).2) | with_reducible (refine ⟨rfl, ?_⟩) | with_reducible (refine ⟨h0.1, ?_⟩; replace h0 := h0.2) | with_reducible (refine ⟨h0, ?_⟩) | (refine ⟨h0.1, ?_⟩; replace h0 := h0.2) | refine ⟨h0, ?_⟩ | refine ⟨rfl, ?_⟩ | refine ⟨trivial, ?_⟩ | refine ⟨by assumption, ?_⟩ | refine ⟨Eq.symm (by assumption), ?_⟩ | exact h | refine ⟨?_, ?_⟩ | exact h0.elim | trivial | contradiction | (simp only [if_true, if_false, Bool.false_eq_true] at h; exact h))
theorem RdWire_0_step (high : Int) (harts : Int) (dv : Int) (b : Mo.Bd) (K : S → List Ob → Prop) (h : RdWire_0_T high harts dv b K) : dWire_L0 high harts dv b K := roundX_ok tok (by kernel_rfl) ffDSaDok stopSaC_ok (Eq.mpr (RdWire_0_run high harts dv b K) (RdWire_0_all high harts dv b K h))
noncomputable def Mo.RdWire_1_v1 (high : Int) (b : Mo.Bd) : Int := (if ((Mo.kLine_v1 1 (Mo.Bd.k b)) = true) then (if ((Mo.kSoft_v1 1 (Mo.Bd.k b)) = true) then (Mo.bPut1_v1 (Mo.bPut1_v1 high 1) 25) else (Mo.bPut1_v1 high 1)) else (if ((Mo.kSoft_v1 1 (Mo.Bd.k b)) = true) then (Mo.bPut1_v1 high 25) else high))
noncomputable def Mo.RdWire_1_v2 (high : Int) (b : Mo.Bd) : Mo.Bd := (if ((Mo.Rt.raised (Mo.Bd.t b)) = true) then { b with l := (Mo.lAll_v1 (Mo.bPut1_v1 high 16) (Mo.Bd.l b)) } else { b with l := (Mo.lAll_v1 high (Mo.Bd.l b)) })
noncomputable def Mo.RdWire_1_g1 (harts : Int) : Bool := (if ((iL 1 harts) = true) then true else false)
noncomputable def Mo.RdWire_1_pre (harts : Int) (b : Mo.Bd) : Prop := (if ((iL 1 harts) = true) then ((Mo.kLine_pre 1 (Mo.Bd.k b)) ∧ (if ((Mo.kLine_v1 1 (Mo.Bd.k b)) = true) then ((Mo.bPut1_pre 1) ∧ ((Mo.kSoft_pre 1 (Mo.Bd.k b)) ∧ (if ((Mo.kSoft_v1 1 (Mo.Bd.k b)) = true) then (Mo.bPut1_pre 25) else True))) else ((Mo.kSoft_pre 1 (Mo.Bd.k b)) ∧ (if ((Mo.kSoft_v1 1 (Mo.Bd.k b)) = true) then (Mo.bPut1_pre 25) else True)))) else (if ((Mo.Rt.raised (Mo.Bd.t b)) = true) then (Mo.bPut1_pre 16) else True))
noncomputable def RdWire_1_tree (high : Int) (harts : Int) (dv : Int) (b : Mo.Bd) (K : S → List Ob → Prop) : Prop := (if ((iL 1 harts) = true) then ((Mo.kLine_pre 1 (Mo.Bd.k b)) ∧ (if ((Mo.kLine_v1 1 (Mo.Bd.k b)) = true) then ((Mo.bPut1_pre 1) ∧ ((Mo.kSoft_pre 1 (Mo.Bd.k b)) ∧ (if ((Mo.kSoft_v1 1 (Mo.Bd.k b)) = true) then ((Mo.bPut1_pre 25) ∧ (((1 : Int) = 1) ∧ (((1 : Int) = 1) ∧ (((1 : Int) = 1) ∧ dWire_L2 (Mo.bPut1_v1 (Mo.bPut1_v1 high 1) 25) harts dv b K)))) else (((1 : Int) = 1) ∧ (((1 : Int) = 1) ∧ (((1 : Int) = 1) ∧ dWire_L2 (Mo.bPut1_v1 high 1) harts dv b K)))))) else ((Mo.kSoft_pre 1 (Mo.Bd.k b)) ∧ (if ((Mo.kSoft_v1 1 (Mo.Bd.k b)) = true) then ((Mo.bPut1_pre 25) ∧ (((1 : Int) = 1) ∧ (((1 : Int) = 1) ∧ (((1 : Int) = 1) ∧ dWire_L2 (Mo.bPut1_v1 high 25) harts dv b K)))) else (((1 : Int) = 1) ∧ (((1 : Int) = 1) ∧ (((1 : Int) = 1) ∧ dWire_L2 high harts dv b K))))))) else (True ∧ (if ((Mo.Rt.raised (Mo.Bd.t b)) = true) then ((Mo.bPut1_pre 16) ∧ (True ∧ K (.tup []) (h_BD harts dv { b with l := (Mo.lAll_v1 (Mo.bPut1_v1 high 16) (Mo.Bd.l b)) }))) else (True ∧ K (.tup []) (h_BD harts dv { b with l := (Mo.lAll_v1 high (Mo.Bd.l b)) })))))
theorem RdWire_1_run (high : Int) (harts : Int) (dv : Int) (b : Mo.Bd) (K : S → List Ob → Prop) : roundX (std noW) tt ffDSaD stopSaC (lpB noW Tryz.prog) L_dWire 100 116 0 11 (lc_dWire_1.st (acc_dWire_0 high harts dv b)) (gcK 11 (ivK false K)) = RdWire_1_tree high harts dv b K := by kernel_rfl
noncomputable def RdWire_1_T (high : Int) (harts : Int) (dv : Int) (b : Mo.Bd) (K : S → List Ob → Prop) : Prop := Mo.RdWire_1_pre harts b ∧ (if (Mo.RdWire_1_g1 harts) = true then dWire_L2 (Mo.RdWire_1_v1 high b) harts dv b K else K (.tup []) (h_BD harts dv (Mo.RdWire_1_v2 high b)))
theorem RdWire_1_all (high : Int) (harts : Int) (dv : Int) (b : Mo.Bd) (K : S → List Ob → Prop) (h : RdWire_1_T high harts dv b K) : RdWire_1_tree high harts dv b K := by
  unfold RdWire_1_T at h; obtain ⟨h0, h⟩ := h; unfold RdWire_1_tree
  try simp only [Mo.RdWire_1_v1] at h0 h
  try simp only [Mo.RdWire_1_v2] at h0 h
  try simp only [Mo.RdWire_1_g1] at h0 h
  try simp only [Mo.RdWire_1_pre] at h0 h
  repeat' (first | (refine ite_intro (fun c => ?_) (fun c => ?_) <;> first | simp only [if_pos c] at h0 h | simp only [if_neg c] at h0 h | skip) | with_reducible (replace h0 := (h0 : True ∧ _).2) | with_reducible (refine ⟨rfl, ?_⟩) | with_reducible (refine ⟨h0.1, ?_⟩; replace h0 := h0.2) | with_reducible (refine ⟨h0, ?_⟩) | (refine ⟨h0.1, ?_⟩; replace h0 := h0.2) | refine ⟨h0, ?_⟩ | refine ⟨rfl, ?_⟩ | refine ⟨trivial, ?_⟩ | refine ⟨by assumption, ?_⟩ | refine ⟨Eq.symm (by assumption), ?_⟩ | exact h | refine ⟨?_, ?_⟩ | exact h0.elim | trivial | contradiction | (simp only [if_true, if_false, Bool.false_eq_true] at h; exact h))
theorem RdWire_1_step (high : Int) (harts : Int) (dv : Int) (b : Mo.Bd) (K : S → List Ob → Prop) (h : RdWire_1_T high harts dv b K) : dWire_L1 high harts dv b K := roundX_ok tok (by kernel_rfl) ffDSaDok stopSaC_ok (Eq.mpr (RdWire_1_run high harts dv b K) (RdWire_1_all high harts dv b K h))
noncomputable def Mo.RdWire_2_v1 (high : Int) (b : Mo.Bd) : Int := (if ((Mo.kLine_v1 2 (Mo.Bd.k b)) = true) then (if ((Mo.kSoft_v1 2 (Mo.Bd.k b)) = true) then (Mo.bPut1_v1 (Mo.bPut1_v1 high 2) 26) else (Mo.bPut1_v1 high 2)) else (if ((Mo.kSoft_v1 2 (Mo.Bd.k b)) = true) then (Mo.bPut1_v1 high 26) else high))
noncomputable def Mo.RdWire_2_v2 (high : Int) (b : Mo.Bd) : Mo.Bd := (if ((Mo.Rt.raised (Mo.Bd.t b)) = true) then { b with l := (Mo.lAll_v1 (Mo.bPut1_v1 high 16) (Mo.Bd.l b)) } else { b with l := (Mo.lAll_v1 high (Mo.Bd.l b)) })
noncomputable def Mo.RdWire_2_g1 (harts : Int) : Bool := (if ((iL 2 harts) = true) then true else false)
noncomputable def Mo.RdWire_2_pre (harts : Int) (b : Mo.Bd) : Prop := (if ((iL 2 harts) = true) then ((Mo.kLine_pre 2 (Mo.Bd.k b)) ∧ (if ((Mo.kLine_v1 2 (Mo.Bd.k b)) = true) then ((Mo.bPut1_pre 2) ∧ ((Mo.kSoft_pre 2 (Mo.Bd.k b)) ∧ (if ((Mo.kSoft_v1 2 (Mo.Bd.k b)) = true) then (Mo.bPut1_pre 26) else True))) else ((Mo.kSoft_pre 2 (Mo.Bd.k b)) ∧ (if ((Mo.kSoft_v1 2 (Mo.Bd.k b)) = true) then (Mo.bPut1_pre 26) else True)))) else (if ((Mo.Rt.raised (Mo.Bd.t b)) = true) then (Mo.bPut1_pre 16) else True))
noncomputable def RdWire_2_tree (high : Int) (harts : Int) (dv : Int) (b : Mo.Bd) (K : S → List Ob → Prop) : Prop := (if ((iL 2 harts) = true) then ((Mo.kLine_pre 2 (Mo.Bd.k b)) ∧ (if ((Mo.kLine_v1 2 (Mo.Bd.k b)) = true) then ((Mo.bPut1_pre 2) ∧ ((Mo.kSoft_pre 2 (Mo.Bd.k b)) ∧ (if ((Mo.kSoft_v1 2 (Mo.Bd.k b)) = true) then ((Mo.bPut1_pre 26) ∧ (((1 : Int) = 1) ∧ (((1 : Int) = 1) ∧ (((1 : Int) = 1) ∧ (((1 : Int) = 1) ∧ dWire_L3 (Mo.bPut1_v1 (Mo.bPut1_v1 high 2) 26) harts dv b K))))) else (((1 : Int) = 1) ∧ (((1 : Int) = 1) ∧ (((1 : Int) = 1) ∧ (((1 : Int) = 1) ∧ dWire_L3 (Mo.bPut1_v1 high 2) harts dv b K))))))) else ((Mo.kSoft_pre 2 (Mo.Bd.k b)) ∧ (if ((Mo.kSoft_v1 2 (Mo.Bd.k b)) = true) then ((Mo.bPut1_pre 26) ∧ (((1 : Int) = 1) ∧ (((1 : Int) = 1) ∧ (((1 : Int) = 1) ∧ (((1 : Int) = 1) ∧ dWire_L3 (Mo.bPut1_v1 high 26) harts dv b K))))) else (((1 : Int) = 1) ∧ (((1 : Int) = 1) ∧ (((1 : Int) = 1) ∧ (((1 : Int) = 1) ∧ dWire_L3 high harts dv b K)))))))) else (True ∧ (if ((Mo.Rt.raised (Mo.Bd.t b)) = true) then ((Mo.bPut1_pre 16) ∧ (True ∧ K (.tup []) (h_BD harts dv { b with l := (Mo.lAll_v1 (Mo.bPut1_v1 high 16) (Mo.Bd.l b)) }))) else (True ∧ K (.tup []) (h_BD harts dv { b with l := (Mo.lAll_v1 high (Mo.Bd.l b)) })))))
theorem RdWire_2_run (high : Int) (harts : Int) (dv : Int) (b : Mo.Bd) (K : S → List Ob → Prop) : roundX (std noW) tt ffDSaD stopSaC (lpB noW Tryz.prog) L_dWire 100 116 0 11 (lc_dWire_2.st (acc_dWire_0 high harts dv b)) (gcK 11 (ivK false K)) = RdWire_2_tree high harts dv b K := by kernel_rfl
noncomputable def RdWire_2_T (high : Int) (harts : Int) (dv : Int) (b : Mo.Bd) (K : S → List Ob → Prop) : Prop := Mo.RdWire_2_pre harts b ∧ (if (Mo.RdWire_2_g1 harts) = true then dWire_L3 (Mo.RdWire_2_v1 high b) harts dv b K else K (.tup []) (h_BD harts dv (Mo.RdWire_2_v2 high b)))
theorem RdWire_2_all (high : Int) (harts : Int) (dv : Int) (b : Mo.Bd) (K : S → List Ob → Prop) (h : RdWire_2_T high harts dv b K) : RdWire_2_tree high harts dv b K := by
  unfold RdWire_2_T at h; obtain ⟨h0, h⟩ := h; unfold RdWire_2_tree
  try simp only [Mo.RdWire_2_v1] at h0 h
  try simp only [Mo.RdWire_2_v2] at h0 h
  try simp only [Mo.RdWire_2_g1] at h0 h
  try simp only [Mo.RdWire_2_pre] at h0 h
  repeat' (first | (refine ite_intro (fun c => ?_) (fun c => ?_) <;> first | simp only [if_pos c] at h0 h | simp only [if_neg c] at h0 h | skip) | with_reducible (replace h0 := (h0 : True ∧ _).2) | with_reducible (refine ⟨rfl, ?_⟩) | with_reducible (refine ⟨h0.1, ?_⟩; replace h0 := h0.2) | with_reducible (refine ⟨h0, ?_⟩) | (refine ⟨h0.1, ?_⟩; replace h0 := h0.2) | refine ⟨h0, ?_⟩ | refine ⟨rfl, ?_⟩ | refine ⟨trivial, ?_⟩ | refine ⟨by assumption, ?_⟩ | refine ⟨Eq.symm (by assumption), ?_⟩ | exact h | refine ⟨?_, ?_⟩ | exact h0.elim | trivial | contradiction | (simp only [if_true, if_false, Bool.false_eq_true] at h; exact h))
theorem RdWire_2_step (high : Int) (harts : Int) (dv : Int) (b : Mo.Bd) (K : S → List Ob → Prop) (h : RdWire_2_T high harts dv b K) : dWire_L2 high harts dv b K := roundX_ok tok (by kernel_rfl) ffDSaDok stopSaC_ok (Eq.mpr (RdWire_2_run high harts dv b K) (RdWire_2_all high harts dv b K h))
noncomputable def Mo.RdWire_3_v1 (high : Int) (b : Mo.Bd) : Int := (if ((Mo.kLine_v1 3 (Mo.Bd.k b)) = true) then (if ((Mo.kSoft_v1 3 (Mo.Bd.k b)) = true) then (Mo.bPut1_v1 (Mo.bPut1_v1 high 3) 27) else (Mo.bPut1_v1 high 3)) else (if ((Mo.kSoft_v1 3 (Mo.Bd.k b)) = true) then (Mo.bPut1_v1 high 27) else high))
noncomputable def Mo.RdWire_3_v2 (high : Int) (b : Mo.Bd) : Mo.Bd := (if ((Mo.Rt.raised (Mo.Bd.t b)) = true) then { b with l := (Mo.lAll_v1 (Mo.bPut1_v1 high 16) (Mo.Bd.l b)) } else { b with l := (Mo.lAll_v1 high (Mo.Bd.l b)) })
noncomputable def Mo.RdWire_3_g1 (harts : Int) : Bool := (if ((iL 3 harts) = true) then true else false)
noncomputable def Mo.RdWire_3_pre (harts : Int) (b : Mo.Bd) : Prop := (if ((iL 3 harts) = true) then ((Mo.kLine_pre 3 (Mo.Bd.k b)) ∧ (if ((Mo.kLine_v1 3 (Mo.Bd.k b)) = true) then ((Mo.bPut1_pre 3) ∧ ((Mo.kSoft_pre 3 (Mo.Bd.k b)) ∧ (if ((Mo.kSoft_v1 3 (Mo.Bd.k b)) = true) then (Mo.bPut1_pre 27) else True))) else ((Mo.kSoft_pre 3 (Mo.Bd.k b)) ∧ (if ((Mo.kSoft_v1 3 (Mo.Bd.k b)) = true) then (Mo.bPut1_pre 27) else True)))) else (if ((Mo.Rt.raised (Mo.Bd.t b)) = true) then (Mo.bPut1_pre 16) else True))
noncomputable def RdWire_3_tree (high : Int) (harts : Int) (dv : Int) (b : Mo.Bd) (K : S → List Ob → Prop) : Prop := (if ((iL 3 harts) = true) then ((Mo.kLine_pre 3 (Mo.Bd.k b)) ∧ (if ((Mo.kLine_v1 3 (Mo.Bd.k b)) = true) then ((Mo.bPut1_pre 3) ∧ ((Mo.kSoft_pre 3 (Mo.Bd.k b)) ∧ (if ((Mo.kSoft_v1 3 (Mo.Bd.k b)) = true) then ((Mo.bPut1_pre 27) ∧ (((1 : Int) = 1) ∧ (((1 : Int) = 1) ∧ (((1 : Int) = 1) ∧ (((1 : Int) = 1) ∧ (((1 : Int) = 1) ∧ dWire_L4 (Mo.bPut1_v1 (Mo.bPut1_v1 high 3) 27) harts dv b K)))))) else (((1 : Int) = 1) ∧ (((1 : Int) = 1) ∧ (((1 : Int) = 1) ∧ (((1 : Int) = 1) ∧ (((1 : Int) = 1) ∧ dWire_L4 (Mo.bPut1_v1 high 3) harts dv b K)))))))) else ((Mo.kSoft_pre 3 (Mo.Bd.k b)) ∧ (if ((Mo.kSoft_v1 3 (Mo.Bd.k b)) = true) then ((Mo.bPut1_pre 27) ∧ (((1 : Int) = 1) ∧ (((1 : Int) = 1) ∧ (((1 : Int) = 1) ∧ (((1 : Int) = 1) ∧ (((1 : Int) = 1) ∧ dWire_L4 (Mo.bPut1_v1 high 27) harts dv b K)))))) else (((1 : Int) = 1) ∧ (((1 : Int) = 1) ∧ (((1 : Int) = 1) ∧ (((1 : Int) = 1) ∧ (((1 : Int) = 1) ∧ dWire_L4 high harts dv b K))))))))) else (True ∧ (if ((Mo.Rt.raised (Mo.Bd.t b)) = true) then ((Mo.bPut1_pre 16) ∧ (True ∧ K (.tup []) (h_BD harts dv { b with l := (Mo.lAll_v1 (Mo.bPut1_v1 high 16) (Mo.Bd.l b)) }))) else (True ∧ K (.tup []) (h_BD harts dv { b with l := (Mo.lAll_v1 high (Mo.Bd.l b)) })))))
theorem RdWire_3_run (high : Int) (harts : Int) (dv : Int) (b : Mo.Bd) (K : S → List Ob → Prop) : roundX (std noW) tt ffDSaD stopSaC (lpB noW Tryz.prog) L_dWire 100 116 0 11 (lc_dWire_3.st (acc_dWire_0 high harts dv b)) (gcK 11 (ivK false K)) = RdWire_3_tree high harts dv b K := by kernel_rfl
noncomputable def RdWire_3_T (high : Int) (harts : Int) (dv : Int) (b : Mo.Bd) (K : S → List Ob → Prop) : Prop := Mo.RdWire_3_pre harts b ∧ (if (Mo.RdWire_3_g1 harts) = true then dWire_L4 (Mo.RdWire_3_v1 high b) harts dv b K else K (.tup []) (h_BD harts dv (Mo.RdWire_3_v2 high b)))
theorem RdWire_3_all (high : Int) (harts : Int) (dv : Int) (b : Mo.Bd) (K : S → List Ob → Prop) (h : RdWire_3_T high harts dv b K) : RdWire_3_tree high harts dv b K := by
  unfold RdWire_3_T at h; obtain ⟨h0, h⟩ := h; unfold RdWire_3_tree
  try simp only [Mo.RdWire_3_v1] at h0 h
  try simp only [Mo.RdWire_3_v2] at h0 h
  try simp only [Mo.RdWire_3_g1] at h0 h
  try simp only [Mo.RdWire_3_pre] at h0 h
  repeat' (first | (refine ite_intro (fun c => ?_) (fun c => ?_) <;> first | simp only [if_pos c] at h0 h | simp only [if_neg c] at h0 h | skip) | with_reducible (replace h0 := (h0 : True ∧ _).2) | with_reducible (refine ⟨rfl, ?_⟩) | with_reducible (refine ⟨h0.1, ?_⟩; replace h0 := h0.2) | with_reducible (refine ⟨h0, ?_⟩) | (refine ⟨h0.1, ?_⟩; replace h0 := h0.2) | refine ⟨h0, ?_⟩ | refine ⟨rfl, ?_⟩ | refine ⟨trivial, ?_⟩ | refine ⟨by assumption, ?_⟩ | refine ⟨Eq.symm (by assumption), ?_⟩ | exact h | refine ⟨?_, ?_⟩ | exact h0.elim | trivial | contradiction | (simp only [if_true, if_false, Bool.false_eq_true] at h; exact h))
theorem RdWire_3_step (high : Int) (harts : Int) (dv : Int) (b : Mo.Bd) (K : S → List Ob → Prop) (h : RdWire_3_T high harts dv b K) : dWire_L3 high harts dv b K := roundX_ok tok (by kernel_rfl) ffDSaDok stopSaC_ok (Eq.mpr (RdWire_3_run high harts dv b K) (RdWire_3_all high harts dv b K h))
noncomputable def Mo.RdWire_4_v1 (high : Int) (b : Mo.Bd) : Int := (if ((Mo.kLine_v1 4 (Mo.Bd.k b)) = true) then (if ((Mo.kSoft_v1 4 (Mo.Bd.k b)) = true) then (Mo.bPut1_v1 (Mo.bPut1_v1 high 4) 28) else (Mo.bPut1_v1 high 4)) else (if ((Mo.kSoft_v1 4 (Mo.Bd.k b)) = true) then (Mo.bPut1_v1 high 28) else high))
noncomputable def Mo.RdWire_4_v2 (high : Int) (b : Mo.Bd) : Mo.Bd := (if ((Mo.Rt.raised (Mo.Bd.t b)) = true) then { b with l := (Mo.lAll_v1 (Mo.bPut1_v1 high 16) (Mo.Bd.l b)) } else { b with l := (Mo.lAll_v1 high (Mo.Bd.l b)) })
noncomputable def Mo.RdWire_4_g1 (harts : Int) : Bool := (if ((iL 4 harts) = true) then true else false)
noncomputable def Mo.RdWire_4_pre (harts : Int) (b : Mo.Bd) : Prop := (if ((iL 4 harts) = true) then ((Mo.kLine_pre 4 (Mo.Bd.k b)) ∧ (if ((Mo.kLine_v1 4 (Mo.Bd.k b)) = true) then ((Mo.bPut1_pre 4) ∧ ((Mo.kSoft_pre 4 (Mo.Bd.k b)) ∧ (if ((Mo.kSoft_v1 4 (Mo.Bd.k b)) = true) then (Mo.bPut1_pre 28) else True))) else ((Mo.kSoft_pre 4 (Mo.Bd.k b)) ∧ (if ((Mo.kSoft_v1 4 (Mo.Bd.k b)) = true) then (Mo.bPut1_pre 28) else True)))) else (if ((Mo.Rt.raised (Mo.Bd.t b)) = true) then (Mo.bPut1_pre 16) else True))
noncomputable def RdWire_4_tree (high : Int) (harts : Int) (dv : Int) (b : Mo.Bd) (K : S → List Ob → Prop) : Prop := (if ((iL 4 harts) = true) then ((Mo.kLine_pre 4 (Mo.Bd.k b)) ∧ (if ((Mo.kLine_v1 4 (Mo.Bd.k b)) = true) then ((Mo.bPut1_pre 4) ∧ ((Mo.kSoft_pre 4 (Mo.Bd.k b)) ∧ (if ((Mo.kSoft_v1 4 (Mo.Bd.k b)) = true) then ((Mo.bPut1_pre 28) ∧ (((1 : Int) = 1) ∧ (((1 : Int) = 1) ∧ (((1 : Int) = 1) ∧ (((1 : Int) = 1) ∧ (((1 : Int) = 1) ∧ (((1 : Int) = 1) ∧ dWire_L5 (Mo.bPut1_v1 (Mo.bPut1_v1 high 4) 28) harts dv b K))))))) else (((1 : Int) = 1) ∧ (((1 : Int) = 1) ∧ (((1 : Int) = 1) ∧ (((1 : Int) = 1) ∧ (((1 : Int) = 1) ∧ (((1 : Int) = 1) ∧ dWire_L5 (Mo.bPut1_v1 high 4) harts dv b K))))))))) else ((Mo.kSoft_pre 4 (Mo.Bd.k b)) ∧ (if ((Mo.kSoft_v1 4 (Mo.Bd.k b)) = true) then ((Mo.bPut1_pre 28) ∧ (((1 : Int) = 1) ∧ (((1 : Int) = 1) ∧ (((1 : Int) = 1) ∧ (((1 : Int) = 1) ∧ (((1 : Int) = 1) ∧ (((1 : Int) = 1) ∧ dWire_L5 (Mo.bPut1_v1 high 28) harts dv b K))))))) else (((1 : Int) = 1) ∧ (((1 : Int) = 1) ∧ (((1 : Int) = 1) ∧ (((1 : Int) = 1) ∧ (((1 : Int) = 1) ∧ (((1 : Int) = 1) ∧ dWire_L5 high harts dv b K)))))))))) else (True ∧ (if ((Mo.Rt.raised (Mo.Bd.t b)) = true) then ((Mo.bPut1_pre 16) ∧ (True ∧ K (.tup []) (h_BD harts dv { b with l := (Mo.lAll_v1 (Mo.bPut1_v1 high 16) (Mo.Bd.l b)) }))) else (True ∧ K (.tup []) (h_BD harts dv { b with l := (Mo.lAll_v1 high (Mo.Bd.l b)) })))))
theorem RdWire_4_run (high : Int) (harts : Int) (dv : Int) (b : Mo.Bd) (K : S → List Ob → Prop) : roundX (std noW) tt ffDSaD stopSaC (lpB noW Tryz.prog) L_dWire 100 116 0 11 (lc_dWire_4.st (acc_dWire_0 high harts dv b)) (gcK 11 (ivK false K)) = RdWire_4_tree high harts dv b K := by kernel_rfl
noncomputable def RdWire_4_T (high : Int) (harts : Int) (dv : Int) (b : Mo.Bd) (K : S → List Ob → Prop) : Prop := Mo.RdWire_4_pre harts b ∧ (if (Mo.RdWire_4_g1 harts) = true then dWire_L5 (Mo.RdWire_4_v1 high b) harts dv b K else K (.tup []) (h_BD harts dv (Mo.RdWire_4_v2 high b)))
theorem RdWire_4_all (high : Int) (harts : Int) (dv : Int) (b : Mo.Bd) (K : S → List Ob → Prop) (h : RdWire_4_T high harts dv b K) : RdWire_4_tree high harts dv b K := by
  unfold RdWire_4_T at h; obtain ⟨h0, h⟩ := h; unfold RdWire_4_tree
  try simp only [Mo.RdWire_4_v1] at h0 h
  try simp only [Mo.RdWire_4_v2] at h0 h
  try simp only [Mo.RdWire_4_g1] at h0 h
  try simp only [Mo.RdWire_4_pre] at h0 h
  repeat' (first | (refine ite_intro (fun c => ?_) (fun c => ?_) <;> first | simp only [if_pos c] at h0 h | simp only [if_neg c] at h0 h | skip) | with_reducible (replace h0 := (h0 : True ∧ _).2) | with_reducible (refine ⟨rfl, ?_⟩) | with_reducible (refine ⟨h0.1, ?_⟩; replace h0 := h0.2) | with_reducible (refine ⟨h0, ?_⟩) | (refine ⟨h0.1, ?_⟩; replace h0 := h0.2) | refine ⟨h0, ?_⟩ | refine ⟨rfl, ?_⟩ | refine ⟨trivial, ?_⟩ | refine ⟨by assumption, ?_⟩ | refine ⟨Eq.symm (by assumption), ?_⟩ | exact h | refine ⟨?_, ?_⟩ | exact h0.elim | trivial | contradiction | (simp only [if_true, if_false, Bool.false_eq_true] at h; exact h))
theorem RdWire_4_step (high : Int) (harts : Int) (dv : Int) (b : Mo.Bd) (K : S → List Ob → Prop) (h : RdWire_4_T high harts dv b K) : dWire_L4 high harts dv b K := roundX_ok tok (by kernel_rfl) ffDSaDok stopSaC_ok (Eq.mpr (RdWire_4_run high harts dv b K) (RdWire_4_all high harts dv b K h))
noncomputable def Mo.RdWire_5_v1 (high : Int) (b : Mo.Bd) : Int := (if ((Mo.kLine_v1 5 (Mo.Bd.k b)) = true) then (if ((Mo.kSoft_v1 5 (Mo.Bd.k b)) = true) then (Mo.bPut1_v1 (Mo.bPut1_v1 high 5) 29) else (Mo.bPut1_v1 high 5)) else (if ((Mo.kSoft_v1 5 (Mo.Bd.k b)) = true) then (Mo.bPut1_v1 high 29) else high))
noncomputable def Mo.RdWire_5_v2 (high : Int) (b : Mo.Bd) : Mo.Bd := (if ((Mo.Rt.raised (Mo.Bd.t b)) = true) then { b with l := (Mo.lAll_v1 (Mo.bPut1_v1 high 16) (Mo.Bd.l b)) } else { b with l := (Mo.lAll_v1 high (Mo.Bd.l b)) })
noncomputable def Mo.RdWire_5_g1 (harts : Int) : Bool := (if ((iL 5 harts) = true) then true else false)
noncomputable def Mo.RdWire_5_pre (harts : Int) (b : Mo.Bd) : Prop := (if ((iL 5 harts) = true) then ((Mo.kLine_pre 5 (Mo.Bd.k b)) ∧ (if ((Mo.kLine_v1 5 (Mo.Bd.k b)) = true) then ((Mo.bPut1_pre 5) ∧ ((Mo.kSoft_pre 5 (Mo.Bd.k b)) ∧ (if ((Mo.kSoft_v1 5 (Mo.Bd.k b)) = true) then (Mo.bPut1_pre 29) else True))) else ((Mo.kSoft_pre 5 (Mo.Bd.k b)) ∧ (if ((Mo.kSoft_v1 5 (Mo.Bd.k b)) = true) then (Mo.bPut1_pre 29) else True)))) else (if ((Mo.Rt.raised (Mo.Bd.t b)) = true) then (Mo.bPut1_pre 16) else True))
noncomputable def RdWire_5_tree (high : Int) (harts : Int) (dv : Int) (b : Mo.Bd) (K : S → List Ob → Prop) : Prop := (if ((iL 5 harts) = true) then ((Mo.kLine_pre 5 (Mo.Bd.k b)) ∧ (if ((Mo.kLine_v1 5 (Mo.Bd.k b)) = true) then ((Mo.bPut1_pre 5) ∧ ((Mo.kSoft_pre 5 (Mo.Bd.k b)) ∧ (if ((Mo.kSoft_v1 5 (Mo.Bd.k b)) = true) then ((Mo.bPut1_pre 29) ∧ (((1 : Int) = 1) ∧ (((1 : Int) = 1) ∧ (((1 : Int) = 1) ∧ (((1 : Int) = 1) ∧ (((1 : Int) = 1) ∧ (((1 : Int) = 1) ∧ (((1 : Int) = 1) ∧ dWire_L6 (Mo.bPut1_v1 (Mo.bPut1_v1 high 5) 29) harts dv b K)))))))) else (((1 : Int) = 1) ∧ (((1 : Int) = 1) ∧ (((1 : Int) = 1) ∧ (((1 : Int) = 1) ∧ (((1 : Int) = 1) ∧ (((1 : Int) = 1) ∧ (((1 : Int) = 1) ∧ dWire_L6 (Mo.bPut1_v1 high 5) harts dv b K)))))))))) else ((Mo.kSoft_pre 5 (Mo.Bd.k b)) ∧ (if ((Mo.kSoft_v1 5 (Mo.Bd.k b)) = true) then ((Mo.bPut1_pre 29) ∧ (((1 : Int) = 1) ∧ (((1 : Int) = 1) ∧ (((1 : Int) = 1) ∧ (((1 : Int) = 1) ∧ (((1 : Int) = 1) ∧ (((1 : Int) = 1) ∧ (((1 : Int) = 1) ∧ dWire_L6 (Mo.bPut1_v1 high 29) harts dv b K)))))))) else (((1 : Int) = 1) ∧ (((1 : Int) = 1) ∧ (((1 : Int) = 1) ∧ (((1 : Int) = 1) ∧ (((1 : Int) = 1) ∧ (((1 : Int) = 1) ∧ (((1 : Int) = 1) ∧ dWire_L6 high harts dv b K))))))))))) else (True ∧ (if ((Mo.Rt.raised (Mo.Bd.t b)) = true) then ((Mo.bPut1_pre 16) ∧ (True ∧ K (.tup []) (h_BD harts dv { b with l := (Mo.lAll_v1 (Mo.bPut1_v1 high 16) (Mo.Bd.l b)) }))) else (True ∧ K (.tup []) (h_BD harts dv { b with l := (Mo.lAll_v1 high (Mo.Bd.l b)) })))))
theorem RdWire_5_run (high : Int) (harts : Int) (dv : Int) (b : Mo.Bd) (K : S → List Ob → Prop) : roundX (std noW) tt ffDSaD stopSaC (lpB noW Tryz.prog) L_dWire 100 116 0 11 (lc_dWire_5.st (acc_dWire_0 high harts dv b)) (gcK 11 (ivK false K)) = RdWire_5_tree high harts dv b K := by kernel_rfl
noncomputable def RdWire_5_T (high : Int) (harts : Int) (dv : Int) (b : Mo.Bd) (K : S → List Ob → Prop) : Prop := Mo.RdWire_5_pre harts b ∧ (if (Mo.RdWire_5_g1 harts) = true then dWire_L6 (Mo.RdWire_5_v1 high b) harts dv b K else K (.tup []) (h_BD harts dv (Mo.RdWire_5_v2 high b)))
theorem RdWire_5_all (high : Int) (harts : Int) (dv : Int) (b : Mo.Bd) (K : S → List Ob → Prop) (h : RdWire_5_T high harts dv b K) : RdWire_5_tree high harts dv b K := by
  unfold RdWire_5_T at h; obtain ⟨h0, h⟩ := h; unfold RdWire_5_tree
  try simp only [Mo.RdWire_5_v1] at h0 h
  try simp only [Mo.RdWire_5_v2] at h0 h
  try simp only [Mo.RdWire_5_g1] at h0 h
  try simp only [Mo.RdWire_5_pre] at h0 h
  repeat' (first | (refine ite_intro (fun c => ?_) (fun c => ?_) <;> first | simp only [if_pos c] at h0 h | simp only [if_neg c] at h0 h | skip) | with_reducible (replace h0 := (h0 : True ∧ _).2) | with_reducible (refine ⟨rfl, ?_⟩) | with_reducible (refine ⟨h0.1, ?_⟩; replace h0 := h0.2) | with_reducible (refine ⟨h0, ?_⟩) | (refine ⟨h0.1, ?_⟩; replace h0 := h0.2) | refine ⟨h0, ?_⟩ | refine ⟨rfl, ?_⟩ | refine ⟨trivial, ?_⟩ | refine ⟨by assumption, ?_⟩ | refine ⟨Eq.symm (by assumption), ?_⟩ | exact h | refine ⟨?_, ?_⟩ | exact h0.elim | trivial | contradiction | (simp only [if_true, if_false, Bool.false_eq_true] at h; exact h))
theorem RdWire_5_step (high : Int) (harts : Int) (dv : Int) (b : Mo.Bd) (K : S → List Ob → Prop) (h : RdWire_5_T high harts dv b K) : dWire_L5 high harts dv b K := roundX_ok tok (by kernel_rfl) ffDSaDok stopSaC_ok (Eq.mpr (RdWire_5_run high harts dv b K) (RdWire_5_all high harts dv b K h))
noncomputable def Mo.RdWire_6_v1 (high : Int) (b : Mo.Bd) : Int := (if ((Mo.kLine_v1 6 (Mo.Bd.k b)) = true) then (if ((Mo.kSoft_v1 6 (Mo.Bd.k b)) = true) then (Mo.bPut1_v1 (Mo.bPut1_v1 high 6) 30) else (Mo.bPut1_v1 high 6)) else (if ((Mo.kSoft_v1 6 (Mo.Bd.k b)) = true) then (Mo.bPut1_v1 high 30) else high))
noncomputable def Mo.RdWire_6_v2 (high : Int) (b : Mo.Bd) : Mo.Bd := (if ((Mo.Rt.raised (Mo.Bd.t b)) = true) then { b with l := (Mo.lAll_v1 (Mo.bPut1_v1 high 16) (Mo.Bd.l b)) } else { b with l := (Mo.lAll_v1 high (Mo.Bd.l b)) })
noncomputable def Mo.RdWire_6_g1 (harts : Int) : Bool := (if ((iL 6 harts) = true) then true else false)
noncomputable def Mo.RdWire_6_pre (harts : Int) (b : Mo.Bd) : Prop := (if ((iL 6 harts) = true) then ((Mo.kLine_pre 6 (Mo.Bd.k b)) ∧ (if ((Mo.kLine_v1 6 (Mo.Bd.k b)) = true) then ((Mo.bPut1_pre 6) ∧ ((Mo.kSoft_pre 6 (Mo.Bd.k b)) ∧ (if ((Mo.kSoft_v1 6 (Mo.Bd.k b)) = true) then (Mo.bPut1_pre 30) else True))) else ((Mo.kSoft_pre 6 (Mo.Bd.k b)) ∧ (if ((Mo.kSoft_v1 6 (Mo.Bd.k b)) = true) then (Mo.bPut1_pre 30) else True)))) else (if ((Mo.Rt.raised (Mo.Bd.t b)) = true) then (Mo.bPut1_pre 16) else True))
noncomputable def RdWire_6_tree (high : Int) (harts : Int) (dv : Int) (b : Mo.Bd) (K : S → List Ob → Prop) : Prop := (if ((iL 6 harts) = true) then ((Mo.kLine_pre 6 (Mo.Bd.k b)) ∧ (if ((Mo.kLine_v1 6 (Mo.Bd.k b)) = true) then ((Mo.bPut1_pre 6) ∧ ((Mo.kSoft_pre 6 (Mo.Bd.k b)) ∧ (if ((Mo.kSoft_v1 6 (Mo.Bd.k b)) = true) then ((Mo.bPut1_pre 30) ∧ (((1 : Int) = 1) ∧ (((1 : Int) = 1) ∧ (((1 : Int) = 1) ∧ (((1 : Int) = 1) ∧ (((1 : Int) = 1) ∧ (((1 : Int) = 1) ∧ (((1 : Int) = 1) ∧ (((1 : Int) = 1) ∧ dWire_L7 (Mo.bPut1_v1 (Mo.bPut1_v1 high 6) 30) harts dv b K))))))))) else (((1 : Int) = 1) ∧ (((1 : Int) = 1) ∧ (((1 : Int) = 1) ∧ (((1 : Int) = 1) ∧ (((1 : Int) = 1) ∧ (((1 : Int) = 1) ∧ (((1 : Int) = 1) ∧ (((1 : Int) = 1) ∧ dWire_L7 (Mo.bPut1_v1 high 6) harts dv b K))))))))))) else ((Mo.kSoft_pre 6 (Mo.Bd.k b)) ∧ (if ((Mo.kSoft_v1 6 (Mo.Bd.k b)) = true) then ((Mo.bPut1_pre 30) ∧ (((1 : Int) = 1) ∧ (((1 : Int) = 1) ∧ (((1 : Int) = 1) ∧ (((1 : Int) = 1) ∧ (((1 : Int) = 1) ∧ (((1 : Int) = 1) ∧ (((1 : Int) = 1) ∧ (((1 : Int) = 1) ∧ dWire_L7 (Mo.bPut1_v1 high 30) harts dv b K))))))))) else (((1 : Int) = 1) ∧ (((1 : Int) = 1) ∧ (((1 : Int) = 1) ∧ (((1 : Int) = 1) ∧ (((1 : Int) = 1) ∧ (((1 : Int) = 1) ∧ (((1 : Int) = 1) ∧ (((1 : Int) = 1) ∧ dWire_L7 high harts dv b K)))))))))))) else (True ∧ (if ((Mo.Rt.raised (Mo.Bd.t b)) = true) then ((Mo.bPut1_pre 16) ∧ (True ∧ K (.tup []) (h_BD harts dv { b with l := (Mo.lAll_v1 (Mo.bPut1_v1 high 16) (Mo.Bd.l b)) }))) else (True ∧ K (.tup []) (h_BD harts dv { b with l := (Mo.lAll_v1 high (Mo.Bd.l b)) })))))
theorem RdWire_6_run (high : Int) (harts : Int) (dv : Int) (b : Mo.Bd) (K : S → List Ob → Prop) : roundX (std noW) tt ffDSaD stopSaC (lpB noW Tryz.prog) L_dWire 100 116 0 11 (lc_dWire_6.st (acc_dWire_0 high harts dv b)) (gcK 11 (ivK false K)) = RdWire_6_tree high harts dv b K := by kernel_rfl
noncomputable def RdWire_6_T (high : Int) (harts : Int) (dv : Int) (b : Mo.Bd) (K : S → List Ob → Prop) : Prop := Mo.RdWire_6_pre harts b ∧ (if (Mo.RdWire_6_g1 harts) = true then dWire_L7 (Mo.RdWire_6_v1 high b) harts dv b K else K (.tup []) (h_BD harts dv (Mo.RdWire_6_v2 high b)))
theorem RdWire_6_all (high : Int) (harts : Int) (dv : Int) (b : Mo.Bd) (K : S → List Ob → Prop) (h : RdWire_6_T high harts dv b K) : RdWire_6_tree high harts dv b K := by
  unfold RdWire_6_T at h; obtain ⟨h0, h⟩ := h; unfold RdWire_6_tree
  try simp only [Mo.RdWire_6_v1] at h0 h
  try simp only [Mo.RdWire_6_v2] at h0 h
  try simp only [Mo.RdWire_6_g1] at h0 h
  try simp only [Mo.RdWire_6_pre] at h0 h
  repeat' (first | (refine ite_intro (fun c => ?_) (fun c => ?_) <;> first | simp only [if_pos c] at h0 h | simp only [if_neg c] at h0 h | skip) | with_reducible (replace h0 := (h0 : True ∧ _).2) | with_reducible (refine ⟨rfl, ?_⟩) | with_reducible (refine ⟨h0.1, ?_⟩; replace h0 := h0.2) | with_reducible (refine ⟨h0, ?_⟩) | (refine ⟨h0.1, ?_⟩; replace h0 := h0.2) | refine ⟨h0, ?_⟩ | refine ⟨rfl, ?_⟩ | refine ⟨trivial, ?_⟩ | refine ⟨by assumption, ?_⟩ | refine ⟨Eq.symm (by assumption), ?_⟩ | exact h | refine ⟨?_, ?_⟩ | exact h0.elim | trivial | contradiction | (simp only [if_true, if_false, Bool.false_eq_true] at h; exact h))
theorem RdWire_6_step (high : Int) (harts : Int) (dv : Int) (b : Mo.Bd) (K : S → List Ob → Prop) (h : RdWire_6_T high harts dv b K) : dWire_L6 high harts dv b K := roundX_ok tok (by kernel_rfl) ffDSaDok stopSaC_ok (Eq.mpr (RdWire_6_run high harts dv b K) (RdWire_6_all high harts dv b K h))
noncomputable def Mo.RdWire_7_v1 (high : Int) (b : Mo.Bd) : Int := (if ((Mo.kLine_v1 7 (Mo.Bd.k b)) = true) then (if ((Mo.kSoft_v1 7 (Mo.Bd.k b)) = true) then (Mo.bPut1_v1 (Mo.bPut1_v1 high 7) 31) else (Mo.bPut1_v1 high 7)) else (if ((Mo.kSoft_v1 7 (Mo.Bd.k b)) = true) then (Mo.bPut1_v1 high 31) else high))
noncomputable def Mo.RdWire_7_v2 (high : Int) (b : Mo.Bd) : Mo.Bd := (if ((Mo.Rt.raised (Mo.Bd.t b)) = true) then { b with l := (Mo.lAll_v1 (Mo.bPut1_v1 high 16) (Mo.Bd.l b)) } else { b with l := (Mo.lAll_v1 high (Mo.Bd.l b)) })
noncomputable def Mo.RdWire_7_g1 (harts : Int) : Bool := (if ((iL 7 harts) = true) then true else false)
noncomputable def Mo.RdWire_7_pre (harts : Int) (b : Mo.Bd) : Prop := (if ((iL 7 harts) = true) then ((Mo.kLine_pre 7 (Mo.Bd.k b)) ∧ (if ((Mo.kLine_v1 7 (Mo.Bd.k b)) = true) then ((Mo.bPut1_pre 7) ∧ ((Mo.kSoft_pre 7 (Mo.Bd.k b)) ∧ (if ((Mo.kSoft_v1 7 (Mo.Bd.k b)) = true) then (Mo.bPut1_pre 31) else True))) else ((Mo.kSoft_pre 7 (Mo.Bd.k b)) ∧ (if ((Mo.kSoft_v1 7 (Mo.Bd.k b)) = true) then (Mo.bPut1_pre 31) else True)))) else (if ((Mo.Rt.raised (Mo.Bd.t b)) = true) then (Mo.bPut1_pre 16) else True))
noncomputable def RdWire_7_tree (high : Int) (harts : Int) (dv : Int) (b : Mo.Bd) (K : S → List Ob → Prop) : Prop := (if ((iL 7 harts) = true) then ((Mo.kLine_pre 7 (Mo.Bd.k b)) ∧ (if ((Mo.kLine_v1 7 (Mo.Bd.k b)) = true) then ((Mo.bPut1_pre 7) ∧ ((Mo.kSoft_pre 7 (Mo.Bd.k b)) ∧ (if ((Mo.kSoft_v1 7 (Mo.Bd.k b)) = true) then ((Mo.bPut1_pre 31) ∧ (((1 : Int) = 1) ∧ (((1 : Int) = 1) ∧ (((1 : Int) = 1) ∧ (((1 : Int) = 1) ∧ (((1 : Int) = 1) ∧ (((1 : Int) = 1) ∧ (((1 : Int) = 1) ∧ (((1 : Int) = 1) ∧ (((1 : Int) = 1) ∧ dWire_L8 (Mo.bPut1_v1 (Mo.bPut1_v1 high 7) 31) harts dv b K)))))))))) else (((1 : Int) = 1) ∧ (((1 : Int) = 1) ∧ (((1 : Int) = 1) ∧ (((1 : Int) = 1) ∧ (((1 : Int) = 1) ∧ (((1 : Int) = 1) ∧ (((1 : Int) = 1) ∧ (((1 : Int) = 1) ∧ (((1 : Int) = 1) ∧ dWire_L8 (Mo.bPut1_v1 high 7) harts dv b K)))))))))))) else ((Mo.kSoft_pre 7 (Mo.Bd.k b)) ∧ (if ((Mo.kSoft_v1 7 (Mo.Bd.k b)) = true) then ((Mo.bPut1_pre 31) ∧ (((1 : Int) = 1) ∧ (((1 : Int) = 1) ∧ (((1 : Int) = 1) ∧ (((1 : Int) = 1) ∧ (((1 : Int) = 1) ∧ (((1 : Int) = 1) ∧ (((1 : Int) = 1) ∧ (((1 : Int) = 1) ∧ (((1 : Int) = 1) ∧ dWire_L8 (Mo.bPut1_v1 high 31) harts dv b K)))))))))) else (((1 : Int) = 1) ∧ (((1 : Int) = 1) ∧ (((1 : Int) = 1) ∧ (((1 : Int) = 1) ∧ (((1 : Int) = 1) ∧ (((1 : Int) = 1) ∧ (((1 : Int) = 1) ∧ (((1 : Int) = 1) ∧ (((1 : Int) = 1) ∧ dWire_L8 high harts dv b K))))))))))))) else (True ∧ (if ((Mo.Rt.raised (Mo.Bd.t b)) = true) then ((Mo.bPut1_pre 16) ∧ (True ∧ K (.tup []) (h_BD harts dv { b with l := (Mo.lAll_v1 (Mo.bPut1_v1 high 16) (Mo.Bd.l b)) }))) else (True ∧ K (.tup []) (h_BD harts dv { b with l := (Mo.lAll_v1 high (Mo.Bd.l b)) })))))
theorem RdWire_7_run (high : Int) (harts : Int) (dv : Int) (b : Mo.Bd) (K : S → List Ob → Prop) : roundX (std noW) tt ffDSaD stopSaC (lpB noW Tryz.prog) L_dWire 100 116 0 11 (lc_dWire_7.st (acc_dWire_0 high harts dv b)) (gcK 11 (ivK false K)) = RdWire_7_tree high harts dv b K := by kernel_rfl
noncomputable def RdWire_7_T (high : Int) (harts : Int) (dv : Int) (b : Mo.Bd) (K : S → List Ob → Prop) : Prop := Mo.RdWire_7_pre harts b ∧ (if (Mo.RdWire_7_g1 harts) = true then dWire_L8 (Mo.RdWire_7_v1 high b) harts dv b K else K (.tup []) (h_BD harts dv (Mo.RdWire_7_v2 high b)))
theorem RdWire_7_all (high : Int) (harts : Int) (dv : Int) (b : Mo.Bd) (K : S → List Ob → Prop) (h : RdWire_7_T high harts dv b K) : RdWire_7_tree high harts dv b K := by
  unfold RdWire_7_T at h; obtain ⟨h0, h⟩ := h; unfold RdWire_7_tree
  try simp only [Mo.RdWire_7_v1] at h0 h
  try simp only [Mo.RdWire_7_v2] at h0 h
  try simp only [Mo.RdWire_7_g1] at h0 h
  try simp only [Mo.RdWire_7_pre] at h0 h
  repeat' (first | (refine ite_intro (fun c => ?_) (fun c => ?_) <;> first | simp only [if_pos c] at h0 h | simp only [if_neg c] at h0 h | skip) | with_reducible (replace h0 := (h0 : True ∧ _).2) | with_reducible (refine ⟨rfl, ?_⟩) | with_reducible (refine ⟨h0.1, ?_⟩; replace h0 := h0.2) | with_reducible (refine ⟨h0, ?_⟩) | (refine ⟨h0.1, ?_⟩; replace h0 := h0.2) | refine ⟨h0, ?_⟩ | refine ⟨rfl, ?_⟩ | refine ⟨trivial, ?_⟩ | refine ⟨by assumption, ?_⟩ | refine ⟨Eq.symm (by assumption), ?_⟩ | exact h | refine ⟨?_, ?_⟩ | exact h0.elim | trivial | contradiction | (simp only [if_true, if_false, Bool.false_eq_true] at h; exact h))
theorem RdWire_7_step (high : Int) (harts : Int) (dv : Int) (b : Mo.Bd) (K : S → List Ob → Prop) (h : RdWire_7_T high harts dv b K) : dWire_L7 high harts dv b K := roundX_ok tok (by kernel_rfl) ffDSaDok stopSaC_ok (Eq.mpr (RdWire_7_run high harts dv b K) (RdWire_7_all high harts dv b K h))
noncomputable def RdWire_8_s1 (b : Mo.Bd) (K : S → List Ob → Prop) : Prop := (if ((Mo.kSoft_v1 8 (Mo.Bd.k b)) = true) then ((Mo.bPut1_pre 32) ∧ (((1 : Int) = 1) ∧ (((1 : Int) = 1) ∧ (((1 : Int) = 1) ∧ (((1 : Int) = 1) ∧ (((1 : Int) = 1) ∧ (((1 : Int) = 1) ∧ (((1 : Int) = 1) ∧ (((1 : Int) = 1) ∧ (((1 : Int) = 1) ∧ False)))))))))) else (((1 : Int) = 1) ∧ (((1 : Int) = 1) ∧ (((1 : Int) = 1) ∧ (((1 : Int) = 1) ∧ (((1 : Int) = 1) ∧ (((1 : Int) = 1) ∧ (((1 : Int) = 1) ∧ (((1 : Int) = 1) ∧ (((1 : Int) = 1) ∧ False))))))))))
noncomputable def RdWire_8_s2 (b : Mo.Bd) (K : S → List Ob → Prop) : Prop := ((Mo.kSoft_pre 8 (Mo.Bd.k b)) ∧ (RdWire_8_s1 b K))
noncomputable def Mo.RdWire_8_v1 (high : Int) (b : Mo.Bd) : Mo.Bd := (if ((Mo.Rt.raised (Mo.Bd.t b)) = true) then { b with l := (Mo.lAll_v1 (Mo.bPut1_v1 high 16) (Mo.Bd.l b)) } else { b with l := (Mo.lAll_v1 high (Mo.Bd.l b)) })
noncomputable def Mo.RdWire_8_pre (harts : Int) (b : Mo.Bd) : Prop := (if ((iL 8 harts) = true) then ((Mo.kLine_pre 8 (Mo.Bd.k b)) ∧ (if ((Mo.kLine_v1 8 (Mo.Bd.k b)) = true) then ((Mo.bPut1_pre 8) ∧ ((Mo.kSoft_pre 8 (Mo.Bd.k b)) ∧ (if ((Mo.kSoft_v1 8 (Mo.Bd.k b)) = true) then ((Mo.bPut1_pre 32) ∧ False) else False))) else ((Mo.kSoft_pre 8 (Mo.Bd.k b)) ∧ (if ((Mo.kSoft_v1 8 (Mo.Bd.k b)) = true) then ((Mo.bPut1_pre 32) ∧ False) else False)))) else (if ((Mo.Rt.raised (Mo.Bd.t b)) = true) then (Mo.bPut1_pre 16) else True))
noncomputable def RdWire_8_tree (high : Int) (harts : Int) (dv : Int) (b : Mo.Bd) (K : S → List Ob → Prop) : Prop := (if ((iL 8 harts) = true) then ((Mo.kLine_pre 8 (Mo.Bd.k b)) ∧ (if ((Mo.kLine_v1 8 (Mo.Bd.k b)) = true) then ((Mo.bPut1_pre 8) ∧ (RdWire_8_s2 b K)) else (RdWire_8_s2 b K))) else (True ∧ (if ((Mo.Rt.raised (Mo.Bd.t b)) = true) then ((Mo.bPut1_pre 16) ∧ (True ∧ K (.tup []) (h_BD harts dv { b with l := (Mo.lAll_v1 (Mo.bPut1_v1 high 16) (Mo.Bd.l b)) }))) else (True ∧ K (.tup []) (h_BD harts dv { b with l := (Mo.lAll_v1 high (Mo.Bd.l b)) })))))
theorem RdWire_8_run (high : Int) (harts : Int) (dv : Int) (b : Mo.Bd) (K : S → List Ob → Prop) : roundX (std noW) tt ffDSaD stopSaC (lpB noW Tryz.prog) L_dWire 100 116 0 11 (lc_dWire_8.st (acc_dWire_0 high harts dv b)) (gcK 11 (ivK false K)) = RdWire_8_tree high harts dv b K := by kernel_rfl
noncomputable def RdWire_8_T (high : Int) (harts : Int) (dv : Int) (b : Mo.Bd) (K : S → List Ob → Prop) : Prop := Mo.RdWire_8_pre harts b ∧ K (.tup []) (h_BD harts dv (Mo.RdWire_8_v1 high b))
theorem RdWire_8_all (high : Int) (harts : Int) (dv : Int) (b : Mo.Bd) (K : S → List Ob → Prop) (h : RdWire_8_T high harts dv b K) : RdWire_8_tree high harts dv b K := by
  unfold RdWire_8_T at h; obtain ⟨h0, h⟩ := h; unfold RdWire_8_tree
  try simp only [Mo.RdWire_8_v1] at h0 h
  try simp only [Mo.RdWire_8_pre] at h0 h
  repeat' (first | (refine ite_intro (fun c => ?_) (fun c => ?_) <;> first | simp only [if_pos c] at h0 h | simp only [if_neg c] at h0 h | skip) | with_reducible (replace h0 := (h0 : True ∧ _).2) | with_reducible (refine ⟨rfl, ?_⟩) | with_reducible (refine ⟨h0.1, ?_⟩; replace h0 := h0.2) | with_reducible (refine ⟨h0, ?_⟩) | (refine ⟨h0.1, ?_⟩; replace h0 := h0.2) | refine ⟨h0, ?_⟩ | refine ⟨rfl, ?_⟩ | refine ⟨trivial, ?_⟩ | refine ⟨by assumption, ?_⟩ | refine ⟨Eq.symm (by assumption), ?_⟩ | exact h | refine ⟨?_, ?_⟩ | unfold RdWire_8_s1 | unfold RdWire_8_s2 | exact h0.elim | trivial | contradiction | (simp only [if_true, if_false, Bool.false_eq_true] at h; exact h))
theorem RdWire_8_step (high : Int) (harts : Int) (dv : Int) (b : Mo.Bd) (K : S → List Ob → Prop) (h : RdWire_8_T high harts dv b K) : dWire_L8 high harts dv b K := roundX_ok tok (by kernel_rfl) ffDSaDok stopSaC_ok (Eq.mpr (RdWire_8_run high harts dv b K) (RdWire_8_all high harts dv b K h))
noncomputable def Mo.dWire_p8 (harts : Int) (b : Mo.Bd) : Prop := (Mo.RdWire_8_pre harts b)
noncomputable def Mo.dWire_f16_8 (high : Int) (b : Mo.Bd) : Mo.Bd := (Mo.RdWire_8_v1 high b)
theorem dWire_c8 (high : Int) (harts : Int) (dv : Int) (b : Mo.Bd) (K : S → List Ob → Prop) (h0 : (Mo.dWire_p8 harts b)) (h : K (.tup []) (h_BD harts dv (Mo.dWire_f16_8 high b))) : dWire_L8 high harts dv b K := by
  unfold Mo.dWire_p8 at h0
  refine RdWire_8_step high harts dv b K ?_
  unfold RdWire_8_T
  refine ⟨h0, ?_⟩
  try unfold Mo.dWire_f16_8 at h
  exact h
noncomputable def Mo.dWire_p7 (harts : Int) (b : Mo.Bd) : Prop := (Mo.RdWire_7_pre harts b) ∧ (if (Mo.RdWire_7_g1 harts) = true then (Mo.dWire_p8 harts b) else True)
noncomputable def Mo.dWire_f16_7 (high : Int) (harts : Int) (b : Mo.Bd) : Mo.Bd := (if (Mo.RdWire_7_g1 harts) = true then (Mo.dWire_f16_8 (Mo.RdWire_7_v1 high b) b) else (Mo.RdWire_7_v2 high b))
theorem dWire_c7 (high : Int) (harts : Int) (dv : Int) (b : Mo.Bd) (K : S → List Ob → Prop) (h0 : (Mo.dWire_p7 harts b)) (h : K (.tup []) (h_BD harts dv (Mo.dWire_f16_7 high harts b))) : dWire_L7 high harts dv b K := by
  unfold Mo.dWire_p7 at h0
  refine RdWire_7_step high harts dv b K ?_
  unfold RdWire_7_T
  refine ⟨h0.1, ?_⟩
  replace h0 := h0.2
  try unfold Mo.dWire_f16_7 at h
  by_cases hg0 : (Mo.RdWire_7_g1 harts) = true
  · simp only [if_pos hg0] at h0 h ⊢
    exact dWire_c8 _ _ _ _ K h0 h
  simp only [if_neg hg0] at h0 h ⊢
  exact h
noncomputable def Mo.dWire_p6 (harts : Int) (b : Mo.Bd) : Prop := (Mo.RdWire_6_pre harts b) ∧ (if (Mo.RdWire_6_g1 harts) = true then (Mo.dWire_p7 harts b) else True)
noncomputable def Mo.dWire_f16_6 (high : Int) (harts : Int) (b : Mo.Bd) : Mo.Bd := (if (Mo.RdWire_6_g1 harts) = true then (Mo.dWire_f16_7 (Mo.RdWire_6_v1 high b) harts b) else (Mo.RdWire_6_v2 high b))
theorem dWire_c6 (high : Int) (harts : Int) (dv : Int) (b : Mo.Bd) (K : S → List Ob → Prop) (h0 : (Mo.dWire_p6 harts b)) (h : K (.tup []) (h_BD harts dv (Mo.dWire_f16_6 high harts b))) : dWire_L6 high harts dv b K := by
  unfold Mo.dWire_p6 at h0
  refine RdWire_6_step high harts dv b K ?_
  unfold RdWire_6_T
  refine ⟨h0.1, ?_⟩
  replace h0 := h0.2
  try unfold Mo.dWire_f16_6 at h
  by_cases hg0 : (Mo.RdWire_6_g1 harts) = true
  · simp only [if_pos hg0] at h0 h ⊢
    exact dWire_c7 _ _ _ _ K h0 h
  simp only [if_neg hg0] at h0 h ⊢
  exact h
noncomputable def Mo.dWire_p5 (harts : Int) (b : Mo.Bd) : Prop := (Mo.RdWire_5_pre harts b) ∧ (if (Mo.RdWire_5_g1 harts) = true then (Mo.dWire_p6 harts b) else True)
noncomputable def Mo.dWire_f16_5 (high : Int) (harts : Int) (b : Mo.Bd) : Mo.Bd := (if (Mo.RdWire_5_g1 harts) = true then (Mo.dWire_f16_6 (Mo.RdWire_5_v1 high b) harts b) else (Mo.RdWire_5_v2 high b))
theorem dWire_c5 (high : Int) (harts : Int) (dv : Int) (b : Mo.Bd) (K : S → List Ob → Prop) (h0 : (Mo.dWire_p5 harts b)) (h : K (.tup []) (h_BD harts dv (Mo.dWire_f16_5 high harts b))) : dWire_L5 high harts dv b K := by
  unfold Mo.dWire_p5 at h0
  refine RdWire_5_step high harts dv b K ?_
  unfold RdWire_5_T
  refine ⟨h0.1, ?_⟩
  replace h0 := h0.2
  try unfold Mo.dWire_f16_5 at h
  by_cases hg0 : (Mo.RdWire_5_g1 harts) = true
  · simp only [if_pos hg0] at h0 h ⊢
    exact dWire_c6 _ _ _ _ K h0 h
  simp only [if_neg hg0] at h0 h ⊢
  exact h
noncomputable def Mo.dWire_p4 (harts : Int) (b : Mo.Bd) : Prop := (Mo.RdWire_4_pre harts b) ∧ (if (Mo.RdWire_4_g1 harts) = true then (Mo.dWire_p5 harts b) else True)
noncomputable def Mo.dWire_f16_4 (high : Int) (harts : Int) (b : Mo.Bd) : Mo.Bd := (if (Mo.RdWire_4_g1 harts) = true then (Mo.dWire_f16_5 (Mo.RdWire_4_v1 high b) harts b) else (Mo.RdWire_4_v2 high b))
theorem dWire_c4 (high : Int) (harts : Int) (dv : Int) (b : Mo.Bd) (K : S → List Ob → Prop) (h0 : (Mo.dWire_p4 harts b)) (h : K (.tup []) (h_BD harts dv (Mo.dWire_f16_4 high harts b))) : dWire_L4 high harts dv b K := by
  unfold Mo.dWire_p4 at h0
  refine RdWire_4_step high harts dv b K ?_
  unfold RdWire_4_T
  refine ⟨h0.1, ?_⟩
  replace h0 := h0.2
  try unfold Mo.dWire_f16_4 at h
  by_cases hg0 : (Mo.RdWire_4_g1 harts) = true
  · simp only [if_pos hg0] at h0 h ⊢
    exact dWire_c5 _ _ _ _ K h0 h
  simp only [if_neg hg0] at h0 h ⊢
  exact h
noncomputable def Mo.dWire_p3 (harts : Int) (b : Mo.Bd) : Prop := (Mo.RdWire_3_pre harts b) ∧ (if (Mo.RdWire_3_g1 harts) = true then (Mo.dWire_p4 harts b) else True)
noncomputable def Mo.dWire_f16_3 (high : Int) (harts : Int) (b : Mo.Bd) : Mo.Bd := (if (Mo.RdWire_3_g1 harts) = true then (Mo.dWire_f16_4 (Mo.RdWire_3_v1 high b) harts b) else (Mo.RdWire_3_v2 high b))
theorem dWire_c3 (high : Int) (harts : Int) (dv : Int) (b : Mo.Bd) (K : S → List Ob → Prop) (h0 : (Mo.dWire_p3 harts b)) (h : K (.tup []) (h_BD harts dv (Mo.dWire_f16_3 high harts b))) : dWire_L3 high harts dv b K := by
  unfold Mo.dWire_p3 at h0
  refine RdWire_3_step high harts dv b K ?_
  unfold RdWire_3_T
  refine ⟨h0.1, ?_⟩
  replace h0 := h0.2
  try unfold Mo.dWire_f16_3 at h
  by_cases hg0 : (Mo.RdWire_3_g1 harts) = true
  · simp only [if_pos hg0] at h0 h ⊢
    exact dWire_c4 _ _ _ _ K h0 h
  simp only [if_neg hg0] at h0 h ⊢
  exact h
noncomputable def Mo.dWire_p2 (harts : Int) (b : Mo.Bd) : Prop := (Mo.RdWire_2_pre harts b) ∧ (if (Mo.RdWire_2_g1 harts) = true then (Mo.dWire_p3 harts b) else True)
noncomputable def Mo.dWire_f16_2 (high : Int) (harts : Int) (b : Mo.Bd) : Mo.Bd := (if (Mo.RdWire_2_g1 harts) = true then (Mo.dWire_f16_3 (Mo.RdWire_2_v1 high b) harts b) else (Mo.RdWire_2_v2 high b))
theorem dWire_c2 (high : Int) (harts : Int) (dv : Int) (b : Mo.Bd) (K : S → List Ob → Prop) (h0 : (Mo.dWire_p2 harts b)) (h : K (.tup []) (h_BD harts dv (Mo.dWire_f16_2 high harts b))) : dWire_L2 high harts dv b K := by
  unfold Mo.dWire_p2 at h0
  refine RdWire_2_step high harts dv b K ?_
  unfold RdWire_2_T
  refine ⟨h0.1, ?_⟩
  replace h0 := h0.2
  try unfold Mo.dWire_f16_2 at h
  by_cases hg0 : (Mo.RdWire_2_g1 harts) = true
  · simp only [if_pos hg0] at h0 h ⊢
    exact dWire_c3 _ _ _ _ K h0 h
  simp only [if_neg hg0] at h0 h ⊢
  exact h
noncomputable def Mo.dWire_p1 (harts : Int) (b : Mo.Bd) : Prop := (Mo.RdWire_1_pre harts b) ∧ (if (Mo.RdWire_1_g1 harts) = true then (Mo.dWire_p2 harts b) else True)
noncomputable def Mo.dWire_f16_1 (high : Int) (harts : Int) (b : Mo.Bd) : Mo.Bd := (if (Mo.RdWire_1_g1 harts) = true then (Mo.dWire_f16_2 (Mo.RdWire_1_v1 high b) harts b) else (Mo.RdWire_1_v2 high b))
theorem dWire_c1 (high : Int) (harts : Int) (dv : Int) (b : Mo.Bd) (K : S → List Ob → Prop) (h0 : (Mo.dWire_p1 harts b)) (h : K (.tup []) (h_BD harts dv (Mo.dWire_f16_1 high harts b))) : dWire_L1 high harts dv b K := by
  unfold Mo.dWire_p1 at h0
  refine RdWire_1_step high harts dv b K ?_
  unfold RdWire_1_T
  refine ⟨h0.1, ?_⟩
  replace h0 := h0.2
  try unfold Mo.dWire_f16_1 at h
  by_cases hg0 : (Mo.RdWire_1_g1 harts) = true
  · simp only [if_pos hg0] at h0 h ⊢
    exact dWire_c2 _ _ _ _ K h0 h
  simp only [if_neg hg0] at h0 h ⊢
  exact h
noncomputable def Mo.dWire_p0 (harts : Int) (b : Mo.Bd) : Prop := (Mo.RdWire_0_pre harts b) ∧ (if (Mo.RdWire_0_g1 harts) = true then (Mo.dWire_p1 harts b) else True)
noncomputable def Mo.dWire_f16_0 (high : Int) (harts : Int) (b : Mo.Bd) : Mo.Bd := (if (Mo.RdWire_0_g1 harts) = true then (Mo.dWire_f16_1 (Mo.RdWire_0_v1 high b) harts b) else (Mo.RdWire_0_v2 high b))
theorem dWire_c0 (high : Int) (harts : Int) (dv : Int) (b : Mo.Bd) (K : S → List Ob → Prop) (h0 : (Mo.dWire_p0 harts b)) (h : K (.tup []) (h_BD harts dv (Mo.dWire_f16_0 high harts b))) : dWire_L0 high harts dv b K := by
  unfold Mo.dWire_p0 at h0
  refine RdWire_0_step high harts dv b K ?_
  unfold RdWire_0_T
  refine ⟨h0.1, ?_⟩
  replace h0 := h0.2
  try unfold Mo.dWire_f16_0 at h
  by_cases hg0 : (Mo.RdWire_0_g1 harts) = true
  · simp only [if_pos hg0] at h0 h ⊢
    exact dWire_c1 _ _ _ _ K h0 h
  simp only [if_neg hg0] at h0 h ⊢
  exact h
noncomputable def Mo.dWire_p (harts : Int) (b : Mo.Bd) : Prop := (Mo.dWire_pre b) ∧ (Mo.dWire_p0 harts b)
noncomputable def Mo.dWire_f16 (harts : Int) (b : Mo.Bd) : Mo.Bd := (Mo.dWire_f16_0 (slw (Mo.nLines_v1 (Mo.Bd.c b)) 8) harts b)
theorem dWire_com (harts : Int) (dv : Int) (b : Mo.Bd) (K : S → List Ob → Prop) (h0 : (Mo.dWire_p harts b)) (h : K (.tup []) (h_BD harts dv (Mo.dWire_f16 harts b))) : dWire_T harts dv b K := by
  unfold Mo.dWire_p at h0
  unfold dWire_T
  refine ⟨h0.1, ?_⟩
  replace h0 := h0.2
  try unfold Mo.dWire_f16 at h
  exact dWire_c0 _ _ _ _ K h0 h
noncomputable def dWire_J (harts : Int) (dv : Int) (b : Mo.Bd) (K : S → List Ob → Prop) : Prop := (Mo.dWire_p harts b) ∧ K (.tup []) (h_BD harts dv (Mo.dWire_f16 harts b))
theorem dWire_jsem (harts : Int) (dv : Int) (b : Mo.Bd) (K : S → List Ob → Prop) (h : dWire_J harts dv b K) : CallSem noW Tryz.prog 116 [.ptr 0 (.l 0)] (h_BD harts dv b) K := dWire_sem harts dv b K (dWire_com harts dv b K h.1 h.2)
noncomputable def dWire_con : Con := ⟨[.ptr 0], t_BD, [], fun a K => match a with | ⟨[harts, dv], [], [], [cs_b_k, cs_b_w, cs_b_t, cs_b_r, cs_b_l, cs_b_c], []⟩ => (match Mo.Cl.is cs_b_k with | true => (match Mo.Wd.is cs_b_w with | true => (match Mo.Rt.is cs_b_t with | true => (match Mo.Rs.is cs_b_r with | true => (match Mo.Ln.is cs_b_l with | true => (match Mo.Cnt.is cs_b_c with | true => dWire_J harts dv (Mo.Bd.mk (Mo.Cl.of cs_b_k) (Mo.Wd.of cs_b_w) (Mo.Rt.of cs_b_t) (Mo.Rs.of cs_b_r) (Mo.Ln.of cs_b_l) (Mo.Cnt.of cs_b_c)) K | false => False) | false => False) | false => False) | false => False) | false => False) | false => False) | _ => False⟩
theorem dWire_ok : dWire_con.ok noW Tryz.prog 116 := by
  intro a K h
  simp only [dWire_con] at h
  split at h
  case h_2 => exact h.elim
  split at h
  case h_2 => exact h.elim
  rename_i is_b_k
  split at h
  case h_2 => exact h.elim
  rename_i is_b_w
  split at h
  case h_2 => exact h.elim
  rename_i is_b_t
  split at h
  case h_2 => exact h.elim
  rename_i is_b_r
  split at h
  case h_2 => exact h.elim
  rename_i is_b_l
  split at h
  case h_2 => exact h.elim
  rename_i is_b_c
  exact CallSem.objs (dWire_jsem _ _ _ K h) (fun _ _ _ h => h) ⟨WkO.same, WkO.cells (Mo.Cl.is_ok is_b_k), WkO.same, WkO.cells (Mo.Wd.is_ok is_b_w), WkO.cells (Mo.Rt.is_ok is_b_t), WkO.cells (Mo.Rs.is_ok is_b_r), WkO.cells (Mo.Ln.is_ok is_b_l), WkO.same, WkO.same, WkO.same, WkO.cells (Mo.Cnt.is_ok is_b_c), trivial⟩
noncomputable def tabSaD (n : Nat) : List Con := match Nat.beq n 91 with | true => [uStore_con] | false => match Nat.beq n 116 with | true => [dWire_con] | false => tabSaC n
theorem tabSaD_ok : ∀ f, ∀ c ∈ tabSaD f, c.ok noW Tryz.prog f := by
  intro f c hc
  unfold tabSaD at hc
  split at hc
  · rename_i hf; have := Nat.eq_of_beq_eq_true hf; subst this
    simp only [List.mem_cons, List.not_mem_nil, or_false] at hc
    subst hc; exact uStore_ok
  split at hc
  · rename_i hf; have := Nat.eq_of_beq_eq_true hf; subst this
    simp only [List.mem_cons, List.not_mem_nil, or_false] at hc
    subst hc; exact dWire_ok
  exact tabSaC_ok f c hc
noncomputable def ffSaD (n : Nat) : Option FI := match Nat.beq n 91 with | true => none | false => match Nat.beq n 116 with | true => none | false => ffDSaD n
theorem ffSaDok : FOk Tryz.prog ffSaD := fun f fi hf => by
  unfold ffSaD at hf
  split at hf
  · cases hf
  split at hf
  · cases hf
  exact ffDSaDok f fi hf
noncomputable def stopSaD : CallT := stopC tabSaD stopB
theorem stopSaD_ok : ∀ f args h K, stopSaD f args h K → CallSem noW Tryz.prog f args h K := stopC_ok tabSaD_ok stopB_ok
end Go.SX.Y
