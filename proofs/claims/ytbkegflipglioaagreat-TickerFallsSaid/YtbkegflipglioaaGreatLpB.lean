/- What Go functions come to (lifted). -/
import Derived.Test.YtbkegflipglioaaGreatLpA
set_option maxRecDepth 20000
namespace Go.SX.Y
open Go.Proofs Go.RowKit
structure Mo.Cnt where
  ld : Int
  va : Int
  ct : Int
  st : Int
  ph : Int
noncomputable def Mo.Cnt.cells (c : Mo.Cnt) : List S := [.iv .u32 c.ld, .iv .u32 c.va, .iv .u32 c.ct, .iv .u32 c.st, .iv .u32 c.ph]
noncomputable def Mo.Cnt.of (cs : List S) : Mo.Cnt := match cs with | [x0, x1, x2, x3, x4] => ⟨nI x0, nI x1, nI x2, nI x3, nI x4⟩ | _ => ⟨0, 0, 0, 0, 0⟩
noncomputable def Mo.Cnt.is (cs : List S) : Bool := kdsL [.i .u32, .i .u32, .i .u32, .i .u32, .i .u32] cs
theorem Mo.Cnt.is_ok {cs : List S} (h : Mo.Cnt.is cs = true) : ∀ m ν vs, S.oks m ν cs vs → S.oks m ν (Mo.Cnt.cells (Mo.Cnt.of cs)) vs := by
  intro m ν vs hv
  have h1 := kdsL_ok h m ν vs hv
  have hl := kdsL_len h
  match cs, hl, h1 with
  | [x0, x1, x2, x3, x4], _, h1 => exact h1
theorem Mo.Cnt.of_cells (c : Mo.Cnt) : Mo.Cnt.of (Mo.Cnt.cells c) = c := rfl
structure Mo.Cl where
  time : Int
  k0 : Int
  s0 : Int
  k1 : Int
  s1 : Int
  k2 : Int
  s2 : Int
  k3 : Int
  s3 : Int
  k4 : Int
  s4 : Int
  k5 : Int
  s5 : Int
  k6 : Int
  s6 : Int
  k7 : Int
  s7 : Int
  n : Int
noncomputable def Mo.Cl.cells (c : Mo.Cl) : List S := [.iv .u64 c.time, .iv .u64 c.k0, .iv .u32 c.s0, .iv .u64 c.k1, .iv .u32 c.s1, .iv .u64 c.k2, .iv .u32 c.s2, .iv .u64 c.k3, .iv .u32 c.s3, .iv .u64 c.k4, .iv .u32 c.s4, .iv .u64 c.k5, .iv .u32 c.s5, .iv .u64 c.k6, .iv .u32 c.s6, .iv .u64 c.k7, .iv .u32 c.s7, .iv .i64 c.n]
noncomputable def Mo.Cl.of (cs : List S) : Mo.Cl := match cs with | [x0, x1, x2, x3, x4, x5, x6, x7, x8, x9, x10, x11, x12, x13, x14, x15, x16, x17] => ⟨nI x0, nI x1, nI x2, nI x3, nI x4, nI x5, nI x6, nI x7, nI x8, nI x9, nI x10, nI x11, nI x12, nI x13, nI x14, nI x15, nI x16, nI x17⟩ | _ => ⟨0, 0, 0, 0, 0, 0, 0, 0, 0, 0, 0, 0, 0, 0, 0, 0, 0, 0⟩
noncomputable def Mo.Cl.is (cs : List S) : Bool := kdsL [.i .u64, .i .u64, .i .u32, .i .u64, .i .u32, .i .u64, .i .u32, .i .u64, .i .u32, .i .u64, .i .u32, .i .u64, .i .u32, .i .u64, .i .u32, .i .u64, .i .u32, .i .i64] cs
theorem Mo.Cl.is_ok {cs : List S} (h : Mo.Cl.is cs = true) : ∀ m ν vs, S.oks m ν cs vs → S.oks m ν (Mo.Cl.cells (Mo.Cl.of cs)) vs := by
  intro m ν vs hv
  have h1 := kdsL_ok h m ν vs hv
  have hl := kdsL_len h
  match cs, hl, h1 with
  | [x0, x1, x2, x3, x4, x5, x6, x7, x8, x9, x10, x11, x12, x13, x14, x15, x16, x17], _, h1 => exact h1
theorem Mo.Cl.of_cells (c : Mo.Cl) : Mo.Cl.of (Mo.Cl.cells c) = c := rfl
structure Mo.Wd where
  en : Bool
  lk : Bool
  ar : Bool
  shut : Int
  all : Int
  since : Int
  fault : Int
noncomputable def Mo.Wd.cells (c : Mo.Wd) : List S := [.bv c.en, .bv c.lk, .bv c.ar, .iv .u32 c.shut, .iv .u32 c.all, .iv .u64 c.since, .iv .i64 c.fault]
noncomputable def Mo.Wd.of (cs : List S) : Mo.Wd := match cs with | [x0, x1, x2, x3, x4, x5, x6] => ⟨nB x0, nB x1, nB x2, nI x3, nI x4, nI x5, nI x6⟩ | _ => ⟨false, false, false, 0, 0, 0, 0⟩
noncomputable def Mo.Wd.is (cs : List S) : Bool := kdsL [.b, .b, .b, .i .u32, .i .u32, .i .u64, .i .i64] cs
theorem Mo.Wd.is_ok {cs : List S} (h : Mo.Wd.is cs = true) : ∀ m ν vs, S.oks m ν cs vs → S.oks m ν (Mo.Wd.cells (Mo.Wd.of cs)) vs := by
  intro m ν vs hv
  have h1 := kdsL_ok h m ν vs hv
  have hl := kdsL_len h
  match cs, hl, h1 with
  | [x0, x1, x2, x3, x4, x5, x6], _, h1 => exact h1
theorem Mo.Wd.of_cells (c : Mo.Wd) : Mo.Wd.of (Mo.Wd.cells c) = c := rfl
structure Mo.Rt where
  sec : Int
  alarm : Int
  rest : Int
  set : Int
  en : Bool
  raised : Bool
  div : Int
noncomputable def Mo.Rt.cells (c : Mo.Rt) : List S := [.iv .u64 c.sec, .iv .u64 c.alarm, .iv .u32 c.rest, .iv .u32 c.set, .bv c.en, .bv c.raised, .iv .u32 c.div]
noncomputable def Mo.Rt.of (cs : List S) : Mo.Rt := match cs with | [x0, x1, x2, x3, x4, x5, x6] => ⟨nI x0, nI x1, nI x2, nI x3, nB x4, nB x5, nI x6⟩ | _ => ⟨0, 0, 0, 0, false, false, 0⟩
noncomputable def Mo.Rt.is (cs : List S) : Bool := kdsL [.i .u64, .i .u64, .i .u32, .i .u32, .b, .b, .i .u32] cs
theorem Mo.Rt.is_ok {cs : List S} (h : Mo.Rt.is cs = true) : ∀ m ν vs, S.oks m ν cs vs → S.oks m ν (Mo.Rt.cells (Mo.Rt.of cs)) vs := by
  intro m ν vs hv
  have h1 := kdsL_ok h m ν vs hv
  have hl := kdsL_len h
  match cs, hl, h1 with
  | [x0, x1, x2, x3, x4, x5, x6], _, h1 => exact h1
theorem Mo.Rt.of_cells (c : Mo.Rt) : Mo.Rt.of (Mo.Rt.cells c) = c := rfl
structure Mo.Rs where
  cause : Int
  count : Int
  key : Int
  last : Int
  asked : Bool
noncomputable def Mo.Rs.cells (c : Mo.Rs) : List S := [.iv .u32 c.cause, .iv .u32 c.count, .iv .u32 c.key, .iv .u32 c.last, .bv c.asked]
noncomputable def Mo.Rs.of (cs : List S) : Mo.Rs := match cs with | [x0, x1, x2, x3, x4] => ⟨nI x0, nI x1, nI x2, nI x3, nB x4⟩ | _ => ⟨0, 0, 0, 0, false⟩
noncomputable def Mo.Rs.is (cs : List S) : Bool := kdsL [.i .u32, .i .u32, .i .u32, .i .u32, .b] cs
theorem Mo.Rs.is_ok {cs : List S} (h : Mo.Rs.is cs = true) : ∀ m ν vs, S.oks m ν cs vs → S.oks m ν (Mo.Rs.cells (Mo.Rs.of cs)) vs := by
  intro m ν vs hv
  have h1 := kdsL_ok h m ν vs hv
  have hl := kdsL_len h
  match cs, hl, h1 with
  | [x0, x1, x2, x3, x4], _, h1 => exact h1
theorem Mo.Rs.of_cells (c : Mo.Rs) : Mo.Rs.of (Mo.Rs.cells c) = c := rfl
structure Mo.Ln where
  high : Int
  mask : Int
noncomputable def Mo.Ln.cells (c : Mo.Ln) : List S := [.iv .u32 c.high, .iv .u32 c.mask]
noncomputable def Mo.Ln.of (cs : List S) : Mo.Ln := match cs with | [x0, x1] => ⟨nI x0, nI x1⟩ | _ => ⟨0, 0⟩
noncomputable def Mo.Ln.is (cs : List S) : Bool := kdsL [.i .u32, .i .u32] cs
theorem Mo.Ln.is_ok {cs : List S} (h : Mo.Ln.is cs = true) : ∀ m ν vs, S.oks m ν cs vs → S.oks m ν (Mo.Ln.cells (Mo.Ln.of cs)) vs := by
  intro m ν vs hv
  have h1 := kdsL_ok h m ν vs hv
  have hl := kdsL_len h
  match cs, hl, h1 with
  | [x0, x1], _, h1 => exact h1
theorem Mo.Ln.of_cells (c : Mo.Ln) : Mo.Ln.of (Mo.Ln.cells c) = c := rfl
structure Mo.Bk where
  c0 : Mo.Cnt
structure Mo.Bd where
  k : Mo.Cl
  w : Mo.Wd
  t : Mo.Rt
  r : Mo.Rs
  l : Mo.Ln
  n : Mo.Bk
noncomputable def Mo.bPut1_v1 (n : Int) (q : Int) : Int := (if ((iL q 0) = true) then n else (if ((iM 32 q) = true) then n else (if ((iE (cvw (slq 1 q) 0) 0) = true) then n else (rrw (nnw n (cvw (slq 1 q) 0)) (anw (slw 1 q) (cvw (slq 1 q) 0))))))
noncomputable def Mo.bPut1_pre (q : Int) : Prop := (if ((iL q 0) = true) then True else (if ((iM 32 q) = true) then True else (if ((iM 0 q) = true) then True else False)))
noncomputable def bPut1_tree (n : Int) (q : Int) (K : S → List Ob → Prop) : Prop := (if ((iL q 0) = true) then K (.iv .u32 n) [] else (if ((iM 32 q) = true) then K (.iv .u32 n) [] else (if ((iM 0 q) = true) then (if ((iE (cvw (slq 1 q) 0) 0) = true) then K (.iv .u32 n) [] else (if ((iM 0 q) = true) then K (.iv .u32 (rrw (nnw n (cvw (slq 1 q) 0)) (anw (slw 1 q) (cvw (slq 1 q) 0)))) [] else False)) else False)))
theorem bPut1_run (n : Int) (q : Int) (K : S → List Ob → Prop) : callX (std noW) tt ffLpA stopLpA (lpB noW Tryz.prog) noL 60 95 [.iv .u32 n, .iv .i64 q, .il .i64 1, .il .u32 1] [] (gcK 0 (ivK false K)) = bPut1_tree n q K := by kernel_rfl
noncomputable def bPut1_T (n : Int) (q : Int) (K : S → List Ob → Prop) : Prop := Mo.bPut1_pre q ∧ K (.iv .u32 (Mo.bPut1_v1 n q)) []
theorem bPut1_all (n : Int) (q : Int) (K : S → List Ob → Prop) (h : bPut1_T n q K) : bPut1_tree n q K := by
  unfold bPut1_T at h; obtain ⟨h0, h⟩ := h; unfold bPut1_tree
  try simp only [Mo.bPut1_v1] at h0 h
  try simp only [Mo.bPut1_pre] at h0 h
  repeat' (first | (refine ite_intro (fun c => ?_) (fun c => ?_) <;> first | simp only [if_pos c] at h0 h | simp only [if_neg c] at h0 h | skip) | with_reducible (replace h0 := (h0 : True ∧ _).2) | with_reducible (refine ⟨rfl, ?_⟩) | with_reducible (refine ⟨h0.1, ?_⟩; replace h0 := h0.2) | with_reducible (refine ⟨h0, ?_⟩) | (refine ⟨h0.1, ?_⟩; replace h0 := h0.2) | refine ⟨h0, ?_⟩ | refine ⟨rfl, ?_⟩ | refine ⟨trivial, ?_⟩ | refine ⟨by assumption, ?_⟩ | refine ⟨Eq.symm (by assumption), ?_⟩ | exact h | refine ⟨?_, ?_⟩ | exact h0.elim | trivial | contradiction | (simp only [if_true, if_false, Bool.false_eq_true] at h; exact h))
theorem bPut1_sem (n : Int) (q : Int) (K : S → List Ob → Prop) (h : bPut1_T n q K) : CallSem noW Tryz.prog 95 [.iv .u32 n, .iv .i64 q, .il .i64 1, .il .u32 1] [] K := iv_call (callX_ok tok (by kernel_rfl) ffLpAok stopLpA_ok _ _ _ _ (Eq.mpr (bPut1_run n q K) (bPut1_all n q K h)))
noncomputable def bPut1_con : Con := ⟨[.int .u32, .int .i64, .same (.il .i64 1), .same (.il .u32 1)], [], [], fun a K => match a with | ⟨[n, q], [], [], [], []⟩ => bPut1_T n q K | _ => False⟩
theorem bPut1_ok : bPut1_con.ok noW Tryz.prog 95 := by
  intro a K h
  simp only [bPut1_con] at h
  split at h
  case h_2 => exact h.elim
  exact bPut1_sem _ _ K h
noncomputable def bPut88_tree (n : Int) (v : Int) (K : S → List Ob → Prop) : Prop := K (.iv .u32 (rrw (nnw n 65280) (anw (slw v 8) 65280))) []
theorem bPut88_run (n : Int) (v : Int) (K : S → List Ob → Prop) : callX (std noW) tt ffLpA stopLpA (lpB noW Tryz.prog) noL 60 95 [.iv .u32 n, .il .i64 8, .il .i64 8, .iv .u32 v] [] (gcK 0 (ivK false K)) = bPut88_tree n v K := by kernel_rfl
noncomputable def bPut88_T (n : Int) (v : Int) (K : S → List Ob → Prop) : Prop := True ∧ K (.iv .u32 (rrw (nnw n 65280) (anw (slw v 8) 65280))) []
theorem bPut88_all (n : Int) (v : Int) (K : S → List Ob → Prop) (h : bPut88_T n v K) : bPut88_tree n v K := by
  unfold bPut88_T at h; obtain ⟨h0, h⟩ := h; unfold bPut88_tree
  repeat' first | exact h | (refine ite_intro (fun c => ?_) fun c => ?_) <;> first | simp only [if_pos c] at h0 h | simp only [if_neg c] at h0 h | skip
theorem bPut88_sem (n : Int) (v : Int) (K : S → List Ob → Prop) (h : bPut88_T n v K) : CallSem noW Tryz.prog 95 [.iv .u32 n, .il .i64 8, .il .i64 8, .iv .u32 v] [] K := iv_call (callX_ok tok (by kernel_rfl) ffLpAok stopLpA_ok _ _ _ _ (Eq.mpr (bPut88_run n v K) (bPut88_all n v K h)))
noncomputable def bPut88_con : Con := ⟨[.int .u32, .same (.il .i64 8), .same (.il .i64 8), .int .u32], [], [], fun a K => match a with | ⟨[n, v], [], [], [], []⟩ => bPut88_T n v K | _ => False⟩
theorem bPut88_ok : bPut88_con.ok noW Tryz.prog 95 := by
  intro a K h
  simp only [bPut88_con] at h
  split at h
  case h_2 => exact h.elim
  exact bPut88_sem _ _ K h
noncomputable def cRuns_tree (c : Mo.Cnt) (K : S → List Ob → Prop) : Prop := K (.bv (iN (anw (Mo.Cnt.ct c) 1) 0)) [(.cells 246 (Mo.Cnt.cells c))]
theorem cRuns_run (c : Mo.Cnt) (K : S → List Ob → Prop) : callX (std noW) tt ffLpA stopLpA (lpB noW Tryz.prog) noL 60 147 [.ptr 0 (.l 0)] [.cells 246 (Mo.Cnt.cells c)] (gcK 1 (ivK false K)) = cRuns_tree c K := by kernel_rfl
noncomputable def cRuns_T (c : Mo.Cnt) (K : S → List Ob → Prop) : Prop := True ∧ K (.bv (iN (anw (Mo.Cnt.ct c) 1) 0)) [(.cells 246 (Mo.Cnt.cells c))]
theorem cRuns_all (c : Mo.Cnt) (K : S → List Ob → Prop) (h : cRuns_T c K) : cRuns_tree c K := by
  unfold cRuns_T at h; obtain ⟨h0, h⟩ := h; unfold cRuns_tree
  repeat' first | exact h | (refine ite_intro (fun c => ?_) fun c => ?_) <;> first | simp only [if_pos c] at h0 h | simp only [if_neg c] at h0 h | skip
theorem cRuns_sem (c : Mo.Cnt) (K : S → List Ob → Prop) (h : cRuns_T c K) : CallSem noW Tryz.prog 147 [.ptr 0 (.l 0)] [.cells 246 (Mo.Cnt.cells c)] K := iv_call (callX_ok tok (by kernel_rfl) ffLpAok stopLpA_ok _ _ _ _ (Eq.mpr (cRuns_run c K) (cRuns_all c K h)))
noncomputable def cRuns_con : Con := ⟨[.ptr 0], [.cellsV 246], [], fun a K => match a with | ⟨[], [], [], [cs_c], []⟩ => (match Mo.Cnt.is cs_c with | true => cRuns_T (Mo.Cnt.of cs_c) K | false => False) | _ => False⟩
theorem cRuns_ok : cRuns_con.ok noW Tryz.prog 147 := by
  intro a K h
  simp only [cRuns_con] at h
  split at h
  case h_2 => exact h.elim
  split at h
  case h_2 => exact h.elim
  rename_i is_c
  exact CallSem.objs (cRuns_sem _ K h) (fun _ _ _ h => h) ⟨WkO.cells (Mo.Cnt.is_ok is_c), trivial⟩
noncomputable def Mo.cLine_v1 (c : Mo.Cnt) : Bool := (if ((iN (anw (Mo.Cnt.ct c) 4) 0) = true) then (iN (Mo.Cnt.st c) 0) else false)
noncomputable def cLine_tree (c : Mo.Cnt) (K : S → List Ob → Prop) : Prop := (if ((iN (anw (Mo.Cnt.ct c) 4) 0) = true) then K (.bv (iN (Mo.Cnt.st c) 0)) [(.cells 246 (Mo.Cnt.cells c))] else K (.bv false) [(.cells 246 (Mo.Cnt.cells c))])
theorem cLine_run (c : Mo.Cnt) (K : S → List Ob → Prop) : callX (std noW) tt ffLpA stopLpA (lpB noW Tryz.prog) noL 60 168 [.ptr 0 (.l 0)] [.cells 246 (Mo.Cnt.cells c)] (gcK 1 (ivK true K)) = cLine_tree c K := by kernel_rfl
noncomputable def cLine_T (c : Mo.Cnt) (K : S → List Ob → Prop) : Prop := True ∧ K (.bv (Mo.cLine_v1 c)) [(.cells 246 (Mo.Cnt.cells c))]
theorem cLine_all (c : Mo.Cnt) (K : S → List Ob → Prop) (h : cLine_T c K) : cLine_tree c K := by
  unfold cLine_T at h; obtain ⟨h0, h⟩ := h; unfold cLine_tree
  try simp only [Mo.cLine_v1] at h0 h
  repeat' first | exact h | (refine ite_intro (fun c => ?_) fun c => ?_) <;> first | simp only [if_pos c] at h0 h | simp only [if_neg c] at h0 h | skip
theorem cLine_sem (c : Mo.Cnt) (K : S → List Ob → Prop) (h : cLine_T c K) : CallSem noW Tryz.prog 168 [.ptr 0 (.l 0)] [.cells 246 (Mo.Cnt.cells c)] K := iv_call (callX_ok tok (by kernel_rfl) ffLpAok stopLpA_ok _ _ _ _ (Eq.mpr (cLine_run c K) (cLine_all c K h)))
noncomputable def cLine_con : Con := ⟨[.ptr 0], [.cellsV 246], [], fun a K => match a with | ⟨[], [], [], [cs_c], []⟩ => (match Mo.Cnt.is cs_c with | true => cLine_T (Mo.Cnt.of cs_c) K | false => False) | _ => False⟩
theorem cLine_ok : cLine_con.ok noW Tryz.prog 168 := by
  intro a K h
  simp only [cLine_con] at h
  split at h
  case h_2 => exact h.elim
  split at h
  case h_2 => exact h.elim
  rename_i is_c
  exact CallSem.objs (cLine_sem _ K h) (fun _ _ _ h => h) ⟨WkO.cells (Mo.Cnt.is_ok is_c), trivial⟩
noncomputable def hm_LpB_1 (x1 : Mo.Cnt) : List Ob := [(.cells 246 (Mo.Cnt.cells x1))]
noncomputable def Mo.cTick_v1 (n : Int) (c : Mo.Cnt) : Mo.Cnt := (if ((stdQ QO.not (iN (anw (Mo.Cnt.ct c) 1) 0) (iN (anw (Mo.Cnt.ct c) 1) 0)) = true) then c else (if ((iL n (sbq (adq (cvq (srw (anw (Mo.Cnt.ct c) 65280) 8) 0) 1) (cvq (Mo.Cnt.ph c) 0))) = true) then { c with ph := (adw (Mo.Cnt.ph c) (cvw n 0)) } else (if ((iL (adq (quq (sbq n (sbq (adq (cvq (srw (anw (Mo.Cnt.ct c) 65280) 8) 0) 1) (cvq (Mo.Cnt.ph c) 0))) (adq (cvq (srw (anw (Mo.Cnt.ct c) 65280) 8) 0) 1)) 1) (maq 1 (cvq (Mo.Cnt.va c) 0))) = true) then { c with va := (sbw (Mo.Cnt.va c) (cvw (adq (quq (sbq n (sbq (adq (cvq (srw (anw (Mo.Cnt.ct c) 65280) 8) 0) 1) (cvq (Mo.Cnt.ph c) 0))) (adq (cvq (srw (anw (Mo.Cnt.ct c) 65280) 8) 0) 1)) 1) 0)), ph := (cvw (rmq (sbq n (sbq (adq (cvq (srw (anw (Mo.Cnt.ct c) 65280) 8) 0) 1) (cvq (Mo.Cnt.ph c) 0))) (adq (cvq (srw (anw (Mo.Cnt.ct c) 65280) 8) 0) 1)) 0) } else (if ((iN (anw (Mo.Cnt.ct c) 2) 0) = true) then (if ((iL 0 (cvq (Mo.Cnt.ld c) 0)) = true) then { c with va := (cvw (sbq (cvq (Mo.Cnt.ld c) 0) (rmq (sbq (adq (quq (sbq n (sbq (adq (cvq (srw (anw (Mo.Cnt.ct c) 65280) 8) 0) 1) (cvq (Mo.Cnt.ph c) 0))) (adq (cvq (srw (anw (Mo.Cnt.ct c) 65280) 8) 0) 1)) 1) (maq 1 (cvq (Mo.Cnt.va c) 0))) (cvq (Mo.Cnt.ld c) 0))) 0), st := 1, ph := (cvw (rmq (sbq n (sbq (adq (cvq (srw (anw (Mo.Cnt.ct c) 65280) 8) 0) 1) (cvq (Mo.Cnt.ph c) 0))) (adq (cvq (srw (anw (Mo.Cnt.ct c) 65280) 8) 0) 1)) 0) } else { c with va := 0, ct := (nnw (Mo.Cnt.ct c) 1), st := 1, ph := 0 }) else { c with va := 0, ct := (nnw (Mo.Cnt.ct c) 1), st := 1, ph := 0 }))))
noncomputable def Mo.cTick_pre (n : Int) (c : Mo.Cnt) : Prop := (if ((stdQ QO.not (iN (anw (Mo.Cnt.ct c) 1) 0) (iN (anw (Mo.Cnt.ct c) 1) 0)) = true) then True else (if ((iL n (sbq (adq (cvq (srw (anw (Mo.Cnt.ct c) 65280) 8) 0) 1) (cvq (Mo.Cnt.ph c) 0))) = true) then True else (if ((iN (adq (cvq (srw (anw (Mo.Cnt.ct c) 65280) 8) 0) 1) 0) = true) then (if ((iL (adq (quq (sbq n (sbq (adq (cvq (srw (anw (Mo.Cnt.ct c) 65280) 8) 0) 1) (cvq (Mo.Cnt.ph c) 0))) (adq (cvq (srw (anw (Mo.Cnt.ct c) 65280) 8) 0) 1)) 1) (maq 1 (cvq (Mo.Cnt.va c) 0))) = true) then True else (if ((iN (anw (Mo.Cnt.ct c) 2) 0) = true) then (if ((iL 0 (cvq (Mo.Cnt.ld c) 0)) = true) then (if ((iN (cvq (Mo.Cnt.ld c) 0) 0) = true) then True else False) else True) else True)) else False)))
noncomputable def cTick_tree (n : Int) (c : Mo.Cnt) (K : S → List Ob → Prop) : Prop := (if ((stdQ QO.not (iN (anw (Mo.Cnt.ct c) 1) 0) (iN (anw (Mo.Cnt.ct c) 1) 0)) = true) then K (.tup []) [(.cells 246 (Mo.Cnt.cells c))] else (if ((iL n (sbq (adq (cvq (srw (anw (Mo.Cnt.ct c) 65280) 8) 0) 1) (cvq (Mo.Cnt.ph c) 0))) = true) then K (.tup []) [(.cells 246 (Mo.Cnt.cells { c with ph := (adw (Mo.Cnt.ph c) (cvw n 0)) }))] else (if ((iN (adq (cvq (srw (anw (Mo.Cnt.ct c) 65280) 8) 0) 1) 0) = true) then (if ((iN (adq (cvq (srw (anw (Mo.Cnt.ct c) 65280) 8) 0) 1) 0) = true) then (if ((iL (adq (quq (sbq n (sbq (adq (cvq (srw (anw (Mo.Cnt.ct c) 65280) 8) 0) 1) (cvq (Mo.Cnt.ph c) 0))) (adq (cvq (srw (anw (Mo.Cnt.ct c) 65280) 8) 0) 1)) 1) (maq 1 (cvq (Mo.Cnt.va c) 0))) = true) then K (.tup []) (hm_LpB_1 { c with va := (sbw (Mo.Cnt.va c) (cvw (adq (quq (sbq n (sbq (adq (cvq (srw (anw (Mo.Cnt.ct c) 65280) 8) 0) 1) (cvq (Mo.Cnt.ph c) 0))) (adq (cvq (srw (anw (Mo.Cnt.ct c) 65280) 8) 0) 1)) 1) 0)), ph := (cvw (rmq (sbq n (sbq (adq (cvq (srw (anw (Mo.Cnt.ct c) 65280) 8) 0) 1) (cvq (Mo.Cnt.ph c) 0))) (adq (cvq (srw (anw (Mo.Cnt.ct c) 65280) 8) 0) 1)) 0) }) else (if ((iN (anw (Mo.Cnt.ct c) 2) 0) = true) then (if ((iL 0 (cvq (Mo.Cnt.ld c) 0)) = true) then (if ((iN (cvq (Mo.Cnt.ld c) 0) 0) = true) then K (.tup []) (hm_LpB_1 { c with va := (cvw (sbq (cvq (Mo.Cnt.ld c) 0) (rmq (sbq (adq (quq (sbq n (sbq (adq (cvq (srw (anw (Mo.Cnt.ct c) 65280) 8) 0) 1) (cvq (Mo.Cnt.ph c) 0))) (adq (cvq (srw (anw (Mo.Cnt.ct c) 65280) 8) 0) 1)) 1) (maq 1 (cvq (Mo.Cnt.va c) 0))) (cvq (Mo.Cnt.ld c) 0))) 0), st := 1, ph := (cvw (rmq (sbq n (sbq (adq (cvq (srw (anw (Mo.Cnt.ct c) 65280) 8) 0) 1) (cvq (Mo.Cnt.ph c) 0))) (adq (cvq (srw (anw (Mo.Cnt.ct c) 65280) 8) 0) 1)) 0) }) else False) else (if ((iN (anw (Mo.Cnt.ct c) 2) 0) = true) then K (.tup []) [(.cells 246 (Mo.Cnt.cells { c with va := 0, ct := (nnw (Mo.Cnt.ct c) 1), st := 1, ph := 0 }))] else K (.tup []) [(.cells 246 (Mo.Cnt.cells { c with va := 0, ct := (nnw (Mo.Cnt.ct c) 1), st := 1, ph := 0 }))])) else (if ((iN (anw (Mo.Cnt.ct c) 2) 0) = true) then K (.tup []) [(.cells 246 (Mo.Cnt.cells { c with va := 0, ct := (nnw (Mo.Cnt.ct c) 1), st := 1, ph := 0 }))] else K (.tup []) [(.cells 246 (Mo.Cnt.cells { c with va := 0, ct := (nnw (Mo.Cnt.ct c) 1), st := 1, ph := 0 }))]))) else False) else False)))
theorem cTick_run (n : Int) (c : Mo.Cnt) (K : S → List Ob → Prop) : callX (std noW) tt ffLpA stopLpA (lpB noW Tryz.prog) noL 60 120 [.ptr 0 (.l 0), .iv .u64 n] [.cells 246 (Mo.Cnt.cells c)] (gcK 1 (ivK false K)) = cTick_tree n c K := by kernel_rfl
noncomputable def cTick_T (n : Int) (c : Mo.Cnt) (K : S → List Ob → Prop) : Prop := Mo.cTick_pre n c ∧ K (.tup []) [(.cells 246 (Mo.Cnt.cells (Mo.cTick_v1 n c)))]
theorem cTick_all (n : Int) (c : Mo.Cnt) (K : S → List Ob → Prop) (h : cTick_T n c K) : cTick_tree n c K := by
  unfold cTick_T at h; obtain ⟨h0, h⟩ := h; unfold cTick_tree
  try simp only [Mo.cTick_v1] at h0 h
  try simp only [Mo.cTick_pre] at h0 h
  repeat' (first | (refine ite_intro (fun c => ?_) (fun c => ?_) <;> first | simp only [if_pos c] at h0 h | simp only [if_neg c] at h0 h | skip) | with_reducible (replace h0 := (h0 : True ∧ _).2) | with_reducible (refine ⟨rfl, ?_⟩) | with_reducible (refine ⟨h0.1, ?_⟩; replace h0 := h0.2) | with_reducible (refine ⟨h0, ?_⟩) | (refine ⟨h0.1, ?_⟩; replace h0 := h0.2) | refine ⟨h0, ?_⟩ | refine ⟨rfl, ?_⟩ | refine ⟨trivial, ?_⟩ | refine ⟨by assumption, ?_⟩ | refine ⟨Eq.symm (by assumption), ?_⟩ | exact h | refine ⟨?_, ?_⟩ | exact h0.elim | trivial | contradiction | (simp only [if_true, if_false, Bool.false_eq_true] at h; exact h))
theorem cTick_sem (n : Int) (c : Mo.Cnt) (K : S → List Ob → Prop) (h : cTick_T n c K) : CallSem noW Tryz.prog 120 [.ptr 0 (.l 0), .iv .u64 n] [.cells 246 (Mo.Cnt.cells c)] K := iv_call (callX_ok tok (by kernel_rfl) ffLpAok stopLpA_ok _ _ _ _ (Eq.mpr (cTick_run n c K) (cTick_all n c K h)))
noncomputable def cTick_con : Con := ⟨[.ptr 0, .int .u64], [.cellsV 246], [], fun a K => match a with | ⟨[n], [], [], [cs_c], []⟩ => (match Mo.Cnt.is cs_c with | true => cTick_T n (Mo.Cnt.of cs_c) K | false => False) | _ => False⟩
theorem cTick_ok : cTick_con.ok noW Tryz.prog 120 := by
  intro a K h
  simp only [cTick_con] at h
  split at h
  case h_2 => exact h.elim
  split at h
  case h_2 => exact h.elim
  rename_i is_c
  exact CallSem.objs (cTick_sem _ _ K h) (fun _ _ _ h => h) ⟨WkO.cells (Mo.Cnt.is_ok is_c), trivial⟩
noncomputable def Mo.cLoad_v1 (off : Int) (c : Mo.Cnt) : Int := (if ((iN (rmw off 4) 0) = true) then 0 else (if ((iM 4 (srw off 2)) = true) then 0 else (if ((iE (cvi (srw off 2) 0) 0) = true) then (Mo.Cnt.ld c) else (if ((iE (cvi (srw off 2) 0) 1) = true) then (Mo.Cnt.va c) else (if ((iE (cvi (srw off 2) 0) 2) = true) then (Mo.Cnt.ct c) else (Mo.Cnt.st c))))))
noncomputable def Mo.cLoad_v2 (off : Int) : Int := (if ((iN (rmw off 4) 0) = true) then 11 else (if ((iM 4 (srw off 2)) = true) then 10 else 0))
noncomputable def Mo.cLoad_pre (off : Int) : Prop := (if ((iN (rmw off 4) 0) = true) then True else (if ((iM 4 (srw off 2)) = true) then True else (if ((iM 0 (cvi (srw off 2) 0)) = true) then (if ((iL (cvi (srw off 2) 0) 4) = true) then True else False) else False)))
noncomputable def cLoad_tree (off : Int) (c : Mo.Cnt) (K : S → List Ob → Prop) : Prop := (if ((iN (rmw off 4) 0) = true) then K (.tup [(.iv .u32 0), (.iv .i64 11)]) [(.cells 246 (Mo.Cnt.cells c))] else (if ((iM 4 (srw off 2)) = true) then K (.tup [(.iv .u32 0), (.iv .i64 10)]) [(.cells 246 (Mo.Cnt.cells c))] else (if ((iM 0 (cvi (srw off 2) 0)) = true) then (if ((iL (cvi (srw off 2) 0) 4) = true) then (if ((iE (cvi (srw off 2) 0) 0) = true) then K (.tup [(.iv .u32 (Mo.Cnt.ld c)), (.iv .i64 0)]) [(.cells 246 (Mo.Cnt.cells c))] else (if ((iE (cvi (srw off 2) 0) 1) = true) then K (.tup [(.iv .u32 (Mo.Cnt.va c)), (.iv .i64 0)]) [(.cells 246 (Mo.Cnt.cells c))] else (if ((iE (cvi (srw off 2) 0) 2) = true) then K (.tup [(.iv .u32 (Mo.Cnt.ct c)), (.iv .i64 0)]) [(.cells 246 (Mo.Cnt.cells c))] else K (.tup [(.iv .u32 (Mo.Cnt.st c)), (.iv .i64 0)]) [(.cells 246 (Mo.Cnt.cells c))]))) else False) else False)))
theorem cLoad_run (off : Int) (c : Mo.Cnt) (K : S → List Ob → Prop) : callX (std noW) tt ffLpA stopLpA (lpB noW Tryz.prog) noL 60 222 [.ptr 0 (.l 0), .iv .u32 off] [.cells 246 (Mo.Cnt.cells c)] (gcK 1 (ivK true K)) = cLoad_tree off c K := by kernel_rfl
noncomputable def cLoad_T (off : Int) (c : Mo.Cnt) (K : S → List Ob → Prop) : Prop := Mo.cLoad_pre off ∧ K (.tup [(.iv .u32 (Mo.cLoad_v1 off c)), (.iv .i64 (Mo.cLoad_v2 off))]) [(.cells 246 (Mo.Cnt.cells c))]
theorem cLoad_all (off : Int) (c : Mo.Cnt) (K : S → List Ob → Prop) (h : cLoad_T off c K) : cLoad_tree off c K := by
  unfold cLoad_T at h; obtain ⟨h0, h⟩ := h; unfold cLoad_tree
  try simp only [Mo.cLoad_v1] at h0 h
  try simp only [Mo.cLoad_v2] at h0 h
  try simp only [Mo.cLoad_pre] at h0 h
  repeat' first | exact h | (refine ite_intro (fun c => ?_) fun c => ?_) <;> first | simp only [if_pos c] at h0 h | simp only [if_neg c] at h0 h | skip
theorem cLoad_sem (off : Int) (c : Mo.Cnt) (K : S → List Ob → Prop) (h : cLoad_T off c K) : CallSem noW Tryz.prog 222 [.ptr 0 (.l 0), .iv .u32 off] [.cells 246 (Mo.Cnt.cells c)] K := iv_call (callX_ok tok (by kernel_rfl) ffLpAok stopLpA_ok _ _ _ _ (Eq.mpr (cLoad_run off c K) (cLoad_all off c K h)))
noncomputable def cLoad_con : Con := ⟨[.ptr 0, .int .u32], [.cellsV 246], [], fun a K => match a with | ⟨[off], [], [], [cs_c], []⟩ => (match Mo.Cnt.is cs_c with | true => cLoad_T off (Mo.Cnt.of cs_c) K | false => False) | _ => False⟩
theorem cLoad_ok : cLoad_con.ok noW Tryz.prog 222 := by
  intro a K h
  simp only [cLoad_con] at h
  split at h
  case h_2 => exact h.elim
  split at h
  case h_2 => exact h.elim
  rename_i is_c
  exact CallSem.objs (cLoad_sem _ _ K h) (fun _ _ _ h => h) ⟨WkO.cells (Mo.Cnt.is_ok is_c), trivial⟩
noncomputable def Mo.cStore_v1 (off : Int) : Int := (if ((iN (rmw off 4) 0) = true) then 11 else (if ((iM 4 (srw off 2)) = true) then 10 else (if ((iE (cvi (srw off 2) 0) 1) = true) then 12 else 0)))
noncomputable def Mo.cStore_v2 (off : Int) (v : Int) (c : Mo.Cnt) : Mo.Cnt := (if ((iN (rmw off 4) 0) = true) then c else (if ((iM 4 (srw off 2)) = true) then c else (if ((iE (cvi (srw off 2) 0) 1) = true) then c else (if ((iE (cvi (srw off 2) 0) 0) = true) then { c with ld := v } else (if ((iE (cvi (srw off 2) 0) 3) = true) then { c with st := (nnw (Mo.Cnt.st c) (anw v 1)) } else (if ((iE (cvi (srw off 2) 0) 2) = true) then (if ((iN (anw (anw v 65287) 1) 0) = true) then (if ((stdQ QO.not (iN (anw (Mo.Cnt.ct c) 1) 0) (iN (anw (Mo.Cnt.ct c) 1) 0)) = true) then { c with va := (Mo.Cnt.ld c), ct := (anw v 65287), ph := 0 } else { c with ct := (anw v 65287), ph := 0 }) else { c with ct := (anw v 65287), ph := 0 }) else c))))))
noncomputable def cStore_tree (off : Int) (v : Int) (c : Mo.Cnt) (K : S → List Ob → Prop) : Prop := (if ((iN (rmw off 4) 0) = true) then K (.iv .i64 11) [(.cells 246 (Mo.Cnt.cells c))] else (if ((iM 4 (srw off 2)) = true) then K (.iv .i64 10) [(.cells 246 (Mo.Cnt.cells c))] else (if ((iE (cvi (srw off 2) 0) 1) = true) then K (.iv .i64 12) [(.cells 246 (Mo.Cnt.cells c))] else (if ((iE (cvi (srw off 2) 0) 0) = true) then K (.iv .i64 0) [(.cells 246 (Mo.Cnt.cells { c with ld := v }))] else (if ((iE (cvi (srw off 2) 0) 3) = true) then K (.iv .i64 0) [(.cells 246 (Mo.Cnt.cells { c with st := (nnw (Mo.Cnt.st c) (anw v 1)) }))] else (if ((iE (cvi (srw off 2) 0) 2) = true) then (if ((iN (anw (anw v 65287) 1) 0) = true) then (if ((stdQ QO.not (iN (anw (Mo.Cnt.ct c) 1) 0) (iN (anw (Mo.Cnt.ct c) 1) 0)) = true) then K (.iv .i64 0) [(.cells 246 (Mo.Cnt.cells { c with va := (Mo.Cnt.ld c), ct := (anw v 65287), ph := 0 }))] else K (.iv .i64 0) [(.cells 246 (Mo.Cnt.cells { c with ct := (anw v 65287), ph := 0 }))]) else K (.iv .i64 0) [(.cells 246 (Mo.Cnt.cells { c with ct := (anw v 65287), ph := 0 }))]) else K (.iv .i64 0) [(.cells 246 (Mo.Cnt.cells c))]))))))
theorem cStore_run (off : Int) (v : Int) (c : Mo.Cnt) (K : S → List Ob → Prop) : callX (std noW) tt ffLpA stopLpA (lpB noW Tryz.prog) noL 60 224 [.ptr 0 (.l 0), .iv .u32 off, .iv .u32 v] [.cells 246 (Mo.Cnt.cells c)] (gcK 1 (ivK true K)) = cStore_tree off v c K := by kernel_rfl
noncomputable def cStore_T (off : Int) (v : Int) (c : Mo.Cnt) (K : S → List Ob → Prop) : Prop := True ∧ K (.iv .i64 (Mo.cStore_v1 off)) [(.cells 246 (Mo.Cnt.cells (Mo.cStore_v2 off v c)))]
theorem cStore_all (off : Int) (v : Int) (c : Mo.Cnt) (K : S → List Ob → Prop) (h : cStore_T off v c K) : cStore_tree off v c K := by
  unfold cStore_T at h; obtain ⟨h0, h⟩ := h; unfold cStore_tree
  try simp only [Mo.cStore_v1] at h0 h
  try simp only [Mo.cStore_v2] at h0 h
  repeat' first | exact h | (refine ite_intro (fun c => ?_) fun c => ?_) <;> first | simp only [if_pos c] at h0 h | simp only [if_neg c] at h0 h | skip
theorem cStore_sem (off : Int) (v : Int) (c : Mo.Cnt) (K : S → List Ob → Prop) (h : cStore_T off v c K) : CallSem noW Tryz.prog 224 [.ptr 0 (.l 0), .iv .u32 off, .iv .u32 v] [.cells 246 (Mo.Cnt.cells c)] K := iv_call (callX_ok tok (by kernel_rfl) ffLpAok stopLpA_ok _ _ _ _ (Eq.mpr (cStore_run off v c K) (cStore_all off v c K h)))
noncomputable def cStore_con : Con := ⟨[.ptr 0, .int .u32, .int .u32], [.cellsV 246], [], fun a K => match a with | ⟨[off, v], [], [], [cs_c], []⟩ => (match Mo.Cnt.is cs_c with | true => cStore_T off v (Mo.Cnt.of cs_c) K | false => False) | _ => False⟩
theorem cStore_ok : cStore_con.ok noW Tryz.prog 224 := by
  intro a K h
  simp only [cStore_con] at h
  split at h
  case h_2 => exact h.elim
  split at h
  case h_2 => exact h.elim
  rename_i is_c
  exact CallSem.objs (cStore_sem _ _ _ K h) (fun _ _ _ h => h) ⟨WkO.cells (Mo.Cnt.is_ok is_c), trivial⟩
noncomputable def Mo.cReset_v1 (c : Mo.Cnt) : Mo.Cnt := (if ((stdQ QO.not (stdQ QO.and (stdQ QO.and (iE (Mo.Cnt.ld c) 0) (stdQ QO.and (iE (Mo.Cnt.va c) 0) (stdQ QO.and (iE (Mo.Cnt.ct c) 0) (iE (Mo.Cnt.st c) 0)))) (iE (Mo.Cnt.ph c) 0)) (stdQ QO.and (stdQ QO.and (iE (Mo.Cnt.ld c) 0) (stdQ QO.and (iE (Mo.Cnt.va c) 0) (stdQ QO.and (iE (Mo.Cnt.ct c) 0) (iE (Mo.Cnt.st c) 0)))) (iE (Mo.Cnt.ph c) 0))) = true) then (Mo.Cnt.mk 0 0 0 0 0) else c)
noncomputable def cReset_tree (c : Mo.Cnt) (K : S → List Ob → Prop) : Prop := (if ((stdQ QO.not (stdQ QO.and (stdQ QO.and (iE (Mo.Cnt.ld c) 0) (stdQ QO.and (iE (Mo.Cnt.va c) 0) (stdQ QO.and (iE (Mo.Cnt.ct c) 0) (iE (Mo.Cnt.st c) 0)))) (iE (Mo.Cnt.ph c) 0)) (stdQ QO.and (stdQ QO.and (iE (Mo.Cnt.ld c) 0) (stdQ QO.and (iE (Mo.Cnt.va c) 0) (stdQ QO.and (iE (Mo.Cnt.ct c) 0) (iE (Mo.Cnt.st c) 0)))) (iE (Mo.Cnt.ph c) 0))) = true) then K (.tup []) [(.cells 246 (Mo.Cnt.cells (Mo.Cnt.mk 0 0 0 0 0)))] else K (.tup []) [(.cells 246 (Mo.Cnt.cells c))])
theorem cReset_run (c : Mo.Cnt) (K : S → List Ob → Prop) : callX (std noW) tt ffLpA stopLpA (lpB noW Tryz.prog) noL 60 223 [.ptr 0 (.l 0)] [.cells 246 (Mo.Cnt.cells c)] (gcK 1 (ivK false K)) = cReset_tree c K := by kernel_rfl
noncomputable def cReset_T (c : Mo.Cnt) (K : S → List Ob → Prop) : Prop := True ∧ K (.tup []) [(.cells 246 (Mo.Cnt.cells (Mo.cReset_v1 c)))]
theorem cReset_all (c : Mo.Cnt) (K : S → List Ob → Prop) (h : cReset_T c K) : cReset_tree c K := by
  unfold cReset_T at h; obtain ⟨h0, h⟩ := h; unfold cReset_tree
  try simp only [Mo.cReset_v1] at h0 h
  repeat' first | exact h | (refine ite_intro (fun c => ?_) fun c => ?_) <;> first | simp only [if_pos c] at h0 h | simp only [if_neg c] at h0 h | skip
theorem cReset_sem (c : Mo.Cnt) (K : S → List Ob → Prop) (h : cReset_T c K) : CallSem noW Tryz.prog 223 [.ptr 0 (.l 0)] [.cells 246 (Mo.Cnt.cells c)] K := iv_call (callX_ok tok (by kernel_rfl) ffLpAok stopLpA_ok _ _ _ _ (Eq.mpr (cReset_run c K) (cReset_all c K h)))
noncomputable def cReset_con : Con := ⟨[.ptr 0], [.cellsV 246], [], fun a K => match a with | ⟨[], [], [], [cs_c], []⟩ => (match Mo.Cnt.is cs_c with | true => cReset_T (Mo.Cnt.of cs_c) K | false => False) | _ => False⟩
theorem cReset_ok : cReset_con.ok noW Tryz.prog 223 := by
  intro a K h
  simp only [cReset_con] at h
  split at h
  case h_2 => exact h.elim
  split at h
  case h_2 => exact h.elim
  rename_i is_c
  exact CallSem.objs (cReset_sem _ K h) (fun _ _ _ h => h) ⟨WkO.cells (Mo.Cnt.is_ok is_c), trivial⟩
noncomputable def kTime_tree (c : Mo.Cl) (K : S → List Ob → Prop) : Prop := K (.iv .u64 (Mo.Cl.time c)) [(.cells 183 (Mo.Cl.cells c))]
theorem kTime_run (c : Mo.Cl) (K : S → List Ob → Prop) : callX (std noW) tt ffLpA stopLpA (lpB noW Tryz.prog) noL 60 107 [.ptr 0 (.l 0)] [.cells 183 (Mo.Cl.cells c)] (gcK 1 (ivK false K)) = kTime_tree c K := by kernel_rfl
noncomputable def kTime_T (c : Mo.Cl) (K : S → List Ob → Prop) : Prop := True ∧ K (.iv .u64 (Mo.Cl.time c)) [(.cells 183 (Mo.Cl.cells c))]
theorem kTime_all (c : Mo.Cl) (K : S → List Ob → Prop) (h : kTime_T c K) : kTime_tree c K := by
  unfold kTime_T at h; obtain ⟨h0, h⟩ := h; unfold kTime_tree
  repeat' first | exact h | (refine ite_intro (fun c => ?_) fun c => ?_) <;> first | simp only [if_pos c] at h0 h | simp only [if_neg c] at h0 h | skip
theorem kTime_sem (c : Mo.Cl) (K : S → List Ob → Prop) (h : kTime_T c K) : CallSem noW Tryz.prog 107 [.ptr 0 (.l 0)] [.cells 183 (Mo.Cl.cells c)] K := iv_call (callX_ok tok (by kernel_rfl) ffLpAok stopLpA_ok _ _ _ _ (Eq.mpr (kTime_run c K) (kTime_all c K h)))
noncomputable def kTime_con : Con := ⟨[.ptr 0], [.cellsV 183], [], fun a K => match a with | ⟨[], [], [], [cs_c], []⟩ => (match Mo.Cl.is cs_c with | true => kTime_T (Mo.Cl.of cs_c) K | false => False) | _ => False⟩
theorem kTime_ok : kTime_con.ok noW Tryz.prog 107 := by
  intro a K h
  simp only [kTime_con] at h
  split at h
  case h_2 => exact h.elim
  split at h
  case h_2 => exact h.elim
  rename_i is_c
  exact CallSem.objs (kTime_sem _ K h) (fun _ _ _ h => h) ⟨WkO.cells (Mo.Cl.is_ok is_c), trivial⟩
noncomputable def hm_LpB_2 (x1 : Mo.Cl) : List Ob := [(.cells 183 (Mo.Cl.cells x1))]
noncomputable def Mo.kTick_v1 (n : Int) (c : Mo.Cl) : Mo.Cl := (if ((iE (((Mo.Cl.time c) + n) / 18446744073709551616) 0) = true) then { c with time := (((Mo.Cl.time c) + n) % 18446744073709551616) } else { c with time := 18446744073709551615 })
noncomputable def Mo.kTick_pre (n : Int) (c : Mo.Cl) : Prop := (((0 : Int) ≤ (Mo.Cl.time c)) ∧ ((0 : Int) ≤ n))
noncomputable def kTick_tree (n : Int) (c : Mo.Cl) (K : S → List Ob → Prop) : Prop := ((((0 : Int) ≤ (Mo.Cl.time c)) ∧ ((0 : Int) ≤ n)) ∧ (((0 : Int) = 0) ∧ (if ((iE (((Mo.Cl.time c) + n) / 18446744073709551616) 0) = true) then K (.tup []) (hm_LpB_2 { c with time := (((Mo.Cl.time c) + n) % 18446744073709551616) }) else K (.tup []) (hm_LpB_2 { c with time := 18446744073709551615 }))))
theorem kTick_run (n : Int) (c : Mo.Cl) (K : S → List Ob → Prop) : callX (std noW) tt ffLpA stopLpA (lpB noW Tryz.prog) noL 60 78 [.ptr 0 (.l 0), .iv .u64 n] [.cells 183 (Mo.Cl.cells c)] (gcK 1 (ivK false K)) = kTick_tree n c K := by kernel_rfl
noncomputable def kTick_T (n : Int) (c : Mo.Cl) (K : S → List Ob → Prop) : Prop := Mo.kTick_pre n c ∧ K (.tup []) [(.cells 183 (Mo.Cl.cells (Mo.kTick_v1 n c)))]
theorem kTick_all (n : Int) (c : Mo.Cl) (K : S → List Ob → Prop) (h : kTick_T n c K) : kTick_tree n c K := by
  unfold kTick_T at h; obtain ⟨h0, h⟩ := h; unfold kTick_tree
  try simp only [Mo.kTick_v1] at h0 h
  try simp only [Mo.kTick_pre] at h0 h
  repeat' first | exact h | refine ⟨rfl, ?_⟩ | (refine ⟨h0.1, ?_⟩; replace h0 := h0.2) | refine ⟨h0, ?_⟩ | exact h0.elim | (refine ite_intro (fun c => ?_) fun c => ?_) <;> first | simp only [if_pos c] at h0 h | simp only [if_neg c] at h0 h | skip
theorem kTick_sem (n : Int) (c : Mo.Cl) (K : S → List Ob → Prop) (h : kTick_T n c K) : CallSem noW Tryz.prog 78 [.ptr 0 (.l 0), .iv .u64 n] [.cells 183 (Mo.Cl.cells c)] K := iv_call (callX_ok tok (by kernel_rfl) ffLpAok stopLpA_ok _ _ _ _ (Eq.mpr (kTick_run n c K) (kTick_all n c K h)))
noncomputable def kTick_con : Con := ⟨[.ptr 0, .int .u64], [.cellsV 183], [], fun a K => match a with | ⟨[n], [], [], [cs_c], []⟩ => (match Mo.Cl.is cs_c with | true => kTick_T n (Mo.Cl.of cs_c) K | false => False) | _ => False⟩
theorem kTick_ok : kTick_con.ok noW Tryz.prog 78 := by
  intro a K h
  simp only [kTick_con] at h
  split at h
  case h_2 => exact h.elim
  split at h
  case h_2 => exact h.elim
  rename_i is_c
  exact CallSem.objs (kTick_sem _ _ K h) (fun _ _ _ h => h) ⟨WkO.cells (Mo.Cl.is_ok is_c), trivial⟩
noncomputable def Mo.kLine_v1 (q : Int) (c : Mo.Cl) : Bool := (if ((iM 0 q) = true) then (if ((iL q (Mo.Cl.n c)) = true) then (if ((iE q 0) = true) then (iM (Mo.Cl.k0 c) (Mo.Cl.time c)) else (if ((iE q 1) = true) then (iM (Mo.Cl.k1 c) (Mo.Cl.time c)) else (if ((iE q 2) = true) then (iM (Mo.Cl.k2 c) (Mo.Cl.time c)) else (if ((iE q 3) = true) then (iM (Mo.Cl.k3 c) (Mo.Cl.time c)) else (if ((iE q 4) = true) then (iM (Mo.Cl.k4 c) (Mo.Cl.time c)) else (if ((iE q 5) = true) then (iM (Mo.Cl.k5 c) (Mo.Cl.time c)) else (if ((iE q 6) = true) then (iM (Mo.Cl.k6 c) (Mo.Cl.time c)) else (iM (Mo.Cl.k7 c) (Mo.Cl.time c))))))))) else false) else false)
noncomputable def Mo.kLine_pre (q : Int) (c : Mo.Cl) : Prop := (if ((iM 0 q) = true) then (if ((iL q (Mo.Cl.n c)) = true) then (if ((iL q 8) = true) then True else False) else True) else True)
noncomputable def kLine_tree (q : Int) (c : Mo.Cl) (K : S → List Ob → Prop) : Prop := (if ((iM 0 q) = true) then (if ((iL q (Mo.Cl.n c)) = true) then (if ((iM 0 q) = true) then (if ((iL q 8) = true) then (if ((iE q 0) = true) then K (.bv (iM (Mo.Cl.k0 c) (Mo.Cl.time c))) [(.cells 183 (Mo.Cl.cells c))] else (if ((iE q 1) = true) then K (.bv (iM (Mo.Cl.k1 c) (Mo.Cl.time c))) [(.cells 183 (Mo.Cl.cells c))] else (if ((iE q 2) = true) then K (.bv (iM (Mo.Cl.k2 c) (Mo.Cl.time c))) [(.cells 183 (Mo.Cl.cells c))] else (if ((iE q 3) = true) then K (.bv (iM (Mo.Cl.k3 c) (Mo.Cl.time c))) [(.cells 183 (Mo.Cl.cells c))] else (if ((iE q 4) = true) then K (.bv (iM (Mo.Cl.k4 c) (Mo.Cl.time c))) [(.cells 183 (Mo.Cl.cells c))] else (if ((iE q 5) = true) then K (.bv (iM (Mo.Cl.k5 c) (Mo.Cl.time c))) [(.cells 183 (Mo.Cl.cells c))] else (if ((iE q 6) = true) then K (.bv (iM (Mo.Cl.k6 c) (Mo.Cl.time c))) [(.cells 183 (Mo.Cl.cells c))] else K (.bv (iM (Mo.Cl.k7 c) (Mo.Cl.time c))) [(.cells 183 (Mo.Cl.cells c))]))))))) else False) else False) else K (.bv false) [(.cells 183 (Mo.Cl.cells c))]) else K (.bv false) [(.cells 183 (Mo.Cl.cells c))])
theorem kLine_run (q : Int) (c : Mo.Cl) (K : S → List Ob → Prop) : callX (std noW) tt ffLpA stopLpA (lpB noW Tryz.prog) noL 60 137 [.ptr 0 (.l 0), .iv .i64 q] [.cells 183 (Mo.Cl.cells c)] (gcK 1 (ivK true K)) = kLine_tree q c K := by kernel_rfl
noncomputable def kLine_T (q : Int) (c : Mo.Cl) (K : S → List Ob → Prop) : Prop := Mo.kLine_pre q c ∧ K (.bv (Mo.kLine_v1 q c)) [(.cells 183 (Mo.Cl.cells c))]
theorem kLine_all (q : Int) (c : Mo.Cl) (K : S → List Ob → Prop) (h : kLine_T q c K) : kLine_tree q c K := by
  unfold kLine_T at h; obtain ⟨h0, h⟩ := h; unfold kLine_tree
  try simp only [Mo.kLine_v1] at h0 h
  try simp only [Mo.kLine_pre] at h0 h
  repeat' (first | (refine ite_intro (fun c => ?_) (fun c => ?_) <;> first | simp only [if_pos c] at h0 h | simp only [if_neg c] at h0 h | skip) | with_reducible (replace h0 := (h0 : True ∧ _).2) | with_reducible (refine ⟨rfl, ?_⟩) | with_reducible (refine ⟨h0.1, ?_⟩; replace h0 := h0.2) | with_reducible (refine ⟨h0, ?_⟩) | (refine ⟨h0.1, ?_⟩; replace h0 := h0.2) | refine ⟨h0, ?_⟩ | refine ⟨rfl, ?_⟩ | refine ⟨trivial, ?_⟩ | refine ⟨by assumption, ?_⟩ | refine ⟨Eq.symm (by assumption), ?_⟩ | exact h | refine ⟨?_, ?_⟩ | exact h0.elim | trivial | contradiction | (simp only [if_true, if_false, Bool.false_eq_true] at h; exact h))
theorem kLine_sem (q : Int) (c : Mo.Cl) (K : S → List Ob → Prop) (h : kLine_T q c K) : CallSem noW Tryz.prog 137 [.ptr 0 (.l 0), .iv .i64 q] [.cells 183 (Mo.Cl.cells c)] K := iv_call (callX_ok tok (by kernel_rfl) ffLpAok stopLpA_ok _ _ _ _ (Eq.mpr (kLine_run q c K) (kLine_all q c K h)))
noncomputable def kLine_con : Con := ⟨[.ptr 0, .int .i64], [.cellsV 183], [], fun a K => match a with | ⟨[q], [], [], [cs_c], []⟩ => (match Mo.Cl.is cs_c with | true => kLine_T q (Mo.Cl.of cs_c) K | false => False) | _ => False⟩
theorem kLine_ok : kLine_con.ok noW Tryz.prog 137 := by
  intro a K h
  simp only [kLine_con] at h
  split at h
  case h_2 => exact h.elim
  split at h
  case h_2 => exact h.elim
  rename_i is_c
  exact CallSem.objs (kLine_sem _ _ K h) (fun _ _ _ h => h) ⟨WkO.cells (Mo.Cl.is_ok is_c), trivial⟩
noncomputable def Mo.kSoft_v1 (q : Int) (c : Mo.Cl) : Bool := (if ((iM 0 q) = true) then (if ((iL q (Mo.Cl.n c)) = true) then (if ((iE q 0) = true) then (iE (Mo.Cl.s0 c) 1) else (if ((iE q 1) = true) then (iE (Mo.Cl.s1 c) 1) else (if ((iE q 2) = true) then (iE (Mo.Cl.s2 c) 1) else (if ((iE q 3) = true) then (iE (Mo.Cl.s3 c) 1) else (if ((iE q 4) = true) then (iE (Mo.Cl.s4 c) 1) else (if ((iE q 5) = true) then (iE (Mo.Cl.s5 c) 1) else (if ((iE q 6) = true) then (iE (Mo.Cl.s6 c) 1) else (iE (Mo.Cl.s7 c) 1)))))))) else false) else false)
noncomputable def Mo.kSoft_pre (q : Int) (c : Mo.Cl) : Prop := (if ((iM 0 q) = true) then (if ((iL q (Mo.Cl.n c)) = true) then (if ((iL q 8) = true) then True else False) else True) else True)
noncomputable def kSoft_tree (q : Int) (c : Mo.Cl) (K : S → List Ob → Prop) : Prop := (if ((iM 0 q) = true) then (if ((iL q (Mo.Cl.n c)) = true) then (if ((iM 0 q) = true) then (if ((iL q 8) = true) then (if ((iE q 0) = true) then K (.bv (iE (Mo.Cl.s0 c) 1)) [(.cells 183 (Mo.Cl.cells c))] else (if ((iE q 1) = true) then K (.bv (iE (Mo.Cl.s1 c) 1)) [(.cells 183 (Mo.Cl.cells c))] else (if ((iE q 2) = true) then K (.bv (iE (Mo.Cl.s2 c) 1)) [(.cells 183 (Mo.Cl.cells c))] else (if ((iE q 3) = true) then K (.bv (iE (Mo.Cl.s3 c) 1)) [(.cells 183 (Mo.Cl.cells c))] else (if ((iE q 4) = true) then K (.bv (iE (Mo.Cl.s4 c) 1)) [(.cells 183 (Mo.Cl.cells c))] else (if ((iE q 5) = true) then K (.bv (iE (Mo.Cl.s5 c) 1)) [(.cells 183 (Mo.Cl.cells c))] else (if ((iE q 6) = true) then K (.bv (iE (Mo.Cl.s6 c) 1)) [(.cells 183 (Mo.Cl.cells c))] else K (.bv (iE (Mo.Cl.s7 c) 1)) [(.cells 183 (Mo.Cl.cells c))]))))))) else False) else False) else K (.bv false) [(.cells 183 (Mo.Cl.cells c))]) else K (.bv false) [(.cells 183 (Mo.Cl.cells c))])
theorem kSoft_run (q : Int) (c : Mo.Cl) (K : S → List Ob → Prop) : callX (std noW) tt ffLpA stopLpA (lpB noW Tryz.prog) noL 60 143 [.ptr 0 (.l 0), .iv .i64 q] [.cells 183 (Mo.Cl.cells c)] (gcK 1 (ivK true K)) = kSoft_tree q c K := by kernel_rfl
noncomputable def kSoft_T (q : Int) (c : Mo.Cl) (K : S → List Ob → Prop) : Prop := Mo.kSoft_pre q c ∧ K (.bv (Mo.kSoft_v1 q c)) [(.cells 183 (Mo.Cl.cells c))]
theorem kSoft_all (q : Int) (c : Mo.Cl) (K : S → List Ob → Prop) (h : kSoft_T q c K) : kSoft_tree q c K := by
  unfold kSoft_T at h; obtain ⟨h0, h⟩ := h; unfold kSoft_tree
  try simp only [Mo.kSoft_v1] at h0 h
  try simp only [Mo.kSoft_pre] at h0 h
  repeat' (first | (refine ite_intro (fun c => ?_) (fun c => ?_) <;> first | simp only [if_pos c] at h0 h | simp only [if_neg c] at h0 h | skip) | with_reducible (replace h0 := (h0 : True ∧ _).2) | with_reducible (refine ⟨rfl, ?_⟩) | with_reducible (refine ⟨h0.1, ?_⟩; replace h0 := h0.2) | with_reducible (refine ⟨h0, ?_⟩) | (refine ⟨h0.1, ?_⟩; replace h0 := h0.2) | refine ⟨h0, ?_⟩ | refine ⟨rfl, ?_⟩ | refine ⟨trivial, ?_⟩ | refine ⟨by assumption, ?_⟩ | refine ⟨Eq.symm (by assumption), ?_⟩ | exact h | refine ⟨?_, ?_⟩ | exact h0.elim | trivial | contradiction | (simp only [if_true, if_false, Bool.false_eq_true] at h; exact h))
theorem kSoft_sem (q : Int) (c : Mo.Cl) (K : S → List Ob → Prop) (h : kSoft_T q c K) : CallSem noW Tryz.prog 143 [.ptr 0 (.l 0), .iv .i64 q] [.cells 183 (Mo.Cl.cells c)] K := iv_call (callX_ok tok (by kernel_rfl) ffLpAok stopLpA_ok _ _ _ _ (Eq.mpr (kSoft_run q c K) (kSoft_all q c K h)))
noncomputable def kSoft_con : Con := ⟨[.ptr 0, .int .i64], [.cellsV 183], [], fun a K => match a with | ⟨[q], [], [], [cs_c], []⟩ => (match Mo.Cl.is cs_c with | true => kSoft_T q (Mo.Cl.of cs_c) K | false => False) | _ => False⟩
theorem kSoft_ok : kSoft_con.ok noW Tryz.prog 143 := by
  intro a K h
  simp only [kSoft_con] at h
  split at h
  case h_2 => exact h.elim
  split at h
  case h_2 => exact h.elim
  rename_i is_c
  exact CallSem.objs (kSoft_sem _ _ K h) (fun _ _ _ h => h) ⟨WkO.cells (Mo.Cl.is_ok is_c), trivial⟩
noncomputable def Mo.kReset_v1 (c : Mo.Cl) : Mo.Cl := { c with k0 := 18446744073709551615, s0 := 0, k1 := 18446744073709551615, s1 := 0, k2 := 18446744073709551615, s2 := 0, k3 := 18446744073709551615, s3 := 0, k4 := 18446744073709551615, s4 := 0, k5 := 18446744073709551615, s5 := 0, k6 := 18446744073709551615, s6 := 0, k7 := 18446744073709551615, s7 := 0 }
noncomputable def kReset_tree (c : Mo.Cl) (K : S → List Ob → Prop) : Prop := K (.tup []) (hm_LpB_2 { c with k0 := 18446744073709551615, s0 := 0, k1 := 18446744073709551615, s1 := 0, k2 := 18446744073709551615, s2 := 0, k3 := 18446744073709551615, s3 := 0, k4 := 18446744073709551615, s4 := 0, k5 := 18446744073709551615, s5 := 0, k6 := 18446744073709551615, s6 := 0, k7 := 18446744073709551615, s7 := 0 })
theorem kReset_run (c : Mo.Cl) (K : S → List Ob → Prop) : callX (std noW) tt ffLpA stopLpA (lpB noW Tryz.prog) noL 60 111 [.ptr 0 (.l 0)] [.cells 183 (Mo.Cl.cells c)] (gcK 1 (ivK false K)) = kReset_tree c K := by kernel_rfl
noncomputable def kReset_T (c : Mo.Cl) (K : S → List Ob → Prop) : Prop := True ∧ K (.tup []) [(.cells 183 (Mo.Cl.cells (Mo.kReset_v1 c)))]
theorem kReset_all (c : Mo.Cl) (K : S → List Ob → Prop) (h : kReset_T c K) : kReset_tree c K := by
  unfold kReset_T at h; obtain ⟨h0, h⟩ := h; unfold kReset_tree
  try simp only [Mo.kReset_v1] at h0 h
  repeat' first | exact h | (refine ite_intro (fun c => ?_) fun c => ?_) <;> first | simp only [if_pos c] at h0 h | simp only [if_neg c] at h0 h | skip
theorem kReset_sem (c : Mo.Cl) (K : S → List Ob → Prop) (h : kReset_T c K) : CallSem noW Tryz.prog 111 [.ptr 0 (.l 0)] [.cells 183 (Mo.Cl.cells c)] K := iv_call (callX_ok tok (by kernel_rfl) ffLpAok stopLpA_ok _ _ _ _ (Eq.mpr (kReset_run c K) (kReset_all c K h)))
noncomputable def kReset_con : Con := ⟨[.ptr 0], [.cellsV 183], [], fun a K => match a with | ⟨[], [], [], [cs_c], []⟩ => (match Mo.Cl.is cs_c with | true => kReset_T (Mo.Cl.of cs_c) K | false => False) | _ => False⟩
theorem kReset_ok : kReset_con.ok noW Tryz.prog 111 := by
  intro a K h
  simp only [kReset_con] at h
  split at h
  case h_2 => exact h.elim
  split at h
  case h_2 => exact h.elim
  rename_i is_c
  exact CallSem.objs (kReset_sem _ K h) (fun _ _ _ h => h) ⟨WkO.cells (Mo.Cl.is_ok is_c), trivial⟩
noncomputable def wFault_tree (c : Mo.Wd) (K : S → List Ob → Prop) : Prop := K (.iv .i64 (Mo.Wd.fault c)) [(.cells 194 (Mo.Wd.cells c))]
theorem wFault_run (c : Mo.Wd) (K : S → List Ob → Prop) : callX (std noW) tt ffLpA stopLpA (lpB noW Tryz.prog) noL 60 81 [.ptr 0 (.l 0)] [.cells 194 (Mo.Wd.cells c)] (gcK 1 (ivK false K)) = wFault_tree c K := by kernel_rfl
noncomputable def wFault_T (c : Mo.Wd) (K : S → List Ob → Prop) : Prop := True ∧ K (.iv .i64 (Mo.Wd.fault c)) [(.cells 194 (Mo.Wd.cells c))]
theorem wFault_all (c : Mo.Wd) (K : S → List Ob → Prop) (h : wFault_T c K) : wFault_tree c K := by
  unfold wFault_T at h; obtain ⟨h0, h⟩ := h; unfold wFault_tree
  repeat' first | exact h | (refine ite_intro (fun c => ?_) fun c => ?_) <;> first | simp only [if_pos c] at h0 h | simp only [if_neg c] at h0 h | skip
theorem wFault_sem (c : Mo.Wd) (K : S → List Ob → Prop) (h : wFault_T c K) : CallSem noW Tryz.prog 81 [.ptr 0 (.l 0)] [.cells 194 (Mo.Wd.cells c)] K := iv_call (callX_ok tok (by kernel_rfl) ffLpAok stopLpA_ok _ _ _ _ (Eq.mpr (wFault_run c K) (wFault_all c K h)))
noncomputable def wFault_con : Con := ⟨[.ptr 0], [.cellsV 194], [], fun a K => match a with | ⟨[], [], [], [cs_c], []⟩ => (match Mo.Wd.is cs_c with | true => wFault_T (Mo.Wd.of cs_c) K | false => False) | _ => False⟩
theorem wFault_ok : wFault_con.ok noW Tryz.prog 81 := by
  intro a K h
  simp only [wFault_con] at h
  split at h
  case h_2 => exact h.elim
  split at h
  case h_2 => exact h.elim
  rename_i is_c
  exact CallSem.objs (wFault_sem _ K h) (fun _ _ _ h => h) ⟨WkO.cells (Mo.Wd.is_ok is_c), trivial⟩
noncomputable def wTick_s1 (n : Int) (c : Mo.Wd) (K : S → List Ob → Prop) : Prop := (if ((iM 18446744073709551615 n) = true) then K (.iv .u64 18446744073709551615) [(.cells 194 (Mo.Wd.cells { c with since := (adq (Mo.Wd.since c) 18446744073709551615), fault := 2 }))] else K (.iv .u64 n) [(.cells 194 (Mo.Wd.cells { c with since := (adq (Mo.Wd.since c) n) }))])
noncomputable def wTick_s2 (n : Int) (c : Mo.Wd) (K : S → List Ob → Prop) : Prop := (if ((stdQ QO.not (Mo.Wd.en c) (Mo.Wd.en c)) = true) then K (.iv .u64 n) [(.cells 194 (Mo.Wd.cells c))] else (wTick_s1 n c K))
noncomputable def wTick_s3 (n : Int) (c : Mo.Wd) (K : S → List Ob → Prop) : Prop := (if ((iN (Mo.Wd.fault c) 0) = true) then K (.iv .u64 0) [(.cells 194 (Mo.Wd.cells c))] else (wTick_s2 n c K))
noncomputable def Mo.wTick_v1 (n : Int) (c : Mo.Wd) : Int := (if ((stdQ QO.and (stdQ QO.eq (Mo.Wd.en c) false) (stdQ QO.and (stdQ QO.eq (Mo.Wd.lk c) false) (stdQ QO.and (stdQ QO.eq (Mo.Wd.ar c) false) (stdQ QO.and (iE (Mo.Wd.shut c) 0) (stdQ QO.and (iE (Mo.Wd.all c) 0) (stdQ QO.and (iE (Mo.Wd.since c) 0) (iE (Mo.Wd.fault c) 0))))))) = true) then n else (if ((stdQ QO.not (Mo.Wd.en c) (Mo.Wd.en c)) = true) then (if ((iN (Mo.Wd.fault c) 0) = true) then 0 else n) else (if ((iN (Mo.Wd.fault c) 0) = true) then 0 else (if ((iM (sbq (cvq (Mo.Wd.all c) 0) (Mo.Wd.since c)) n) = true) then (sbq (cvq (Mo.Wd.all c) 0) (Mo.Wd.since c)) else n))))
noncomputable def Mo.wTick_v2 (n : Int) (c : Mo.Wd) : Mo.Wd := (if ((stdQ QO.and (stdQ QO.eq (Mo.Wd.en c) false) (stdQ QO.and (stdQ QO.eq (Mo.Wd.lk c) false) (stdQ QO.and (stdQ QO.eq (Mo.Wd.ar c) false) (stdQ QO.and (iE (Mo.Wd.shut c) 0) (stdQ QO.and (iE (Mo.Wd.all c) 0) (stdQ QO.and (iE (Mo.Wd.since c) 0) (iE (Mo.Wd.fault c) 0))))))) = true) then c else (if ((stdQ QO.not (Mo.Wd.en c) (Mo.Wd.en c)) = true) then c else (if ((iN (Mo.Wd.fault c) 0) = true) then c else (if ((iM (sbq (cvq (Mo.Wd.all c) 0) (Mo.Wd.since c)) n) = true) then { c with since := (adq (Mo.Wd.since c) (sbq (cvq (Mo.Wd.all c) 0) (Mo.Wd.since c))), fault := 2 } else { c with since := (adq (Mo.Wd.since c) n) }))))
noncomputable def wTick_tree (n : Int) (c : Mo.Wd) (K : S → List Ob → Prop) : Prop := (if ((stdQ QO.and (stdQ QO.eq (Mo.Wd.en c) false) (stdQ QO.and (stdQ QO.eq (Mo.Wd.lk c) false) (stdQ QO.and (stdQ QO.eq (Mo.Wd.ar c) false) (stdQ QO.and (iE (Mo.Wd.shut c) 0) (stdQ QO.and (iE (Mo.Wd.all c) 0) (stdQ QO.and (iE (Mo.Wd.since c) 0) (iE (Mo.Wd.fault c) 0))))))) = true) then K (.iv .u64 n) [(.cells 194 (Mo.Wd.cells c))] else (if ((stdQ QO.not (Mo.Wd.en c) (Mo.Wd.en c)) = true) then (wTick_s3 n c K) else (if ((iN (Mo.Wd.fault c) 0) = true) then (wTick_s3 n c K) else (if ((iN (Mo.Wd.fault c) 0) = true) then K (.iv .u64 0) [(.cells 194 (Mo.Wd.cells c))] else (if ((stdQ QO.not (Mo.Wd.en c) (Mo.Wd.en c)) = true) then K (.iv .u64 n) [(.cells 194 (Mo.Wd.cells c))] else (if ((iM (sbq (cvq (Mo.Wd.all c) 0) (Mo.Wd.since c)) n) = true) then K (.iv .u64 (sbq (cvq (Mo.Wd.all c) 0) (Mo.Wd.since c))) [(.cells 194 (Mo.Wd.cells { c with since := (adq (Mo.Wd.since c) (sbq (cvq (Mo.Wd.all c) 0) (Mo.Wd.since c))), fault := 2 }))] else K (.iv .u64 n) [(.cells 194 (Mo.Wd.cells { c with since := (adq (Mo.Wd.since c) n) }))]))))))
theorem wTick_run (n : Int) (c : Mo.Wd) (K : S → List Ob → Prop) : callX (std noW) tt ffLpA stopLpA (lpB noW Tryz.prog) noL 60 77 [.ptr 0 (.l 0), .iv .u64 n] [.cells 194 (Mo.Wd.cells c)] (gcK 1 (ivK true K)) = wTick_tree n c K := by kernel_rfl
noncomputable def wTick_T (n : Int) (c : Mo.Wd) (K : S → List Ob → Prop) : Prop := True ∧ K (.iv .u64 (Mo.wTick_v1 n c)) [(.cells 194 (Mo.Wd.cells (Mo.wTick_v2 n c)))]
theorem wTick_all (n : Int) (c : Mo.Wd) (K : S → List Ob → Prop) (h : wTick_T n c K) : wTick_tree n c K := by
  unfold wTick_T at h; obtain ⟨h0, h⟩ := h; unfold wTick_tree
  try simp only [Mo.wTick_v1] at h0 h
  try simp only [Mo.wTick_v2] at h0 h
  repeat' (first | (refine ite_intro (fun c => ?_) (fun c => ?_) <;> first | simp only [if_pos c] at h0 h | simp only [if_neg c] at h0 h | skip) | with_reducible (replace h0 := (h0 : True ∧ _).2) | with_reducible (refine ⟨rfl, ?_⟩) | with_reducible (refine ⟨h0.1, ?_⟩; replace h0 := h0.2) | with_reducible (refine ⟨h0, ?_⟩) | (refine ⟨h0.1, ?_⟩; replace h0 := h0.2) | refine ⟨h0, ?_⟩ | refine ⟨rfl, ?_⟩ | refine ⟨trivial, ?_⟩ | refine ⟨by assumption, ?_⟩ | refine ⟨Eq.symm (by assumption), ?_⟩ | exact h | refine ⟨?_, ?_⟩ | unfold wTick_s1 | unfold wTick_s2 | unfold wTick_s3 | exact h0.elim | trivial | contradiction | (simp only [if_true, if_false, Bool.false_eq_true] at h; exact h))
theorem wTick_sem (n : Int) (c : Mo.Wd) (K : S → List Ob → Prop) (h : wTick_T n c K) : CallSem noW Tryz.prog 77 [.ptr 0 (.l 0), .iv .u64 n] [.cells 194 (Mo.Wd.cells c)] K := iv_call (callX_ok tok (by kernel_rfl) ffLpAok stopLpA_ok _ _ _ _ (Eq.mpr (wTick_run n c K) (wTick_all n c K h)))
noncomputable def wTick_con : Con := ⟨[.ptr 0, .int .u64], [.cellsV 194], [], fun a K => match a with | ⟨[n], [], [], [cs_c], []⟩ => (match Mo.Wd.is cs_c with | true => wTick_T n (Mo.Wd.of cs_c) K | false => False) | _ => False⟩
theorem wTick_ok : wTick_con.ok noW Tryz.prog 77 := by
  intro a K h
  simp only [wTick_con] at h
  split at h
  case h_2 => exact h.elim
  split at h
  case h_2 => exact h.elim
  rename_i is_c
  exact CallSem.objs (wTick_sem _ _ K h) (fun _ _ _ h => h) ⟨WkO.cells (Mo.Wd.is_ok is_c), trivial⟩
noncomputable def wLoad_s1 (off : Int) (c : Mo.Wd) (K : S → List Ob → Prop) : Prop := (if ((iE (cvi (srw off 2) 0) 2) = true) then K (.tup [(.iv .u32 (Mo.Wd.all c)), (.iv .i64 0)]) [(.cells 194 (Mo.Wd.cells c))] else (if ((iE (cvi (srw off 2) 0) 3) = true) then K (.tup [(.iv .u32 0), (.iv .i64 0)]) [(.cells 194 (Mo.Wd.cells c))] else K (.tup [(.iv .u32 (cvw (Mo.Wd.since c) 0)), (.iv .i64 0)]) [(.cells 194 (Mo.Wd.cells c))]))
noncomputable def wLoad_s2 (off : Int) (c : Mo.Wd) (K : S → List Ob → Prop) : Prop := (if ((iE (cvi (srw off 2) 0) 1) = true) then K (.tup [(.iv .u32 (Mo.Wd.shut c)), (.iv .i64 0)]) [(.cells 194 (Mo.Wd.cells c))] else (wLoad_s1 off c K))
noncomputable def Mo.wLoad_v1 (off : Int) (c : Mo.Wd) : Int := (if ((iN (rmw off 4) 0) = true) then 0 else (if ((iM 5 (srw off 2)) = true) then 0 else (if ((Mo.Wd.en c) = true) then (if ((Mo.Wd.lk c) = true) then (if ((iE (cvi (srw off 2) 0) 0) = true) then 3 else (if ((iE (cvi (srw off 2) 0) 1) = true) then (Mo.Wd.shut c) else (if ((iE (cvi (srw off 2) 0) 2) = true) then (Mo.Wd.all c) else (if ((iE (cvi (srw off 2) 0) 3) = true) then 0 else (cvw (Mo.Wd.since c) 0))))) else (if ((iE (cvi (srw off 2) 0) 0) = true) then 1 else (if ((iE (cvi (srw off 2) 0) 1) = true) then (Mo.Wd.shut c) else (if ((iE (cvi (srw off 2) 0) 2) = true) then (Mo.Wd.all c) else (if ((iE (cvi (srw off 2) 0) 3) = true) then 0 else (cvw (Mo.Wd.since c) 0)))))) else (if ((Mo.Wd.lk c) = true) then (if ((iE (cvi (srw off 2) 0) 0) = true) then 2 else (if ((iE (cvi (srw off 2) 0) 1) = true) then (Mo.Wd.shut c) else (if ((iE (cvi (srw off 2) 0) 2) = true) then (Mo.Wd.all c) else (if ((iE (cvi (srw off 2) 0) 3) = true) then 0 else (cvw (Mo.Wd.since c) 0))))) else (if ((iE (cvi (srw off 2) 0) 0) = true) then 0 else (if ((iE (cvi (srw off 2) 0) 1) = true) then (Mo.Wd.shut c) else (if ((iE (cvi (srw off 2) 0) 2) = true) then (Mo.Wd.all c) else (if ((iE (cvi (srw off 2) 0) 3) = true) then 0 else (cvw (Mo.Wd.since c) 0)))))))))
noncomputable def Mo.wLoad_v2 (off : Int) : Int := (if ((iN (rmw off 4) 0) = true) then 11 else (if ((iM 5 (srw off 2)) = true) then 10 else 0))
noncomputable def Mo.wLoad_pre (off : Int) : Prop := (if ((iN (rmw off 4) 0) = true) then True else (if ((iM 5 (srw off 2)) = true) then True else (if ((iM 0 (cvi (srw off 2) 0)) = true) then (if ((iL (cvi (srw off 2) 0) 5) = true) then True else False) else False)))
noncomputable def wLoad_tree (off : Int) (c : Mo.Wd) (K : S → List Ob → Prop) : Prop := (if ((iN (rmw off 4) 0) = true) then K (.tup [(.iv .u32 0), (.iv .i64 11)]) [(.cells 194 (Mo.Wd.cells c))] else (if ((iM 5 (srw off 2)) = true) then K (.tup [(.iv .u32 0), (.iv .i64 10)]) [(.cells 194 (Mo.Wd.cells c))] else (if ((Mo.Wd.en c) = true) then (if ((Mo.Wd.lk c) = true) then (((some (S.iv IntKind.u32 (Mo.Wd.all c))) = (some (S.iv IntKind.u32 (Mo.Wd.all c)))) ∧ (((some (S.iv IntKind.u32 (Mo.Wd.shut c))) = (some (S.iv IntKind.u32 (Mo.Wd.shut c)))) ∧ (if ((iM 0 (cvi (srw off 2) 0)) = true) then (if ((iL (cvi (srw off 2) 0) 5) = true) then (if ((iE (cvi (srw off 2) 0) 0) = true) then K (.tup [(.iv .u32 3), (.iv .i64 0)]) [(.cells 194 (Mo.Wd.cells c))] else (wLoad_s2 off c K)) else False) else False))) else (((some (S.iv IntKind.u32 (Mo.Wd.all c))) = (some (S.iv IntKind.u32 (Mo.Wd.all c)))) ∧ (((some (S.iv IntKind.u32 (Mo.Wd.shut c))) = (some (S.iv IntKind.u32 (Mo.Wd.shut c)))) ∧ (if ((iM 0 (cvi (srw off 2) 0)) = true) then (if ((iL (cvi (srw off 2) 0) 5) = true) then (if ((iE (cvi (srw off 2) 0) 0) = true) then K (.tup [(.iv .u32 1), (.iv .i64 0)]) [(.cells 194 (Mo.Wd.cells c))] else (wLoad_s2 off c K)) else False) else False)))) else (if ((Mo.Wd.lk c) = true) then (((some (S.iv IntKind.u32 (Mo.Wd.all c))) = (some (S.iv IntKind.u32 (Mo.Wd.all c)))) ∧ (((some (S.iv IntKind.u32 (Mo.Wd.shut c))) = (some (S.iv IntKind.u32 (Mo.Wd.shut c)))) ∧ (if ((iM 0 (cvi (srw off 2) 0)) = true) then (if ((iL (cvi (srw off 2) 0) 5) = true) then (if ((iE (cvi (srw off 2) 0) 0) = true) then K (.tup [(.iv .u32 2), (.iv .i64 0)]) [(.cells 194 (Mo.Wd.cells c))] else (wLoad_s2 off c K)) else False) else False))) else (((some (S.iv IntKind.u32 (Mo.Wd.all c))) = (some (S.iv IntKind.u32 (Mo.Wd.all c)))) ∧ (((some (S.iv IntKind.u32 (Mo.Wd.shut c))) = (some (S.iv IntKind.u32 (Mo.Wd.shut c)))) ∧ (if ((iM 0 (cvi (srw off 2) 0)) = true) then (if ((iL (cvi (srw off 2) 0) 5) = true) then (if ((iE (cvi (srw off 2) 0) 0) = true) then K (.tup [(.iv .u32 0), (.iv .i64 0)]) [(.cells 194 (Mo.Wd.cells c))] else (wLoad_s2 off c K)) else False) else False)))))))
theorem wLoad_run (off : Int) (c : Mo.Wd) (K : S → List Ob → Prop) : callX (std noW) tt ffLpA stopLpA (lpB noW Tryz.prog) noL 60 227 [.ptr 0 (.l 0), .iv .u32 off] [.cells 194 (Mo.Wd.cells c)] (gcK 1 (ivK true K)) = wLoad_tree off c K := by kernel_rfl
noncomputable def wLoad_T (off : Int) (c : Mo.Wd) (K : S → List Ob → Prop) : Prop := Mo.wLoad_pre off ∧ K (.tup [(.iv .u32 (Mo.wLoad_v1 off c)), (.iv .i64 (Mo.wLoad_v2 off))]) [(.cells 194 (Mo.Wd.cells c))]
theorem wLoad_all (off : Int) (c : Mo.Wd) (K : S → List Ob → Prop) (h : wLoad_T off c K) : wLoad_tree off c K := by
  unfold wLoad_T at h; obtain ⟨h0, h⟩ := h; unfold wLoad_tree
  try simp only [Mo.wLoad_v1] at h0 h
  try simp only [Mo.wLoad_v2] at h0 h
  try simp only [Mo.wLoad_pre] at h0 h
  repeat' (first | (refine ite_intro (fun c => ?_) (fun c => ?_) <;> first | simp only [if_pos c] at h0 h | simp only [if_neg c] at h0 h | skip) | with_reducible (replace h0 := (h0 : True ∧ _).2) | with_reducible (refine ⟨rfl, ?_⟩) | with_reducible (refine ⟨h0.1, ?_⟩; replace h0 := h0.2) | with_reducible (refine ⟨h0, ?_⟩) | (refine ⟨h0.1, ?_⟩; replace h0 := h0.2) | refine ⟨h0, ?_⟩ | refine ⟨rfl, ?_⟩ | refine ⟨trivial, ?_⟩ | refine ⟨by assumption, ?_⟩ | refine ⟨Eq.symm (by assumption), ?_⟩ | exact h | refine ⟨?_, ?_⟩ | unfold wLoad_s1 | unfold wLoad_s2 | exact h0.elim | trivial | contradiction | (simp only [if_true, if_false, Bool.false_eq_true] at h; exact h))
theorem wLoad_sem (off : Int) (c : Mo.Wd) (K : S → List Ob → Prop) (h : wLoad_T off c K) : CallSem noW Tryz.prog 227 [.ptr 0 (.l 0), .iv .u32 off] [.cells 194 (Mo.Wd.cells c)] K := iv_call (callX_ok tok (by kernel_rfl) ffLpAok stopLpA_ok _ _ _ _ (Eq.mpr (wLoad_run off c K) (wLoad_all off c K h)))
noncomputable def wLoad_con : Con := ⟨[.ptr 0, .int .u32], [.cellsV 194], [], fun a K => match a with | ⟨[off], [], [], [cs_c], []⟩ => (match Mo.Wd.is cs_c with | true => wLoad_T off (Mo.Wd.of cs_c) K | false => False) | _ => False⟩
theorem wLoad_ok : wLoad_con.ok noW Tryz.prog 227 := by
  intro a K h
  simp only [wLoad_con] at h
  split at h
  case h_2 => exact h.elim
  split at h
  case h_2 => exact h.elim
  rename_i is_c
  exact CallSem.objs (wLoad_sem _ _ K h) (fun _ _ _ h => h) ⟨WkO.cells (Mo.Wd.is_ok is_c), trivial⟩
noncomputable def wStore_s1 (v : Int) (c : Mo.Wd) (K : S → List Ob → Prop) : Prop := (if ((Mo.Wd.en c) = true) then K (.iv .i64 0) [(.cells 194 (Mo.Wd.cells { c with en := false, lk := (iE (srw (anw v 2) 1) 1), ar := false, since := 0 }))] else K (.iv .i64 0) [(.cells 194 (Mo.Wd.cells { c with lk := (iE (srw (anw v 2) 1) 1) }))])
noncomputable def wStore_s2 (v : Int) (c : Mo.Wd) (K : S → List Ob → Prop) : Prop := (if ((stdQ QO.not (iE (srw (anw v 1) 0) 1) (iE (srw (anw v 1) 0) 1)) = true) then (wStore_s1 v c K) else K (.iv .i64 0) [(.cells 194 (Mo.Wd.cells { c with lk := (iE (srw (anw v 2) 1) 1) }))])
noncomputable def wStore_s3 (v : Int) (c : Mo.Wd) (K : S → List Ob → Prop) : Prop := (if ((iL (Mo.Wd.shut c) (Mo.Wd.all c)) = true) then K (.iv .i64 0) [(.cells 194 (Mo.Wd.cells { c with en := true, lk := (iE (srw (anw v 2) 1) 1), ar := false, since := 0 }))] else (wStore_s2 v c K))
noncomputable def wStore_s4 (v : Int) (c : Mo.Wd) (K : S → List Ob → Prop) : Prop := (if ((stdQ QO.not (Mo.Wd.en c) (Mo.Wd.en c)) = true) then (wStore_s3 v c K) else (wStore_s2 v c K))
noncomputable def wStore_s5 (v : Int) (c : Mo.Wd) (K : S → List Ob → Prop) : Prop := (if ((iE (srw (anw v 1) 0) 1) = true) then (wStore_s4 v c K) else (wStore_s2 v c K))
noncomputable def wStore_s6 (v : Int) (c : Mo.Wd) (K : S → List Ob → Prop) : Prop := (if ((Mo.Wd.lk c) = true) then K (.iv .i64 0) [(.cells 194 (Mo.Wd.cells c))] else (wStore_s5 v c K))
noncomputable def wStore_s7 (c : Mo.Wd) (K : S → List Ob → Prop) : Prop := (if ((iL (Mo.Wd.since c) (cvq (Mo.Wd.shut c) 0)) = true) then K (.iv .i64 0) [(.cells 194 (Mo.Wd.cells { c with fault := 4 }))] else K (.iv .i64 0) [(.cells 194 (Mo.Wd.cells { c with en := true, ar := false, since := 0 }))])
noncomputable def wStore_s8 (c : Mo.Wd) (K : S → List Ob → Prop) : Prop := (if ((iL (Mo.Wd.since c) (cvq (Mo.Wd.shut c) 0)) = true) then K (.iv .i64 0) [(.cells 194 (Mo.Wd.cells { c with fault := 8 }))] else K (.iv .i64 0) [(.cells 194 (Mo.Wd.cells { c with ar := false }))])
noncomputable def wStore_s9 (c : Mo.Wd) (K : S → List Ob → Prop) : Prop := (if ((Mo.Wd.ar c) = true) then (wStore_s7 c K) else (wStore_s8 c K))
noncomputable def wStore_s10 (v : Int) (c : Mo.Wd) (K : S → List Ob → Prop) : Prop := (if ((iE v 42405) = true) then (wStore_s9 c K) else (wStore_s8 c K))
noncomputable def wStore_s11 (v : Int) (c : Mo.Wd) (K : S → List Ob → Prop) : Prop := (if ((iE v 23130) = true) then K (.iv .i64 0) [(.cells 194 (Mo.Wd.cells { c with ar := true }))] else (wStore_s10 v c K))
noncomputable def wStore_s12 (v : Int) (c : Mo.Wd) (K : S → List Ob → Prop) : Prop := (if ((stdQ QO.not (Mo.Wd.en c) (Mo.Wd.en c)) = true) then K (.iv .i64 0) [(.cells 194 (Mo.Wd.cells c))] else (wStore_s11 v c K))
noncomputable def wStore_s13 (v : Int) (c : Mo.Wd) (K : S → List Ob → Prop) : Prop := (if ((stdQ QO.not (Mo.Wd.en c) (Mo.Wd.en c)) = true) then K (.iv .i64 0) [(.cells 194 (Mo.Wd.cells { c with all := v }))] else K (.iv .i64 0) [(.cells 194 (Mo.Wd.cells c))])
noncomputable def wStore_s14 (off : Int) (v : Int) (c : Mo.Wd) (K : S → List Ob → Prop) : Prop := (if ((iE (cvi (srw off 2) 0) 2) = true) then (wStore_s13 v c K) else K (.iv .i64 0) [(.cells 194 (Mo.Wd.cells c))])
noncomputable def Mo.wStore_v1 (off : Int) : Int := (if ((iN (rmw off 4) 0) = true) then 11 else (if ((iM 5 (srw off 2)) = true) then 10 else (if ((iE (cvi (srw off 2) 0) 4) = true) then 12 else 0)))
noncomputable def Mo.wStore_v2 (off : Int) (v : Int) (c : Mo.Wd) : Mo.Wd := (if ((iN (rmw off 4) 0) = true) then c else (if ((iM 5 (srw off 2)) = true) then c else (if ((iE (cvi (srw off 2) 0) 4) = true) then c else (if ((iN (Mo.Wd.fault c) 0) = true) then c else (if ((stdQ QO.not (Mo.Wd.lk c) (Mo.Wd.lk c)) = true) then (if ((iE (cvi (srw off 2) 0) 0) = true) then (if ((Mo.Wd.lk c) = true) then c else (if ((iE (srw (anw v 1) 0) 1) = true) then (if ((stdQ QO.not (Mo.Wd.en c) (Mo.Wd.en c)) = true) then (if ((iL (Mo.Wd.shut c) (Mo.Wd.all c)) = true) then { c with en := true, lk := (iE (srw (anw v 2) 1) 1), ar := false, since := 0 } else (if ((stdQ QO.not (iE (srw (anw v 1) 0) 1) (iE (srw (anw v 1) 0) 1)) = true) then (if ((Mo.Wd.en c) = true) then { c with en := false, lk := (iE (srw (anw v 2) 1) 1), ar := false, since := 0 } else { c with lk := (iE (srw (anw v 2) 1) 1) }) else { c with lk := (iE (srw (anw v 2) 1) 1) })) else (if ((stdQ QO.not (iE (srw (anw v 1) 0) 1) (iE (srw (anw v 1) 0) 1)) = true) then (if ((Mo.Wd.en c) = true) then { c with en := false, lk := (iE (srw (anw v 2) 1) 1), ar := false, since := 0 } else { c with lk := (iE (srw (anw v 2) 1) 1) }) else { c with lk := (iE (srw (anw v 2) 1) 1) })) else (if ((stdQ QO.not (iE (srw (anw v 1) 0) 1) (iE (srw (anw v 1) 0) 1)) = true) then (if ((Mo.Wd.en c) = true) then { c with en := false, lk := (iE (srw (anw v 2) 1) 1), ar := false, since := 0 } else { c with lk := (iE (srw (anw v 2) 1) 1) }) else { c with lk := (iE (srw (anw v 2) 1) 1) }))) else (if ((iE (cvi (srw off 2) 0) 3) = true) then (if ((stdQ QO.not (Mo.Wd.en c) (Mo.Wd.en c)) = true) then c else (if ((iE v 23130) = true) then { c with ar := true } else (if ((iE v 42405) = true) then (if ((Mo.Wd.ar c) = true) then (if ((iL (Mo.Wd.since c) (cvq (Mo.Wd.shut c) 0)) = true) then { c with fault := 4 } else { c with en := true, ar := false, since := 0 }) else (if ((iL (Mo.Wd.since c) (cvq (Mo.Wd.shut c) 0)) = true) then { c with fault := 8 } else { c with ar := false })) else (if ((iL (Mo.Wd.since c) (cvq (Mo.Wd.shut c) 0)) = true) then { c with fault := 8 } else { c with ar := false })))) else (if ((iE (cvi (srw off 2) 0) 1) = true) then (if ((stdQ QO.not (Mo.Wd.en c) (Mo.Wd.en c)) = true) then { c with shut := v } else c) else (if ((iE (cvi (srw off 2) 0) 2) = true) then (if ((stdQ QO.not (Mo.Wd.en c) (Mo.Wd.en c)) = true) then { c with all := v } else c) else c)))) else (if ((iE (cvi (srw off 2) 0) 0) = true) then (if ((Mo.Wd.lk c) = true) then c else (if ((iE (srw (anw v 1) 0) 1) = true) then (if ((stdQ QO.not (Mo.Wd.en c) (Mo.Wd.en c)) = true) then (if ((iL (Mo.Wd.shut c) (Mo.Wd.all c)) = true) then { c with en := true, lk := (iE (srw (anw v 2) 1) 1), ar := false, since := 0 } else (if ((stdQ QO.not (iE (srw (anw v 1) 0) 1) (iE (srw (anw v 1) 0) 1)) = true) then (if ((Mo.Wd.en c) = true) then { c with en := false, lk := (iE (srw (anw v 2) 1) 1), ar := false, since := 0 } else { c with lk := (iE (srw (anw v 2) 1) 1) }) else { c with lk := (iE (srw (anw v 2) 1) 1) })) else (if ((stdQ QO.not (iE (srw (anw v 1) 0) 1) (iE (srw (anw v 1) 0) 1)) = true) then (if ((Mo.Wd.en c) = true) then { c with en := false, lk := (iE (srw (anw v 2) 1) 1), ar := false, since := 0 } else { c with lk := (iE (srw (anw v 2) 1) 1) }) else { c with lk := (iE (srw (anw v 2) 1) 1) })) else (if ((stdQ QO.not (iE (srw (anw v 1) 0) 1) (iE (srw (anw v 1) 0) 1)) = true) then (if ((Mo.Wd.en c) = true) then { c with en := false, lk := (iE (srw (anw v 2) 1) 1), ar := false, since := 0 } else { c with lk := (iE (srw (anw v 2) 1) 1) }) else { c with lk := (iE (srw (anw v 2) 1) 1) }))) else (if ((iE (cvi (srw off 2) 0) 3) = true) then (if ((stdQ QO.not (Mo.Wd.en c) (Mo.Wd.en c)) = true) then c else (if ((iE v 23130) = true) then { c with ar := true } else (if ((iE v 42405) = true) then (if ((Mo.Wd.ar c) = true) then (if ((iL (Mo.Wd.since c) (cvq (Mo.Wd.shut c) 0)) = true) then { c with fault := 4 } else { c with en := true, ar := false, since := 0 }) else (if ((iL (Mo.Wd.since c) (cvq (Mo.Wd.shut c) 0)) = true) then { c with fault := 8 } else { c with ar := false })) else (if ((iL (Mo.Wd.since c) (cvq (Mo.Wd.shut c) 0)) = true) then { c with fault := 8 } else { c with ar := false })))) else c)))))))
noncomputable def wStore_tree (off : Int) (v : Int) (c : Mo.Wd) (K : S → List Ob → Prop) : Prop := (if ((iN (rmw off 4) 0) = true) then K (.iv .i64 11) [(.cells 194 (Mo.Wd.cells c))] else (if ((iM 5 (srw off 2)) = true) then K (.iv .i64 10) [(.cells 194 (Mo.Wd.cells c))] else (if ((iE (cvi (srw off 2) 0) 4) = true) then K (.iv .i64 12) [(.cells 194 (Mo.Wd.cells c))] else (if ((iN (Mo.Wd.fault c) 0) = true) then K (.iv .i64 0) [(.cells 194 (Mo.Wd.cells c))] else (if ((stdQ QO.not (Mo.Wd.lk c) (Mo.Wd.lk c)) = true) then (if ((iE (cvi (srw off 2) 0) 0) = true) then (wStore_s6 v c K) else (if ((iE (cvi (srw off 2) 0) 3) = true) then (wStore_s12 v c K) else (if ((iE (cvi (srw off 2) 0) 1) = true) then (if ((stdQ QO.not (Mo.Wd.en c) (Mo.Wd.en c)) = true) then K (.iv .i64 0) [(.cells 194 (Mo.Wd.cells { c with shut := v }))] else (wStore_s14 off v c K)) else (wStore_s14 off v c K)))) else (if ((iE (cvi (srw off 2) 0) 0) = true) then (wStore_s6 v c K) else (if ((iE (cvi (srw off 2) 0) 3) = true) then (wStore_s12 v c K) else (if ((iE (cvi (srw off 2) 0) 1) = true) then (if ((iE (cvi (srw off 2) 0) 2) = true) then K (.iv .i64 0) [(.cells 194 (Mo.Wd.cells c))] else K (.iv .i64 0) [(.cells 194 (Mo.Wd.cells c))]) else (if ((iE (cvi (srw off 2) 0) 2) = true) then K (.iv .i64 0) [(.cells 194 (Mo.Wd.cells c))] else K (.iv .i64 0) [(.cells 194 (Mo.Wd.cells c))])))))))))
theorem wStore_run (off : Int) (v : Int) (c : Mo.Wd) (K : S → List Ob → Prop) : callX (std noW) tt ffLpA stopLpA (lpB noW Tryz.prog) noL 60 229 [.ptr 0 (.l 0), .iv .u32 off, .iv .u32 v] [.cells 194 (Mo.Wd.cells c)] (gcK 1 (ivK true K)) = wStore_tree off v c K := by kernel_rfl
noncomputable def wStore_T (off : Int) (v : Int) (c : Mo.Wd) (K : S → List Ob → Prop) : Prop := True ∧ K (.iv .i64 (Mo.wStore_v1 off)) [(.cells 194 (Mo.Wd.cells (Mo.wStore_v2 off v c)))]
theorem wStore_all (off : Int) (v : Int) (c : Mo.Wd) (K : S → List Ob → Prop) (h : wStore_T off v c K) : wStore_tree off v c K := by
  unfold wStore_T at h; obtain ⟨h0, h⟩ := h; unfold wStore_tree
  try simp only [Mo.wStore_v1] at h0 h
  try simp only [Mo.wStore_v2] at h0 h
  repeat' (first | (refine ite_intro (fun c => ?_) (fun c => ?_) <;> first | simp only [if_pos c] at h0 h | simp only [if_neg c] at h0 h | skip) | with_reducible (replace h0 := (h0 : True ∧ _).2) | with_reducible (refine ⟨rfl, ?_⟩) | with_reducible (refine ⟨h0.1, ?_⟩; replace h0 := h0.2) | with_reducible (refine ⟨h0, ?_⟩) | (refine ⟨h0.1, ?_⟩; replace h0 := h0.2) | refine ⟨h0, ?_⟩ | refine ⟨rfl, ?_⟩ | refine ⟨trivial, ?_⟩ | refine ⟨by assumption, ?_⟩ | refine ⟨Eq.symm (by assumption), ?_⟩ | exact h | refine ⟨?_, ?_⟩ | unfold wStore_s1 | unfold wStore_s2 | unfold wStore_s3 | unfold wStore_s4 | unfold wStore_s5 | unfold wStore_s6 | unfold wStore_s7 | unfold wStore_s8 | unfold wStore_s9 | unfold wStore_s10 | unfold wStore_s11 | unfold wStore_s12 | unfold wStore_s13 | unfold wStore_s14 | exact h0.elim | trivial | contradiction | (simp only [if_true, if_false, Bool.false_eq_true] at h; exact h))
theorem wStore_sem (off : Int) (v : Int) (c : Mo.Wd) (K : S → List Ob → Prop) (h : wStore_T off v c K) : CallSem noW Tryz.prog 229 [.ptr 0 (.l 0), .iv .u32 off, .iv .u32 v] [.cells 194 (Mo.Wd.cells c)] K := iv_call (callX_ok tok (by kernel_rfl) ffLpAok stopLpA_ok _ _ _ _ (Eq.mpr (wStore_run off v c K) (wStore_all off v c K h)))
noncomputable def wStore_con : Con := ⟨[.ptr 0, .int .u32, .int .u32], [.cellsV 194], [], fun a K => match a with | ⟨[off, v], [], [], [cs_c], []⟩ => (match Mo.Wd.is cs_c with | true => wStore_T off v (Mo.Wd.of cs_c) K | false => False) | _ => False⟩
theorem wStore_ok : wStore_con.ok noW Tryz.prog 229 := by
  intro a K h
  simp only [wStore_con] at h
  split at h
  case h_2 => exact h.elim
  split at h
  case h_2 => exact h.elim
  rename_i is_c
  exact CallSem.objs (wStore_sem _ _ _ K h) (fun _ _ _ h => h) ⟨WkO.cells (Mo.Wd.is_ok is_c), trivial⟩
noncomputable def Mo.wReset_v1  : Mo.Wd := (Mo.Wd.mk false false false 0 0 0 0)
noncomputable def wReset_tree (c : Mo.Wd) (K : S → List Ob → Prop) : Prop := K (.tup []) [(.cells 194 (Mo.Wd.cells (Mo.Wd.mk false false false 0 0 0 0)))]
theorem wReset_run (c : Mo.Wd) (K : S → List Ob → Prop) : callX (std noW) tt ffLpA stopLpA (lpB noW Tryz.prog) noL 60 228 [.ptr 0 (.l 0)] [.cells 194 (Mo.Wd.cells c)] (gcK 1 (ivK false K)) = wReset_tree c K := by kernel_rfl
noncomputable def wReset_T (c : Mo.Wd) (K : S → List Ob → Prop) : Prop := True ∧ K (.tup []) [(.cells 194 (Mo.Wd.cells (Mo.wReset_v1)))]
theorem wReset_all (c : Mo.Wd) (K : S → List Ob → Prop) (h : wReset_T c K) : wReset_tree c K := by
  unfold wReset_T at h; obtain ⟨h0, h⟩ := h; unfold wReset_tree
  try simp only [Mo.wReset_v1] at h0 h
  repeat' first | exact h | (refine ite_intro (fun c => ?_) fun c => ?_) <;> first | simp only [if_pos c] at h0 h | simp only [if_neg c] at h0 h | skip
theorem wReset_sem (c : Mo.Wd) (K : S → List Ob → Prop) (h : wReset_T c K) : CallSem noW Tryz.prog 228 [.ptr 0 (.l 0)] [.cells 194 (Mo.Wd.cells c)] K := iv_call (callX_ok tok (by kernel_rfl) ffLpAok stopLpA_ok _ _ _ _ (Eq.mpr (wReset_run c K) (wReset_all c K h)))
noncomputable def wReset_con : Con := ⟨[.ptr 0], [.cellsV 194], [], fun a K => match a with | ⟨[], [], [], [cs_c], []⟩ => (match Mo.Wd.is cs_c with | true => wReset_T (Mo.Wd.of cs_c) K | false => False) | _ => False⟩
theorem wReset_ok : wReset_con.ok noW Tryz.prog 228 := by
  intro a K h
  simp only [wReset_con] at h
  split at h
  case h_2 => exact h.elim
  split at h
  case h_2 => exact h.elim
  rename_i is_c
  exact CallSem.objs (wReset_sem _ K h) (fun _ _ _ h => h) ⟨WkO.cells (Mo.Wd.is_ok is_c), trivial⟩
noncomputable def tLine_tree (c : Mo.Rt) (K : S → List Ob → Prop) : Prop := K (.bv (Mo.Rt.raised c)) [(.cells 190 (Mo.Rt.cells c))]
theorem tLine_run (c : Mo.Rt) (K : S → List Ob → Prop) : callX (std noW) tt ffLpA stopLpA (lpB noW Tryz.prog) noL 60 144 [.ptr 0 (.l 0)] [.cells 190 (Mo.Rt.cells c)] (gcK 1 (ivK false K)) = tLine_tree c K := by kernel_rfl
noncomputable def tLine_T (c : Mo.Rt) (K : S → List Ob → Prop) : Prop := True ∧ K (.bv (Mo.Rt.raised c)) [(.cells 190 (Mo.Rt.cells c))]
theorem tLine_all (c : Mo.Rt) (K : S → List Ob → Prop) (h : tLine_T c K) : tLine_tree c K := by
  unfold tLine_T at h; obtain ⟨h0, h⟩ := h; unfold tLine_tree
  repeat' first | exact h | (refine ite_intro (fun c => ?_) fun c => ?_) <;> first | simp only [if_pos c] at h0 h | simp only [if_neg c] at h0 h | skip
theorem tLine_sem (c : Mo.Rt) (K : S → List Ob → Prop) (h : tLine_T c K) : CallSem noW Tryz.prog 144 [.ptr 0 (.l 0)] [.cells 190 (Mo.Rt.cells c)] K := iv_call (callX_ok tok (by kernel_rfl) ffLpAok stopLpA_ok _ _ _ _ (Eq.mpr (tLine_run c K) (tLine_all c K h)))
noncomputable def tLine_con : Con := ⟨[.ptr 0], [.cellsV 190], [], fun a K => match a with | ⟨[], [], [], [cs_c], []⟩ => (match Mo.Rt.is cs_c with | true => tLine_T (Mo.Rt.of cs_c) K | false => False) | _ => False⟩
theorem tLine_ok : tLine_con.ok noW Tryz.prog 144 := by
  intro a K h
  simp only [tLine_con] at h
  split at h
  case h_2 => exact h.elim
  split at h
  case h_2 => exact h.elim
  rename_i is_c
  exact CallSem.objs (tLine_sem _ K h) (fun _ _ _ h => h) ⟨WkO.cells (Mo.Rt.is_ok is_c), trivial⟩
noncomputable def hm_LpB_3 (x1 : Mo.Rt) : List Ob := [(.cells 190 (Mo.Rt.cells x1))]
noncomputable def Mo.tTick_v1 (n : Int) (c : Mo.Rt) : Mo.Rt := (if ((Mo.Rt.en c) = true) then (if ((iE (((Mo.Rt.sec c) + (adq (quq n (cvq (Mo.Rt.div c) 0)) (quq (adq (cvq (Mo.Rt.rest c) 0) (rmq n (cvq (Mo.Rt.div c) 0))) (cvq (Mo.Rt.div c) 0)))) / 18446744073709551616) 0) = true) then (if ((iM (Mo.Rt.alarm c) (((Mo.Rt.sec c) + (adq (quq n (cvq (Mo.Rt.div c) 0)) (quq (adq (cvq (Mo.Rt.rest c) 0) (rmq n (cvq (Mo.Rt.div c) 0))) (cvq (Mo.Rt.div c) 0)))) % 18446744073709551616)) = true) then (if ((stdQ QO.not (iM (Mo.Rt.alarm c) (Mo.Rt.sec c)) (iM (Mo.Rt.alarm c) (Mo.Rt.sec c))) = true) then { c with sec := (((Mo.Rt.sec c) + (adq (quq n (cvq (Mo.Rt.div c) 0)) (quq (adq (cvq (Mo.Rt.rest c) 0) (rmq n (cvq (Mo.Rt.div c) 0))) (cvq (Mo.Rt.div c) 0)))) % 18446744073709551616), rest := (cvw (rmq (adq (cvq (Mo.Rt.rest c) 0) (rmq n (cvq (Mo.Rt.div c) 0))) (cvq (Mo.Rt.div c) 0)) 0), raised := true } else { c with sec := (((Mo.Rt.sec c) + (adq (quq n (cvq (Mo.Rt.div c) 0)) (quq (adq (cvq (Mo.Rt.rest c) 0) (rmq n (cvq (Mo.Rt.div c) 0))) (cvq (Mo.Rt.div c) 0)))) % 18446744073709551616), rest := (cvw (rmq (adq (cvq (Mo.Rt.rest c) 0) (rmq n (cvq (Mo.Rt.div c) 0))) (cvq (Mo.Rt.div c) 0)) 0) }) else { c with sec := (((Mo.Rt.sec c) + (adq (quq n (cvq (Mo.Rt.div c) 0)) (quq (adq (cvq (Mo.Rt.rest c) 0) (rmq n (cvq (Mo.Rt.div c) 0))) (cvq (Mo.Rt.div c) 0)))) % 18446744073709551616), rest := (cvw (rmq (adq (cvq (Mo.Rt.rest c) 0) (rmq n (cvq (Mo.Rt.div c) 0))) (cvq (Mo.Rt.div c) 0)) 0) }) else (if ((iM (Mo.Rt.alarm c) 18446744073709551615) = true) then (if ((stdQ QO.not (iM (Mo.Rt.alarm c) (Mo.Rt.sec c)) (iM (Mo.Rt.alarm c) (Mo.Rt.sec c))) = true) then { c with sec := 18446744073709551615, rest := (cvw (rmq (adq (cvq (Mo.Rt.rest c) 0) (rmq n (cvq (Mo.Rt.div c) 0))) (cvq (Mo.Rt.div c) 0)) 0), raised := true } else { c with sec := 18446744073709551615, rest := (cvw (rmq (adq (cvq (Mo.Rt.rest c) 0) (rmq n (cvq (Mo.Rt.div c) 0))) (cvq (Mo.Rt.div c) 0)) 0) }) else { c with sec := 18446744073709551615, rest := (cvw (rmq (adq (cvq (Mo.Rt.rest c) 0) (rmq n (cvq (Mo.Rt.div c) 0))) (cvq (Mo.Rt.div c) 0)) 0) })) else (if ((iE (((Mo.Rt.sec c) + (adq (quq n (cvq (Mo.Rt.div c) 0)) (quq (adq (cvq (Mo.Rt.rest c) 0) (rmq n (cvq (Mo.Rt.div c) 0))) (cvq (Mo.Rt.div c) 0)))) / 18446744073709551616) 0) = true) then { c with sec := (((Mo.Rt.sec c) + (adq (quq n (cvq (Mo.Rt.div c) 0)) (quq (adq (cvq (Mo.Rt.rest c) 0) (rmq n (cvq (Mo.Rt.div c) 0))) (cvq (Mo.Rt.div c) 0)))) % 18446744073709551616), rest := (cvw (rmq (adq (cvq (Mo.Rt.rest c) 0) (rmq n (cvq (Mo.Rt.div c) 0))) (cvq (Mo.Rt.div c) 0)) 0) } else { c with sec := 18446744073709551615, rest := (cvw (rmq (adq (cvq (Mo.Rt.rest c) 0) (rmq n (cvq (Mo.Rt.div c) 0))) (cvq (Mo.Rt.div c) 0)) 0) }))
noncomputable def Mo.tTick_pre (n : Int) (c : Mo.Rt) : Prop := (if ((iN (cvq (Mo.Rt.div c) 0) 0) = true) then (((0 : Int) ≤ (Mo.Rt.sec c)) ∧ ((0 : Int) ≤ (adq (quq n (cvq (Mo.Rt.div c) 0)) (quq (adq (cvq (Mo.Rt.rest c) 0) (rmq n (cvq (Mo.Rt.div c) 0))) (cvq (Mo.Rt.div c) 0))))) else False)
noncomputable def tTick_tree (n : Int) (c : Mo.Rt) (K : S → List Ob → Prop) : Prop := (if ((Mo.Rt.en c) = true) then (if ((iN (cvq (Mo.Rt.div c) 0) 0) = true) then (if ((iN (cvq (Mo.Rt.div c) 0) 0) = true) then (if ((iN (cvq (Mo.Rt.div c) 0) 0) = true) then ((((0 : Int) ≤ (Mo.Rt.sec c)) ∧ ((0 : Int) ≤ (adq (quq n (cvq (Mo.Rt.div c) 0)) (quq (adq (cvq (Mo.Rt.rest c) 0) (rmq n (cvq (Mo.Rt.div c) 0))) (cvq (Mo.Rt.div c) 0))))) ∧ (((0 : Int) = 0) ∧ (if ((iE (((Mo.Rt.sec c) + (adq (quq n (cvq (Mo.Rt.div c) 0)) (quq (adq (cvq (Mo.Rt.rest c) 0) (rmq n (cvq (Mo.Rt.div c) 0))) (cvq (Mo.Rt.div c) 0)))) / 18446744073709551616) 0) = true) then (if ((iN (cvq (Mo.Rt.div c) 0) 0) = true) then (if ((Mo.Rt.en c) = true) then (if ((iM (Mo.Rt.alarm c) (((Mo.Rt.sec c) + (adq (quq n (cvq (Mo.Rt.div c) 0)) (quq (adq (cvq (Mo.Rt.rest c) 0) (rmq n (cvq (Mo.Rt.div c) 0))) (cvq (Mo.Rt.div c) 0)))) % 18446744073709551616)) = true) then (if ((stdQ QO.not (iM (Mo.Rt.alarm c) (Mo.Rt.sec c)) (iM (Mo.Rt.alarm c) (Mo.Rt.sec c))) = true) then K (.tup []) (hm_LpB_3 { c with sec := (((Mo.Rt.sec c) + (adq (quq n (cvq (Mo.Rt.div c) 0)) (quq (adq (cvq (Mo.Rt.rest c) 0) (rmq n (cvq (Mo.Rt.div c) 0))) (cvq (Mo.Rt.div c) 0)))) % 18446744073709551616), rest := (cvw (rmq (adq (cvq (Mo.Rt.rest c) 0) (rmq n (cvq (Mo.Rt.div c) 0))) (cvq (Mo.Rt.div c) 0)) 0), raised := true }) else K (.tup []) (hm_LpB_3 { c with sec := (((Mo.Rt.sec c) + (adq (quq n (cvq (Mo.Rt.div c) 0)) (quq (adq (cvq (Mo.Rt.rest c) 0) (rmq n (cvq (Mo.Rt.div c) 0))) (cvq (Mo.Rt.div c) 0)))) % 18446744073709551616), rest := (cvw (rmq (adq (cvq (Mo.Rt.rest c) 0) (rmq n (cvq (Mo.Rt.div c) 0))) (cvq (Mo.Rt.div c) 0)) 0) })) else K (.tup []) (hm_LpB_3 { c with sec := (((Mo.Rt.sec c) + (adq (quq n (cvq (Mo.Rt.div c) 0)) (quq (adq (cvq (Mo.Rt.rest c) 0) (rmq n (cvq (Mo.Rt.div c) 0))) (cvq (Mo.Rt.div c) 0)))) % 18446744073709551616), rest := (cvw (rmq (adq (cvq (Mo.Rt.rest c) 0) (rmq n (cvq (Mo.Rt.div c) 0))) (cvq (Mo.Rt.div c) 0)) 0) })) else K (.tup []) (hm_LpB_3 { c with sec := (((Mo.Rt.sec c) + (adq (quq n (cvq (Mo.Rt.div c) 0)) (quq (adq (cvq (Mo.Rt.rest c) 0) (rmq n (cvq (Mo.Rt.div c) 0))) (cvq (Mo.Rt.div c) 0)))) % 18446744073709551616), rest := (cvw (rmq (adq (cvq (Mo.Rt.rest c) 0) (rmq n (cvq (Mo.Rt.div c) 0))) (cvq (Mo.Rt.div c) 0)) 0) })) else False) else (if ((iN (cvq (Mo.Rt.div c) 0) 0) = true) then (if ((Mo.Rt.en c) = true) then (if ((iM (Mo.Rt.alarm c) 18446744073709551615) = true) then (if ((stdQ QO.not (iM (Mo.Rt.alarm c) (Mo.Rt.sec c)) (iM (Mo.Rt.alarm c) (Mo.Rt.sec c))) = true) then K (.tup []) [(.cells 190 (Mo.Rt.cells { c with sec := 18446744073709551615, rest := (cvw (rmq (adq (cvq (Mo.Rt.rest c) 0) (rmq n (cvq (Mo.Rt.div c) 0))) (cvq (Mo.Rt.div c) 0)) 0), raised := true }))] else K (.tup []) [(.cells 190 (Mo.Rt.cells { c with sec := 18446744073709551615, rest := (cvw (rmq (adq (cvq (Mo.Rt.rest c) 0) (rmq n (cvq (Mo.Rt.div c) 0))) (cvq (Mo.Rt.div c) 0)) 0) }))]) else K (.tup []) [(.cells 190 (Mo.Rt.cells { c with sec := 18446744073709551615, rest := (cvw (rmq (adq (cvq (Mo.Rt.rest c) 0) (rmq n (cvq (Mo.Rt.div c) 0))) (cvq (Mo.Rt.div c) 0)) 0) }))]) else K (.tup []) [(.cells 190 (Mo.Rt.cells { c with sec := 18446744073709551615, rest := (cvw (rmq (adq (cvq (Mo.Rt.rest c) 0) (rmq n (cvq (Mo.Rt.div c) 0))) (cvq (Mo.Rt.div c) 0)) 0) }))]) else False)))) else False) else False) else False) else (if ((iN (cvq (Mo.Rt.div c) 0) 0) = true) then (if ((iN (cvq (Mo.Rt.div c) 0) 0) = true) then (if ((iN (cvq (Mo.Rt.div c) 0) 0) = true) then ((((0 : Int) ≤ (Mo.Rt.sec c)) ∧ ((0 : Int) ≤ (adq (quq n (cvq (Mo.Rt.div c) 0)) (quq (adq (cvq (Mo.Rt.rest c) 0) (rmq n (cvq (Mo.Rt.div c) 0))) (cvq (Mo.Rt.div c) 0))))) ∧ (((0 : Int) = 0) ∧ (if ((iE (((Mo.Rt.sec c) + (adq (quq n (cvq (Mo.Rt.div c) 0)) (quq (adq (cvq (Mo.Rt.rest c) 0) (rmq n (cvq (Mo.Rt.div c) 0))) (cvq (Mo.Rt.div c) 0)))) / 18446744073709551616) 0) = true) then (if ((iN (cvq (Mo.Rt.div c) 0) 0) = true) then (if ((Mo.Rt.en c) = true) then (if ((iM (Mo.Rt.alarm c) (((Mo.Rt.sec c) + (adq (quq n (cvq (Mo.Rt.div c) 0)) (quq (adq (cvq (Mo.Rt.rest c) 0) (rmq n (cvq (Mo.Rt.div c) 0))) (cvq (Mo.Rt.div c) 0)))) % 18446744073709551616)) = true) then K (.tup []) (hm_LpB_3 { c with sec := (((Mo.Rt.sec c) + (adq (quq n (cvq (Mo.Rt.div c) 0)) (quq (adq (cvq (Mo.Rt.rest c) 0) (rmq n (cvq (Mo.Rt.div c) 0))) (cvq (Mo.Rt.div c) 0)))) % 18446744073709551616), rest := (cvw (rmq (adq (cvq (Mo.Rt.rest c) 0) (rmq n (cvq (Mo.Rt.div c) 0))) (cvq (Mo.Rt.div c) 0)) 0), raised := true }) else K (.tup []) (hm_LpB_3 { c with sec := (((Mo.Rt.sec c) + (adq (quq n (cvq (Mo.Rt.div c) 0)) (quq (adq (cvq (Mo.Rt.rest c) 0) (rmq n (cvq (Mo.Rt.div c) 0))) (cvq (Mo.Rt.div c) 0)))) % 18446744073709551616), rest := (cvw (rmq (adq (cvq (Mo.Rt.rest c) 0) (rmq n (cvq (Mo.Rt.div c) 0))) (cvq (Mo.Rt.div c) 0)) 0) })) else K (.tup []) (hm_LpB_3 { c with sec := (((Mo.Rt.sec c) + (adq (quq n (cvq (Mo.Rt.div c) 0)) (quq (adq (cvq (Mo.Rt.rest c) 0) (rmq n (cvq (Mo.Rt.div c) 0))) (cvq (Mo.Rt.div c) 0)))) % 18446744073709551616), rest := (cvw (rmq (adq (cvq (Mo.Rt.rest c) 0) (rmq n (cvq (Mo.Rt.div c) 0))) (cvq (Mo.Rt.div c) 0)) 0) })) else False) else (if ((iN (cvq (Mo.Rt.div c) 0) 0) = true) then (if ((Mo.Rt.en c) = true) then (if ((iM (Mo.Rt.alarm c) 18446744073709551615) = true) then K (.tup []) [(.cells 190 (Mo.Rt.cells { c with sec := 18446744073709551615, rest := (cvw (rmq (adq (cvq (Mo.Rt.rest c) 0) (rmq n (cvq (Mo.Rt.div c) 0))) (cvq (Mo.Rt.div c) 0)) 0), raised := true }))] else K (.tup []) [(.cells 190 (Mo.Rt.cells { c with sec := 18446744073709551615, rest := (cvw (rmq (adq (cvq (Mo.Rt.rest c) 0) (rmq n (cvq (Mo.Rt.div c) 0))) (cvq (Mo.Rt.div c) 0)) 0) }))]) else K (.tup []) [(.cells 190 (Mo.Rt.cells { c with sec := 18446744073709551615, rest := (cvw (rmq (adq (cvq (Mo.Rt.rest c) 0) (rmq n (cvq (Mo.Rt.div c) 0))) (cvq (Mo.Rt.div c) 0)) 0) }))]) else False)))) else False) else False) else False))
theorem tTick_run (n : Int) (c : Mo.Rt) (K : S → List Ob → Prop) : callX (std noW) tt ffLpA stopLpA (lpB noW Tryz.prog) noL 60 80 [.ptr 0 (.l 0), .iv .u64 n] [.cells 190 (Mo.Rt.cells c)] (gcK 1 (ivK false K)) = tTick_tree n c K := by kernel_rfl
noncomputable def tTick_T (n : Int) (c : Mo.Rt) (K : S → List Ob → Prop) : Prop := Mo.tTick_pre n c ∧ K (.tup []) [(.cells 190 (Mo.Rt.cells (Mo.tTick_v1 n c)))]
theorem tTick_all (n : Int) (c : Mo.Rt) (K : S → List Ob → Prop) (h : tTick_T n c K) : tTick_tree n c K := by
  unfold tTick_T at h; obtain ⟨h0, h⟩ := h; unfold tTick_tree
  try simp only [Mo.tTick_v1] at h0 h
  try simp only [Mo.tTick_pre] at h0 h
  repeat' (first | (refine ite_intro (fun c => ?_) (fun c => ?_) <;> first | simp only [if_pos c] at h0 h | simp only [if_neg c] at h0 h | skip) | with_reducible (replace h0 := (h0 : True ∧ _).2) | with_reducible (refine ⟨rfl, ?_⟩) | with_reducible (refine ⟨h0.1, ?_⟩; replace h0 := h0.2) | with_reducible (refine ⟨h0, ?_⟩) | (refine ⟨h0.1, ?_⟩; replace h0 := h0.2) | refine ⟨h0, ?_⟩ | refine ⟨rfl, ?_⟩ | refine ⟨trivial, ?_⟩ | refine ⟨by assumption, ?_⟩ | refine ⟨Eq.symm (by assumption), ?_⟩ | exact h | refine ⟨?_, ?_⟩ | exact h0.elim | trivial | contradiction | (simp only [if_true, if_false, Bool.false_eq_true] at h; exact h))
theorem tTick_sem (n : Int) (c : Mo.Rt) (K : S → List Ob → Prop) (h : tTick_T n c K) : CallSem noW Tryz.prog 80 [.ptr 0 (.l 0), .iv .u64 n] [.cells 190 (Mo.Rt.cells c)] K := iv_call (callX_ok tok (by kernel_rfl) ffLpAok stopLpA_ok _ _ _ _ (Eq.mpr (tTick_run n c K) (tTick_all n c K h)))
noncomputable def tTick_con : Con := ⟨[.ptr 0, .int .u64], [.cellsV 190], [], fun a K => match a with | ⟨[n], [], [], [cs_c], []⟩ => (match Mo.Rt.is cs_c with | true => tTick_T n (Mo.Rt.of cs_c) K | false => False) | _ => False⟩
theorem tTick_ok : tTick_con.ok noW Tryz.prog 80 := by
  intro a K h
  simp only [tTick_con] at h
  split at h
  case h_2 => exact h.elim
  split at h
  case h_2 => exact h.elim
  rename_i is_c
  exact CallSem.objs (tTick_sem _ _ K h) (fun _ _ _ h => h) ⟨WkO.cells (Mo.Rt.is_ok is_c), trivial⟩
noncomputable def Mo.tLoad_v1 (off : Int) (c : Mo.Rt) : Int := (if ((iN (rmw off 4) 0) = true) then 0 else (if ((iM 9 (srw off 2)) = true) then 0 else (if ((Mo.Rt.en c) = true) then (if ((Mo.Rt.raised c) = true) then (if ((iE (cvi (srw off 2) 0) 0) = true) then (cvw (Mo.Rt.sec c) 0) else (if ((iE (cvi (srw off 2) 0) 1) = true) then (cvw (srq (Mo.Rt.sec c) 32) 0) else (if ((iE (cvi (srw off 2) 0) 2) = true) then (Mo.Rt.set c) else (if ((iE (cvi (srw off 2) 0) 3) = true) then 0 else (if ((iE (cvi (srw off 2) 0) 4) = true) then (cvw (Mo.Rt.alarm c) 0) else (if ((iE (cvi (srw off 2) 0) 5) = true) then (cvw (srq (Mo.Rt.alarm c) 32) 0) else (if ((iE (cvi (srw off 2) 0) 6) = true) then 1 else (if ((iE (cvi (srw off 2) 0) 7) = true) then 1 else (Mo.Rt.div c))))))))) else (if ((iE (cvi (srw off 2) 0) 0) = true) then (cvw (Mo.Rt.sec c) 0) else (if ((iE (cvi (srw off 2) 0) 1) = true) then (cvw (srq (Mo.Rt.sec c) 32) 0) else (if ((iE (cvi (srw off 2) 0) 2) = true) then (Mo.Rt.set c) else (if ((iE (cvi (srw off 2) 0) 3) = true) then 0 else (if ((iE (cvi (srw off 2) 0) 4) = true) then (cvw (Mo.Rt.alarm c) 0) else (if ((iE (cvi (srw off 2) 0) 5) = true) then (cvw (srq (Mo.Rt.alarm c) 32) 0) else (if ((iE (cvi (srw off 2) 0) 6) = true) then 1 else (if ((iE (cvi (srw off 2) 0) 7) = true) then 0 else (Mo.Rt.div c)))))))))) else (if ((Mo.Rt.raised c) = true) then (if ((iE (cvi (srw off 2) 0) 0) = true) then (cvw (Mo.Rt.sec c) 0) else (if ((iE (cvi (srw off 2) 0) 1) = true) then (cvw (srq (Mo.Rt.sec c) 32) 0) else (if ((iE (cvi (srw off 2) 0) 2) = true) then (Mo.Rt.set c) else (if ((iE (cvi (srw off 2) 0) 3) = true) then 0 else (if ((iE (cvi (srw off 2) 0) 4) = true) then (cvw (Mo.Rt.alarm c) 0) else (if ((iE (cvi (srw off 2) 0) 5) = true) then (cvw (srq (Mo.Rt.alarm c) 32) 0) else (if ((iE (cvi (srw off 2) 0) 6) = true) then 0 else (if ((iE (cvi (srw off 2) 0) 7) = true) then 1 else (Mo.Rt.div c))))))))) else (if ((iE (cvi (srw off 2) 0) 0) = true) then (cvw (Mo.Rt.sec c) 0) else (if ((iE (cvi (srw off 2) 0) 1) = true) then (cvw (srq (Mo.Rt.sec c) 32) 0) else (if ((iE (cvi (srw off 2) 0) 2) = true) then (Mo.Rt.set c) else (if ((iE (cvi (srw off 2) 0) 3) = true) then 0 else (if ((iE (cvi (srw off 2) 0) 4) = true) then (cvw (Mo.Rt.alarm c) 0) else (if ((iE (cvi (srw off 2) 0) 5) = true) then (cvw (srq (Mo.Rt.alarm c) 32) 0) else (if ((iE (cvi (srw off 2) 0) 6) = true) then 0 else (if ((iE (cvi (srw off 2) 0) 7) = true) then 0 else (Mo.Rt.div c)))))))))))))
noncomputable def Mo.tLoad_v2 (off : Int) : Int := (if ((iN (rmw off 4) 0) = true) then 11 else (if ((iM 9 (srw off 2)) = true) then 10 else 0))
noncomputable def Mo.tLoad_pre (off : Int) : Prop := (if ((iN (rmw off 4) 0) = true) then True else (if ((iM 9 (srw off 2)) = true) then True else (if ((iM 0 (cvi (srw off 2) 0)) = true) then (if ((iL (cvi (srw off 2) 0) 9) = true) then True else False) else False)))
noncomputable def tLoad_tree (off : Int) (c : Mo.Rt) (K : S → List Ob → Prop) : Prop := (if ((iN (rmw off 4) 0) = true) then K (.tup [(.iv .u32 0), (.iv .i64 11)]) [(.cells 190 (Mo.Rt.cells c))] else (if ((iM 9 (srw off 2)) = true) then K (.tup [(.iv .u32 0), (.iv .i64 10)]) [(.cells 190 (Mo.Rt.cells c))] else (((some (S.iv IntKind.u32 (Mo.Rt.div c))) = (some (S.iv IntKind.u32 (Mo.Rt.div c)))) ∧ (((some (S.bv (Mo.Rt.raised c))) = (some (S.bv (Mo.Rt.raised c)))) ∧ (((some (S.bv (Mo.Rt.en c))) = (some (S.bv (Mo.Rt.en c)))) ∧ (((some (S.iv IntKind.u64 (Mo.Rt.alarm c))) = (some (S.iv IntKind.u64 (Mo.Rt.alarm c)))) ∧ (((some (S.iv IntKind.u64 (Mo.Rt.alarm c))) = (some (S.iv IntKind.u64 (Mo.Rt.alarm c)))) ∧ (((some (S.iv IntKind.u32 (Mo.Rt.set c))) = (some (S.iv IntKind.u32 (Mo.Rt.set c)))) ∧ (((some (S.iv IntKind.u64 (Mo.Rt.sec c))) = (some (S.iv IntKind.u64 (Mo.Rt.sec c)))) ∧ (((some (S.iv IntKind.u32 (Mo.Rt.div c))) = (some (S.iv IntKind.u32 (Mo.Rt.div c)))) ∧ (((some (S.bv (Mo.Rt.raised c))) = (some (S.bv (Mo.Rt.raised c)))) ∧ (((some (S.bv (Mo.Rt.en c))) = (some (S.bv (Mo.Rt.en c)))) ∧ (((some (S.iv IntKind.u64 (Mo.Rt.alarm c))) = (some (S.iv IntKind.u64 (Mo.Rt.alarm c)))) ∧ (((some (S.iv IntKind.u64 (Mo.Rt.alarm c))) = (some (S.iv IntKind.u64 (Mo.Rt.alarm c)))) ∧ (((some (S.iv IntKind.u32 (Mo.Rt.set c))) = (some (S.iv IntKind.u32 (Mo.Rt.set c)))) ∧ (((some (S.iv IntKind.u32 (Mo.Rt.div c))) = (some (S.iv IntKind.u32 (Mo.Rt.div c)))) ∧ (((some (S.bv (Mo.Rt.raised c))) = (some (S.bv (Mo.Rt.raised c)))) ∧ (((some (S.bv (Mo.Rt.en c))) = (some (S.bv (Mo.Rt.en c)))) ∧ (((some (S.iv IntKind.u64 (Mo.Rt.alarm c))) = (some (S.iv IntKind.u64 (Mo.Rt.alarm c)))) ∧ (((some (S.iv IntKind.u32 (Mo.Rt.set c))) = (some (S.iv IntKind.u32 (Mo.Rt.set c)))) ∧ (((some (S.iv IntKind.u32 (Mo.Rt.div c))) = (some (S.iv IntKind.u32 (Mo.Rt.div c)))) ∧ (((some (S.bv (Mo.Rt.raised c))) = (some (S.bv (Mo.Rt.raised c)))) ∧ (((some (S.bv (Mo.Rt.en c))) = (some (S.bv (Mo.Rt.en c)))) ∧ (((some (S.iv IntKind.u32 (Mo.Rt.set c))) = (some (S.iv IntKind.u32 (Mo.Rt.set c)))) ∧ (if ((Mo.Rt.en c) = true) then (((some (S.iv IntKind.u32 (Mo.Rt.div c))) = (some (S.iv IntKind.u32 (Mo.Rt.div c)))) ∧ (((some (S.bv (Mo.Rt.raised c))) = (some (S.bv (Mo.Rt.raised c)))) ∧ (((some (S.iv IntKind.u32 (Mo.Rt.set c))) = (some (S.iv IntKind.u32 (Mo.Rt.set c)))) ∧ (if ((Mo.Rt.raised c) = true) then (((some (S.iv IntKind.u32 (Mo.Rt.div c))) = (some (S.iv IntKind.u32 (Mo.Rt.div c)))) ∧ (((some (S.iv IntKind.u32 (Mo.Rt.set c))) = (some (S.iv IntKind.u32 (Mo.Rt.set c)))) ∧ (if ((iM 0 (cvi (srw off 2) 0)) = true) then (if ((iL (cvi (srw off 2) 0) 9) = true) then (if ((iE (cvi (srw off 2) 0) 0) = true) then K (.tup [(.iv .u32 (cvw (Mo.Rt.sec c) 0)), (.iv .i64 0)]) [(.cells 190 (Mo.Rt.cells c))] else (if ((iE (cvi (srw off 2) 0) 1) = true) then K (.tup [(.iv .u32 (cvw (srq (Mo.Rt.sec c) 32) 0)), (.iv .i64 0)]) [(.cells 190 (Mo.Rt.cells c))] else (if ((iE (cvi (srw off 2) 0) 2) = true) then K (.tup [(.iv .u32 (Mo.Rt.set c)), (.iv .i64 0)]) [(.cells 190 (Mo.Rt.cells c))] else (if ((iE (cvi (srw off 2) 0) 3) = true) then K (.tup [(.iv .u32 0), (.iv .i64 0)]) [(.cells 190 (Mo.Rt.cells c))] else (if ((iE (cvi (srw off 2) 0) 4) = true) then K (.tup [(.iv .u32 (cvw (Mo.Rt.alarm c) 0)), (.iv .i64 0)]) [(.cells 190 (Mo.Rt.cells c))] else (if ((iE (cvi (srw off 2) 0) 5) = true) then K (.tup [(.iv .u32 (cvw (srq (Mo.Rt.alarm c) 32) 0)), (.iv .i64 0)]) [(.cells 190 (Mo.Rt.cells c))] else (if ((iE (cvi (srw off 2) 0) 6) = true) then K (.tup [(.iv .u32 1), (.iv .i64 0)]) [(.cells 190 (Mo.Rt.cells c))] else (if ((iE (cvi (srw off 2) 0) 7) = true) then K (.tup [(.iv .u32 1), (.iv .i64 0)]) [(.cells 190 (Mo.Rt.cells c))] else K (.tup [(.iv .u32 (Mo.Rt.div c)), (.iv .i64 0)]) [(.cells 190 (Mo.Rt.cells c))])))))))) else False) else False))) else (((some (S.iv IntKind.u32 (Mo.Rt.div c))) = (some (S.iv IntKind.u32 (Mo.Rt.div c)))) ∧ (((some (S.iv IntKind.u32 (Mo.Rt.set c))) = (some (S.iv IntKind.u32 (Mo.Rt.set c)))) ∧ (if ((iM 0 (cvi (srw off 2) 0)) = true) then (if ((iL (cvi (srw off 2) 0) 9) = true) then (if ((iE (cvi (srw off 2) 0) 0) = true) then K (.tup [(.iv .u32 (cvw (Mo.Rt.sec c) 0)), (.iv .i64 0)]) [(.cells 190 (Mo.Rt.cells c))] else (if ((iE (cvi (srw off 2) 0) 1) = true) then K (.tup [(.iv .u32 (cvw (srq (Mo.Rt.sec c) 32) 0)), (.iv .i64 0)]) [(.cells 190 (Mo.Rt.cells c))] else (if ((iE (cvi (srw off 2) 0) 2) = true) then K (.tup [(.iv .u32 (Mo.Rt.set c)), (.iv .i64 0)]) [(.cells 190 (Mo.Rt.cells c))] else (if ((iE (cvi (srw off 2) 0) 3) = true) then K (.tup [(.iv .u32 0), (.iv .i64 0)]) [(.cells 190 (Mo.Rt.cells c))] else (if ((iE (cvi (srw off 2) 0) 4) = true) then K (.tup [(.iv .u32 (cvw (Mo.Rt.alarm c) 0)), (.iv .i64 0)]) [(.cells 190 (Mo.Rt.cells c))] else (if ((iE (cvi (srw off 2) 0) 5) = true) then K (.tup [(.iv .u32 (cvw (srq (Mo.Rt.alarm c) 32) 0)), (.iv .i64 0)]) [(.cells 190 (Mo.Rt.cells c))] else (if ((iE (cvi (srw off 2) 0) 6) = true) then K (.tup [(.iv .u32 1), (.iv .i64 0)]) [(.cells 190 (Mo.Rt.cells c))] else (if ((iE (cvi (srw off 2) 0) 7) = true) then K (.tup [(.iv .u32 0), (.iv .i64 0)]) [(.cells 190 (Mo.Rt.cells c))] else K (.tup [(.iv .u32 (Mo.Rt.div c)), (.iv .i64 0)]) [(.cells 190 (Mo.Rt.cells c))])))))))) else False) else False))))))) else (((some (S.iv IntKind.u32 (Mo.Rt.div c))) = (some (S.iv IntKind.u32 (Mo.Rt.div c)))) ∧ (((some (S.bv (Mo.Rt.raised c))) = (some (S.bv (Mo.Rt.raised c)))) ∧ (((some (S.iv IntKind.u32 (Mo.Rt.set c))) = (some (S.iv IntKind.u32 (Mo.Rt.set c)))) ∧ (if ((Mo.Rt.raised c) = true) then (((some (S.iv IntKind.u32 (Mo.Rt.div c))) = (some (S.iv IntKind.u32 (Mo.Rt.div c)))) ∧ (((some (S.iv IntKind.u32 (Mo.Rt.set c))) = (some (S.iv IntKind.u32 (Mo.Rt.set c)))) ∧ (if ((iM 0 (cvi (srw off 2) 0)) = true) then (if ((iL (cvi (srw off 2) 0) 9) = true) then (if ((iE (cvi (srw off 2) 0) 0) = true) then K (.tup [(.iv .u32 (cvw (Mo.Rt.sec c) 0)), (.iv .i64 0)]) [(.cells 190 (Mo.Rt.cells c))] else (if ((iE (cvi (srw off 2) 0) 1) = true) then K (.tup [(.iv .u32 (cvw (srq (Mo.Rt.sec c) 32) 0)), (.iv .i64 0)]) [(.cells 190 (Mo.Rt.cells c))] else (if ((iE (cvi (srw off 2) 0) 2) = true) then K (.tup [(.iv .u32 (Mo.Rt.set c)), (.iv .i64 0)]) [(.cells 190 (Mo.Rt.cells c))] else (if ((iE (cvi (srw off 2) 0) 3) = true) then K (.tup [(.iv .u32 0), (.iv .i64 0)]) [(.cells 190 (Mo.Rt.cells c))] else (if ((iE (cvi (srw off 2) 0) 4) = true) then K (.tup [(.iv .u32 (cvw (Mo.Rt.alarm c) 0)), (.iv .i64 0)]) [(.cells 190 (Mo.Rt.cells c))] else (if ((iE (cvi (srw off 2) 0) 5) = true) then K (.tup [(.iv .u32 (cvw (srq (Mo.Rt.alarm c) 32) 0)), (.iv .i64 0)]) [(.cells 190 (Mo.Rt.cells c))] else (if ((iE (cvi (srw off 2) 0) 6) = true) then K (.tup [(.iv .u32 0), (.iv .i64 0)]) [(.cells 190 (Mo.Rt.cells c))] else (if ((iE (cvi (srw off 2) 0) 7) = true) then K (.tup [(.iv .u32 1), (.iv .i64 0)]) [(.cells 190 (Mo.Rt.cells c))] else K (.tup [(.iv .u32 (Mo.Rt.div c)), (.iv .i64 0)]) [(.cells 190 (Mo.Rt.cells c))])))))))) else False) else False))) else (((some (S.iv IntKind.u32 (Mo.Rt.div c))) = (some (S.iv IntKind.u32 (Mo.Rt.div c)))) ∧ (((some (S.iv IntKind.u32 (Mo.Rt.set c))) = (some (S.iv IntKind.u32 (Mo.Rt.set c)))) ∧ (if ((iM 0 (cvi (srw off 2) 0)) = true) then (if ((iL (cvi (srw off 2) 0) 9) = true) then (if ((iE (cvi (srw off 2) 0) 0) = true) then K (.tup [(.iv .u32 (cvw (Mo.Rt.sec c) 0)), (.iv .i64 0)]) [(.cells 190 (Mo.Rt.cells c))] else (if ((iE (cvi (srw off 2) 0) 1) = true) then K (.tup [(.iv .u32 (cvw (srq (Mo.Rt.sec c) 32) 0)), (.iv .i64 0)]) [(.cells 190 (Mo.Rt.cells c))] else (if ((iE (cvi (srw off 2) 0) 2) = true) then K (.tup [(.iv .u32 (Mo.Rt.set c)), (.iv .i64 0)]) [(.cells 190 (Mo.Rt.cells c))] else (if ((iE (cvi (srw off 2) 0) 3) = true) then K (.tup [(.iv .u32 0), (.iv .i64 0)]) [(.cells 190 (Mo.Rt.cells c))] else (if ((iE (cvi (srw off 2) 0) 4) = true) then K (.tup [(.iv .u32 (cvw (Mo.Rt.alarm c) 0)), (.iv .i64 0)]) [(.cells 190 (Mo.Rt.cells c))] else (if ((iE (cvi (srw off 2) 0) 5) = true) then K (.tup [(.iv .u32 (cvw (srq (Mo.Rt.alarm c) 32) 0)), (.iv .i64 0)]) [(.cells 190 (Mo.Rt.cells c))] else (if ((iE (cvi (srw off 2) 0) 6) = true) then K (.tup [(.iv .u32 0), (.iv .i64 0)]) [(.cells 190 (Mo.Rt.cells c))] else (if ((iE (cvi (srw off 2) 0) 7) = true) then K (.tup [(.iv .u32 0), (.iv .i64 0)]) [(.cells 190 (Mo.Rt.cells c))] else K (.tup [(.iv .u32 (Mo.Rt.div c)), (.iv .i64 0)]) [(.cells 190 (Mo.Rt.cells c))])))))))) else False) else False))))))))))))))))))))))))))))))))
theorem tLoad_run (off : Int) (c : Mo.Rt) (K : S → List Ob → Prop) : callX (std noW) tt ffLpA stopLpA (lpB noW Tryz.prog) noL 60 207 [.ptr 0 (.l 0), .iv .u32 off] [.cells 190 (Mo.Rt.cells c)] (gcK 1 (ivK true K)) = tLoad_tree off c K := by kernel_rfl
noncomputable def tLoad_T (off : Int) (c : Mo.Rt) (K : S → List Ob → Prop) : Prop := Mo.tLoad_pre off ∧ K (.tup [(.iv .u32 (Mo.tLoad_v1 off c)), (.iv .i64 (Mo.tLoad_v2 off))]) [(.cells 190 (Mo.Rt.cells c))]
theorem tLoad_all (off : Int) (c : Mo.Rt) (K : S → List Ob → Prop) (h : tLoad_T off c K) : tLoad_tree off c K := by
  unfold tLoad_T at h; obtain ⟨h0, h⟩ := h; unfold tLoad_tree
  try simp only [Mo.tLoad_v1] at h0 h
  try simp only [Mo.tLoad_v2] at h0 h
  try simp only [Mo.tLoad_pre] at h0 h
  repeat' first | exact h | refine ⟨rfl, ?_⟩ | (refine ⟨h0.1, ?_⟩; replace h0 := h0.2) | refine ⟨h0, ?_⟩ | exact h0.elim | (refine ite_intro (fun c => ?_) fun c => ?_) <;> first | simp only [if_pos c] at h0 h | simp only [if_neg c] at h0 h | skip
theorem tLoad_sem (off : Int) (c : Mo.Rt) (K : S → List Ob → Prop) (h : tLoad_T off c K) : CallSem noW Tryz.prog 207 [.ptr 0 (.l 0), .iv .u32 off] [.cells 190 (Mo.Rt.cells c)] K := iv_call (callX_ok tok (by kernel_rfl) ffLpAok stopLpA_ok _ _ _ _ (Eq.mpr (tLoad_run off c K) (tLoad_all off c K h)))
noncomputable def tLoad_con : Con := ⟨[.ptr 0, .int .u32], [.cellsV 190], [], fun a K => match a with | ⟨[off], [], [], [cs_c], []⟩ => (match Mo.Rt.is cs_c with | true => tLoad_T off (Mo.Rt.of cs_c) K | false => False) | _ => False⟩
theorem tLoad_ok : tLoad_con.ok noW Tryz.prog 207 := by
  intro a K h
  simp only [tLoad_con] at h
  split at h
  case h_2 => exact h.elim
  split at h
  case h_2 => exact h.elim
  rename_i is_c
  exact CallSem.objs (tLoad_sem _ _ K h) (fun _ _ _ h => h) ⟨WkO.cells (Mo.Rt.is_ok is_c), trivial⟩
noncomputable def Mo.tStore_v1 (off : Int) : Int := (if ((iN (rmw off 4) 0) = true) then 11 else (if ((iM 9 (srw off 2)) = true) then 10 else (if ((iM (cvi (srw off 2) 0) 1) = true) then 12 else (if ((iE (cvi (srw off 2) 0) 8) = true) then 12 else 0))))
noncomputable def Mo.tStore_v2 (off : Int) (v : Int) (c : Mo.Rt) : Mo.Rt := (if ((iN (rmw off 4) 0) = true) then c else (if ((iM 9 (srw off 2)) = true) then c else (if ((iM (cvi (srw off 2) 0) 1) = true) then c else (if ((iE (cvi (srw off 2) 0) 8) = true) then c else (if ((Mo.Rt.en c) = true) then (if ((iE (cvi (srw off 2) 0) 2) = true) then (if ((iM (Mo.Rt.alarm c) (Mo.Rt.sec c)) = true) then (if ((stdQ QO.not (iM (Mo.Rt.alarm c) (Mo.Rt.sec c)) (iM (Mo.Rt.alarm c) (Mo.Rt.sec c))) = true) then { c with set := v, raised := true } else { c with set := v }) else { c with set := v }) else (if ((iE (cvi (srw off 2) 0) 3) = true) then (if ((iM (Mo.Rt.alarm c) (rrq (slq (cvq v 0) 32) (cvq (Mo.Rt.set c) 0))) = true) then (if ((stdQ QO.not (iM (Mo.Rt.alarm c) (Mo.Rt.sec c)) (iM (Mo.Rt.alarm c) (Mo.Rt.sec c))) = true) then { c with sec := (rrq (slq (cvq v 0) 32) (cvq (Mo.Rt.set c) 0)), rest := 0, raised := true } else { c with sec := (rrq (slq (cvq v 0) 32) (cvq (Mo.Rt.set c) 0)), rest := 0 }) else { c with sec := (rrq (slq (cvq v 0) 32) (cvq (Mo.Rt.set c) 0)), rest := 0 }) else (if ((iE (cvi (srw off 2) 0) 4) = true) then (if ((iM (rrq (slq (cvq (cvw (srq (Mo.Rt.alarm c) 32) 0) 0) 32) (cvq v 0)) (Mo.Rt.sec c)) = true) then (if ((stdQ QO.not (iM (Mo.Rt.alarm c) (Mo.Rt.sec c)) (iM (Mo.Rt.alarm c) (Mo.Rt.sec c))) = true) then { c with alarm := (rrq (slq (cvq (cvw (srq (Mo.Rt.alarm c) 32) 0) 0) 32) (cvq v 0)), raised := true } else { c with alarm := (rrq (slq (cvq (cvw (srq (Mo.Rt.alarm c) 32) 0) 0) 32) (cvq v 0)) }) else { c with alarm := (rrq (slq (cvq (cvw (srq (Mo.Rt.alarm c) 32) 0) 0) 32) (cvq v 0)) }) else (if ((iE (cvi (srw off 2) 0) 5) = true) then (if ((iM (rrq (slq (cvq v 0) 32) (cvq (cvw (Mo.Rt.alarm c) 0) 0)) (Mo.Rt.sec c)) = true) then (if ((stdQ QO.not (iM (Mo.Rt.alarm c) (Mo.Rt.sec c)) (iM (Mo.Rt.alarm c) (Mo.Rt.sec c))) = true) then { c with alarm := (rrq (slq (cvq v 0) 32) (cvq (cvw (Mo.Rt.alarm c) 0) 0)), raised := true } else { c with alarm := (rrq (slq (cvq v 0) 32) (cvq (cvw (Mo.Rt.alarm c) 0) 0)) }) else { c with alarm := (rrq (slq (cvq v 0) 32) (cvq (cvw (Mo.Rt.alarm c) 0) 0)) }) else (if ((iE (cvi (srw off 2) 0) 6) = true) then (if ((iE (anw v 1) 1) = true) then (if ((iM (Mo.Rt.alarm c) (Mo.Rt.sec c)) = true) then (if ((stdQ QO.not (iM (Mo.Rt.alarm c) (Mo.Rt.sec c)) (iM (Mo.Rt.alarm c) (Mo.Rt.sec c))) = true) then { c with en := (iE (anw v 1) 1), raised := true } else { c with en := (iE (anw v 1) 1) }) else { c with en := (iE (anw v 1) 1) }) else { c with en := (iE (anw v 1) 1) }) else (if ((iE (cvi (srw off 2) 0) 7) = true) then (if ((Mo.Rt.raised c) = true) then (if ((iM (Mo.Rt.alarm c) (Mo.Rt.sec c)) = true) then (if ((stdQ QO.not (iM (Mo.Rt.alarm c) (Mo.Rt.sec c)) (iM (Mo.Rt.alarm c) (Mo.Rt.sec c))) = true) then { c with raised := true } else { c with raised := (iE (anw v 1) 0) }) else { c with raised := (iE (anw v 1) 0) }) else (if ((iM (Mo.Rt.alarm c) (Mo.Rt.sec c)) = true) then (if ((stdQ QO.not (iM (Mo.Rt.alarm c) (Mo.Rt.sec c)) (iM (Mo.Rt.alarm c) (Mo.Rt.sec c))) = true) then { c with raised := true } else { c with raised := false }) else { c with raised := false })) else (if ((iM (Mo.Rt.alarm c) (Mo.Rt.sec c)) = true) then (if ((stdQ QO.not (iM (Mo.Rt.alarm c) (Mo.Rt.sec c)) (iM (Mo.Rt.alarm c) (Mo.Rt.sec c))) = true) then { c with raised := true } else c) else c))))))) else (if ((iE (cvi (srw off 2) 0) 2) = true) then { c with set := v } else (if ((iE (cvi (srw off 2) 0) 3) = true) then { c with sec := (rrq (slq (cvq v 0) 32) (cvq (Mo.Rt.set c) 0)), rest := 0 } else (if ((iE (cvi (srw off 2) 0) 4) = true) then { c with alarm := (rrq (slq (cvq (cvw (srq (Mo.Rt.alarm c) 32) 0) 0) 32) (cvq v 0)) } else (if ((iE (cvi (srw off 2) 0) 5) = true) then { c with alarm := (rrq (slq (cvq v 0) 32) (cvq (cvw (Mo.Rt.alarm c) 0) 0)) } else (if ((iE (cvi (srw off 2) 0) 6) = true) then (if ((iE (anw v 1) 1) = true) then (if ((iM (Mo.Rt.alarm c) (Mo.Rt.sec c)) = true) then { c with en := (iE (anw v 1) 1), raised := true } else { c with en := (iE (anw v 1) 1) }) else { c with en := (iE (anw v 1) 1) }) else (if ((iE (cvi (srw off 2) 0) 7) = true) then (if ((Mo.Rt.raised c) = true) then { c with raised := (iE (anw v 1) 0) } else { c with raised := false }) else c)))))))))))
noncomputable def tStore_tree (off : Int) (v : Int) (c : Mo.Rt) (K : S → List Ob → Prop) : Prop := (if ((iN (rmw off 4) 0) = true) then K (.iv .i64 11) [(.cells 190 (Mo.Rt.cells c))] else (if ((iM 9 (srw off 2)) = true) then K (.iv .i64 10) [(.cells 190 (Mo.Rt.cells c))] else (if ((iM (cvi (srw off 2) 0) 1) = true) then K (.iv .i64 12) [(.cells 190 (Mo.Rt.cells c))] else (if ((iE (cvi (srw off 2) 0) 8) = true) then K (.iv .i64 12) [(.cells 190 (Mo.Rt.cells c))] else (if ((Mo.Rt.en c) = true) then (if ((iE (cvi (srw off 2) 0) 2) = true) then (if ((Mo.Rt.en c) = true) then (if ((iM (Mo.Rt.alarm c) (Mo.Rt.sec c)) = true) then (if ((stdQ QO.not (iM (Mo.Rt.alarm c) (Mo.Rt.sec c)) (iM (Mo.Rt.alarm c) (Mo.Rt.sec c))) = true) then K (.iv .i64 0) [(.cells 190 (Mo.Rt.cells { c with set := v, raised := true }))] else K (.iv .i64 0) [(.cells 190 (Mo.Rt.cells { c with set := v }))]) else K (.iv .i64 0) [(.cells 190 (Mo.Rt.cells { c with set := v }))]) else K (.iv .i64 0) [(.cells 190 (Mo.Rt.cells { c with set := v }))]) else (if ((iE (cvi (srw off 2) 0) 3) = true) then (if ((Mo.Rt.en c) = true) then (if ((iM (Mo.Rt.alarm c) (rrq (slq (cvq v 0) 32) (cvq (Mo.Rt.set c) 0))) = true) then (if ((stdQ QO.not (iM (Mo.Rt.alarm c) (Mo.Rt.sec c)) (iM (Mo.Rt.alarm c) (Mo.Rt.sec c))) = true) then K (.iv .i64 0) [(.cells 190 (Mo.Rt.cells { c with sec := (rrq (slq (cvq v 0) 32) (cvq (Mo.Rt.set c) 0)), rest := 0, raised := true }))] else K (.iv .i64 0) [(.cells 190 (Mo.Rt.cells { c with sec := (rrq (slq (cvq v 0) 32) (cvq (Mo.Rt.set c) 0)), rest := 0 }))]) else K (.iv .i64 0) [(.cells 190 (Mo.Rt.cells { c with sec := (rrq (slq (cvq v 0) 32) (cvq (Mo.Rt.set c) 0)), rest := 0 }))]) else K (.iv .i64 0) [(.cells 190 (Mo.Rt.cells { c with sec := (rrq (slq (cvq v 0) 32) (cvq (Mo.Rt.set c) 0)), rest := 0 }))]) else (if ((iE (cvi (srw off 2) 0) 4) = true) then (((some (S.iv IntKind.u32 v)) = (some (S.iv IntKind.u32 v))) ∧ (if ((Mo.Rt.en c) = true) then (if ((iM (rrq (slq (cvq (cvw (srq (Mo.Rt.alarm c) 32) 0) 0) 32) (cvq v 0)) (Mo.Rt.sec c)) = true) then (if ((stdQ QO.not (iM (Mo.Rt.alarm c) (Mo.Rt.sec c)) (iM (Mo.Rt.alarm c) (Mo.Rt.sec c))) = true) then K (.iv .i64 0) [(.cells 190 (Mo.Rt.cells { c with alarm := (rrq (slq (cvq (cvw (srq (Mo.Rt.alarm c) 32) 0) 0) 32) (cvq v 0)), raised := true }))] else K (.iv .i64 0) [(.cells 190 (Mo.Rt.cells { c with alarm := (rrq (slq (cvq (cvw (srq (Mo.Rt.alarm c) 32) 0) 0) 32) (cvq v 0)) }))]) else K (.iv .i64 0) [(.cells 190 (Mo.Rt.cells { c with alarm := (rrq (slq (cvq (cvw (srq (Mo.Rt.alarm c) 32) 0) 0) 32) (cvq v 0)) }))]) else K (.iv .i64 0) [(.cells 190 (Mo.Rt.cells { c with alarm := (rrq (slq (cvq (cvw (srq (Mo.Rt.alarm c) 32) 0) 0) 32) (cvq v 0)) }))])) else (if ((iE (cvi (srw off 2) 0) 5) = true) then (((some (S.iv IntKind.u32 v)) = (some (S.iv IntKind.u32 v))) ∧ (if ((Mo.Rt.en c) = true) then (if ((iM (rrq (slq (cvq v 0) 32) (cvq (cvw (Mo.Rt.alarm c) 0) 0)) (Mo.Rt.sec c)) = true) then (if ((stdQ QO.not (iM (Mo.Rt.alarm c) (Mo.Rt.sec c)) (iM (Mo.Rt.alarm c) (Mo.Rt.sec c))) = true) then K (.iv .i64 0) [(.cells 190 (Mo.Rt.cells { c with alarm := (rrq (slq (cvq v 0) 32) (cvq (cvw (Mo.Rt.alarm c) 0) 0)), raised := true }))] else K (.iv .i64 0) [(.cells 190 (Mo.Rt.cells { c with alarm := (rrq (slq (cvq v 0) 32) (cvq (cvw (Mo.Rt.alarm c) 0) 0)) }))]) else K (.iv .i64 0) [(.cells 190 (Mo.Rt.cells { c with alarm := (rrq (slq (cvq v 0) 32) (cvq (cvw (Mo.Rt.alarm c) 0) 0)) }))]) else K (.iv .i64 0) [(.cells 190 (Mo.Rt.cells { c with alarm := (rrq (slq (cvq v 0) 32) (cvq (cvw (Mo.Rt.alarm c) 0) 0)) }))])) else (if ((iE (cvi (srw off 2) 0) 6) = true) then (if ((iE (anw v 1) 1) = true) then (if ((iM (Mo.Rt.alarm c) (Mo.Rt.sec c)) = true) then (if ((stdQ QO.not (iM (Mo.Rt.alarm c) (Mo.Rt.sec c)) (iM (Mo.Rt.alarm c) (Mo.Rt.sec c))) = true) then K (.iv .i64 0) [(.cells 190 (Mo.Rt.cells { c with en := (iE (anw v 1) 1), raised := true }))] else K (.iv .i64 0) [(.cells 190 (Mo.Rt.cells { c with en := (iE (anw v 1) 1) }))]) else K (.iv .i64 0) [(.cells 190 (Mo.Rt.cells { c with en := (iE (anw v 1) 1) }))]) else K (.iv .i64 0) [(.cells 190 (Mo.Rt.cells { c with en := (iE (anw v 1) 1) }))]) else (if ((iE (cvi (srw off 2) 0) 7) = true) then (if ((Mo.Rt.raised c) = true) then (if ((Mo.Rt.en c) = true) then (if ((iM (Mo.Rt.alarm c) (Mo.Rt.sec c)) = true) then (if ((stdQ QO.not (iM (Mo.Rt.alarm c) (Mo.Rt.sec c)) (iM (Mo.Rt.alarm c) (Mo.Rt.sec c))) = true) then K (.iv .i64 0) [(.cells 190 (Mo.Rt.cells { c with raised := true }))] else K (.iv .i64 0) [(.cells 190 (Mo.Rt.cells { c with raised := (iE (anw v 1) 0) }))]) else K (.iv .i64 0) [(.cells 190 (Mo.Rt.cells { c with raised := (iE (anw v 1) 0) }))]) else K (.iv .i64 0) [(.cells 190 (Mo.Rt.cells { c with raised := (iE (anw v 1) 0) }))]) else (if ((Mo.Rt.en c) = true) then (if ((iM (Mo.Rt.alarm c) (Mo.Rt.sec c)) = true) then (if ((stdQ QO.not (iM (Mo.Rt.alarm c) (Mo.Rt.sec c)) (iM (Mo.Rt.alarm c) (Mo.Rt.sec c))) = true) then K (.iv .i64 0) [(.cells 190 (Mo.Rt.cells { c with raised := true }))] else K (.iv .i64 0) [(.cells 190 (Mo.Rt.cells { c with raised := false }))]) else K (.iv .i64 0) [(.cells 190 (Mo.Rt.cells { c with raised := false }))]) else K (.iv .i64 0) [(.cells 190 (Mo.Rt.cells { c with raised := false }))])) else (if ((Mo.Rt.en c) = true) then (if ((iM (Mo.Rt.alarm c) (Mo.Rt.sec c)) = true) then (if ((stdQ QO.not (iM (Mo.Rt.alarm c) (Mo.Rt.sec c)) (iM (Mo.Rt.alarm c) (Mo.Rt.sec c))) = true) then K (.iv .i64 0) [(.cells 190 (Mo.Rt.cells { c with raised := true }))] else K (.iv .i64 0) [(.cells 190 (Mo.Rt.cells c))]) else K (.iv .i64 0) [(.cells 190 (Mo.Rt.cells c))]) else K (.iv .i64 0) [(.cells 190 (Mo.Rt.cells c))]))))))) else (if ((iE (cvi (srw off 2) 0) 2) = true) then (if ((Mo.Rt.en c) = true) then (if ((iM (Mo.Rt.alarm c) (Mo.Rt.sec c)) = true) then K (.iv .i64 0) [(.cells 190 (Mo.Rt.cells { c with set := v, raised := true }))] else K (.iv .i64 0) [(.cells 190 (Mo.Rt.cells { c with set := v }))]) else K (.iv .i64 0) [(.cells 190 (Mo.Rt.cells { c with set := v }))]) else (if ((iE (cvi (srw off 2) 0) 3) = true) then (if ((Mo.Rt.en c) = true) then (if ((iM (Mo.Rt.alarm c) (rrq (slq (cvq v 0) 32) (cvq (Mo.Rt.set c) 0))) = true) then K (.iv .i64 0) [(.cells 190 (Mo.Rt.cells { c with sec := (rrq (slq (cvq v 0) 32) (cvq (Mo.Rt.set c) 0)), rest := 0, raised := true }))] else K (.iv .i64 0) [(.cells 190 (Mo.Rt.cells { c with sec := (rrq (slq (cvq v 0) 32) (cvq (Mo.Rt.set c) 0)), rest := 0 }))]) else K (.iv .i64 0) [(.cells 190 (Mo.Rt.cells { c with sec := (rrq (slq (cvq v 0) 32) (cvq (Mo.Rt.set c) 0)), rest := 0 }))]) else (if ((iE (cvi (srw off 2) 0) 4) = true) then (((some (S.iv IntKind.u32 v)) = (some (S.iv IntKind.u32 v))) ∧ (if ((Mo.Rt.en c) = true) then (if ((iM (rrq (slq (cvq (cvw (srq (Mo.Rt.alarm c) 32) 0) 0) 32) (cvq v 0)) (Mo.Rt.sec c)) = true) then K (.iv .i64 0) [(.cells 190 (Mo.Rt.cells { c with alarm := (rrq (slq (cvq (cvw (srq (Mo.Rt.alarm c) 32) 0) 0) 32) (cvq v 0)), raised := true }))] else K (.iv .i64 0) [(.cells 190 (Mo.Rt.cells { c with alarm := (rrq (slq (cvq (cvw (srq (Mo.Rt.alarm c) 32) 0) 0) 32) (cvq v 0)) }))]) else K (.iv .i64 0) [(.cells 190 (Mo.Rt.cells { c with alarm := (rrq (slq (cvq (cvw (srq (Mo.Rt.alarm c) 32) 0) 0) 32) (cvq v 0)) }))])) else (if ((iE (cvi (srw off 2) 0) 5) = true) then (((some (S.iv IntKind.u32 v)) = (some (S.iv IntKind.u32 v))) ∧ (if ((Mo.Rt.en c) = true) then (if ((iM (rrq (slq (cvq v 0) 32) (cvq (cvw (Mo.Rt.alarm c) 0) 0)) (Mo.Rt.sec c)) = true) then K (.iv .i64 0) [(.cells 190 (Mo.Rt.cells { c with alarm := (rrq (slq (cvq v 0) 32) (cvq (cvw (Mo.Rt.alarm c) 0) 0)), raised := true }))] else K (.iv .i64 0) [(.cells 190 (Mo.Rt.cells { c with alarm := (rrq (slq (cvq v 0) 32) (cvq (cvw (Mo.Rt.alarm c) 0) 0)) }))]) else K (.iv .i64 0) [(.cells 190 (Mo.Rt.cells { c with alarm := (rrq (slq (cvq v 0) 32) (cvq (cvw (Mo.Rt.alarm c) 0) 0)) }))])) else (if ((iE (cvi (srw off 2) 0) 6) = true) then (if ((iE (anw v 1) 1) = true) then (if ((iM (Mo.Rt.alarm c) (Mo.Rt.sec c)) = true) then K (.iv .i64 0) [(.cells 190 (Mo.Rt.cells { c with en := (iE (anw v 1) 1), raised := true }))] else K (.iv .i64 0) [(.cells 190 (Mo.Rt.cells { c with en := (iE (anw v 1) 1) }))]) else K (.iv .i64 0) [(.cells 190 (Mo.Rt.cells { c with en := (iE (anw v 1) 1) }))]) else (if ((iE (cvi (srw off 2) 0) 7) = true) then (if ((Mo.Rt.raised c) = true) then (if ((Mo.Rt.en c) = true) then (if ((iM (Mo.Rt.alarm c) (Mo.Rt.sec c)) = true) then K (.iv .i64 0) [(.cells 190 (Mo.Rt.cells { c with raised := true }))] else K (.iv .i64 0) [(.cells 190 (Mo.Rt.cells { c with raised := (iE (anw v 1) 0) }))]) else K (.iv .i64 0) [(.cells 190 (Mo.Rt.cells { c with raised := (iE (anw v 1) 0) }))]) else (if ((Mo.Rt.en c) = true) then (if ((iM (Mo.Rt.alarm c) (Mo.Rt.sec c)) = true) then K (.iv .i64 0) [(.cells 190 (Mo.Rt.cells { c with raised := true }))] else K (.iv .i64 0) [(.cells 190 (Mo.Rt.cells { c with raised := false }))]) else K (.iv .i64 0) [(.cells 190 (Mo.Rt.cells { c with raised := false }))])) else (if ((Mo.Rt.en c) = true) then (if ((iM (Mo.Rt.alarm c) (Mo.Rt.sec c)) = true) then K (.iv .i64 0) [(.cells 190 (Mo.Rt.cells { c with raised := true }))] else K (.iv .i64 0) [(.cells 190 (Mo.Rt.cells c))]) else K (.iv .i64 0) [(.cells 190 (Mo.Rt.cells c))]))))))))))))
theorem tStore_run (off : Int) (v : Int) (c : Mo.Rt) (K : S → List Ob → Prop) : callX (std noW) tt ffLpA stopLpA (lpB noW Tryz.prog) noL 60 209 [.ptr 0 (.l 0), .iv .u32 off, .iv .u32 v] [.cells 190 (Mo.Rt.cells c)] (gcK 1 (ivK true K)) = tStore_tree off v c K := by kernel_rfl
noncomputable def tStore_T (off : Int) (v : Int) (c : Mo.Rt) (K : S → List Ob → Prop) : Prop := True ∧ K (.iv .i64 (Mo.tStore_v1 off)) [(.cells 190 (Mo.Rt.cells (Mo.tStore_v2 off v c)))]
theorem tStore_all (off : Int) (v : Int) (c : Mo.Rt) (K : S → List Ob → Prop) (h : tStore_T off v c K) : tStore_tree off v c K := by
  unfold tStore_T at h; obtain ⟨h0, h⟩ := h; unfold tStore_tree
  try simp only [Mo.tStore_v1] at h0 h
  try simp only [Mo.tStore_v2] at h0 h
  repeat' (first | (refine ite_intro (fun c => ?_) (fun c => ?_) <;> first | simp only [if_pos c] at h0 h | simp only [if_neg c] at h0 h | skip) | with_reducible (replace h0 := (h0 : True ∧ _).2) | with_reducible (refine ⟨rfl, ?_⟩) | with_reducible (refine ⟨h0.1, ?_⟩; replace h0 := h0.2) | with_reducible (refine ⟨h0, ?_⟩) | (refine ⟨h0.1, ?_⟩; replace h0 := h0.2) | refine ⟨h0, ?_⟩ | refine ⟨rfl, ?_⟩ | refine ⟨trivial, ?_⟩ | refine ⟨by assumption, ?_⟩ | refine ⟨Eq.symm (by assumption), ?_⟩ | exact h | refine ⟨?_, ?_⟩ | exact h0.elim | trivial | contradiction | (simp only [if_true, if_false, Bool.false_eq_true] at h; exact h))
theorem tStore_sem (off : Int) (v : Int) (c : Mo.Rt) (K : S → List Ob → Prop) (h : tStore_T off v c K) : CallSem noW Tryz.prog 209 [.ptr 0 (.l 0), .iv .u32 off, .iv .u32 v] [.cells 190 (Mo.Rt.cells c)] K := iv_call (callX_ok tok (by kernel_rfl) ffLpAok stopLpA_ok _ _ _ _ (Eq.mpr (tStore_run off v c K) (tStore_all off v c K h)))
noncomputable def tStore_con : Con := ⟨[.ptr 0, .int .u32, .int .u32], [.cellsV 190], [], fun a K => match a with | ⟨[off, v], [], [], [cs_c], []⟩ => (match Mo.Rt.is cs_c with | true => tStore_T off v (Mo.Rt.of cs_c) K | false => False) | _ => False⟩
theorem tStore_ok : tStore_con.ok noW Tryz.prog 209 := by
  intro a K h
  simp only [tStore_con] at h
  split at h
  case h_2 => exact h.elim
  split at h
  case h_2 => exact h.elim
  rename_i is_c
  exact CallSem.objs (tStore_sem _ _ _ K h) (fun _ _ _ h => h) ⟨WkO.cells (Mo.Rt.is_ok is_c), trivial⟩
noncomputable def Mo.tReset_v1 (c : Mo.Rt) : Mo.Rt := (if ((stdQ QO.not (stdQ QO.and (iE (Mo.Rt.sec c) 0) (stdQ QO.and (iE (Mo.Rt.alarm c) 0) (stdQ QO.and (iE (Mo.Rt.rest c) 0) (stdQ QO.and (iE (Mo.Rt.set c) 0) (stdQ QO.and (stdQ QO.eq (Mo.Rt.en c) false) (stdQ QO.eq (Mo.Rt.raised c) false)))))) (stdQ QO.and (iE (Mo.Rt.sec c) 0) (stdQ QO.and (iE (Mo.Rt.alarm c) 0) (stdQ QO.and (iE (Mo.Rt.rest c) 0) (stdQ QO.and (iE (Mo.Rt.set c) 0) (stdQ QO.and (stdQ QO.eq (Mo.Rt.en c) false) (stdQ QO.eq (Mo.Rt.raised c) false))))))) = true) then { c with alarm := 0, set := 0, en := false, raised := false } else c)
noncomputable def tReset_tree (c : Mo.Rt) (K : S → List Ob → Prop) : Prop := (if ((stdQ QO.not (stdQ QO.and (iE (Mo.Rt.sec c) 0) (stdQ QO.and (iE (Mo.Rt.alarm c) 0) (stdQ QO.and (iE (Mo.Rt.rest c) 0) (stdQ QO.and (iE (Mo.Rt.set c) 0) (stdQ QO.and (stdQ QO.eq (Mo.Rt.en c) false) (stdQ QO.eq (Mo.Rt.raised c) false)))))) (stdQ QO.and (iE (Mo.Rt.sec c) 0) (stdQ QO.and (iE (Mo.Rt.alarm c) 0) (stdQ QO.and (iE (Mo.Rt.rest c) 0) (stdQ QO.and (iE (Mo.Rt.set c) 0) (stdQ QO.and (stdQ QO.eq (Mo.Rt.en c) false) (stdQ QO.eq (Mo.Rt.raised c) false))))))) = true) then K (.tup []) [(.cells 190 (Mo.Rt.cells { c with alarm := 0, set := 0, en := false, raised := false }))] else K (.tup []) [(.cells 190 (Mo.Rt.cells c))])
theorem tReset_run (c : Mo.Rt) (K : S → List Ob → Prop) : callX (std noW) tt ffLpA stopLpA (lpB noW Tryz.prog) noL 60 208 [.ptr 0 (.l 0)] [.cells 190 (Mo.Rt.cells c)] (gcK 1 (ivK false K)) = tReset_tree c K := by kernel_rfl
noncomputable def tReset_T (c : Mo.Rt) (K : S → List Ob → Prop) : Prop := True ∧ K (.tup []) [(.cells 190 (Mo.Rt.cells (Mo.tReset_v1 c)))]
theorem tReset_all (c : Mo.Rt) (K : S → List Ob → Prop) (h : tReset_T c K) : tReset_tree c K := by
  unfold tReset_T at h; obtain ⟨h0, h⟩ := h; unfold tReset_tree
  try simp only [Mo.tReset_v1] at h0 h
  repeat' first | exact h | (refine ite_intro (fun c => ?_) fun c => ?_) <;> first | simp only [if_pos c] at h0 h | simp only [if_neg c] at h0 h | skip
theorem tReset_sem (c : Mo.Rt) (K : S → List Ob → Prop) (h : tReset_T c K) : CallSem noW Tryz.prog 208 [.ptr 0 (.l 0)] [.cells 190 (Mo.Rt.cells c)] K := iv_call (callX_ok tok (by kernel_rfl) ffLpAok stopLpA_ok _ _ _ _ (Eq.mpr (tReset_run c K) (tReset_all c K h)))
noncomputable def tReset_con : Con := ⟨[.ptr 0], [.cellsV 190], [], fun a K => match a with | ⟨[], [], [], [cs_c], []⟩ => (match Mo.Rt.is cs_c with | true => tReset_T (Mo.Rt.of cs_c) K | false => False) | _ => False⟩
theorem tReset_ok : tReset_con.ok noW Tryz.prog 208 := by
  intro a K h
  simp only [tReset_con] at h
  split at h
  case h_2 => exact h.elim
  split at h
  case h_2 => exact h.elim
  rename_i is_c
  exact CallSem.objs (tReset_sem _ K h) (fun _ _ _ h => h) ⟨WkO.cells (Mo.Rt.is_ok is_c), trivial⟩
noncomputable def rLatch_s1 (of : Int) (c : Mo.Rs) (K : S → List Ob → Prop) : Prop := (if ((iL (Mo.Rs.count c) 4294967295) = true) then K (.bv true) [(.cells 200 (Mo.Rs.cells { c with cause := (rrw (Mo.Rs.cause c) (cvw of 0)), count := (adw (Mo.Rs.count c) 1), last := (cvw of 0), asked := false }))] else K (.bv true) [(.cells 200 (Mo.Rs.cells { c with cause := (rrw (Mo.Rs.cause c) (cvw of 0)), last := (cvw of 0), asked := false }))])
noncomputable def Mo.rLatch_v1 (of : Int) : Bool := (if ((iE of 1) = true) then false else (if ((iE of 2) = true) then true else (if ((iE of 4) = true) then true else (if ((iE of 8) = true) then true else (if ((iE of 16) = true) then true else false)))))
noncomputable def Mo.rLatch_v2 (of : Int) (c : Mo.Rs) : Mo.Rs := (if ((iE of 1) = true) then c else (if ((iE of 2) = true) then (if ((iL (Mo.Rs.count c) 4294967295) = true) then { c with cause := (rrw (Mo.Rs.cause c) (cvw of 0)), count := (adw (Mo.Rs.count c) 1), last := (cvw of 0), asked := false } else { c with cause := (rrw (Mo.Rs.cause c) (cvw of 0)), last := (cvw of 0), asked := false }) else (if ((iE of 4) = true) then (if ((iL (Mo.Rs.count c) 4294967295) = true) then { c with cause := (rrw (Mo.Rs.cause c) (cvw of 0)), count := (adw (Mo.Rs.count c) 1), last := (cvw of 0), asked := false } else { c with cause := (rrw (Mo.Rs.cause c) (cvw of 0)), last := (cvw of 0), asked := false }) else (if ((iE of 8) = true) then (if ((iL (Mo.Rs.count c) 4294967295) = true) then { c with cause := (rrw (Mo.Rs.cause c) (cvw of 0)), count := (adw (Mo.Rs.count c) 1), last := (cvw of 0), asked := false } else { c with cause := (rrw (Mo.Rs.cause c) (cvw of 0)), last := (cvw of 0), asked := false }) else (if ((iE of 16) = true) then (if ((iL (Mo.Rs.count c) 4294967295) = true) then { c with cause := (rrw (Mo.Rs.cause c) (cvw of 0)), count := (adw (Mo.Rs.count c) 1), last := (cvw of 0), asked := false } else { c with cause := (rrw (Mo.Rs.cause c) (cvw of 0)), last := (cvw of 0), asked := false }) else c)))))
noncomputable def rLatch_tree (of : Int) (c : Mo.Rs) (K : S → List Ob → Prop) : Prop := (if ((iE of 1) = true) then K (.bv false) [(.cells 200 (Mo.Rs.cells c))] else (if ((iE of 1) = true) then (rLatch_s1 of c K) else (if ((iE of 2) = true) then (rLatch_s1 of c K) else (if ((iE of 4) = true) then (rLatch_s1 of c K) else (if ((iE of 8) = true) then (rLatch_s1 of c K) else (if ((iE of 16) = true) then (rLatch_s1 of c K) else K (.bv false) [(.cells 200 (Mo.Rs.cells c))]))))))
theorem rLatch_run (of : Int) (c : Mo.Rs) (K : S → List Ob → Prop) : callX (std noW) tt ffLpA stopLpA (lpB noW Tryz.prog) noL 60 153 [.ptr 0 (.l 0), .iv .i64 of] [.cells 200 (Mo.Rs.cells c)] (gcK 1 (ivK true K)) = rLatch_tree of c K := by kernel_rfl
noncomputable def rLatch_T (of : Int) (c : Mo.Rs) (K : S → List Ob → Prop) : Prop := True ∧ K (.bv (Mo.rLatch_v1 of)) [(.cells 200 (Mo.Rs.cells (Mo.rLatch_v2 of c)))]
theorem rLatch_all (of : Int) (c : Mo.Rs) (K : S → List Ob → Prop) (h : rLatch_T of c K) : rLatch_tree of c K := by
  unfold rLatch_T at h; obtain ⟨h0, h⟩ := h; unfold rLatch_tree
  try simp only [Mo.rLatch_v1] at h0 h
  try simp only [Mo.rLatch_v2] at h0 h
  repeat' (first | (refine ite_intro (fun c => ?_) (fun c => ?_) <;> first | simp only [if_pos c] at h0 h | simp only [if_neg c] at h0 h | skip) | with_reducible (replace h0 := (h0 : True ∧ _).2) | with_reducible (refine ⟨rfl, ?_⟩) | with_reducible (refine ⟨h0.1, ?_⟩; replace h0 := h0.2) | with_reducible (refine ⟨h0, ?_⟩) | (refine ⟨h0.1, ?_⟩; replace h0 := h0.2) | refine ⟨h0, ?_⟩ | refine ⟨rfl, ?_⟩ | refine ⟨trivial, ?_⟩ | refine ⟨by assumption, ?_⟩ | refine ⟨Eq.symm (by assumption), ?_⟩ | exact h | refine ⟨?_, ?_⟩ | unfold rLatch_s1 | exact h0.elim | trivial | contradiction | (simp only [if_true, if_false, Bool.false_eq_true] at h; exact h))
theorem rLatch_sem (of : Int) (c : Mo.Rs) (K : S → List Ob → Prop) (h : rLatch_T of c K) : CallSem noW Tryz.prog 153 [.ptr 0 (.l 0), .iv .i64 of] [.cells 200 (Mo.Rs.cells c)] K := iv_call (callX_ok tok (by kernel_rfl) ffLpAok stopLpA_ok _ _ _ _ (Eq.mpr (rLatch_run of c K) (rLatch_all of c K h)))
noncomputable def rLatch_con : Con := ⟨[.ptr 0, .int .i64], [.cellsV 200], [], fun a K => match a with | ⟨[of], [], [], [cs_c], []⟩ => (match Mo.Rs.is cs_c with | true => rLatch_T of (Mo.Rs.of cs_c) K | false => False) | _ => False⟩
theorem rLatch_ok : rLatch_con.ok noW Tryz.prog 153 := by
  intro a K h
  simp only [rLatch_con] at h
  split at h
  case h_2 => exact h.elim
  split at h
  case h_2 => exact h.elim
  rename_i is_c
  exact CallSem.objs (rLatch_sem _ _ K h) (fun _ _ _ h => h) ⟨WkO.cells (Mo.Rs.is_ok is_c), trivial⟩
noncomputable def Mo.rAsked_v1 (c : Mo.Rs) : Bool := (if ((stdQ QO.not (stdQ QO.and (stdQ QO.and (iE (Mo.Rs.cause c) 0) (stdQ QO.and (iE (Mo.Rs.count c) 0) (stdQ QO.and (iE (Mo.Rs.key c) 0) (iE (Mo.Rs.last c) 0)))) (stdQ QO.eq (Mo.Rs.asked c) false)) (stdQ QO.and (stdQ QO.and (iE (Mo.Rs.cause c) 0) (stdQ QO.and (iE (Mo.Rs.count c) 0) (stdQ QO.and (iE (Mo.Rs.key c) 0) (iE (Mo.Rs.last c) 0)))) (stdQ QO.eq (Mo.Rs.asked c) false))) = true) then (Mo.Rs.asked c) else false)
noncomputable def rAsked_tree (c : Mo.Rs) (K : S → List Ob → Prop) : Prop := (if ((stdQ QO.not (stdQ QO.and (stdQ QO.and (iE (Mo.Rs.cause c) 0) (stdQ QO.and (iE (Mo.Rs.count c) 0) (stdQ QO.and (iE (Mo.Rs.key c) 0) (iE (Mo.Rs.last c) 0)))) (stdQ QO.eq (Mo.Rs.asked c) false)) (stdQ QO.and (stdQ QO.and (iE (Mo.Rs.cause c) 0) (stdQ QO.and (iE (Mo.Rs.count c) 0) (stdQ QO.and (iE (Mo.Rs.key c) 0) (iE (Mo.Rs.last c) 0)))) (stdQ QO.eq (Mo.Rs.asked c) false))) = true) then K (.bv (Mo.Rs.asked c)) [(.cells 200 (Mo.Rs.cells c))] else K (.bv false) [(.cells 200 (Mo.Rs.cells c))])
theorem rAsked_run (c : Mo.Rs) (K : S → List Ob → Prop) : callX (std noW) tt ffLpA stopLpA (lpB noW Tryz.prog) noL 60 125 [.ptr 0 (.l 0)] [.cells 200 (Mo.Rs.cells c)] (gcK 1 (ivK true K)) = rAsked_tree c K := by kernel_rfl
noncomputable def rAsked_T (c : Mo.Rs) (K : S → List Ob → Prop) : Prop := True ∧ K (.bv (Mo.rAsked_v1 c)) [(.cells 200 (Mo.Rs.cells c))]
theorem rAsked_all (c : Mo.Rs) (K : S → List Ob → Prop) (h : rAsked_T c K) : rAsked_tree c K := by
  unfold rAsked_T at h; obtain ⟨h0, h⟩ := h; unfold rAsked_tree
  try simp only [Mo.rAsked_v1] at h0 h
  repeat' first | exact h | (refine ite_intro (fun c => ?_) fun c => ?_) <;> first | simp only [if_pos c] at h0 h | simp only [if_neg c] at h0 h | skip
theorem rAsked_sem (c : Mo.Rs) (K : S → List Ob → Prop) (h : rAsked_T c K) : CallSem noW Tryz.prog 125 [.ptr 0 (.l 0)] [.cells 200 (Mo.Rs.cells c)] K := iv_call (callX_ok tok (by kernel_rfl) ffLpAok stopLpA_ok _ _ _ _ (Eq.mpr (rAsked_run c K) (rAsked_all c K h)))
noncomputable def rAsked_con : Con := ⟨[.ptr 0], [.cellsV 200], [], fun a K => match a with | ⟨[], [], [], [cs_c], []⟩ => (match Mo.Rs.is cs_c with | true => rAsked_T (Mo.Rs.of cs_c) K | false => False) | _ => False⟩
theorem rAsked_ok : rAsked_con.ok noW Tryz.prog 125 := by
  intro a K h
  simp only [rAsked_con] at h
  split at h
  case h_2 => exact h.elim
  split at h
  case h_2 => exact h.elim
  rename_i is_c
  exact CallSem.objs (rAsked_sem _ K h) (fun _ _ _ h => h) ⟨WkO.cells (Mo.Rs.is_ok is_c), trivial⟩
noncomputable def Mo.rLoad_v1 (off : Int) (c : Mo.Rs) : Int := (if ((iN (rmw off 4) 0) = true) then 0 else (if ((iM 4 (srw off 2)) = true) then 0 else (if ((iE (cvi (srw off 2) 0) 0) = true) then (Mo.Rs.cause c) else (if ((iE (cvi (srw off 2) 0) 1) = true) then (Mo.Rs.count c) else (if ((iE (cvi (srw off 2) 0) 2) = true) then (Mo.Rs.key c) else (Mo.Rs.last c))))))
noncomputable def Mo.rLoad_v2 (off : Int) : Int := (if ((iN (rmw off 4) 0) = true) then 11 else (if ((iM 4 (srw off 2)) = true) then 10 else 0))
noncomputable def Mo.rLoad_pre (off : Int) : Prop := (if ((iN (rmw off 4) 0) = true) then True else (if ((iM 4 (srw off 2)) = true) then True else (if ((iM 0 (cvi (srw off 2) 0)) = true) then (if ((iL (cvi (srw off 2) 0) 4) = true) then True else False) else False)))
noncomputable def rLoad_tree (off : Int) (c : Mo.Rs) (K : S → List Ob → Prop) : Prop := (if ((iN (rmw off 4) 0) = true) then K (.tup [(.iv .u32 0), (.iv .i64 11)]) [(.cells 200 (Mo.Rs.cells c))] else (if ((iM 4 (srw off 2)) = true) then K (.tup [(.iv .u32 0), (.iv .i64 10)]) [(.cells 200 (Mo.Rs.cells c))] else (if ((iM 0 (cvi (srw off 2) 0)) = true) then (if ((iL (cvi (srw off 2) 0) 4) = true) then (if ((iE (cvi (srw off 2) 0) 0) = true) then K (.tup [(.iv .u32 (Mo.Rs.cause c)), (.iv .i64 0)]) [(.cells 200 (Mo.Rs.cells c))] else (if ((iE (cvi (srw off 2) 0) 1) = true) then K (.tup [(.iv .u32 (Mo.Rs.count c)), (.iv .i64 0)]) [(.cells 200 (Mo.Rs.cells c))] else (if ((iE (cvi (srw off 2) 0) 2) = true) then K (.tup [(.iv .u32 (Mo.Rs.key c)), (.iv .i64 0)]) [(.cells 200 (Mo.Rs.cells c))] else K (.tup [(.iv .u32 (Mo.Rs.last c)), (.iv .i64 0)]) [(.cells 200 (Mo.Rs.cells c))]))) else False) else False)))
theorem rLoad_run (off : Int) (c : Mo.Rs) (K : S → List Ob → Prop) : callX (std noW) tt ffLpA stopLpA (lpB noW Tryz.prog) noL 60 235 [.ptr 0 (.l 0), .iv .u32 off] [.cells 200 (Mo.Rs.cells c)] (gcK 1 (ivK true K)) = rLoad_tree off c K := by kernel_rfl
noncomputable def rLoad_T (off : Int) (c : Mo.Rs) (K : S → List Ob → Prop) : Prop := Mo.rLoad_pre off ∧ K (.tup [(.iv .u32 (Mo.rLoad_v1 off c)), (.iv .i64 (Mo.rLoad_v2 off))]) [(.cells 200 (Mo.Rs.cells c))]
theorem rLoad_all (off : Int) (c : Mo.Rs) (K : S → List Ob → Prop) (h : rLoad_T off c K) : rLoad_tree off c K := by
  unfold rLoad_T at h; obtain ⟨h0, h⟩ := h; unfold rLoad_tree
  try simp only [Mo.rLoad_v1] at h0 h
  try simp only [Mo.rLoad_v2] at h0 h
  try simp only [Mo.rLoad_pre] at h0 h
  repeat' first | exact h | (refine ite_intro (fun c => ?_) fun c => ?_) <;> first | simp only [if_pos c] at h0 h | simp only [if_neg c] at h0 h | skip
theorem rLoad_sem (off : Int) (c : Mo.Rs) (K : S → List Ob → Prop) (h : rLoad_T off c K) : CallSem noW Tryz.prog 235 [.ptr 0 (.l 0), .iv .u32 off] [.cells 200 (Mo.Rs.cells c)] K := iv_call (callX_ok tok (by kernel_rfl) ffLpAok stopLpA_ok _ _ _ _ (Eq.mpr (rLoad_run off c K) (rLoad_all off c K h)))
noncomputable def rLoad_con : Con := ⟨[.ptr 0, .int .u32], [.cellsV 200], [], fun a K => match a with | ⟨[off], [], [], [cs_c], []⟩ => (match Mo.Rs.is cs_c with | true => rLoad_T off (Mo.Rs.of cs_c) K | false => False) | _ => False⟩
theorem rLoad_ok : rLoad_con.ok noW Tryz.prog 235 := by
  intro a K h
  simp only [rLoad_con] at h
  split at h
  case h_2 => exact h.elim
  split at h
  case h_2 => exact h.elim
  rename_i is_c
  exact CallSem.objs (rLoad_sem _ _ K h) (fun _ _ _ h => h) ⟨WkO.cells (Mo.Rs.is_ok is_c), trivial⟩
noncomputable def Mo.rStore_v1 (off : Int) : Int := (if ((iN (rmw off 4) 0) = true) then 11 else (if ((iM 4 (srw off 2)) = true) then 10 else (if ((iE (cvi (srw off 2) 0) 0) = true) then 0 else (if ((iE (cvi (srw off 2) 0) 2) = true) then 0 else 12))))
noncomputable def Mo.rStore_v2 (off : Int) (v : Int) (c : Mo.Rs) : Mo.Rs := (if ((iN (rmw off 4) 0) = true) then c else (if ((iM 4 (srw off 2)) = true) then c else (if ((iE (cvi (srw off 2) 0) 0) = true) then { c with cause := (nnw (Mo.Rs.cause c) v) } else (if ((iE (cvi (srw off 2) 0) 2) = true) then (if ((Mo.Rs.asked c) = true) then { c with asked := true } else { c with asked := (iE v 45063) }) else c))))
noncomputable def rStore_tree (off : Int) (v : Int) (c : Mo.Rs) (K : S → List Ob → Prop) : Prop := (if ((iN (rmw off 4) 0) = true) then K (.iv .i64 11) [(.cells 200 (Mo.Rs.cells c))] else (if ((iM 4 (srw off 2)) = true) then K (.iv .i64 10) [(.cells 200 (Mo.Rs.cells c))] else (if ((iE (cvi (srw off 2) 0) 0) = true) then K (.iv .i64 0) [(.cells 200 (Mo.Rs.cells { c with cause := (nnw (Mo.Rs.cause c) v) }))] else (if ((iE (cvi (srw off 2) 0) 2) = true) then (if ((Mo.Rs.asked c) = true) then K (.iv .i64 0) [(.cells 200 (Mo.Rs.cells { c with asked := true }))] else K (.iv .i64 0) [(.cells 200 (Mo.Rs.cells { c with asked := (iE v 45063) }))]) else K (.iv .i64 12) [(.cells 200 (Mo.Rs.cells c))]))))
theorem rStore_run (off : Int) (v : Int) (c : Mo.Rs) (K : S → List Ob → Prop) : callX (std noW) tt ffLpA stopLpA (lpB noW Tryz.prog) noL 60 236 [.ptr 0 (.l 0), .iv .u32 off, .iv .u32 v] [.cells 200 (Mo.Rs.cells c)] (gcK 1 (ivK true K)) = rStore_tree off v c K := by kernel_rfl
noncomputable def rStore_T (off : Int) (v : Int) (c : Mo.Rs) (K : S → List Ob → Prop) : Prop := True ∧ K (.iv .i64 (Mo.rStore_v1 off)) [(.cells 200 (Mo.Rs.cells (Mo.rStore_v2 off v c)))]
theorem rStore_all (off : Int) (v : Int) (c : Mo.Rs) (K : S → List Ob → Prop) (h : rStore_T off v c K) : rStore_tree off v c K := by
  unfold rStore_T at h; obtain ⟨h0, h⟩ := h; unfold rStore_tree
  try simp only [Mo.rStore_v1] at h0 h
  try simp only [Mo.rStore_v2] at h0 h
  repeat' first | exact h | (refine ite_intro (fun c => ?_) fun c => ?_) <;> first | simp only [if_pos c] at h0 h | simp only [if_neg c] at h0 h | skip
theorem rStore_sem (off : Int) (v : Int) (c : Mo.Rs) (K : S → List Ob → Prop) (h : rStore_T off v c K) : CallSem noW Tryz.prog 236 [.ptr 0 (.l 0), .iv .u32 off, .iv .u32 v] [.cells 200 (Mo.Rs.cells c)] K := iv_call (callX_ok tok (by kernel_rfl) ffLpAok stopLpA_ok _ _ _ _ (Eq.mpr (rStore_run off v c K) (rStore_all off v c K h)))
noncomputable def rStore_con : Con := ⟨[.ptr 0, .int .u32, .int .u32], [.cellsV 200], [], fun a K => match a with | ⟨[off, v], [], [], [cs_c], []⟩ => (match Mo.Rs.is cs_c with | true => rStore_T off v (Mo.Rs.of cs_c) K | false => False) | _ => False⟩
theorem rStore_ok : rStore_con.ok noW Tryz.prog 236 := by
  intro a K h
  simp only [rStore_con] at h
  split at h
  case h_2 => exact h.elim
  split at h
  case h_2 => exact h.elim
  rename_i is_c
  exact CallSem.objs (rStore_sem _ _ _ K h) (fun _ _ _ h => h) ⟨WkO.cells (Mo.Rs.is_ok is_c), trivial⟩
noncomputable def lHigh_tree (c : Mo.Ln) (K : S → List Ob → Prop) : Prop := K (.iv .u32 (Mo.Ln.high c)) [(.cells 204 (Mo.Ln.cells c))]
theorem lHigh_run (c : Mo.Ln) (K : S → List Ob → Prop) : callX (std noW) tt ffLpA stopLpA (lpB noW Tryz.prog) noL 60 127 [.ptr 0 (.l 0)] [.cells 204 (Mo.Ln.cells c)] (gcK 1 (ivK false K)) = lHigh_tree c K := by kernel_rfl
noncomputable def lHigh_T (c : Mo.Ln) (K : S → List Ob → Prop) : Prop := True ∧ K (.iv .u32 (Mo.Ln.high c)) [(.cells 204 (Mo.Ln.cells c))]
theorem lHigh_all (c : Mo.Ln) (K : S → List Ob → Prop) (h : lHigh_T c K) : lHigh_tree c K := by
  unfold lHigh_T at h; obtain ⟨h0, h⟩ := h; unfold lHigh_tree
  repeat' first | exact h | (refine ite_intro (fun c => ?_) fun c => ?_) <;> first | simp only [if_pos c] at h0 h | simp only [if_neg c] at h0 h | skip
theorem lHigh_sem (c : Mo.Ln) (K : S → List Ob → Prop) (h : lHigh_T c K) : CallSem noW Tryz.prog 127 [.ptr 0 (.l 0)] [.cells 204 (Mo.Ln.cells c)] K := iv_call (callX_ok tok (by kernel_rfl) ffLpAok stopLpA_ok _ _ _ _ (Eq.mpr (lHigh_run c K) (lHigh_all c K h)))
noncomputable def lHigh_con : Con := ⟨[.ptr 0], [.cellsV 204], [], fun a K => match a with | ⟨[], [], [], [cs_c], []⟩ => (match Mo.Ln.is cs_c with | true => lHigh_T (Mo.Ln.of cs_c) K | false => False) | _ => False⟩
theorem lHigh_ok : lHigh_con.ok noW Tryz.prog 127 := by
  intro a K h
  simp only [lHigh_con] at h
  split at h
  case h_2 => exact h.elim
  split at h
  case h_2 => exact h.elim
  rename_i is_c
  exact CallSem.objs (lHigh_sem _ K h) (fun _ _ _ h => h) ⟨WkO.cells (Mo.Ln.is_ok is_c), trivial⟩
noncomputable def Mo.lAll_v1 (high : Int) (c : Mo.Ln) : Mo.Ln := { c with high := high }
noncomputable def lAll_tree (high : Int) (c : Mo.Ln) (K : S → List Ob → Prop) : Prop := K (.tup []) [(.cells 204 (Mo.Ln.cells { c with high := high }))]
theorem lAll_run (high : Int) (c : Mo.Ln) (K : S → List Ob → Prop) : callX (std noW) tt ffLpA stopLpA (lpB noW Tryz.prog) noL 60 145 [.ptr 0 (.l 0), .iv .u32 high] [.cells 204 (Mo.Ln.cells c)] (gcK 1 (ivK false K)) = lAll_tree high c K := by kernel_rfl
noncomputable def lAll_T (high : Int) (c : Mo.Ln) (K : S → List Ob → Prop) : Prop := True ∧ K (.tup []) [(.cells 204 (Mo.Ln.cells (Mo.lAll_v1 high c)))]
theorem lAll_all (high : Int) (c : Mo.Ln) (K : S → List Ob → Prop) (h : lAll_T high c K) : lAll_tree high c K := by
  unfold lAll_T at h; obtain ⟨h0, h⟩ := h; unfold lAll_tree
  try simp only [Mo.lAll_v1] at h0 h
  repeat' first | exact h | (refine ite_intro (fun c => ?_) fun c => ?_) <;> first | simp only [if_pos c] at h0 h | simp only [if_neg c] at h0 h | skip
theorem lAll_sem (high : Int) (c : Mo.Ln) (K : S → List Ob → Prop) (h : lAll_T high c K) : CallSem noW Tryz.prog 145 [.ptr 0 (.l 0), .iv .u32 high] [.cells 204 (Mo.Ln.cells c)] K := iv_call (callX_ok tok (by kernel_rfl) ffLpAok stopLpA_ok _ _ _ _ (Eq.mpr (lAll_run high c K) (lAll_all high c K h)))
noncomputable def lAll_con : Con := ⟨[.ptr 0, .int .u32], [.cellsV 204], [], fun a K => match a with | ⟨[high], [], [], [cs_c], []⟩ => (match Mo.Ln.is cs_c with | true => lAll_T high (Mo.Ln.of cs_c) K | false => False) | _ => False⟩
theorem lAll_ok : lAll_con.ok noW Tryz.prog 145 := by
  intro a K h
  simp only [lAll_con] at h
  split at h
  case h_2 => exact h.elim
  split at h
  case h_2 => exact h.elim
  rename_i is_c
  exact CallSem.objs (lAll_sem _ _ K h) (fun _ _ _ h => h) ⟨WkO.cells (Mo.Ln.is_ok is_c), trivial⟩
noncomputable def Mo.lLoad_v1 (off : Int) (c : Mo.Ln) : Int := (if ((iE off 0) = true) then (Mo.Ln.high c) else (if ((iE off 4) = true) then (Mo.Ln.mask c) else (if ((iE off 8) = true) then (anw (Mo.Ln.high c) (Mo.Ln.mask c)) else 0)))
noncomputable def Mo.lLoad_v2 (off : Int) : Int := (if ((iE off 0) = true) then 0 else (if ((iE off 4) = true) then 0 else (if ((iE off 8) = true) then 0 else (if ((iN (rmw off 4) 0) = true) then 11 else 10))))
noncomputable def lLoad_tree (off : Int) (c : Mo.Ln) (K : S → List Ob → Prop) : Prop := (((some (S.iv IntKind.u32 (Mo.Ln.mask c))) = (some (S.iv IntKind.u32 (Mo.Ln.mask c)))) ∧ (((some (S.iv IntKind.u32 (Mo.Ln.high c))) = (some (S.iv IntKind.u32 (Mo.Ln.high c)))) ∧ (if ((iE off 0) = true) then K (.tup [(.iv .u32 (Mo.Ln.high c)), (.iv .i64 0)]) [(.cells 204 (Mo.Ln.cells c))] else (if ((iE off 4) = true) then K (.tup [(.iv .u32 (Mo.Ln.mask c)), (.iv .i64 0)]) [(.cells 204 (Mo.Ln.cells c))] else (if ((iE off 8) = true) then K (.tup [(.iv .u32 (anw (Mo.Ln.high c) (Mo.Ln.mask c))), (.iv .i64 0)]) [(.cells 204 (Mo.Ln.cells c))] else (if ((iN (rmw off 4) 0) = true) then K (.tup [(.iv .u32 0), (.iv .i64 11)]) [(.cells 204 (Mo.Ln.cells c))] else K (.tup [(.iv .u32 0), (.iv .i64 10)]) [(.cells 204 (Mo.Ln.cells c))]))))))
theorem lLoad_run (off : Int) (c : Mo.Ln) (K : S → List Ob → Prop) : callX (std noW) tt ffLpA stopLpA (lpB noW Tryz.prog) noL 60 238 [.ptr 0 (.l 0), .iv .u32 off] [.cells 204 (Mo.Ln.cells c)] (gcK 1 (ivK true K)) = lLoad_tree off c K := by kernel_rfl
noncomputable def lLoad_T (off : Int) (c : Mo.Ln) (K : S → List Ob → Prop) : Prop := True ∧ K (.tup [(.iv .u32 (Mo.lLoad_v1 off c)), (.iv .i64 (Mo.lLoad_v2 off))]) [(.cells 204 (Mo.Ln.cells c))]
theorem lLoad_all (off : Int) (c : Mo.Ln) (K : S → List Ob → Prop) (h : lLoad_T off c K) : lLoad_tree off c K := by
  unfold lLoad_T at h; obtain ⟨h0, h⟩ := h; unfold lLoad_tree
  try simp only [Mo.lLoad_v1] at h0 h
  try simp only [Mo.lLoad_v2] at h0 h
  repeat' first | exact h | refine ⟨rfl, ?_⟩ | (refine ⟨h0.1, ?_⟩; replace h0 := h0.2) | refine ⟨h0, ?_⟩ | exact h0.elim | (refine ite_intro (fun c => ?_) fun c => ?_) <;> first | simp only [if_pos c] at h0 h | simp only [if_neg c] at h0 h | skip
theorem lLoad_sem (off : Int) (c : Mo.Ln) (K : S → List Ob → Prop) (h : lLoad_T off c K) : CallSem noW Tryz.prog 238 [.ptr 0 (.l 0), .iv .u32 off] [.cells 204 (Mo.Ln.cells c)] K := iv_call (callX_ok tok (by kernel_rfl) ffLpAok stopLpA_ok _ _ _ _ (Eq.mpr (lLoad_run off c K) (lLoad_all off c K h)))
noncomputable def lLoad_con : Con := ⟨[.ptr 0, .int .u32], [.cellsV 204], [], fun a K => match a with | ⟨[off], [], [], [cs_c], []⟩ => (match Mo.Ln.is cs_c with | true => lLoad_T off (Mo.Ln.of cs_c) K | false => False) | _ => False⟩
theorem lLoad_ok : lLoad_con.ok noW Tryz.prog 238 := by
  intro a K h
  simp only [lLoad_con] at h
  split at h
  case h_2 => exact h.elim
  split at h
  case h_2 => exact h.elim
  rename_i is_c
  exact CallSem.objs (lLoad_sem _ _ K h) (fun _ _ _ h => h) ⟨WkO.cells (Mo.Ln.is_ok is_c), trivial⟩
noncomputable def Mo.lStore_v1 (off : Int) : Int := (if ((iE off 0) = true) then 12 else (if ((iE off 4) = true) then 0 else (if ((iE off 8) = true) then 12 else (if ((iN (rmw off 4) 0) = true) then 11 else 10))))
noncomputable def Mo.lStore_v2 (off : Int) (v : Int) (c : Mo.Ln) : Mo.Ln := (if ((iE off 0) = true) then c else (if ((iE off 4) = true) then { c with mask := v } else c))
noncomputable def lStore_tree (off : Int) (v : Int) (c : Mo.Ln) (K : S → List Ob → Prop) : Prop := (((some (S.iv IntKind.u32 (Mo.Ln.mask c))) = (some (S.iv IntKind.u32 (Mo.Ln.mask c)))) ∧ (((some (S.iv IntKind.u32 (Mo.Ln.high c))) = (some (S.iv IntKind.u32 (Mo.Ln.high c)))) ∧ (if ((iE off 0) = true) then K (.iv .i64 12) [(.cells 204 (Mo.Ln.cells c))] else (if ((iE off 4) = true) then K (.iv .i64 0) [(.cells 204 (Mo.Ln.cells { c with mask := v }))] else (if ((iE off 8) = true) then K (.iv .i64 12) [(.cells 204 (Mo.Ln.cells c))] else (if ((iN (rmw off 4) 0) = true) then K (.iv .i64 11) [(.cells 204 (Mo.Ln.cells c))] else K (.iv .i64 10) [(.cells 204 (Mo.Ln.cells c))]))))))
theorem lStore_run (off : Int) (v : Int) (c : Mo.Ln) (K : S → List Ob → Prop) : callX (std noW) tt ffLpA stopLpA (lpB noW Tryz.prog) noL 60 240 [.ptr 0 (.l 0), .iv .u32 off, .iv .u32 v] [.cells 204 (Mo.Ln.cells c)] (gcK 1 (ivK true K)) = lStore_tree off v c K := by kernel_rfl
noncomputable def lStore_T (off : Int) (v : Int) (c : Mo.Ln) (K : S → List Ob → Prop) : Prop := True ∧ K (.iv .i64 (Mo.lStore_v1 off)) [(.cells 204 (Mo.Ln.cells (Mo.lStore_v2 off v c)))]
theorem lStore_all (off : Int) (v : Int) (c : Mo.Ln) (K : S → List Ob → Prop) (h : lStore_T off v c K) : lStore_tree off v c K := by
  unfold lStore_T at h; obtain ⟨h0, h⟩ := h; unfold lStore_tree
  try simp only [Mo.lStore_v1] at h0 h
  try simp only [Mo.lStore_v2] at h0 h
  repeat' first | exact h | refine ⟨rfl, ?_⟩ | (refine ⟨h0.1, ?_⟩; replace h0 := h0.2) | refine ⟨h0, ?_⟩ | exact h0.elim | (refine ite_intro (fun c => ?_) fun c => ?_) <;> first | simp only [if_pos c] at h0 h | simp only [if_neg c] at h0 h | skip
theorem lStore_sem (off : Int) (v : Int) (c : Mo.Ln) (K : S → List Ob → Prop) (h : lStore_T off v c K) : CallSem noW Tryz.prog 240 [.ptr 0 (.l 0), .iv .u32 off, .iv .u32 v] [.cells 204 (Mo.Ln.cells c)] K := iv_call (callX_ok tok (by kernel_rfl) ffLpAok stopLpA_ok _ _ _ _ (Eq.mpr (lStore_run off v c K) (lStore_all off v c K h)))
noncomputable def lStore_con : Con := ⟨[.ptr 0, .int .u32, .int .u32], [.cellsV 204], [], fun a K => match a with | ⟨[off, v], [], [], [cs_c], []⟩ => (match Mo.Ln.is cs_c with | true => lStore_T off v (Mo.Ln.of cs_c) K | false => False) | _ => False⟩
theorem lStore_ok : lStore_con.ok noW Tryz.prog 240 := by
  intro a K h
  simp only [lStore_con] at h
  split at h
  case h_2 => exact h.elim
  split at h
  case h_2 => exact h.elim
  rename_i is_c
  exact CallSem.objs (lStore_sem _ _ _ K h) (fun _ _ _ h => h) ⟨WkO.cells (Mo.Ln.is_ok is_c), trivial⟩
noncomputable def Mo.lReset_v1 (c : Mo.Ln) : Mo.Ln := { c with mask := 0 }
noncomputable def lReset_tree (c : Mo.Ln) (K : S → List Ob → Prop) : Prop := K (.tup []) [(.cells 204 (Mo.Ln.cells { c with mask := 0 }))]
theorem lReset_run (c : Mo.Ln) (K : S → List Ob → Prop) : callX (std noW) tt ffLpA stopLpA (lpB noW Tryz.prog) noL 60 239 [.ptr 0 (.l 0)] [.cells 204 (Mo.Ln.cells c)] (gcK 1 (ivK false K)) = lReset_tree c K := by kernel_rfl
noncomputable def lReset_T (c : Mo.Ln) (K : S → List Ob → Prop) : Prop := True ∧ K (.tup []) [(.cells 204 (Mo.Ln.cells (Mo.lReset_v1 c)))]
theorem lReset_all (c : Mo.Ln) (K : S → List Ob → Prop) (h : lReset_T c K) : lReset_tree c K := by
  unfold lReset_T at h; obtain ⟨h0, h⟩ := h; unfold lReset_tree
  try simp only [Mo.lReset_v1] at h0 h
  repeat' first | exact h | (refine ite_intro (fun c => ?_) fun c => ?_) <;> first | simp only [if_pos c] at h0 h | simp only [if_neg c] at h0 h | skip
theorem lReset_sem (c : Mo.Ln) (K : S → List Ob → Prop) (h : lReset_T c K) : CallSem noW Tryz.prog 239 [.ptr 0 (.l 0)] [.cells 204 (Mo.Ln.cells c)] K := iv_call (callX_ok tok (by kernel_rfl) ffLpAok stopLpA_ok _ _ _ _ (Eq.mpr (lReset_run c K) (lReset_all c K h)))
noncomputable def lReset_con : Con := ⟨[.ptr 0], [.cellsV 204], [], fun a K => match a with | ⟨[], [], [], [cs_c], []⟩ => (match Mo.Ln.is cs_c with | true => lReset_T (Mo.Ln.of cs_c) K | false => False) | _ => False⟩
theorem lReset_ok : lReset_con.ok noW Tryz.prog 239 := by
  intro a K h
  simp only [lReset_con] at h
  split at h
  case h_2 => exact h.elim
  split at h
  case h_2 => exact h.elim
  rename_i is_c
  exact CallSem.objs (lReset_sem _ K h) (fun _ _ _ h => h) ⟨WkO.cells (Mo.Ln.is_ok is_c), trivial⟩
noncomputable def Mo.kFind1_v1 (off : Int) : Int := (if ((iN (rmw off 4) 0) = true) then 0 else (if ((iE off 49144) = true) then 4 else (if ((iE off 49148) = true) then 5 else (if ((iE off 0) = true) then 1 else (if ((iE off 16384) = true) then 2 else (if ((iE off 16388) = true) then 3 else 0))))))
noncomputable def Mo.kFind1_v2 (off : Int) : Int := (if ((iN (rmw off 4) 0) = true) then 11 else (if ((iE off 49144) = true) then 0 else (if ((iE off 49148) = true) then 0 else (if ((iE off 0) = true) then 0 else (if ((iE off 16384) = true) then 0 else (if ((iE off 16388) = true) then 0 else 10))))))
noncomputable def kFind1_tree (off : Int) (c : Mo.Cl) (K : S → List Ob → Prop) : Prop := (if ((iN (rmw off 4) 0) = true) then K (.tup [(.agg [(.iv .i64 0), (.iv .i64 0)]), (.iv .i64 11)]) [(.cells 183 (Mo.Cl.cells c))] else (if ((iE off 49144) = true) then K (.tup [(.agg [(.iv .i64 4), (.iv .i64 0)]), (.iv .i64 0)]) [(.cells 183 (Mo.Cl.cells c))] else (if ((iE off 49148) = true) then K (.tup [(.agg [(.iv .i64 5), (.iv .i64 0)]), (.iv .i64 0)]) [(.cells 183 (Mo.Cl.cells c))] else (if ((iE off 0) = true) then K (.tup [(.agg [(.iv .i64 1), (.iv .i64 0)]), (.iv .i64 0)]) [(.cells 183 (Mo.Cl.cells c))] else (if ((iE off 16384) = true) then K (.tup [(.agg [(.iv .i64 2), (.iv .i64 0)]), (.iv .i64 0)]) [(.cells 183 (Mo.Cl.cells c))] else (if ((iE off 16388) = true) then K (.tup [(.agg [(.iv .i64 3), (.iv .i64 0)]), (.iv .i64 0)]) [(.cells 183 (Mo.Cl.cells c))] else K (.tup [(.agg [(.iv .i64 0), (.iv .i64 0)]), (.iv .i64 10)]) [(.cells 183 (Mo.Cl.cells c))]))))))
theorem kFind1_run (off : Int) (c : Mo.Cl) (K : S → List Ob → Prop) : callX (std noW) tt ffLpA stopLpA (lpB noW Tryz.prog) noL 40 216 [.ptr 0 (.l 0), .iv .u32 off] [.cells 183 (Mo.Cl.cells { c with n := 1 })] (gcK 1 (ivK true K)) = kFind1_tree off { c with n := 1 } K := by kernel_rfl
noncomputable def kFind1_T0 (off : Int) (c : Mo.Cl) (K : S → List Ob → Prop) : Prop := True ∧ K (.tup [(.agg [(.iv .i64 (Mo.kFind1_v1 off)), (.iv .i64 0)]), (.iv .i64 (Mo.kFind1_v2 off))]) [(.cells 183 (Mo.Cl.cells c))]
noncomputable def kFind1_T (off : Int) (c : Mo.Cl) (K : S → List Ob → Prop) : Prop := (Mo.Cl.n c = 1) ∧ kFind1_T0 off c K
theorem kFind1_all (off : Int) (c : Mo.Cl) (K : S → List Ob → Prop) (h : kFind1_T0 off c K) : kFind1_tree off c K := by
  unfold kFind1_T0 at h; obtain ⟨h0, h⟩ := h; unfold kFind1_tree
  try simp only [Mo.kFind1_v1] at h0 h
  try simp only [Mo.kFind1_v2] at h0 h
  repeat' first | exact h | (refine ite_intro (fun c => ?_) fun c => ?_) <;> first | simp only [if_pos c] at h0 h | simp only [if_neg c] at h0 h | skip
theorem kFind1_sem (off : Int) (c : Mo.Cl) (K : S → List Ob → Prop) (h : kFind1_T off c K) : CallSem noW Tryz.prog 216 [.ptr 0 (.l 0), .iv .u32 off] [.cells 183 (Mo.Cl.cells c)] K := by
  obtain ⟨hn, h⟩ := h
  have e : { c with n := 1 } = c := by
    cases c
    simp only at hn
    subst hn
    rfl
  have r := kFind1_run off c K
  rw [e] at r
  exact iv_call (callX_ok tok (by kernel_rfl) ffLpAok stopLpA_ok _ _ _ _ (Eq.mpr r (kFind1_all off c K h)))
def Mo.kIn (n off : Int) : Bool := decide (0 ≤ off ∧ off < 4 * n)
def Mo.kCm (n off : Int) : Bool := decide (16384 ≤ off ∧ off < 16384 + 8 * n)
def Mo.kWhat (n off : Int) : Int := if off % 4 ≠ 0 then 0 else if off = 49144 then 4 else if off = 49148 then 5 else if Mo.kIn n off = true then 1 else if Mo.kCm n off = true then (if off % 8 = 0 then 2 else 3) else 0
def Mo.kHart (n off : Int) : Int := if off % 4 ≠ 0 then 0 else if Mo.kIn n off = true then off / 4 else if Mo.kCm n off = true then (off - 16384) / 8 else 0
def Mo.kErr (n off : Int) : Int := if off % 4 ≠ 0 then 11 else if off = 49144 ∨ off = 49148 ∨ Mo.kIn n off = true ∨ Mo.kCm n off = true then 0 else 10
theorem rmw4 (off : Int) : (iN (rmw off 4) 0 = true) = (off % 4 ≠ 0) := by
  have h : (off.tmod 4 = 0) = (off % 4 = 0) := by rw [← Int.dvd_iff_tmod_eq_zero, Int.dvd_iff_emod_eq_zero]
  simp only [iN, rmw, stdB, stdA, bne_iff_ne, ne_eq, h]
theorem iE_eq (x y : Int) : (iE x y = true) = (x = y) := by simp [iE, stdB]
theorem kFind1_eq (off : Int) : Mo.kFind1_v1 off = Mo.kWhat 1 off ∧ 0 = Mo.kHart 1 off ∧ Mo.kFind1_v2 off = Mo.kErr 1 off := by
  by_cases h4 : off % 4 ≠ 0
  · have a0 : iN (rmw off 4) 0 = true := by rw [rmw4]; exact h4
    exact ⟨(if_pos a0).trans (if_pos h4).symm, (if_pos h4).symm, (if_pos a0).trans (if_pos h4).symm⟩
  · by_cases hm : off = 49144 ∨ off = 49148 ∨ (0 ≤ off ∧ off < 4) ∨ (16384 ≤ off ∧ off < 16392)
    · have : off = 49144 ∨ off = 49148 ∨ off = 0 ∨ off = 16384 ∨ off = 16388 := by omega
      rcases this with rfl | rfl | rfl | rfl | rfl <;> exact ⟨by kernel_rfl, by kernel_rfl, by kernel_rfl⟩
    · have a0 : (iN (rmw off 4) 0 = true) = False := by rw [rmw4]; exact eq_false h4
      have a1 : (iE off 49144 = true) = False := by rw [iE_eq]; exact eq_false (by omega)
      have a2 : (iE off 49148 = true) = False := by rw [iE_eq]; exact eq_false (by omega)
      have a3 : (iE off 0 = true) = False := by rw [iE_eq]; exact eq_false (by omega)
      have a4 : (iE off 16384 = true) = False := by rw [iE_eq]; exact eq_false (by omega)
      have a5 : (iE off 16388 = true) = False := by rw [iE_eq]; exact eq_false (by omega)
      have b1 : (off = 49144) = False := eq_false (by omega)
      have b2 : (off = 49148) = False := eq_false (by omega)
      have b3 : (Mo.kIn 1 off = true) = False := by simp only [Mo.kIn, decide_eq_true_eq]; exact eq_false (by omega)
      have b4 : (Mo.kCm 1 off = true) = False := by simp only [Mo.kCm, decide_eq_true_eq]; exact eq_false (by omega)
      simp only [Mo.kFind1_v1, Mo.kFind1_v2, Mo.kWhat, Mo.kHart, Mo.kErr, a0, a1, a2, a3, a4, a5, b1, b2, b3, b4, if_neg h4, if_false, or_false, and_self]
noncomputable def kFind_T (off : Int) (c : Mo.Cl) (K : S → List Ob → Prop) : Prop := (1 ≤ c.n ∧ c.n ≤ 1) ∧ K (.tup [(.agg [(.iv .i64 (Mo.kWhat c.n off)), (.iv .i64 (Mo.kHart c.n off))]), (.iv .i64 (Mo.kErr c.n off))]) [(.cells 183 (Mo.Cl.cells c))]
theorem kFind_sem (off : Int) (c : Mo.Cl) (K : S → List Ob → Prop) (h : kFind_T off c K) : CallSem noW Tryz.prog 216 [.ptr 0 (.l 0), .iv .u32 off] [(.cells 183 (Mo.Cl.cells c))] K := by
  obtain ⟨⟨h1, h2⟩, h⟩ := h
  have hn : c.n = 1 := by omega
  rcases hn with hn <;> rw [hn] at h
  · obtain ⟨e1, e2, e3⟩ := kFind1_eq off
    exact kFind1_sem off c K ⟨hn, trivial, (by rw [e1, e3, e2]; exact h : K (.tup [(.agg [(.iv .i64 (Mo.kFind1_v1 off)), (.iv .i64 (0))]), (.iv .i64 (Mo.kFind1_v2 off))]) [(.cells 183 (Mo.Cl.cells c))])⟩
noncomputable def kFind_con : Con := ⟨[.ptr 0, .int .u32], [.cellsV 183], [], fun a K => match a with | ⟨[off], [], [], [cs], []⟩ => (match Mo.Cl.is cs with | true => kFind_T off (Mo.Cl.of cs) K | false => False) | _ => False⟩
theorem kFind_ok : kFind_con.ok noW Tryz.prog 216 := by
  intro a K h
  simp only [kFind_con] at h
  split at h
  case h_2 => exact h.elim
  split at h
  case h_2 => exact h.elim
  rename_i is_c
  exact CallSem.objs (kFind_sem _ _ K h) (fun _ _ _ h => h) ⟨WkO.cells (Mo.Cl.is_ok is_c), trivial⟩
noncomputable def tabLpB (n : Nat) : List Con := match Nat.beq n 95 with | true => [bPut1_con, bPut88_con] | false => match Nat.beq n 147 with | true => [cRuns_con] | false => match Nat.beq n 168 with | true => [cLine_con] | false => match Nat.beq n 120 with | true => [cTick_con] | false => match Nat.beq n 222 with | true => [cLoad_con] | false => match Nat.beq n 224 with | true => [cStore_con] | false => match Nat.beq n 223 with | true => [cReset_con] | false => match Nat.beq n 107 with | true => [kTime_con] | false => match Nat.beq n 78 with | true => [kTick_con] | false => match Nat.beq n 137 with | true => [kLine_con] | false => match Nat.beq n 143 with | true => [kSoft_con] | false => match Nat.beq n 111 with | true => [kReset_con] | false => match Nat.beq n 81 with | true => [wFault_con] | false => match Nat.beq n 77 with | true => [wTick_con] | false => match Nat.beq n 227 with | true => [wLoad_con] | false => match Nat.beq n 229 with | true => [wStore_con] | false => match Nat.beq n 228 with | true => [wReset_con] | false => match Nat.beq n 144 with | true => [tLine_con] | false => match Nat.beq n 80 with | true => [tTick_con] | false => match Nat.beq n 207 with | true => [tLoad_con] | false => match Nat.beq n 209 with | true => [tStore_con] | false => match Nat.beq n 208 with | true => [tReset_con] | false => match Nat.beq n 153 with | true => [rLatch_con] | false => match Nat.beq n 125 with | true => [rAsked_con] | false => match Nat.beq n 235 with | true => [rLoad_con] | false => match Nat.beq n 236 with | true => [rStore_con] | false => match Nat.beq n 127 with | true => [lHigh_con] | false => match Nat.beq n 145 with | true => [lAll_con] | false => match Nat.beq n 238 with | true => [lLoad_con] | false => match Nat.beq n 240 with | true => [lStore_con] | false => match Nat.beq n 239 with | true => [lReset_con] | false => match Nat.beq n 216 with | true => [kFind_con] | false => tabLpA n
theorem tabLpB_ok : ∀ f, ∀ c ∈ tabLpB f, c.ok noW Tryz.prog f := by
  intro f c hc
  unfold tabLpB at hc
  split at hc
  · rename_i hf; have := Nat.eq_of_beq_eq_true hf; subst this
    simp only [List.mem_cons, List.not_mem_nil, or_false] at hc
    rcases hc with rfl | rfl
    · exact bPut1_ok
    · exact bPut88_ok
  split at hc
  · rename_i hf; have := Nat.eq_of_beq_eq_true hf; subst this
    simp only [List.mem_cons, List.not_mem_nil, or_false] at hc
    subst hc; exact cRuns_ok
  split at hc
  · rename_i hf; have := Nat.eq_of_beq_eq_true hf; subst this
    simp only [List.mem_cons, List.not_mem_nil, or_false] at hc
    subst hc; exact cLine_ok
  split at hc
  · rename_i hf; have := Nat.eq_of_beq_eq_true hf; subst this
    simp only [List.mem_cons, List.not_mem_nil, or_false] at hc
    subst hc; exact cTick_ok
  split at hc
  · rename_i hf; have := Nat.eq_of_beq_eq_true hf; subst this
    simp only [List.mem_cons, List.not_mem_nil, or_false] at hc
    subst hc; exact cLoad_ok
  split at hc
  · rename_i hf; have := Nat.eq_of_beq_eq_true hf; subst this
    simp only [List.mem_cons, List.not_mem_nil, or_false] at hc
    subst hc; exact cStore_ok
  split at hc
  · rename_i hf; have := Nat.eq_of_beq_eq_true hf; subst this
    simp only [List.mem_cons, List.not_mem_nil, or_false] at hc
    subst hc; exact cReset_ok
  split at hc
  · rename_i hf; have := Nat.eq_of_beq_eq_true hf; subst this
    simp only [List.mem_cons, List.not_mem_nil, or_false] at hc
    subst hc; exact kTime_ok
  split at hc
  · rename_i hf; have := Nat.eq_of_beq_eq_true hf; subst this
    simp only [List.mem_cons, List.not_mem_nil, or_false] at hc
    subst hc; exact kTick_ok
  split at hc
  · rename_i hf; have := Nat.eq_of_beq_eq_true hf; subst this
    simp only [List.mem_cons, List.not_mem_nil, or_false] at hc
    subst hc; exact kLine_ok
  split at hc
  · rename_i hf; have := Nat.eq_of_beq_eq_true hf; subst this
    simp only [List.mem_cons, List.not_mem_nil, or_false] at hc
    subst hc; exact kSoft_ok
  split at hc
  · rename_i hf; have := Nat.eq_of_beq_eq_true hf; subst this
    simp only [List.mem_cons, List.not_mem_nil, or_false] at hc
    subst hc; exact kReset_ok
  split at hc
  · rename_i hf; have := Nat.eq_of_beq_eq_true hf; subst this
    simp only [List.mem_cons, List.not_mem_nil, or_false] at hc
    subst hc; exact wFault_ok
  split at hc
  · rename_i hf; have := Nat.eq_of_beq_eq_true hf; subst this
    simp only [List.mem_cons, List.not_mem_nil, or_false] at hc
    subst hc; exact wTick_ok
  split at hc
  · rename_i hf; have := Nat.eq_of_beq_eq_true hf; subst this
    simp only [List.mem_cons, List.not_mem_nil, or_false] at hc
    subst hc; exact wLoad_ok
  split at hc
  · rename_i hf; have := Nat.eq_of_beq_eq_true hf; subst this
    simp only [List.mem_cons, List.not_mem_nil, or_false] at hc
    subst hc; exact wStore_ok
  split at hc
  · rename_i hf; have := Nat.eq_of_beq_eq_true hf; subst this
    simp only [List.mem_cons, List.not_mem_nil, or_false] at hc
    subst hc; exact wReset_ok
  split at hc
  · rename_i hf; have := Nat.eq_of_beq_eq_true hf; subst this
    simp only [List.mem_cons, List.not_mem_nil, or_false] at hc
    subst hc; exact tLine_ok
  split at hc
  · rename_i hf; have := Nat.eq_of_beq_eq_true hf; subst this
    simp only [List.mem_cons, List.not_mem_nil, or_false] at hc
    subst hc; exact tTick_ok
  split at hc
  · rename_i hf; have := Nat.eq_of_beq_eq_true hf; subst this
    simp only [List.mem_cons, List.not_mem_nil, or_false] at hc
    subst hc; exact tLoad_ok
  split at hc
  · rename_i hf; have := Nat.eq_of_beq_eq_true hf; subst this
    simp only [List.mem_cons, List.not_mem_nil, or_false] at hc
    subst hc; exact tStore_ok
  split at hc
  · rename_i hf; have := Nat.eq_of_beq_eq_true hf; subst this
    simp only [List.mem_cons, List.not_mem_nil, or_false] at hc
    subst hc; exact tReset_ok
  split at hc
  · rename_i hf; have := Nat.eq_of_beq_eq_true hf; subst this
    simp only [List.mem_cons, List.not_mem_nil, or_false] at hc
    subst hc; exact rLatch_ok
  split at hc
  · rename_i hf; have := Nat.eq_of_beq_eq_true hf; subst this
    simp only [List.mem_cons, List.not_mem_nil, or_false] at hc
    subst hc; exact rAsked_ok
  split at hc
  · rename_i hf; have := Nat.eq_of_beq_eq_true hf; subst this
    simp only [List.mem_cons, List.not_mem_nil, or_false] at hc
    subst hc; exact rLoad_ok
  split at hc
  · rename_i hf; have := Nat.eq_of_beq_eq_true hf; subst this
    simp only [List.mem_cons, List.not_mem_nil, or_false] at hc
    subst hc; exact rStore_ok
  split at hc
  · rename_i hf; have := Nat.eq_of_beq_eq_true hf; subst this
    simp only [List.mem_cons, List.not_mem_nil, or_false] at hc
    subst hc; exact lHigh_ok
  split at hc
  · rename_i hf; have := Nat.eq_of_beq_eq_true hf; subst this
    simp only [List.mem_cons, List.not_mem_nil, or_false] at hc
    subst hc; exact lAll_ok
  split at hc
  · rename_i hf; have := Nat.eq_of_beq_eq_true hf; subst this
    simp only [List.mem_cons, List.not_mem_nil, or_false] at hc
    subst hc; exact lLoad_ok
  split at hc
  · rename_i hf; have := Nat.eq_of_beq_eq_true hf; subst this
    simp only [List.mem_cons, List.not_mem_nil, or_false] at hc
    subst hc; exact lStore_ok
  split at hc
  · rename_i hf; have := Nat.eq_of_beq_eq_true hf; subst this
    simp only [List.mem_cons, List.not_mem_nil, or_false] at hc
    subst hc; exact lReset_ok
  split at hc
  · rename_i hf; have := Nat.eq_of_beq_eq_true hf; subst this
    simp only [List.mem_cons, List.not_mem_nil, or_false] at hc
    subst hc; exact kFind_ok
  exact tabLpA_ok f c hc
noncomputable def ffLpB (n : Nat) : Option FI := match Nat.beq n 95 with | true => none | false => match Nat.beq n 147 with | true => none | false => match Nat.beq n 168 with | true => none | false => match Nat.beq n 120 with | true => none | false => match Nat.beq n 222 with | true => none | false => match Nat.beq n 224 with | true => none | false => match Nat.beq n 223 with | true => none | false => match Nat.beq n 107 with | true => none | false => match Nat.beq n 78 with | true => none | false => match Nat.beq n 137 with | true => none | false => match Nat.beq n 143 with | true => none | false => match Nat.beq n 111 with | true => none | false => match Nat.beq n 81 with | true => none | false => match Nat.beq n 77 with | true => none | false => match Nat.beq n 227 with | true => none | false => match Nat.beq n 229 with | true => none | false => match Nat.beq n 228 with | true => none | false => match Nat.beq n 144 with | true => none | false => match Nat.beq n 80 with | true => none | false => match Nat.beq n 207 with | true => none | false => match Nat.beq n 209 with | true => none | false => match Nat.beq n 208 with | true => none | false => match Nat.beq n 153 with | true => none | false => match Nat.beq n 125 with | true => none | false => match Nat.beq n 235 with | true => none | false => match Nat.beq n 236 with | true => none | false => match Nat.beq n 127 with | true => none | false => match Nat.beq n 145 with | true => none | false => match Nat.beq n 238 with | true => none | false => match Nat.beq n 240 with | true => none | false => match Nat.beq n 239 with | true => none | false => match Nat.beq n 216 with | true => none | false => ffLpA n
theorem ffLpBok : FOk Tryz.prog ffLpB := fun f fi hf => by
  unfold ffLpB at hf
  split at hf
  · cases hf
  split at hf
  · cases hf
  split at hf
  · cases hf
  split at hf
  · cases hf
  split at hf
  · cases hf
  split at hf
  · cases hf
  split at hf
  · cases hf
  split at hf
  · cases hf
  split at hf
  · cases hf
  split at hf
  · cases hf
  split at hf
  · cases hf
  split at hf
  · cases hf
  split at hf
  · cases hf
  split at hf
  · cases hf
  split at hf
  · cases hf
  split at hf
  · cases hf
  split at hf
  · cases hf
  split at hf
  · cases hf
  split at hf
  · cases hf
  split at hf
  · cases hf
  split at hf
  · cases hf
  split at hf
  · cases hf
  split at hf
  · cases hf
  split at hf
  · cases hf
  split at hf
  · cases hf
  split at hf
  · cases hf
  split at hf
  · cases hf
  split at hf
  · cases hf
  split at hf
  · cases hf
  split at hf
  · cases hf
  split at hf
  · cases hf
  split at hf
  · cases hf
  exact ffLpAok f fi hf
noncomputable def stopLpB : CallT := stopC tabLpB stopB
theorem stopLpB_ok : ∀ f args h K, stopLpB f args h K → CallSem noW Tryz.prog f args h K := stopC_ok tabLpB_ok stopB_ok
end Go.SX.Y
