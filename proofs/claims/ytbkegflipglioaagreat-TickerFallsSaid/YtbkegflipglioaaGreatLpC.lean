/- What Go functions come to (lifted). -/
import Derived.Test.YtbkegflipglioaaGreatLpB
set_option maxRecDepth 20000
namespace Go.SX.Y
open Go.Proofs Go.RowKit
noncomputable def h_BK (n : Nat) (b : Mo.Bk) : List Ob := [.cells 188 [.tsl 1 (.v n) 1], .rowT 185 1 n [.ptr 2 (.l 0)], .opt (iL 0 (castI n)) 246 (Mo.Cnt.cells (Mo.Bk.c0 b))]
def t_BK : List OTm := [.cells 188 [.tsl 1 1], .rowT 185 1 [.ptr 2], .optV 246]
noncomputable def o_BK (n : Nat) : List (Option (Bool × TypeId)) := [none, none, some ((iL 0 (castI n)), 246)]
noncomputable def kLoad_s1 (off : Int) (c : Mo.Cl) (K : S → List Ob → Prop) : Prop := (if ((iE (Mo.kWhat (Mo.Cl.n c) off) 3) = true) then K (.tup [(.iv .u32 (cvw (srq (Mo.Cl.k0 c) 32) 0)), (.iv .i64 0)]) [(.cells 183 (Mo.Cl.cells c))] else (if ((iE (Mo.kWhat (Mo.Cl.n c) off) 4) = true) then K (.tup [(.iv .u32 (cvw (Mo.Cl.time c) 0)), (.iv .i64 0)]) [(.cells 183 (Mo.Cl.cells c))] else K (.tup [(.iv .u32 (cvw (srq (Mo.Cl.time c) 32) 0)), (.iv .i64 0)]) [(.cells 183 (Mo.Cl.cells c))]))
noncomputable def kLoad_s2 (off : Int) (c : Mo.Cl) (K : S → List Ob → Prop) : Prop := (if ((iE (Mo.kWhat (Mo.Cl.n c) off) 2) = true) then K (.tup [(.iv .u32 (cvw (Mo.Cl.k0 c) 0)), (.iv .i64 0)]) [(.cells 183 (Mo.Cl.cells c))] else (kLoad_s1 off c K))
noncomputable def kLoad_s3 (off : Int) (c : Mo.Cl) (K : S → List Ob → Prop) : Prop := (if ((iE (Mo.kWhat (Mo.Cl.n c) off) 1) = true) then K (.tup [(.iv .u32 (Mo.Cl.s0 c)), (.iv .i64 0)]) [(.cells 183 (Mo.Cl.cells c))] else (kLoad_s2 off c K))
noncomputable def kLoad_s4 (off : Int) (c : Mo.Cl) (K : S → List Ob → Prop) : Prop := (if ((iE (Mo.kWhat (Mo.Cl.n c) off) 0) = true) then K (.tup [(.iv .u32 0), (.iv .i64 0)]) [(.cells 183 (Mo.Cl.cells c))] else (kLoad_s3 off c K))
noncomputable def kLoad_s5 (off : Int) (c : Mo.Cl) (K : S → List Ob → Prop) : Prop := (if ((iL (Mo.kWhat (Mo.Cl.n c) off) 6) = true) then (kLoad_s4 off c K) else False)
noncomputable def kLoad_s6 (off : Int) (c : Mo.Cl) (K : S → List Ob → Prop) : Prop := (if ((iM 0 (Mo.kWhat (Mo.Cl.n c) off)) = true) then (kLoad_s5 off c K) else False)
noncomputable def kLoad_s7 (off : Int) (c : Mo.Cl) (K : S → List Ob → Prop) : Prop := (((some (S.iv IntKind.u32 (Mo.Cl.s0 c))) = (some (S.iv IntKind.u32 (Mo.Cl.s0 c)))) ∧ (kLoad_s6 off c K))
noncomputable def kLoad_s8 (off : Int) (c : Mo.Cl) (K : S → List Ob → Prop) : Prop := (((some (S.iv IntKind.u32 (Mo.Cl.s0 c))) = (some (S.iv IntKind.u32 (Mo.Cl.s0 c)))) ∧ (kLoad_s7 off c K))
noncomputable def kLoad_s9 (off : Int) (c : Mo.Cl) (K : S → List Ob → Prop) : Prop := (((some (S.iv IntKind.u64 (Mo.Cl.time c))) = (some (S.iv IntKind.u64 (Mo.Cl.time c)))) ∧ (kLoad_s8 off c K))
noncomputable def kLoad_s10 (off : Int) (c : Mo.Cl) (K : S → List Ob → Prop) : Prop := (((some (S.iv IntKind.u32 (Mo.Cl.s0 c))) = (some (S.iv IntKind.u32 (Mo.Cl.s0 c)))) ∧ (kLoad_s9 off c K))
noncomputable def kLoad_s11 (off : Int) (c : Mo.Cl) (K : S → List Ob → Prop) : Prop := (((some (S.iv IntKind.u64 (Mo.Cl.time c))) = (some (S.iv IntKind.u64 (Mo.Cl.time c)))) ∧ (kLoad_s10 off c K))
noncomputable def kLoad_s12 (off : Int) (c : Mo.Cl) (K : S → List Ob → Prop) : Prop := (((some (S.iv IntKind.u64 (Mo.Cl.time c))) = (some (S.iv IntKind.u64 (Mo.Cl.time c)))) ∧ (kLoad_s11 off c K))
noncomputable def kLoad_s13 (off : Int) (c : Mo.Cl) (K : S → List Ob → Prop) : Prop := (((some (S.iv IntKind.u32 (Mo.Cl.s0 c))) = (some (S.iv IntKind.u32 (Mo.Cl.s0 c)))) ∧ (kLoad_s12 off c K))
noncomputable def kLoad_s14 (off : Int) (c : Mo.Cl) (K : S → List Ob → Prop) : Prop := (((some (S.iv IntKind.u64 (Mo.Cl.k0 c))) = (some (S.iv IntKind.u64 (Mo.Cl.k0 c)))) ∧ (kLoad_s13 off c K))
noncomputable def kLoad_s15 (off : Int) (c : Mo.Cl) (K : S → List Ob → Prop) : Prop := (((some (S.iv IntKind.u64 (Mo.Cl.time c))) = (some (S.iv IntKind.u64 (Mo.Cl.time c)))) ∧ (kLoad_s14 off c K))
noncomputable def kLoad_s16 (off : Int) (c : Mo.Cl) (K : S → List Ob → Prop) : Prop := (((some (S.iv IntKind.u64 (Mo.Cl.time c))) = (some (S.iv IntKind.u64 (Mo.Cl.time c)))) ∧ (kLoad_s15 off c K))
noncomputable def kLoad_s17 (off : Int) (c : Mo.Cl) (K : S → List Ob → Prop) : Prop := (if ((iE (Mo.kWhat (Mo.Cl.n c) off) 3) = true) then K (.tup [(.iv .u32 (cvw (srq (Mo.Cl.k1 c) 32) 0)), (.iv .i64 0)]) [(.cells 183 (Mo.Cl.cells c))] else (if ((iE (Mo.kWhat (Mo.Cl.n c) off) 4) = true) then K (.tup [(.iv .u32 (cvw (Mo.Cl.time c) 0)), (.iv .i64 0)]) [(.cells 183 (Mo.Cl.cells c))] else K (.tup [(.iv .u32 (cvw (srq (Mo.Cl.time c) 32) 0)), (.iv .i64 0)]) [(.cells 183 (Mo.Cl.cells c))]))
noncomputable def kLoad_s18 (off : Int) (c : Mo.Cl) (K : S → List Ob → Prop) : Prop := (if ((iE (Mo.kWhat (Mo.Cl.n c) off) 2) = true) then K (.tup [(.iv .u32 (cvw (Mo.Cl.k1 c) 0)), (.iv .i64 0)]) [(.cells 183 (Mo.Cl.cells c))] else (kLoad_s17 off c K))
noncomputable def kLoad_s19 (off : Int) (c : Mo.Cl) (K : S → List Ob → Prop) : Prop := (if ((iE (Mo.kWhat (Mo.Cl.n c) off) 1) = true) then K (.tup [(.iv .u32 (Mo.Cl.s1 c)), (.iv .i64 0)]) [(.cells 183 (Mo.Cl.cells c))] else (kLoad_s18 off c K))
noncomputable def kLoad_s20 (off : Int) (c : Mo.Cl) (K : S → List Ob → Prop) : Prop := (if ((iE (Mo.kWhat (Mo.Cl.n c) off) 0) = true) then K (.tup [(.iv .u32 0), (.iv .i64 0)]) [(.cells 183 (Mo.Cl.cells c))] else (kLoad_s19 off c K))
noncomputable def kLoad_s21 (off : Int) (c : Mo.Cl) (K : S → List Ob → Prop) : Prop := (if ((iL (Mo.kWhat (Mo.Cl.n c) off) 6) = true) then (kLoad_s20 off c K) else False)
noncomputable def kLoad_s22 (off : Int) (c : Mo.Cl) (K : S → List Ob → Prop) : Prop := (if ((iM 0 (Mo.kWhat (Mo.Cl.n c) off)) = true) then (kLoad_s21 off c K) else False)
noncomputable def kLoad_s23 (off : Int) (c : Mo.Cl) (K : S → List Ob → Prop) : Prop := (((some (S.iv IntKind.u32 (Mo.Cl.s1 c))) = (some (S.iv IntKind.u32 (Mo.Cl.s1 c)))) ∧ (kLoad_s22 off c K))
noncomputable def kLoad_s24 (off : Int) (c : Mo.Cl) (K : S → List Ob → Prop) : Prop := (((some (S.iv IntKind.u32 (Mo.Cl.s1 c))) = (some (S.iv IntKind.u32 (Mo.Cl.s1 c)))) ∧ (kLoad_s23 off c K))
noncomputable def kLoad_s25 (off : Int) (c : Mo.Cl) (K : S → List Ob → Prop) : Prop := (((some (S.iv IntKind.u64 (Mo.Cl.time c))) = (some (S.iv IntKind.u64 (Mo.Cl.time c)))) ∧ (kLoad_s24 off c K))
noncomputable def kLoad_s26 (off : Int) (c : Mo.Cl) (K : S → List Ob → Prop) : Prop := (((some (S.iv IntKind.u32 (Mo.Cl.s1 c))) = (some (S.iv IntKind.u32 (Mo.Cl.s1 c)))) ∧ (kLoad_s25 off c K))
noncomputable def kLoad_s27 (off : Int) (c : Mo.Cl) (K : S → List Ob → Prop) : Prop := (((some (S.iv IntKind.u64 (Mo.Cl.time c))) = (some (S.iv IntKind.u64 (Mo.Cl.time c)))) ∧ (kLoad_s26 off c K))
noncomputable def kLoad_s28 (off : Int) (c : Mo.Cl) (K : S → List Ob → Prop) : Prop := (((some (S.iv IntKind.u64 (Mo.Cl.time c))) = (some (S.iv IntKind.u64 (Mo.Cl.time c)))) ∧ (kLoad_s27 off c K))
noncomputable def kLoad_s29 (off : Int) (c : Mo.Cl) (K : S → List Ob → Prop) : Prop := (((some (S.iv IntKind.u32 (Mo.Cl.s1 c))) = (some (S.iv IntKind.u32 (Mo.Cl.s1 c)))) ∧ (kLoad_s28 off c K))
noncomputable def kLoad_s30 (off : Int) (c : Mo.Cl) (K : S → List Ob → Prop) : Prop := (((some (S.iv IntKind.u64 (Mo.Cl.k1 c))) = (some (S.iv IntKind.u64 (Mo.Cl.k1 c)))) ∧ (kLoad_s29 off c K))
noncomputable def kLoad_s31 (off : Int) (c : Mo.Cl) (K : S → List Ob → Prop) : Prop := (((some (S.iv IntKind.u64 (Mo.Cl.time c))) = (some (S.iv IntKind.u64 (Mo.Cl.time c)))) ∧ (kLoad_s30 off c K))
noncomputable def kLoad_s32 (off : Int) (c : Mo.Cl) (K : S → List Ob → Prop) : Prop := (((some (S.iv IntKind.u64 (Mo.Cl.time c))) = (some (S.iv IntKind.u64 (Mo.Cl.time c)))) ∧ (kLoad_s31 off c K))
noncomputable def kLoad_s33 (off : Int) (c : Mo.Cl) (K : S → List Ob → Prop) : Prop := (if ((iE (Mo.kWhat (Mo.Cl.n c) off) 3) = true) then K (.tup [(.iv .u32 (cvw (srq (Mo.Cl.k2 c) 32) 0)), (.iv .i64 0)]) [(.cells 183 (Mo.Cl.cells c))] else (if ((iE (Mo.kWhat (Mo.Cl.n c) off) 4) = true) then K (.tup [(.iv .u32 (cvw (Mo.Cl.time c) 0)), (.iv .i64 0)]) [(.cells 183 (Mo.Cl.cells c))] else K (.tup [(.iv .u32 (cvw (srq (Mo.Cl.time c) 32) 0)), (.iv .i64 0)]) [(.cells 183 (Mo.Cl.cells c))]))
noncomputable def kLoad_s34 (off : Int) (c : Mo.Cl) (K : S → List Ob → Prop) : Prop := (if ((iE (Mo.kWhat (Mo.Cl.n c) off) 2) = true) then K (.tup [(.iv .u32 (cvw (Mo.Cl.k2 c) 0)), (.iv .i64 0)]) [(.cells 183 (Mo.Cl.cells c))] else (kLoad_s33 off c K))
noncomputable def kLoad_s35 (off : Int) (c : Mo.Cl) (K : S → List Ob → Prop) : Prop := (if ((iE (Mo.kWhat (Mo.Cl.n c) off) 1) = true) then K (.tup [(.iv .u32 (Mo.Cl.s2 c)), (.iv .i64 0)]) [(.cells 183 (Mo.Cl.cells c))] else (kLoad_s34 off c K))
noncomputable def kLoad_s36 (off : Int) (c : Mo.Cl) (K : S → List Ob → Prop) : Prop := (if ((iE (Mo.kWhat (Mo.Cl.n c) off) 0) = true) then K (.tup [(.iv .u32 0), (.iv .i64 0)]) [(.cells 183 (Mo.Cl.cells c))] else (kLoad_s35 off c K))
noncomputable def kLoad_s37 (off : Int) (c : Mo.Cl) (K : S → List Ob → Prop) : Prop := (if ((iL (Mo.kWhat (Mo.Cl.n c) off) 6) = true) then (kLoad_s36 off c K) else False)
noncomputable def kLoad_s38 (off : Int) (c : Mo.Cl) (K : S → List Ob → Prop) : Prop := (if ((iM 0 (Mo.kWhat (Mo.Cl.n c) off)) = true) then (kLoad_s37 off c K) else False)
noncomputable def kLoad_s39 (off : Int) (c : Mo.Cl) (K : S → List Ob → Prop) : Prop := (((some (S.iv IntKind.u32 (Mo.Cl.s2 c))) = (some (S.iv IntKind.u32 (Mo.Cl.s2 c)))) ∧ (kLoad_s38 off c K))
noncomputable def kLoad_s40 (off : Int) (c : Mo.Cl) (K : S → List Ob → Prop) : Prop := (((some (S.iv IntKind.u32 (Mo.Cl.s2 c))) = (some (S.iv IntKind.u32 (Mo.Cl.s2 c)))) ∧ (kLoad_s39 off c K))
noncomputable def kLoad_s41 (off : Int) (c : Mo.Cl) (K : S → List Ob → Prop) : Prop := (((some (S.iv IntKind.u64 (Mo.Cl.time c))) = (some (S.iv IntKind.u64 (Mo.Cl.time c)))) ∧ (kLoad_s40 off c K))
noncomputable def kLoad_s42 (off : Int) (c : Mo.Cl) (K : S → List Ob → Prop) : Prop := (((some (S.iv IntKind.u32 (Mo.Cl.s2 c))) = (some (S.iv IntKind.u32 (Mo.Cl.s2 c)))) ∧ (kLoad_s41 off c K))
noncomputable def kLoad_s43 (off : Int) (c : Mo.Cl) (K : S → List Ob → Prop) : Prop := (((some (S.iv IntKind.u64 (Mo.Cl.time c))) = (some (S.iv IntKind.u64 (Mo.Cl.time c)))) ∧ (kLoad_s42 off c K))
noncomputable def kLoad_s44 (off : Int) (c : Mo.Cl) (K : S → List Ob → Prop) : Prop := (((some (S.iv IntKind.u64 (Mo.Cl.time c))) = (some (S.iv IntKind.u64 (Mo.Cl.time c)))) ∧ (kLoad_s43 off c K))
noncomputable def kLoad_s45 (off : Int) (c : Mo.Cl) (K : S → List Ob → Prop) : Prop := (((some (S.iv IntKind.u32 (Mo.Cl.s2 c))) = (some (S.iv IntKind.u32 (Mo.Cl.s2 c)))) ∧ (kLoad_s44 off c K))
noncomputable def kLoad_s46 (off : Int) (c : Mo.Cl) (K : S → List Ob → Prop) : Prop := (((some (S.iv IntKind.u64 (Mo.Cl.k2 c))) = (some (S.iv IntKind.u64 (Mo.Cl.k2 c)))) ∧ (kLoad_s45 off c K))
noncomputable def kLoad_s47 (off : Int) (c : Mo.Cl) (K : S → List Ob → Prop) : Prop := (((some (S.iv IntKind.u64 (Mo.Cl.time c))) = (some (S.iv IntKind.u64 (Mo.Cl.time c)))) ∧ (kLoad_s46 off c K))
noncomputable def kLoad_s48 (off : Int) (c : Mo.Cl) (K : S → List Ob → Prop) : Prop := (((some (S.iv IntKind.u64 (Mo.Cl.time c))) = (some (S.iv IntKind.u64 (Mo.Cl.time c)))) ∧ (kLoad_s47 off c K))
noncomputable def kLoad_s49 (off : Int) (c : Mo.Cl) (K : S → List Ob → Prop) : Prop := (if ((iE (Mo.kWhat (Mo.Cl.n c) off) 3) = true) then K (.tup [(.iv .u32 (cvw (srq (Mo.Cl.k3 c) 32) 0)), (.iv .i64 0)]) [(.cells 183 (Mo.Cl.cells c))] else (if ((iE (Mo.kWhat (Mo.Cl.n c) off) 4) = true) then K (.tup [(.iv .u32 (cvw (Mo.Cl.time c) 0)), (.iv .i64 0)]) [(.cells 183 (Mo.Cl.cells c))] else K (.tup [(.iv .u32 (cvw (srq (Mo.Cl.time c) 32) 0)), (.iv .i64 0)]) [(.cells 183 (Mo.Cl.cells c))]))
noncomputable def kLoad_s50 (off : Int) (c : Mo.Cl) (K : S → List Ob → Prop) : Prop := (if ((iE (Mo.kWhat (Mo.Cl.n c) off) 2) = true) then K (.tup [(.iv .u32 (cvw (Mo.Cl.k3 c) 0)), (.iv .i64 0)]) [(.cells 183 (Mo.Cl.cells c))] else (kLoad_s49 off c K))
noncomputable def kLoad_s51 (off : Int) (c : Mo.Cl) (K : S → List Ob → Prop) : Prop := (if ((iE (Mo.kWhat (Mo.Cl.n c) off) 1) = true) then K (.tup [(.iv .u32 (Mo.Cl.s3 c)), (.iv .i64 0)]) [(.cells 183 (Mo.Cl.cells c))] else (kLoad_s50 off c K))
noncomputable def kLoad_s52 (off : Int) (c : Mo.Cl) (K : S → List Ob → Prop) : Prop := (if ((iE (Mo.kWhat (Mo.Cl.n c) off) 0) = true) then K (.tup [(.iv .u32 0), (.iv .i64 0)]) [(.cells 183 (Mo.Cl.cells c))] else (kLoad_s51 off c K))
noncomputable def kLoad_s53 (off : Int) (c : Mo.Cl) (K : S → List Ob → Prop) : Prop := (if ((iL (Mo.kWhat (Mo.Cl.n c) off) 6) = true) then (kLoad_s52 off c K) else False)
noncomputable def kLoad_s54 (off : Int) (c : Mo.Cl) (K : S → List Ob → Prop) : Prop := (if ((iM 0 (Mo.kWhat (Mo.Cl.n c) off)) = true) then (kLoad_s53 off c K) else False)
noncomputable def kLoad_s55 (off : Int) (c : Mo.Cl) (K : S → List Ob → Prop) : Prop := (((some (S.iv IntKind.u32 (Mo.Cl.s3 c))) = (some (S.iv IntKind.u32 (Mo.Cl.s3 c)))) ∧ (kLoad_s54 off c K))
noncomputable def kLoad_s56 (off : Int) (c : Mo.Cl) (K : S → List Ob → Prop) : Prop := (((some (S.iv IntKind.u32 (Mo.Cl.s3 c))) = (some (S.iv IntKind.u32 (Mo.Cl.s3 c)))) ∧ (kLoad_s55 off c K))
noncomputable def kLoad_s57 (off : Int) (c : Mo.Cl) (K : S → List Ob → Prop) : Prop := (((some (S.iv IntKind.u64 (Mo.Cl.time c))) = (some (S.iv IntKind.u64 (Mo.Cl.time c)))) ∧ (kLoad_s56 off c K))
noncomputable def kLoad_s58 (off : Int) (c : Mo.Cl) (K : S → List Ob → Prop) : Prop := (((some (S.iv IntKind.u32 (Mo.Cl.s3 c))) = (some (S.iv IntKind.u32 (Mo.Cl.s3 c)))) ∧ (kLoad_s57 off c K))
noncomputable def kLoad_s59 (off : Int) (c : Mo.Cl) (K : S → List Ob → Prop) : Prop := (((some (S.iv IntKind.u64 (Mo.Cl.time c))) = (some (S.iv IntKind.u64 (Mo.Cl.time c)))) ∧ (kLoad_s58 off c K))
noncomputable def kLoad_s60 (off : Int) (c : Mo.Cl) (K : S → List Ob → Prop) : Prop := (((some (S.iv IntKind.u64 (Mo.Cl.time c))) = (some (S.iv IntKind.u64 (Mo.Cl.time c)))) ∧ (kLoad_s59 off c K))
noncomputable def kLoad_s61 (off : Int) (c : Mo.Cl) (K : S → List Ob → Prop) : Prop := (((some (S.iv IntKind.u32 (Mo.Cl.s3 c))) = (some (S.iv IntKind.u32 (Mo.Cl.s3 c)))) ∧ (kLoad_s60 off c K))
noncomputable def kLoad_s62 (off : Int) (c : Mo.Cl) (K : S → List Ob → Prop) : Prop := (((some (S.iv IntKind.u64 (Mo.Cl.k3 c))) = (some (S.iv IntKind.u64 (Mo.Cl.k3 c)))) ∧ (kLoad_s61 off c K))
noncomputable def kLoad_s63 (off : Int) (c : Mo.Cl) (K : S → List Ob → Prop) : Prop := (((some (S.iv IntKind.u64 (Mo.Cl.time c))) = (some (S.iv IntKind.u64 (Mo.Cl.time c)))) ∧ (kLoad_s62 off c K))
noncomputable def kLoad_s64 (off : Int) (c : Mo.Cl) (K : S → List Ob → Prop) : Prop := (((some (S.iv IntKind.u64 (Mo.Cl.time c))) = (some (S.iv IntKind.u64 (Mo.Cl.time c)))) ∧ (kLoad_s63 off c K))
noncomputable def kLoad_s65 (off : Int) (c : Mo.Cl) (K : S → List Ob → Prop) : Prop := (if ((iE (Mo.kWhat (Mo.Cl.n c) off) 3) = true) then K (.tup [(.iv .u32 (cvw (srq (Mo.Cl.k4 c) 32) 0)), (.iv .i64 0)]) [(.cells 183 (Mo.Cl.cells c))] else (if ((iE (Mo.kWhat (Mo.Cl.n c) off) 4) = true) then K (.tup [(.iv .u32 (cvw (Mo.Cl.time c) 0)), (.iv .i64 0)]) [(.cells 183 (Mo.Cl.cells c))] else K (.tup [(.iv .u32 (cvw (srq (Mo.Cl.time c) 32) 0)), (.iv .i64 0)]) [(.cells 183 (Mo.Cl.cells c))]))
noncomputable def kLoad_s66 (off : Int) (c : Mo.Cl) (K : S → List Ob → Prop) : Prop := (if ((iE (Mo.kWhat (Mo.Cl.n c) off) 2) = true) then K (.tup [(.iv .u32 (cvw (Mo.Cl.k4 c) 0)), (.iv .i64 0)]) [(.cells 183 (Mo.Cl.cells c))] else (kLoad_s65 off c K))
noncomputable def kLoad_s67 (off : Int) (c : Mo.Cl) (K : S → List Ob → Prop) : Prop := (if ((iE (Mo.kWhat (Mo.Cl.n c) off) 1) = true) then K (.tup [(.iv .u32 (Mo.Cl.s4 c)), (.iv .i64 0)]) [(.cells 183 (Mo.Cl.cells c))] else (kLoad_s66 off c K))
noncomputable def kLoad_s68 (off : Int) (c : Mo.Cl) (K : S → List Ob → Prop) : Prop := (if ((iE (Mo.kWhat (Mo.Cl.n c) off) 0) = true) then K (.tup [(.iv .u32 0), (.iv .i64 0)]) [(.cells 183 (Mo.Cl.cells c))] else (kLoad_s67 off c K))
noncomputable def kLoad_s69 (off : Int) (c : Mo.Cl) (K : S → List Ob → Prop) : Prop := (if ((iL (Mo.kWhat (Mo.Cl.n c) off) 6) = true) then (kLoad_s68 off c K) else False)
noncomputable def kLoad_s70 (off : Int) (c : Mo.Cl) (K : S → List Ob → Prop) : Prop := (if ((iM 0 (Mo.kWhat (Mo.Cl.n c) off)) = true) then (kLoad_s69 off c K) else False)
noncomputable def kLoad_s71 (off : Int) (c : Mo.Cl) (K : S → List Ob → Prop) : Prop := (((some (S.iv IntKind.u32 (Mo.Cl.s4 c))) = (some (S.iv IntKind.u32 (Mo.Cl.s4 c)))) ∧ (kLoad_s70 off c K))
noncomputable def kLoad_s72 (off : Int) (c : Mo.Cl) (K : S → List Ob → Prop) : Prop := (((some (S.iv IntKind.u32 (Mo.Cl.s4 c))) = (some (S.iv IntKind.u32 (Mo.Cl.s4 c)))) ∧ (kLoad_s71 off c K))
noncomputable def kLoad_s73 (off : Int) (c : Mo.Cl) (K : S → List Ob → Prop) : Prop := (((some (S.iv IntKind.u64 (Mo.Cl.time c))) = (some (S.iv IntKind.u64 (Mo.Cl.time c)))) ∧ (kLoad_s72 off c K))
noncomputable def kLoad_s74 (off : Int) (c : Mo.Cl) (K : S → List Ob → Prop) : Prop := (((some (S.iv IntKind.u32 (Mo.Cl.s4 c))) = (some (S.iv IntKind.u32 (Mo.Cl.s4 c)))) ∧ (kLoad_s73 off c K))
noncomputable def kLoad_s75 (off : Int) (c : Mo.Cl) (K : S → List Ob → Prop) : Prop := (((some (S.iv IntKind.u64 (Mo.Cl.time c))) = (some (S.iv IntKind.u64 (Mo.Cl.time c)))) ∧ (kLoad_s74 off c K))
noncomputable def kLoad_s76 (off : Int) (c : Mo.Cl) (K : S → List Ob → Prop) : Prop := (((some (S.iv IntKind.u64 (Mo.Cl.time c))) = (some (S.iv IntKind.u64 (Mo.Cl.time c)))) ∧ (kLoad_s75 off c K))
noncomputable def kLoad_s77 (off : Int) (c : Mo.Cl) (K : S → List Ob → Prop) : Prop := (((some (S.iv IntKind.u32 (Mo.Cl.s4 c))) = (some (S.iv IntKind.u32 (Mo.Cl.s4 c)))) ∧ (kLoad_s76 off c K))
noncomputable def kLoad_s78 (off : Int) (c : Mo.Cl) (K : S → List Ob → Prop) : Prop := (((some (S.iv IntKind.u64 (Mo.Cl.k4 c))) = (some (S.iv IntKind.u64 (Mo.Cl.k4 c)))) ∧ (kLoad_s77 off c K))
noncomputable def kLoad_s79 (off : Int) (c : Mo.Cl) (K : S → List Ob → Prop) : Prop := (((some (S.iv IntKind.u64 (Mo.Cl.time c))) = (some (S.iv IntKind.u64 (Mo.Cl.time c)))) ∧ (kLoad_s78 off c K))
noncomputable def kLoad_s80 (off : Int) (c : Mo.Cl) (K : S → List Ob → Prop) : Prop := (((some (S.iv IntKind.u64 (Mo.Cl.time c))) = (some (S.iv IntKind.u64 (Mo.Cl.time c)))) ∧ (kLoad_s79 off c K))
noncomputable def kLoad_s81 (off : Int) (c : Mo.Cl) (K : S → List Ob → Prop) : Prop := (if ((iE (Mo.kWhat (Mo.Cl.n c) off) 3) = true) then K (.tup [(.iv .u32 (cvw (srq (Mo.Cl.k5 c) 32) 0)), (.iv .i64 0)]) [(.cells 183 (Mo.Cl.cells c))] else (if ((iE (Mo.kWhat (Mo.Cl.n c) off) 4) = true) then K (.tup [(.iv .u32 (cvw (Mo.Cl.time c) 0)), (.iv .i64 0)]) [(.cells 183 (Mo.Cl.cells c))] else K (.tup [(.iv .u32 (cvw (srq (Mo.Cl.time c) 32) 0)), (.iv .i64 0)]) [(.cells 183 (Mo.Cl.cells c))]))
noncomputable def kLoad_s82 (off : Int) (c : Mo.Cl) (K : S → List Ob → Prop) : Prop := (if ((iE (Mo.kWhat (Mo.Cl.n c) off) 2) = true) then K (.tup [(.iv .u32 (cvw (Mo.Cl.k5 c) 0)), (.iv .i64 0)]) [(.cells 183 (Mo.Cl.cells c))] else (kLoad_s81 off c K))
noncomputable def kLoad_s83 (off : Int) (c : Mo.Cl) (K : S → List Ob → Prop) : Prop := (if ((iE (Mo.kWhat (Mo.Cl.n c) off) 1) = true) then K (.tup [(.iv .u32 (Mo.Cl.s5 c)), (.iv .i64 0)]) [(.cells 183 (Mo.Cl.cells c))] else (kLoad_s82 off c K))
noncomputable def kLoad_s84 (off : Int) (c : Mo.Cl) (K : S → List Ob → Prop) : Prop := (if ((iE (Mo.kWhat (Mo.Cl.n c) off) 0) = true) then K (.tup [(.iv .u32 0), (.iv .i64 0)]) [(.cells 183 (Mo.Cl.cells c))] else (kLoad_s83 off c K))
noncomputable def kLoad_s85 (off : Int) (c : Mo.Cl) (K : S → List Ob → Prop) : Prop := (if ((iL (Mo.kWhat (Mo.Cl.n c) off) 6) = true) then (kLoad_s84 off c K) else False)
noncomputable def kLoad_s86 (off : Int) (c : Mo.Cl) (K : S → List Ob → Prop) : Prop := (if ((iM 0 (Mo.kWhat (Mo.Cl.n c) off)) = true) then (kLoad_s85 off c K) else False)
noncomputable def kLoad_s87 (off : Int) (c : Mo.Cl) (K : S → List Ob → Prop) : Prop := (((some (S.iv IntKind.u32 (Mo.Cl.s5 c))) = (some (S.iv IntKind.u32 (Mo.Cl.s5 c)))) ∧ (kLoad_s86 off c K))
noncomputable def kLoad_s88 (off : Int) (c : Mo.Cl) (K : S → List Ob → Prop) : Prop := (((some (S.iv IntKind.u32 (Mo.Cl.s5 c))) = (some (S.iv IntKind.u32 (Mo.Cl.s5 c)))) ∧ (kLoad_s87 off c K))
noncomputable def kLoad_s89 (off : Int) (c : Mo.Cl) (K : S → List Ob → Prop) : Prop := (((some (S.iv IntKind.u64 (Mo.Cl.time c))) = (some (S.iv IntKind.u64 (Mo.Cl.time c)))) ∧ (kLoad_s88 off c K))
noncomputable def kLoad_s90 (off : Int) (c : Mo.Cl) (K : S → List Ob → Prop) : Prop := (((some (S.iv IntKind.u32 (Mo.Cl.s5 c))) = (some (S.iv IntKind.u32 (Mo.Cl.s5 c)))) ∧ (kLoad_s89 off c K))
noncomputable def kLoad_s91 (off : Int) (c : Mo.Cl) (K : S → List Ob → Prop) : Prop := (((some (S.iv IntKind.u64 (Mo.Cl.time c))) = (some (S.iv IntKind.u64 (Mo.Cl.time c)))) ∧ (kLoad_s90 off c K))
noncomputable def kLoad_s92 (off : Int) (c : Mo.Cl) (K : S → List Ob → Prop) : Prop := (((some (S.iv IntKind.u64 (Mo.Cl.time c))) = (some (S.iv IntKind.u64 (Mo.Cl.time c)))) ∧ (kLoad_s91 off c K))
noncomputable def kLoad_s93 (off : Int) (c : Mo.Cl) (K : S → List Ob → Prop) : Prop := (((some (S.iv IntKind.u32 (Mo.Cl.s5 c))) = (some (S.iv IntKind.u32 (Mo.Cl.s5 c)))) ∧ (kLoad_s92 off c K))
noncomputable def kLoad_s94 (off : Int) (c : Mo.Cl) (K : S → List Ob → Prop) : Prop := (((some (S.iv IntKind.u64 (Mo.Cl.k5 c))) = (some (S.iv IntKind.u64 (Mo.Cl.k5 c)))) ∧ (kLoad_s93 off c K))
noncomputable def kLoad_s95 (off : Int) (c : Mo.Cl) (K : S → List Ob → Prop) : Prop := (((some (S.iv IntKind.u64 (Mo.Cl.time c))) = (some (S.iv IntKind.u64 (Mo.Cl.time c)))) ∧ (kLoad_s94 off c K))
noncomputable def kLoad_s96 (off : Int) (c : Mo.Cl) (K : S → List Ob → Prop) : Prop := (((some (S.iv IntKind.u64 (Mo.Cl.time c))) = (some (S.iv IntKind.u64 (Mo.Cl.time c)))) ∧ (kLoad_s95 off c K))
noncomputable def kLoad_s97 (off : Int) (c : Mo.Cl) (K : S → List Ob → Prop) : Prop := (if ((iE (Mo.kWhat (Mo.Cl.n c) off) 3) = true) then K (.tup [(.iv .u32 (cvw (srq (Mo.Cl.k6 c) 32) 0)), (.iv .i64 0)]) [(.cells 183 (Mo.Cl.cells c))] else (if ((iE (Mo.kWhat (Mo.Cl.n c) off) 4) = true) then K (.tup [(.iv .u32 (cvw (Mo.Cl.time c) 0)), (.iv .i64 0)]) [(.cells 183 (Mo.Cl.cells c))] else K (.tup [(.iv .u32 (cvw (srq (Mo.Cl.time c) 32) 0)), (.iv .i64 0)]) [(.cells 183 (Mo.Cl.cells c))]))
noncomputable def kLoad_s98 (off : Int) (c : Mo.Cl) (K : S → List Ob → Prop) : Prop := (if ((iE (Mo.kWhat (Mo.Cl.n c) off) 2) = true) then K (.tup [(.iv .u32 (cvw (Mo.Cl.k6 c) 0)), (.iv .i64 0)]) [(.cells 183 (Mo.Cl.cells c))] else (kLoad_s97 off c K))
noncomputable def kLoad_s99 (off : Int) (c : Mo.Cl) (K : S → List Ob → Prop) : Prop := (if ((iE (Mo.kWhat (Mo.Cl.n c) off) 1) = true) then K (.tup [(.iv .u32 (Mo.Cl.s6 c)), (.iv .i64 0)]) [(.cells 183 (Mo.Cl.cells c))] else (kLoad_s98 off c K))
noncomputable def kLoad_s100 (off : Int) (c : Mo.Cl) (K : S → List Ob → Prop) : Prop := (if ((iE (Mo.kWhat (Mo.Cl.n c) off) 0) = true) then K (.tup [(.iv .u32 0), (.iv .i64 0)]) [(.cells 183 (Mo.Cl.cells c))] else (kLoad_s99 off c K))
noncomputable def kLoad_s101 (off : Int) (c : Mo.Cl) (K : S → List Ob → Prop) : Prop := (if ((iL (Mo.kWhat (Mo.Cl.n c) off) 6) = true) then (kLoad_s100 off c K) else False)
noncomputable def kLoad_s102 (off : Int) (c : Mo.Cl) (K : S → List Ob → Prop) : Prop := (if ((iM 0 (Mo.kWhat (Mo.Cl.n c) off)) = true) then (kLoad_s101 off c K) else False)
noncomputable def kLoad_s103 (off : Int) (c : Mo.Cl) (K : S → List Ob → Prop) : Prop := (((some (S.iv IntKind.u32 (Mo.Cl.s6 c))) = (some (S.iv IntKind.u32 (Mo.Cl.s6 c)))) ∧ (kLoad_s102 off c K))
noncomputable def kLoad_s104 (off : Int) (c : Mo.Cl) (K : S → List Ob → Prop) : Prop := (((some (S.iv IntKind.u32 (Mo.Cl.s6 c))) = (some (S.iv IntKind.u32 (Mo.Cl.s6 c)))) ∧ (kLoad_s103 off c K))
noncomputable def kLoad_s105 (off : Int) (c : Mo.Cl) (K : S → List Ob → Prop) : Prop := (((some (S.iv IntKind.u64 (Mo.Cl.time c))) = (some (S.iv IntKind.u64 (Mo.Cl.time c)))) ∧ (kLoad_s104 off c K))
noncomputable def kLoad_s106 (off : Int) (c : Mo.Cl) (K : S → List Ob → Prop) : Prop := (((some (S.iv IntKind.u32 (Mo.Cl.s6 c))) = (some (S.iv IntKind.u32 (Mo.Cl.s6 c)))) ∧ (kLoad_s105 off c K))
noncomputable def kLoad_s107 (off : Int) (c : Mo.Cl) (K : S → List Ob → Prop) : Prop := (((some (S.iv IntKind.u64 (Mo.Cl.time c))) = (some (S.iv IntKind.u64 (Mo.Cl.time c)))) ∧ (kLoad_s106 off c K))
noncomputable def kLoad_s108 (off : Int) (c : Mo.Cl) (K : S → List Ob → Prop) : Prop := (((some (S.iv IntKind.u64 (Mo.Cl.time c))) = (some (S.iv IntKind.u64 (Mo.Cl.time c)))) ∧ (kLoad_s107 off c K))
noncomputable def kLoad_s109 (off : Int) (c : Mo.Cl) (K : S → List Ob → Prop) : Prop := (((some (S.iv IntKind.u32 (Mo.Cl.s6 c))) = (some (S.iv IntKind.u32 (Mo.Cl.s6 c)))) ∧ (kLoad_s108 off c K))
noncomputable def kLoad_s110 (off : Int) (c : Mo.Cl) (K : S → List Ob → Prop) : Prop := (((some (S.iv IntKind.u64 (Mo.Cl.k6 c))) = (some (S.iv IntKind.u64 (Mo.Cl.k6 c)))) ∧ (kLoad_s109 off c K))
noncomputable def kLoad_s111 (off : Int) (c : Mo.Cl) (K : S → List Ob → Prop) : Prop := (((some (S.iv IntKind.u64 (Mo.Cl.time c))) = (some (S.iv IntKind.u64 (Mo.Cl.time c)))) ∧ (kLoad_s110 off c K))
noncomputable def kLoad_s112 (off : Int) (c : Mo.Cl) (K : S → List Ob → Prop) : Prop := (((some (S.iv IntKind.u64 (Mo.Cl.time c))) = (some (S.iv IntKind.u64 (Mo.Cl.time c)))) ∧ (kLoad_s111 off c K))
noncomputable def kLoad_s113 (off : Int) (c : Mo.Cl) (K : S → List Ob → Prop) : Prop := (if ((iE (Mo.kWhat (Mo.Cl.n c) off) 3) = true) then K (.tup [(.iv .u32 (cvw (srq (Mo.Cl.k7 c) 32) 0)), (.iv .i64 0)]) [(.cells 183 (Mo.Cl.cells c))] else (if ((iE (Mo.kWhat (Mo.Cl.n c) off) 4) = true) then K (.tup [(.iv .u32 (cvw (Mo.Cl.time c) 0)), (.iv .i64 0)]) [(.cells 183 (Mo.Cl.cells c))] else K (.tup [(.iv .u32 (cvw (srq (Mo.Cl.time c) 32) 0)), (.iv .i64 0)]) [(.cells 183 (Mo.Cl.cells c))]))
noncomputable def kLoad_s114 (off : Int) (c : Mo.Cl) (K : S → List Ob → Prop) : Prop := (if ((iE (Mo.kWhat (Mo.Cl.n c) off) 2) = true) then K (.tup [(.iv .u32 (cvw (Mo.Cl.k7 c) 0)), (.iv .i64 0)]) [(.cells 183 (Mo.Cl.cells c))] else (kLoad_s113 off c K))
noncomputable def kLoad_s115 (off : Int) (c : Mo.Cl) (K : S → List Ob → Prop) : Prop := (if ((iE (Mo.kWhat (Mo.Cl.n c) off) 1) = true) then K (.tup [(.iv .u32 (Mo.Cl.s7 c)), (.iv .i64 0)]) [(.cells 183 (Mo.Cl.cells c))] else (kLoad_s114 off c K))
noncomputable def kLoad_s116 (off : Int) (c : Mo.Cl) (K : S → List Ob → Prop) : Prop := (if ((iE (Mo.kWhat (Mo.Cl.n c) off) 0) = true) then K (.tup [(.iv .u32 0), (.iv .i64 0)]) [(.cells 183 (Mo.Cl.cells c))] else (kLoad_s115 off c K))
noncomputable def kLoad_s117 (off : Int) (c : Mo.Cl) (K : S → List Ob → Prop) : Prop := (if ((iL (Mo.kWhat (Mo.Cl.n c) off) 6) = true) then (kLoad_s116 off c K) else False)
noncomputable def kLoad_s118 (off : Int) (c : Mo.Cl) (K : S → List Ob → Prop) : Prop := (if ((iM 0 (Mo.kWhat (Mo.Cl.n c) off)) = true) then (kLoad_s117 off c K) else False)
noncomputable def kLoad_s119 (off : Int) (c : Mo.Cl) (K : S → List Ob → Prop) : Prop := (((some (S.iv IntKind.u32 (Mo.Cl.s7 c))) = (some (S.iv IntKind.u32 (Mo.Cl.s7 c)))) ∧ (kLoad_s118 off c K))
noncomputable def kLoad_s120 (off : Int) (c : Mo.Cl) (K : S → List Ob → Prop) : Prop := (((some (S.iv IntKind.u32 (Mo.Cl.s7 c))) = (some (S.iv IntKind.u32 (Mo.Cl.s7 c)))) ∧ (kLoad_s119 off c K))
noncomputable def kLoad_s121 (off : Int) (c : Mo.Cl) (K : S → List Ob → Prop) : Prop := (((some (S.iv IntKind.u64 (Mo.Cl.time c))) = (some (S.iv IntKind.u64 (Mo.Cl.time c)))) ∧ (kLoad_s120 off c K))
noncomputable def kLoad_s122 (off : Int) (c : Mo.Cl) (K : S → List Ob → Prop) : Prop := (((some (S.iv IntKind.u32 (Mo.Cl.s7 c))) = (some (S.iv IntKind.u32 (Mo.Cl.s7 c)))) ∧ (kLoad_s121 off c K))
noncomputable def kLoad_s123 (off : Int) (c : Mo.Cl) (K : S → List Ob → Prop) : Prop := (((some (S.iv IntKind.u64 (Mo.Cl.time c))) = (some (S.iv IntKind.u64 (Mo.Cl.time c)))) ∧ (kLoad_s122 off c K))
noncomputable def kLoad_s124 (off : Int) (c : Mo.Cl) (K : S → List Ob → Prop) : Prop := (((some (S.iv IntKind.u64 (Mo.Cl.time c))) = (some (S.iv IntKind.u64 (Mo.Cl.time c)))) ∧ (kLoad_s123 off c K))
noncomputable def kLoad_s125 (off : Int) (c : Mo.Cl) (K : S → List Ob → Prop) : Prop := (((some (S.iv IntKind.u32 (Mo.Cl.s7 c))) = (some (S.iv IntKind.u32 (Mo.Cl.s7 c)))) ∧ (kLoad_s124 off c K))
noncomputable def kLoad_s126 (off : Int) (c : Mo.Cl) (K : S → List Ob → Prop) : Prop := (((some (S.iv IntKind.u64 (Mo.Cl.k7 c))) = (some (S.iv IntKind.u64 (Mo.Cl.k7 c)))) ∧ (kLoad_s125 off c K))
noncomputable def kLoad_s127 (off : Int) (c : Mo.Cl) (K : S → List Ob → Prop) : Prop := (((some (S.iv IntKind.u64 (Mo.Cl.time c))) = (some (S.iv IntKind.u64 (Mo.Cl.time c)))) ∧ (kLoad_s126 off c K))
noncomputable def kLoad_s128 (off : Int) (c : Mo.Cl) (K : S → List Ob → Prop) : Prop := (((some (S.iv IntKind.u64 (Mo.Cl.time c))) = (some (S.iv IntKind.u64 (Mo.Cl.time c)))) ∧ (kLoad_s127 off c K))
noncomputable def Mo.kLoad_v1 (off : Int) (c : Mo.Cl) : Int := (if ((iN (Mo.kErr (Mo.Cl.n c) off) 0) = true) then 0 else (if ((iE (Mo.kHart (Mo.Cl.n c) off) 0) = true) then (if ((iE (Mo.kWhat (Mo.Cl.n c) off) 0) = true) then 0 else (if ((iE (Mo.kWhat (Mo.Cl.n c) off) 1) = true) then (Mo.Cl.s0 c) else (if ((iE (Mo.kWhat (Mo.Cl.n c) off) 2) = true) then (cvw (Mo.Cl.k0 c) 0) else (if ((iE (Mo.kWhat (Mo.Cl.n c) off) 3) = true) then (cvw (srq (Mo.Cl.k0 c) 32) 0) else (if ((iE (Mo.kWhat (Mo.Cl.n c) off) 4) = true) then (cvw (Mo.Cl.time c) 0) else (cvw (srq (Mo.Cl.time c) 32) 0)))))) else (if ((iE (Mo.kHart (Mo.Cl.n c) off) 1) = true) then (if ((iE (Mo.kWhat (Mo.Cl.n c) off) 0) = true) then 0 else (if ((iE (Mo.kWhat (Mo.Cl.n c) off) 1) = true) then (Mo.Cl.s1 c) else (if ((iE (Mo.kWhat (Mo.Cl.n c) off) 2) = true) then (cvw (Mo.Cl.k1 c) 0) else (if ((iE (Mo.kWhat (Mo.Cl.n c) off) 3) = true) then (cvw (srq (Mo.Cl.k1 c) 32) 0) else (if ((iE (Mo.kWhat (Mo.Cl.n c) off) 4) = true) then (cvw (Mo.Cl.time c) 0) else (cvw (srq (Mo.Cl.time c) 32) 0)))))) else (if ((iE (Mo.kHart (Mo.Cl.n c) off) 2) = true) then (if ((iE (Mo.kWhat (Mo.Cl.n c) off) 0) = true) then 0 else (if ((iE (Mo.kWhat (Mo.Cl.n c) off) 1) = true) then (Mo.Cl.s2 c) else (if ((iE (Mo.kWhat (Mo.Cl.n c) off) 2) = true) then (cvw (Mo.Cl.k2 c) 0) else (if ((iE (Mo.kWhat (Mo.Cl.n c) off) 3) = true) then (cvw (srq (Mo.Cl.k2 c) 32) 0) else (if ((iE (Mo.kWhat (Mo.Cl.n c) off) 4) = true) then (cvw (Mo.Cl.time c) 0) else (cvw (srq (Mo.Cl.time c) 32) 0)))))) else (if ((iE (Mo.kHart (Mo.Cl.n c) off) 3) = true) then (if ((iE (Mo.kWhat (Mo.Cl.n c) off) 0) = true) then 0 else (if ((iE (Mo.kWhat (Mo.Cl.n c) off) 1) = true) then (Mo.Cl.s3 c) else (if ((iE (Mo.kWhat (Mo.Cl.n c) off) 2) = true) then (cvw (Mo.Cl.k3 c) 0) else (if ((iE (Mo.kWhat (Mo.Cl.n c) off) 3) = true) then (cvw (srq (Mo.Cl.k3 c) 32) 0) else (if ((iE (Mo.kWhat (Mo.Cl.n c) off) 4) = true) then (cvw (Mo.Cl.time c) 0) else (cvw (srq (Mo.Cl.time c) 32) 0)))))) else (if ((iE (Mo.kHart (Mo.Cl.n c) off) 4) = true) then (if ((iE (Mo.kWhat (Mo.Cl.n c) off) 0) = true) then 0 else (if ((iE (Mo.kWhat (Mo.Cl.n c) off) 1) = true) then (Mo.Cl.s4 c) else (if ((iE (Mo.kWhat (Mo.Cl.n c) off) 2) = true) then (cvw (Mo.Cl.k4 c) 0) else (if ((iE (Mo.kWhat (Mo.Cl.n c) off) 3) = true) then (cvw (srq (Mo.Cl.k4 c) 32) 0) else (if ((iE (Mo.kWhat (Mo.Cl.n c) off) 4) = true) then (cvw (Mo.Cl.time c) 0) else (cvw (srq (Mo.Cl.time c) 32) 0)))))) else (if ((iE (Mo.kHart (Mo.Cl.n c) off) 5) = true) then (if ((iE (Mo.kWhat (Mo.Cl.n c) off) 0) = true) then 0 else (if ((iE (Mo.kWhat (Mo.Cl.n c) off) 1) = true) then (Mo.Cl.s5 c) else (if ((iE (Mo.kWhat (Mo.Cl.n c) off) 2) = true) then (cvw (Mo.Cl.k5 c) 0) else (if ((iE (Mo.kWhat (Mo.Cl.n c) off) 3) = true) then (cvw (srq (Mo.Cl.k5 c) 32) 0) else (if ((iE (Mo.kWhat (Mo.Cl.n c) off) 4) = true) then (cvw (Mo.Cl.time c) 0) else (cvw (srq (Mo.Cl.time c) 32) 0)))))) else (if ((iE (Mo.kHart (Mo.Cl.n c) off) 6) = true) then (if ((iE (Mo.kWhat (Mo.Cl.n c) off) 0) = true) then 0 else (if ((iE (Mo.kWhat (Mo.Cl.n c) off) 1) = true) then (Mo.Cl.s6 c) else (if ((iE (Mo.kWhat (Mo.Cl.n c) off) 2) = true) then (cvw (Mo.Cl.k6 c) 0) else (if ((iE (Mo.kWhat (Mo.Cl.n c) off) 3) = true) then (cvw (srq (Mo.Cl.k6 c) 32) 0) else (if ((iE (Mo.kWhat (Mo.Cl.n c) off) 4) = true) then (cvw (Mo.Cl.time c) 0) else (cvw (srq (Mo.Cl.time c) 32) 0)))))) else (if ((iE (Mo.kWhat (Mo.Cl.n c) off) 0) = true) then 0 else (if ((iE (Mo.kWhat (Mo.Cl.n c) off) 1) = true) then (Mo.Cl.s7 c) else (if ((iE (Mo.kWhat (Mo.Cl.n c) off) 2) = true) then (cvw (Mo.Cl.k7 c) 0) else (if ((iE (Mo.kWhat (Mo.Cl.n c) off) 3) = true) then (cvw (srq (Mo.Cl.k7 c) 32) 0) else (if ((iE (Mo.kWhat (Mo.Cl.n c) off) 4) = true) then (cvw (Mo.Cl.time c) 0) else (cvw (srq (Mo.Cl.time c) 32) 0))))))))))))))
noncomputable def Mo.kLoad_v2 (off : Int) (c : Mo.Cl) : Int := (if ((iN (Mo.kErr (Mo.Cl.n c) off) 0) = true) then (Mo.kErr (Mo.Cl.n c) off) else 0)
noncomputable def Mo.kLoad_pre (off : Int) (c : Mo.Cl) : Prop := ((((1 : Int) ≤ (Mo.Cl.n c)) ∧ (((Mo.Cl.n c) : Int) ≤ 1)) ∧ (if ((iN (Mo.kErr (Mo.Cl.n c) off) 0) = true) then True else (if ((iM 0 (Mo.kHart (Mo.Cl.n c) off)) = true) then (if ((iL (Mo.kHart (Mo.Cl.n c) off) 8) = true) then (if ((iM 0 (Mo.kWhat (Mo.Cl.n c) off)) = true) then (if ((iL (Mo.kWhat (Mo.Cl.n c) off) 6) = true) then True else False) else False) else False) else False)))
noncomputable def kLoad_tree (off : Int) (c : Mo.Cl) (K : S → List Ob → Prop) : Prop := ((((1 : Int) ≤ (Mo.Cl.n c)) ∧ (((Mo.Cl.n c) : Int) ≤ 1)) ∧ (if ((iN (Mo.kErr (Mo.Cl.n c) off) 0) = true) then K (.tup [(.iv .u32 0), (.iv .i64 (Mo.kErr (Mo.Cl.n c) off))]) [(.cells 183 (Mo.Cl.cells c))] else (if ((iM 0 (Mo.kHart (Mo.Cl.n c) off)) = true) then (if ((iL (Mo.kHart (Mo.Cl.n c) off) 8) = true) then (if ((iE (Mo.kHart (Mo.Cl.n c) off) 0) = true) then (((some (S.agg ((S.iv IntKind.u64 (Mo.Cl.k0 c)) :: ((S.iv IntKind.u32 (Mo.Cl.s0 c)) :: List.nil)))) = (some (S.agg ((S.iv IntKind.u64 (Mo.Cl.k0 c)) :: ((S.iv IntKind.u32 (Mo.Cl.s0 c)) :: List.nil))))) ∧ (((some (S.iv IntKind.i64 (Mo.kHart (Mo.Cl.n c) off))) = (some (S.iv IntKind.i64 (Mo.kHart (Mo.Cl.n c) off)))) ∧ ((((some (S.iv IntKind.u64 (Mo.Cl.time c))) = (some (S.iv IntKind.u64 (Mo.Cl.time c)))) ∧ (((some (S.iv IntKind.u64 (Mo.Cl.time c))) = (some (S.iv IntKind.u64 (Mo.Cl.time c)))) ∧ (((some (S.iv IntKind.u64 (Mo.Cl.k0 c))) = (some (S.iv IntKind.u64 (Mo.Cl.k0 c)))) ∧ (((some (S.iv IntKind.u32 (Mo.Cl.s0 c))) = (some (S.iv IntKind.u32 (Mo.Cl.s0 c)))) ∧ ((((some (S.iv IntKind.u64 (Mo.Cl.time c))) = (some (S.iv IntKind.u64 (Mo.Cl.time c)))) ∧ (((some (S.iv IntKind.u64 (Mo.Cl.time c))) = (some (S.iv IntKind.u64 (Mo.Cl.time c)))) ∧ (((some (S.iv IntKind.u32 (Mo.Cl.s0 c))) = (some (S.iv IntKind.u32 (Mo.Cl.s0 c)))) ∧ ((((some (S.iv IntKind.u64 (Mo.Cl.time c))) = (some (S.iv IntKind.u64 (Mo.Cl.time c)))) ∧ (((some (S.iv IntKind.u32 (Mo.Cl.s0 c))) = (some (S.iv IntKind.u32 (Mo.Cl.s0 c)))) ∧ ((kLoad_s8 off c K) ∧ (kLoad_s9 off c K)))) ∧ (kLoad_s12 off c K))))) ∧ (kLoad_s16 off c K)))))) ∧ (((some (S.iv IntKind.u64 (Mo.Cl.time c))) = (some (S.iv IntKind.u64 (Mo.Cl.time c)))) ∧ (((some (S.iv IntKind.u64 (Mo.Cl.time c))) = (some (S.iv IntKind.u64 (Mo.Cl.time c)))) ∧ (((some (S.iv IntKind.u64 (Mo.Cl.k0 c))) = (some (S.iv IntKind.u64 (Mo.Cl.k0 c)))) ∧ (((some (S.iv IntKind.u64 (Mo.Cl.k0 c))) = (some (S.iv IntKind.u64 (Mo.Cl.k0 c)))) ∧ (((some (S.iv IntKind.u32 (Mo.Cl.s0 c))) = (some (S.iv IntKind.u32 (Mo.Cl.s0 c)))) ∧ (kLoad_s16 off c K))))))))) else (if ((iE (Mo.kHart (Mo.Cl.n c) off) 1) = true) then (((some (S.agg ((S.iv IntKind.u64 (Mo.Cl.k1 c)) :: ((S.iv IntKind.u32 (Mo.Cl.s1 c)) :: List.nil)))) = (some (S.agg ((S.iv IntKind.u64 (Mo.Cl.k1 c)) :: ((S.iv IntKind.u32 (Mo.Cl.s1 c)) :: List.nil))))) ∧ (((some (S.iv IntKind.i64 (Mo.kHart (Mo.Cl.n c) off))) = (some (S.iv IntKind.i64 (Mo.kHart (Mo.Cl.n c) off)))) ∧ ((((some (S.iv IntKind.u64 (Mo.Cl.time c))) = (some (S.iv IntKind.u64 (Mo.Cl.time c)))) ∧ (((some (S.iv IntKind.u64 (Mo.Cl.time c))) = (some (S.iv IntKind.u64 (Mo.Cl.time c)))) ∧ (((some (S.iv IntKind.u64 (Mo.Cl.k1 c))) = (some (S.iv IntKind.u64 (Mo.Cl.k1 c)))) ∧ (((some (S.iv IntKind.u32 (Mo.Cl.s1 c))) = (some (S.iv IntKind.u32 (Mo.Cl.s1 c)))) ∧ ((((some (S.iv IntKind.u64 (Mo.Cl.time c))) = (some (S.iv IntKind.u64 (Mo.Cl.time c)))) ∧ (((some (S.iv IntKind.u64 (Mo.Cl.time c))) = (some (S.iv IntKind.u64 (Mo.Cl.time c)))) ∧ (((some (S.iv IntKind.u32 (Mo.Cl.s1 c))) = (some (S.iv IntKind.u32 (Mo.Cl.s1 c)))) ∧ ((((some (S.iv IntKind.u64 (Mo.Cl.time c))) = (some (S.iv IntKind.u64 (Mo.Cl.time c)))) ∧ (((some (S.iv IntKind.u32 (Mo.Cl.s1 c))) = (some (S.iv IntKind.u32 (Mo.Cl.s1 c)))) ∧ ((kLoad_s24 off c K) ∧ (kLoad_s25 off c K)))) ∧ (kLoad_s28 off c K))))) ∧ (kLoad_s32 off c K)))))) ∧ (((some (S.iv IntKind.u64 (Mo.Cl.time c))) = (some (S.iv IntKind.u64 (Mo.Cl.time c)))) ∧ (((some (S.iv IntKind.u64 (Mo.Cl.time c))) = (some (S.iv IntKind.u64 (Mo.Cl.time c)))) ∧ (((some (S.iv IntKind.u64 (Mo.Cl.k1 c))) = (some (S.iv IntKind.u64 (Mo.Cl.k1 c)))) ∧ (((some (S.iv IntKind.u64 (Mo.Cl.k1 c))) = (some (S.iv IntKind.u64 (Mo.Cl.k1 c)))) ∧ (((some (S.iv IntKind.u32 (Mo.Cl.s1 c))) = (some (S.iv IntKind.u32 (Mo.Cl.s1 c)))) ∧ (kLoad_s32 off c K))))))))) else (if ((iE (Mo.kHart (Mo.Cl.n c) off) 2) = true) then (((some (S.agg ((S.iv IntKind.u64 (Mo.Cl.k2 c)) :: ((S.iv IntKind.u32 (Mo.Cl.s2 c)) :: List.nil)))) = (some (S.agg ((S.iv IntKind.u64 (Mo.Cl.k2 c)) :: ((S.iv IntKind.u32 (Mo.Cl.s2 c)) :: List.nil))))) ∧ (((some (S.iv IntKind.i64 (Mo.kHart (Mo.Cl.n c) off))) = (some (S.iv IntKind.i64 (Mo.kHart (Mo.Cl.n c) off)))) ∧ ((((some (S.iv IntKind.u64 (Mo.Cl.time c))) = (some (S.iv IntKind.u64 (Mo.Cl.time c)))) ∧ (((some (S.iv IntKind.u64 (Mo.Cl.time c))) = (some (S.iv IntKind.u64 (Mo.Cl.time c)))) ∧ (((some (S.iv IntKind.u64 (Mo.Cl.k2 c))) = (some (S.iv IntKind.u64 (Mo.Cl.k2 c)))) ∧ (((some (S.iv IntKind.u32 (Mo.Cl.s2 c))) = (some (S.iv IntKind.u32 (Mo.Cl.s2 c)))) ∧ ((((some (S.iv IntKind.u64 (Mo.Cl.time c))) = (some (S.iv IntKind.u64 (Mo.Cl.time c)))) ∧ (((some (S.iv IntKind.u64 (Mo.Cl.time c))) = (some (S.iv IntKind.u64 (Mo.Cl.time c)))) ∧ (((some (S.iv IntKind.u32 (Mo.Cl.s2 c))) = (some (S.iv IntKind.u32 (Mo.Cl.s2 c)))) ∧ ((((some (S.iv IntKind.u64 (Mo.Cl.time c))) = (some (S.iv IntKind.u64 (Mo.Cl.time c)))) ∧ (((some (S.iv IntKind.u32 (Mo.Cl.s2 c))) = (some (S.iv IntKind.u32 (Mo.Cl.s2 c)))) ∧ ((kLoad_s40 off c K) ∧ (kLoad_s41 off c K)))) ∧ (kLoad_s44 off c K))))) ∧ (kLoad_s48 off c K)))))) ∧ (((some (S.iv IntKind.u64 (Mo.Cl.time c))) = (some (S.iv IntKind.u64 (Mo.Cl.time c)))) ∧ (((some (S.iv IntKind.u64 (Mo.Cl.time c))) = (some (S.iv IntKind.u64 (Mo.Cl.time c)))) ∧ (((some (S.iv IntKind.u64 (Mo.Cl.k2 c))) = (some (S.iv IntKind.u64 (Mo.Cl.k2 c)))) ∧ (((some (S.iv IntKind.u64 (Mo.Cl.k2 c))) = (some (S.iv IntKind.u64 (Mo.Cl.k2 c)))) ∧ (((some (S.iv IntKind.u32 (Mo.Cl.s2 c))) = (some (S.iv IntKind.u32 (Mo.Cl.s2 c)))) ∧ (kLoad_s48 off c K))))))))) else (if ((iE (Mo.kHart (Mo.Cl.n c) off) 3) = true) then (((some (S.agg ((S.iv IntKind.u64 (Mo.Cl.k3 c)) :: ((S.iv IntKind.u32 (Mo.Cl.s3 c)) :: List.nil)))) = (some (S.agg ((S.iv IntKind.u64 (Mo.Cl.k3 c)) :: ((S.iv IntKind.u32 (Mo.Cl.s3 c)) :: List.nil))))) ∧ (((some (S.iv IntKind.i64 (Mo.kHart (Mo.Cl.n c) off))) = (some (S.iv IntKind.i64 (Mo.kHart (Mo.Cl.n c) off)))) ∧ ((((some (S.iv IntKind.u64 (Mo.Cl.time c))) = (some (S.iv IntKind.u64 (Mo.Cl.time c)))) ∧ (((some (S.iv IntKind.u64 (Mo.Cl.time c))) = (some (S.iv IntKind.u64 (Mo.Cl.time c)))) ∧ (((some (S.iv IntKind.u64 (Mo.Cl.k3 c))) = (some (S.iv IntKind.u64 (Mo.Cl.k3 c)))) ∧ (((some (S.iv IntKind.u32 (Mo.Cl.s3 c))) = (some (S.iv IntKind.u32 (Mo.Cl.s3 c)))) ∧ ((((some (S.iv IntKind.u64 (Mo.Cl.time c))) = (some (S.iv IntKind.u64 (Mo.Cl.time c)))) ∧ (((some (S.iv IntKind.u64 (Mo.Cl.time c))) = (some (S.iv IntKind.u64 (Mo.Cl.time c)))) ∧ (((some (S.iv IntKind.u32 (Mo.Cl.s3 c))) = (some (S.iv IntKind.u32 (Mo.Cl.s3 c)))) ∧ ((((some (S.iv IntKind.u64 (Mo.Cl.time c))) = (some (S.iv IntKind.u64 (Mo.Cl.time c)))) ∧ (((some (S.iv IntKind.u32 (Mo.Cl.s3 c))) = (some (S.iv IntKind.u32 (Mo.Cl.s3 c)))) ∧ ((kLoad_s56 off c K) ∧ (kLoad_s57 off c K)))) ∧ (kLoad_s60 off c K))))) ∧ (kLoad_s64 off c K)))))) ∧ (((some (S.iv IntKind.u64 (Mo.Cl.time c))) = (some (S.iv IntKind.u64 (Mo.Cl.time c)))) ∧ (((some (S.iv IntKind.u64 (Mo.Cl.time c))) = (some (S.iv IntKind.u64 (Mo.Cl.time c)))) ∧ (((some (S.iv IntKind.u64 (Mo.Cl.k3 c))) = (some (S.iv IntKind.u64 (Mo.Cl.k3 c)))) ∧ (((some (S.iv IntKind.u64 (Mo.Cl.k3 c))) = (some (S.iv IntKind.u64 (Mo.Cl.k3 c)))) ∧ (((some (S.iv IntKind.u32 (Mo.Cl.s3 c))) = (some (S.iv IntKind.u32 (Mo.Cl.s3 c)))) ∧ (kLoad_s64 off c K))))))))) else (if ((iE (Mo.kHart (Mo.Cl.n c) off) 4) = true) then (((some (S.agg ((S.iv IntKind.u64 (Mo.Cl.k4 c)) :: ((S.iv IntKind.u32 (Mo.Cl.s4 c)) :: List.nil)))) = (some (S.agg ((S.iv IntKind.u64 (Mo.Cl.k4 c)) :: ((S.iv IntKind.u32 (Mo.Cl.s4 c)) :: List.nil))))) ∧ (((some (S.iv IntKind.i64 (Mo.kHart (Mo.Cl.n c) off))) = (some (S.iv IntKind.i64 (Mo.kHart (Mo.Cl.n c) off)))) ∧ ((((some (S.iv IntKind.u64 (Mo.Cl.time c))) = (some (S.iv IntKind.u64 (Mo.Cl.time c)))) ∧ (((some (S.iv IntKind.u64 (Mo.Cl.time c))) = (some (S.iv IntKind.u64 (Mo.Cl.time c)))) ∧ (((some (S.iv IntKind.u64 (Mo.Cl.k4 c))) = (some (S.iv IntKind.u64 (Mo.Cl.k4 c)))) ∧ (((some (S.iv IntKind.u32 (Mo.Cl.s4 c))) = (some (S.iv IntKind.u32 (Mo.Cl.s4 c)))) ∧ ((((some (S.iv IntKind.u64 (Mo.Cl.time c))) = (some (S.iv IntKind.u64 (Mo.Cl.time c)))) ∧ (((some (S.iv IntKind.u64 (Mo.Cl.time c))) = (some (S.iv IntKind.u64 (Mo.Cl.time c)))) ∧ (((some (S.iv IntKind.u32 (Mo.Cl.s4 c))) = (some (S.iv IntKind.u32 (Mo.Cl.s4 c)))) ∧ ((((some (S.iv IntKind.u64 (Mo.Cl.time c))) = (some (S.iv IntKind.u64 (Mo.Cl.time c)))) ∧ (((some (S.iv IntKind.u32 (Mo.Cl.s4 c))) = (some (S.iv IntKind.u32 (Mo.Cl.s4 c)))) ∧ ((kLoad_s72 off c K) ∧ (kLoad_s73 off c K)))) ∧ (kLoad_s76 off c K))))) ∧ (kLoad_s80 off c K)))))) ∧ (((some (S.iv IntKind.u64 (Mo.Cl.time c))) = (some (S.iv IntKind.u64 (Mo.Cl.time c)))) ∧ (((some (S.iv IntKind.u64 (Mo.Cl.time c))) = (some (S.iv IntKind.u64 (Mo.Cl.time c)))) ∧ (((some (S.iv IntKind.u64 (Mo.Cl.k4 c))) = (some (S.iv IntKind.u64 (Mo.Cl.k4 c)))) ∧ (((some (S.iv IntKind.u64 (Mo.Cl.k4 c))) = (some (S.iv IntKind.u64 (Mo.Cl.k4 c)))) ∧ (((some (S.iv IntKind.u32 (Mo.Cl.s4 c))) = (some (S.iv IntKind.u32 (Mo.Cl.s4 c)))) ∧ (kLoad_s80 off c K))))))))) else (if ((iE (Mo.kHart (Mo.Cl.n c) off) 5) = true) then (((some (S.agg ((S.iv IntKind.u64 (Mo.Cl.k5 c)) :: ((S.iv IntKind.u32 (Mo.Cl.s5 c)) :: List.nil)))) = (some (S.agg ((S.iv IntKind.u64 (Mo.Cl.k5 c)) :: ((S.iv IntKind.u32 (Mo.Cl.s5 c)) :: List.nil))))) ∧ (((some (S.iv IntKind.i64 (Mo.kHart (Mo.Cl.n c) off))) = (some (S.iv IntKind.i64 (Mo.kHart (Mo.Cl.n c) off)))) ∧ ((((some (S.iv IntKind.u64 (Mo.Cl.time c))) = (some (S.iv IntKind.u64 (Mo.Cl.time c)))) ∧ (((some (S.iv IntKind.u64 (Mo.Cl.time c))) = (some (S.iv IntKind.u64 (Mo.Cl.time c)))) ∧ (((some (S.iv IntKind.u64 (Mo.Cl.k5 c))) = (some (S.iv IntKind.u64 (Mo.Cl.k5 c)))) ∧ (((some (S.iv IntKind.u32 (Mo.Cl.s5 c))) = (some (S.iv IntKind.u32 (Mo.Cl.s5 c)))) ∧ ((((some (S.iv IntKind.u64 (Mo.Cl.time c))) = (some (S.iv IntKind.u64 (Mo.Cl.time c)))) ∧ (((some (S.iv IntKind.u64 (Mo.Cl.time c))) = (some (S.iv IntKind.u64 (Mo.Cl.time c)))) ∧ (((some (S.iv IntKind.u32 (Mo.Cl.s5 c))) = (some (S.iv IntKind.u32 (Mo.Cl.s5 c)))) ∧ ((((some (S.iv IntKind.u64 (Mo.Cl.time c))) = (some (S.iv IntKind.u64 (Mo.Cl.time c)))) ∧ (((some (S.iv IntKind.u32 (Mo.Cl.s5 c))) = (some (S.iv IntKind.u32 (Mo.Cl.s5 c)))) ∧ ((kLoad_s88 off c K) ∧ (kLoad_s89 off c K)))) ∧ (kLoad_s92 off c K))))) ∧ (kLoad_s96 off c K)))))) ∧ (((some (S.iv IntKind.u64 (Mo.Cl.time c))) = (some (S.iv IntKind.u64 (Mo.Cl.time c)))) ∧ (((some (S.iv IntKind.u64 (Mo.Cl.time c))) = (some (S.iv IntKind.u64 (Mo.Cl.time c)))) ∧ (((some (S.iv IntKind.u64 (Mo.Cl.k5 c))) = (some (S.iv IntKind.u64 (Mo.Cl.k5 c)))) ∧ (((some (S.iv IntKind.u64 (Mo.Cl.k5 c))) = (some (S.iv IntKind.u64 (Mo.Cl.k5 c)))) ∧ (((some (S.iv IntKind.u32 (Mo.Cl.s5 c))) = (some (S.iv IntKind.u32 (Mo.Cl.s5 c)))) ∧ (kLoad_s96 off c K))))))))) else (if ((iE (Mo.kHart (Mo.Cl.n c) off) 6) = true) then (((some (S.agg ((S.iv IntKind.u64 (Mo.Cl.k6 c)) :: ((S.iv IntKind.u32 (Mo.Cl.s6 c)) :: List.nil)))) = (some (S.agg ((S.iv IntKind.u64 (Mo.Cl.k6 c)) :: ((S.iv IntKind.u32 (Mo.Cl.s6 c)) :: List.nil))))) ∧ (((some (S.iv IntKind.i64 (Mo.kHart (Mo.Cl.n c) off))) = (some (S.iv IntKind.i64 (Mo.kHart (Mo.Cl.n c) off)))) ∧ ((((some (S.iv IntKind.u64 (Mo.Cl.time c))) = (some (S.iv IntKind.u64 (Mo.Cl.time c)))) ∧ (((some (S.iv IntKind.u64 (Mo.Cl.time c))) = (some (S.iv IntKind.u64 (Mo.Cl.time c)))) ∧ (((some (S.iv IntKind.u64 (Mo.Cl.k6 c))) = (some (S.iv IntKind.u64 (Mo.Cl.k6 c)))) ∧ (((some (S.iv IntKind.u32 (Mo.Cl.s6 c))) = (some (S.iv IntKind.u32 (Mo.Cl.s6 c)))) ∧ ((((some (S.iv IntKind.u64 (Mo.Cl.time c))) = (some (S.iv IntKind.u64 (Mo.Cl.time c)))) ∧ (((some (S.iv IntKind.u64 (Mo.Cl.time c))) = (some (S.iv IntKind.u64 (Mo.Cl.time c)))) ∧ (((some (S.iv IntKind.u32 (Mo.Cl.s6 c))) = (some (S.iv IntKind.u32 (Mo.Cl.s6 c)))) ∧ ((((some (S.iv IntKind.u64 (Mo.Cl.time c))) = (some (S.iv IntKind.u64 (Mo.Cl.time c)))) ∧ (((some (S.iv IntKind.u32 (Mo.Cl.s6 c))) = (some (S.iv IntKind.u32 (Mo.Cl.s6 c)))) ∧ ((kLoad_s104 off c K) ∧ (kLoad_s105 off c K)))) ∧ (kLoad_s108 off c K))))) ∧ (kLoad_s112 off c K)))))) ∧ (((some (S.iv IntKind.u64 (Mo.Cl.time c))) = (some (S.iv IntKind.u64 (Mo.Cl.time c)))) ∧ (((some (S.iv IntKind.u64 (Mo.Cl.time c))) = (some (S.iv IntKind.u64 (Mo.Cl.time c)))) ∧ (((some (S.iv IntKind.u64 (Mo.Cl.k6 c))) = (some (S.iv IntKind.u64 (Mo.Cl.k6 c)))) ∧ (((some (S.iv IntKind.u64 (Mo.Cl.k6 c))) = (some (S.iv IntKind.u64 (Mo.Cl.k6 c)))) ∧ (((some (S.iv IntKind.u32 (Mo.Cl.s6 c))) = (some (S.iv IntKind.u32 (Mo.Cl.s6 c)))) ∧ (kLoad_s112 off c K))))))))) else (((some (S.agg ((S.iv IntKind.u64 (Mo.Cl.k7 c)) :: ((S.iv IntKind.u32 (Mo.Cl.s7 c)) :: List.nil)))) = (some (S.agg ((S.iv IntKind.u64 (Mo.Cl.k7 c)) :: ((S.iv IntKind.u32 (Mo.Cl.s7 c)) :: List.nil))))) ∧ (((some (S.iv IntKind.i64 (Mo.kHart (Mo.Cl.n c) off))) = (some (S.iv IntKind.i64 (Mo.kHart (Mo.Cl.n c) off)))) ∧ ((((some (S.iv IntKind.u64 (Mo.Cl.time c))) = (some (S.iv IntKind.u64 (Mo.Cl.time c)))) ∧ (((some (S.iv IntKind.u64 (Mo.Cl.time c))) = (some (S.iv IntKind.u64 (Mo.Cl.time c)))) ∧ (((some (S.iv IntKind.u64 (Mo.Cl.k7 c))) = (some (S.iv IntKind.u64 (Mo.Cl.k7 c)))) ∧ (((some (S.iv IntKind.u32 (Mo.Cl.s7 c))) = (some (S.iv IntKind.u32 (Mo.Cl.s7 c)))) ∧ ((((some (S.iv IntKind.u64 (Mo.Cl.time c))) = (some (S.iv IntKind.u64 (Mo.Cl.time c)))) ∧ (((some (S.iv IntKind.u64 (Mo.Cl.time c))) = (some (S.iv IntKind.u64 (Mo.Cl.time c)))) ∧ (((some (S.iv IntKind.u32 (Mo.Cl.s7 c))) = (some (S.iv IntKind.u32 (Mo.Cl.s7 c)))) ∧ ((((some (S.iv IntKind.u64 (Mo.Cl.time c))) = (some (S.iv IntKind.u64 (Mo.Cl.time c)))) ∧ (((some (S.iv IntKind.u32 (Mo.Cl.s7 c))) = (some (S.iv IntKind.u32 (Mo.Cl.s7 c)))) ∧ ((kLoad_s120 off c K) ∧ (kLoad_s121 off c K)))) ∧ (kLoad_s124 off c K))))) ∧ (kLoad_s128 off c K)))))) ∧ (((some (S.iv IntKind.u64 (Mo.Cl.time c))) = (some (S.iv IntKind.u64 (Mo.Cl.time c)))) ∧ (((some (S.iv IntKind.u64 (Mo.Cl.time c))) = (some (S.iv IntKind.u64 (Mo.Cl.time c)))) ∧ (((some (S.iv IntKind.u64 (Mo.Cl.k7 c))) = (some (S.iv IntKind.u64 (Mo.Cl.k7 c)))) ∧ (((some (S.iv IntKind.u64 (Mo.Cl.k7 c))) = (some (S.iv IntKind.u64 (Mo.Cl.k7 c)))) ∧ (((some (S.iv IntKind.u32 (Mo.Cl.s7 c))) = (some (S.iv IntKind.u32 (Mo.Cl.s7 c)))) ∧ (kLoad_s128 off c K)))))))))))))))) else False) else False)))
theorem kLoad_run (off : Int) (c : Mo.Cl) (K : S → List Ob → Prop) : callX (std noW) tt ffLpB stopLpB (lpB noW Tryz.prog) noL 60 214 [.ptr 0 (.l 0), .iv .u32 off] [.cells 183 (Mo.Cl.cells c)] (gcK 1 (ivK true K)) = kLoad_tree off c K := by kernel_rfl
noncomputable def kLoad_T (off : Int) (c : Mo.Cl) (K : S → List Ob → Prop) : Prop := Mo.kLoad_pre off c ∧ K (.tup [(.iv .u32 (Mo.kLoad_v1 off c)), (.iv .i64 (Mo.kLoad_v2 off c))]) [(.cells 183 (Mo.Cl.cells c))]
theorem kLoad_all (off : Int) (c : Mo.Cl) (K : S → List Ob → Prop) (h : kLoad_T off c K) : kLoad_tree off c K := by
  unfold kLoad_T at h; obtain ⟨h0, h⟩ := h; unfold kLoad_tree
  try simp only [Mo.kLoad_v1] at h0 h
  try simp only [Mo.kLoad_v2] at h0 h
  try simp only [Mo.kLoad_pre] at h0 h
  repeat' (first | (refine ite_intro (fun c => ?_) (fun c => ?_) <;> first | simp only [if_pos c] at h0 h | simp only [if_neg c] at h0 h | skip) | with_reducible (replace h0 := (h0 : True ∧ _).2) | with_reducible (refine ⟨rfl, ?_⟩) | with_reducible (refine ⟨h0.1, ?_⟩; replace h0 := h0.2) | with_reducible (refine ⟨h0, ?_⟩) | (refine ⟨h0.1, ?_⟩; replace h0 := h0.2) | refine ⟨h0, ?_⟩ | refine ⟨rfl, ?_⟩ | refine ⟨trivial, ?_⟩ | refine ⟨by assumption, ?_⟩ | refine ⟨Eq.symm (by assumption), ?_⟩ | exact h | refine ⟨?_, ?_⟩ | unfold kLoad_s1 | unfold kLoad_s2 | unfold kLoad_s3 | unfold kLoad_s4 | unfold kLoad_s5 | unfold kLoad_s6 | unfold kLoad_s7 | unfold kLoad_s8 | unfold kLoad_s9 | unfold kLoad_s10 | unfold kLoad_s11 | unfold kLoad_s12 | unfold kLoad_s13 | unfold kLoad_s14 | unfold kLoad_s15 | unfold kLoad_s16 | unfold kLoad_s17 | unfold kLoad_s18 | unfold kLoad_s19 | unfold kLoad_s20 | unfold kLoad_s21 | unfold kLoad_s22 | unfold kLoad_s23 | unfold kLoad_s24 | unfold kLoad_s25 | unfold kLoad_s26 | unfold kLoad_s27 | unfold kLoad_s28 | unfold kLoad_s29 | unfold kLoad_s30 | unfold kLoad_s31 | unfold kLoad_s32 | unfold kLoad_s33 | unfold kLoad_s34 | unfold kLoad_s35 | unfold kLoad_s36 | unfold kLoad_s37 | unfold kLoad_s38 | unfold kLoad_s39 | unfold kLoad_s40 | unfold kLoad_s41 | unfold kLoad_s42 | unfold kLoad_s43 | unfold kLoad_s44 | unfold kLoad_s45 | unfold kLoad_s46 | unfold kLoad_s47 | unfold kLoad_s48 | unfold kLoad_s49 | unfold kLoad_s50 | unfold kLoad_s51 | unfold kLoad_s52 | unfold kLoad_s53 | unfold kLoad_s54 | unfold kLoad_s55 | unfold kLoad_s56 | unfold kLoad_s57 | unfold kLoad_s58 | unfold kLoad_s59 | unfold kLoad_s60 | unfold kLoad_s61 | unfold kLoad_s62 | unfold kLoad_s63 | unfold kLoad_s64 | unfold kLoad_s65 | unfold kLoad_s66 | unfold kLoad_s67 | unfold kLoad_s68 | unfold kLoad_s69 | unfold kLoad_s70 | unfold kLoad_s71 | unfold kLoad_s72 | unfold kLoad_s73 | unfold kLoad_s74 | unfold kLoad_s75 | unfold kLoad_s76 | unfold kLoad_s77 | unfold kLoad_s78 | unfold kLoad_s79 | unfold kLoad_s80 | unfold kLoad_s81 | unfold kLoad_s82 | unfold kLoad_s83 | unfold kLoad_s84 | unfold kLoad_s85 | unfold kLoad_s86 | unfold kLoad_s87 | unfold kLoad_s88 | unfold kLoad_s89 | unfold kLoad_s90 | unfold kLoad_s91 | unfold kLoad_s92 | unfold kLoad_s93 | unfold kLoad_s94 | unfold kLoad_s95 | unfold kLoad_s96 | unfold kLoad_s97 | unfold kLoad_s98 | unfold kLoad_s99 | unfold kLoad_s100 | unfold kLoad_s101 | unfold kLoad_s102 | unfold kLoad_s103 | unfold kLoad_s104 | unfold kLoad_s105 | unfold kLoad_s106 | unfold kLoad_s107 | unfold kLoad_s108 | unfold kLoad_s109 | unfold kLoad_s110 | unfold kLoad_s111 | unfold kLoad_s112 | unfold kLoad_s113 | unfold kLoad_s114 | unfold kLoad_s115 | unfold kLoad_s116 | unfold kLoad_s117 | unfold kLoad_s118 | unfold kLoad_s119 | unfold kLoad_s120 | unfold kLoad_s121 | unfold kLoad_s122 | unfold kLoad_s123 | unfold kLoad_s124 | unfold kLoad_s125 | unfold kLoad_s126 | unfold kLoad_s127 | unfold kLoad_s128 | exact h0.elim | trivial | contradiction | (simp only [if_true, if_false, Bool.false_eq_true] at h; exact h))
theorem kLoad_sem (off : Int) (c : Mo.Cl) (K : S → List Ob → Prop) (h : kLoad_T off c K) : CallSem noW Tryz.prog 214 [.ptr 0 (.l 0), .iv .u32 off] [.cells 183 (Mo.Cl.cells c)] K := iv_call (callX_ok tok (by kernel_rfl) ffLpBok stopLpB_ok _ _ _ _ (Eq.mpr (kLoad_run off c K) (kLoad_all off c K h)))
noncomputable def kLoad_con : Con := ⟨[.ptr 0, .int .u32], [.cellsV 183], [], fun a K => match a with | ⟨[off], [], [], [cs_c], []⟩ => (match Mo.Cl.is cs_c with | true => kLoad_T off (Mo.Cl.of cs_c) K | false => False) | _ => False⟩
theorem kLoad_ok : kLoad_con.ok noW Tryz.prog 214 := by
  intro a K h
  simp only [kLoad_con] at h
  split at h
  case h_2 => exact h.elim
  split at h
  case h_2 => exact h.elim
  rename_i is_c
  exact CallSem.objs (kLoad_sem _ _ K h) (fun _ _ _ h => h) ⟨WkO.cells (Mo.Cl.is_ok is_c), trivial⟩
noncomputable def hm_LpC_1 (x1 : Mo.Cl) : List Ob := [(.cells 183 (Mo.Cl.cells x1))]
noncomputable def Mo.kStore_v1 (off : Int) (c : Mo.Cl) : Int := (if ((iN (Mo.kErr (Mo.Cl.n c) off) 0) = true) then (Mo.kErr (Mo.Cl.n c) off) else (if ((iE (Mo.kWhat (Mo.Cl.n c) off) 1) = true) then 0 else (if ((iE (Mo.kWhat (Mo.Cl.n c) off) 2) = true) then 0 else (if ((iE (Mo.kWhat (Mo.Cl.n c) off) 3) = true) then 0 else 12))))
noncomputable def Mo.kStore_v2 (off : Int) (v : Int) (c : Mo.Cl) : Mo.Cl := (if ((iN (Mo.kErr (Mo.Cl.n c) off) 0) = true) then c else (if ((iE (Mo.kHart (Mo.Cl.n c) off) 0) = true) then (if ((iE (Mo.kWhat (Mo.Cl.n c) off) 1) = true) then { c with s0 := (anw v 1) } else (if ((iE (Mo.kWhat (Mo.Cl.n c) off) 2) = true) then { c with k0 := (rrq (slq (cvq (cvw (srq (Mo.Cl.k0 c) 32) 0) 0) 32) (cvq v 0)) } else (if ((iE (Mo.kWhat (Mo.Cl.n c) off) 3) = true) then { c with k0 := (rrq (slq (cvq v 0) 32) (cvq (cvw (Mo.Cl.k0 c) 0) 0)) } else c))) else (if ((iE (Mo.kHart (Mo.Cl.n c) off) 1) = true) then (if ((iE (Mo.kWhat (Mo.Cl.n c) off) 1) = true) then { c with s1 := (anw v 1) } else (if ((iE (Mo.kWhat (Mo.Cl.n c) off) 2) = true) then { c with k1 := (rrq (slq (cvq (cvw (srq (Mo.Cl.k1 c) 32) 0) 0) 32) (cvq v 0)) } else (if ((iE (Mo.kWhat (Mo.Cl.n c) off) 3) = true) then { c with k1 := (rrq (slq (cvq v 0) 32) (cvq (cvw (Mo.Cl.k1 c) 0) 0)) } else c))) else (if ((iE (Mo.kHart (Mo.Cl.n c) off) 2) = true) then (if ((iE (Mo.kWhat (Mo.Cl.n c) off) 1) = true) then { c with s2 := (anw v 1) } else (if ((iE (Mo.kWhat (Mo.Cl.n c) off) 2) = true) then { c with k2 := (rrq (slq (cvq (cvw (srq (Mo.Cl.k2 c) 32) 0) 0) 32) (cvq v 0)) } else (if ((iE (Mo.kWhat (Mo.Cl.n c) off) 3) = true) then { c with k2 := (rrq (slq (cvq v 0) 32) (cvq (cvw (Mo.Cl.k2 c) 0) 0)) } else c))) else (if ((iE (Mo.kHart (Mo.Cl.n c) off) 3) = true) then (if ((iE (Mo.kWhat (Mo.Cl.n c) off) 1) = true) then { c with s3 := (anw v 1) } else (if ((iE (Mo.kWhat (Mo.Cl.n c) off) 2) = true) then { c with k3 := (rrq (slq (cvq (cvw (srq (Mo.Cl.k3 c) 32) 0) 0) 32) (cvq v 0)) } else (if ((iE (Mo.kWhat (Mo.Cl.n c) off) 3) = true) then { c with k3 := (rrq (slq (cvq v 0) 32) (cvq (cvw (Mo.Cl.k3 c) 0) 0)) } else c))) else (if ((iE (Mo.kHart (Mo.Cl.n c) off) 4) = true) then (if ((iE (Mo.kWhat (Mo.Cl.n c) off) 1) = true) then { c with s4 := (anw v 1) } else (if ((iE (Mo.kWhat (Mo.Cl.n c) off) 2) = true) then { c with k4 := (rrq (slq (cvq (cvw (srq (Mo.Cl.k4 c) 32) 0) 0) 32) (cvq v 0)) } else (if ((iE (Mo.kWhat (Mo.Cl.n c) off) 3) = true) then { c with k4 := (rrq (slq (cvq v 0) 32) (cvq (cvw (Mo.Cl.k4 c) 0) 0)) } else c))) else (if ((iE (Mo.kHart (Mo.Cl.n c) off) 5) = true) then (if ((iE (Mo.kWhat (Mo.Cl.n c) off) 1) = true) then { c with s5 := (anw v 1) } else (if ((iE (Mo.kWhat (Mo.Cl.n c) off) 2) = true) then { c with k5 := (rrq (slq (cvq (cvw (srq (Mo.Cl.k5 c) 32) 0) 0) 32) (cvq v 0)) } else (if ((iE (Mo.kWhat (Mo.Cl.n c) off) 3) = true) then { c with k5 := (rrq (slq (cvq v 0) 32) (cvq (cvw (Mo.Cl.k5 c) 0) 0)) } else c))) else (if ((iE (Mo.kHart (Mo.Cl.n c) off) 6) = true) then (if ((iE (Mo.kWhat (Mo.Cl.n c) off) 1) = true) then { c with s6 := (anw v 1) } else (if ((iE (Mo.kWhat (Mo.Cl.n c) off) 2) = true) then { c with k6 := (rrq (slq (cvq (cvw (srq (Mo.Cl.k6 c) 32) 0) 0) 32) (cvq v 0)) } else (if ((iE (Mo.kWhat (Mo.Cl.n c) off) 3) = true) then { c with k6 := (rrq (slq (cvq v 0) 32) (cvq (cvw (Mo.Cl.k6 c) 0) 0)) } else c))) else (if ((iE (Mo.kWhat (Mo.Cl.n c) off) 1) = true) then { c with s7 := (anw v 1) } else (if ((iE (Mo.kWhat (Mo.Cl.n c) off) 2) = true) then { c with k7 := (rrq (slq (cvq (cvw (srq (Mo.Cl.k7 c) 32) 0) 0) 32) (cvq v 0)) } else (if ((iE (Mo.kWhat (Mo.Cl.n c) off) 3) = true) then { c with k7 := (rrq (slq (cvq v 0) 32) (cvq (cvw (Mo.Cl.k7 c) 0) 0)) } else c)))))))))))
noncomputable def Mo.kStore_pre (off : Int) (c : Mo.Cl) : Prop := ((((1 : Int) ≤ (Mo.Cl.n c)) ∧ (((Mo.Cl.n c) : Int) ≤ 1)) ∧ (if ((iN (Mo.kErr (Mo.Cl.n c) off) 0) = true) then True else (if ((iM 0 (Mo.kHart (Mo.Cl.n c) off)) = true) then (if ((iL (Mo.kHart (Mo.Cl.n c) off) 8) = true) then True else False) else False)))
noncomputable def kStore_tree (off : Int) (v : Int) (c : Mo.Cl) (K : S → List Ob → Prop) : Prop := ((((1 : Int) ≤ (Mo.Cl.n c)) ∧ (((Mo.Cl.n c) : Int) ≤ 1)) ∧ (if ((iN (Mo.kErr (Mo.Cl.n c) off) 0) = true) then K (.iv .i64 (Mo.kErr (Mo.Cl.n c) off)) [(.cells 183 (Mo.Cl.cells c))] else (if ((iM 0 (Mo.kHart (Mo.Cl.n c) off)) = true) then (if ((iL (Mo.kHart (Mo.Cl.n c) off) 8) = true) then (if ((iE (Mo.kHart (Mo.Cl.n c) off) 0) = true) then (if ((iE (Mo.kWhat (Mo.Cl.n c) off) 1) = true) then K (.iv .i64 0) (hm_LpC_1 { c with s0 := (anw v 1) }) else (if ((iE (Mo.kWhat (Mo.Cl.n c) off) 2) = true) then K (.iv .i64 0) (hm_LpC_1 { c with k0 := (rrq (slq (cvq (cvw (srq (Mo.Cl.k0 c) 32) 0) 0) 32) (cvq v 0)) }) else (if ((iE (Mo.kWhat (Mo.Cl.n c) off) 3) = true) then K (.iv .i64 0) (hm_LpC_1 { c with k0 := (rrq (slq (cvq v 0) 32) (cvq (cvw (Mo.Cl.k0 c) 0) 0)) }) else K (.iv .i64 12) [(.cells 183 (Mo.Cl.cells c))]))) else (if ((iE (Mo.kHart (Mo.Cl.n c) off) 1) = true) then (if ((iE (Mo.kWhat (Mo.Cl.n c) off) 1) = true) then K (.iv .i64 0) (hm_LpC_1 { c with s1 := (anw v 1) }) else (if ((iE (Mo.kWhat (Mo.Cl.n c) off) 2) = true) then K (.iv .i64 0) (hm_LpC_1 { c with k1 := (rrq (slq (cvq (cvw (srq (Mo.Cl.k1 c) 32) 0) 0) 32) (cvq v 0)) }) else (if ((iE (Mo.kWhat (Mo.Cl.n c) off) 3) = true) then K (.iv .i64 0) (hm_LpC_1 { c with k1 := (rrq (slq (cvq v 0) 32) (cvq (cvw (Mo.Cl.k1 c) 0) 0)) }) else K (.iv .i64 12) [(.cells 183 (Mo.Cl.cells c))]))) else (if ((iE (Mo.kHart (Mo.Cl.n c) off) 2) = true) then (if ((iE (Mo.kWhat (Mo.Cl.n c) off) 1) = true) then K (.iv .i64 0) (hm_LpC_1 { c with s2 := (anw v 1) }) else (if ((iE (Mo.kWhat (Mo.Cl.n c) off) 2) = true) then K (.iv .i64 0) (hm_LpC_1 { c with k2 := (rrq (slq (cvq (cvw (srq (Mo.Cl.k2 c) 32) 0) 0) 32) (cvq v 0)) }) else (if ((iE (Mo.kWhat (Mo.Cl.n c) off) 3) = true) then K (.iv .i64 0) (hm_LpC_1 { c with k2 := (rrq (slq (cvq v 0) 32) (cvq (cvw (Mo.Cl.k2 c) 0) 0)) }) else K (.iv .i64 12) [(.cells 183 (Mo.Cl.cells c))]))) else (if ((iE (Mo.kHart (Mo.Cl.n c) off) 3) = true) then (if ((iE (Mo.kWhat (Mo.Cl.n c) off) 1) = true) then K (.iv .i64 0) (hm_LpC_1 { c with s3 := (anw v 1) }) else (if ((iE (Mo.kWhat (Mo.Cl.n c) off) 2) = true) then K (.iv .i64 0) (hm_LpC_1 { c with k3 := (rrq (slq (cvq (cvw (srq (Mo.Cl.k3 c) 32) 0) 0) 32) (cvq v 0)) }) else (if ((iE (Mo.kWhat (Mo.Cl.n c) off) 3) = true) then K (.iv .i64 0) (hm_LpC_1 { c with k3 := (rrq (slq (cvq v 0) 32) (cvq (cvw (Mo.Cl.k3 c) 0) 0)) }) else K (.iv .i64 12) [(.cells 183 (Mo.Cl.cells c))]))) else (if ((iE (Mo.kHart (Mo.Cl.n c) off) 4) = true) then (if ((iE (Mo.kWhat (Mo.Cl.n c) off) 1) = true) then K (.iv .i64 0) (hm_LpC_1 { c with s4 := (anw v 1) }) else (if ((iE (Mo.kWhat (Mo.Cl.n c) off) 2) = true) then K (.iv .i64 0) (hm_LpC_1 { c with k4 := (rrq (slq (cvq (cvw (srq (Mo.Cl.k4 c) 32) 0) 0) 32) (cvq v 0)) }) else (if ((iE (Mo.kWhat (Mo.Cl.n c) off) 3) = true) then K (.iv .i64 0) (hm_LpC_1 { c with k4 := (rrq (slq (cvq v 0) 32) (cvq (cvw (Mo.Cl.k4 c) 0) 0)) }) else K (.iv .i64 12) [(.cells 183 (Mo.Cl.cells c))]))) else (if ((iE (Mo.kHart (Mo.Cl.n c) off) 5) = true) then (if ((iE (Mo.kWhat (Mo.Cl.n c) off) 1) = true) then K (.iv .i64 0) (hm_LpC_1 { c with s5 := (anw v 1) }) else (if ((iE (Mo.kWhat (Mo.Cl.n c) off) 2) = true) then K (.iv .i64 0) (hm_LpC_1 { c with k5 := (rrq (slq (cvq (cvw (srq (Mo.Cl.k5 c) 32) 0) 0) 32) (cvq v 0)) }) else (if ((iE (Mo.kWhat (Mo.Cl.n c) off) 3) = true) then K (.iv .i64 0) (hm_LpC_1 { c with k5 := (rrq (slq (cvq v 0) 32) (cvq (cvw (Mo.Cl.k5 c) 0) 0)) }) else K (.iv .i64 12) [(.cells 183 (Mo.Cl.cells c))]))) else (if ((iE (Mo.kHart (Mo.Cl.n c) off) 6) = true) then (if ((iE (Mo.kWhat (Mo.Cl.n c) off) 1) = true) then K (.iv .i64 0) (hm_LpC_1 { c with s6 := (anw v 1) }) else (if ((iE (Mo.kWhat (Mo.Cl.n c) off) 2) = true) then K (.iv .i64 0) (hm_LpC_1 { c with k6 := (rrq (slq (cvq (cvw (srq (Mo.Cl.k6 c) 32) 0) 0) 32) (cvq v 0)) }) else (if ((iE (Mo.kWhat (Mo.Cl.n c) off) 3) = true) then K (.iv .i64 0) (hm_LpC_1 { c with k6 := (rrq (slq (cvq v 0) 32) (cvq (cvw (Mo.Cl.k6 c) 0) 0)) }) else K (.iv .i64 12) [(.cells 183 (Mo.Cl.cells c))]))) else (if ((iE (Mo.kWhat (Mo.Cl.n c) off) 1) = true) then K (.iv .i64 0) (hm_LpC_1 { c with s7 := (anw v 1) }) else (if ((iE (Mo.kWhat (Mo.Cl.n c) off) 2) = true) then K (.iv .i64 0) (hm_LpC_1 { c with k7 := (rrq (slq (cvq (cvw (srq (Mo.Cl.k7 c) 32) 0) 0) 32) (cvq v 0)) }) else (if ((iE (Mo.kWhat (Mo.Cl.n c) off) 3) = true) then K (.iv .i64 0) (hm_LpC_1 { c with k7 := (rrq (slq (cvq v 0) 32) (cvq (cvw (Mo.Cl.k7 c) 0) 0)) }) else K (.iv .i64 12) [(.cells 183 (Mo.Cl.cells c))])))))))))) else False) else False)))
theorem kStore_run (off : Int) (v : Int) (c : Mo.Cl) (K : S → List Ob → Prop) : callX (std noW) tt ffLpB stopLpB (lpB noW Tryz.prog) noL 60 215 [.ptr 0 (.l 0), .iv .u32 off, .iv .u32 v] [.cells 183 (Mo.Cl.cells c)] (gcK 1 (ivK true K)) = kStore_tree off v c K := by kernel_rfl
noncomputable def kStore_T (off : Int) (v : Int) (c : Mo.Cl) (K : S → List Ob → Prop) : Prop := Mo.kStore_pre off c ∧ K (.iv .i64 (Mo.kStore_v1 off c)) [(.cells 183 (Mo.Cl.cells (Mo.kStore_v2 off v c)))]
theorem kStore_all (off : Int) (v : Int) (c : Mo.Cl) (K : S → List Ob → Prop) (h : kStore_T off v c K) : kStore_tree off v c K := by
  unfold kStore_T at h; obtain ⟨h0, h⟩ := h; unfold kStore_tree
  try simp only [Mo.kStore_v1] at h0 h
  try simp only [Mo.kStore_v2] at h0 h
  try simp only [Mo.kStore_pre] at h0 h
  repeat' first | exact h | refine ⟨rfl, ?_⟩ | (refine ⟨h0.1, ?_⟩; replace h0 := h0.2) | refine ⟨h0, ?_⟩ | exact h0.elim | (refine ite_intro (fun c => ?_) fun c => ?_) <;> first | simp only [if_pos c] at h0 h | simp only [if_neg c] at h0 h | skip
theorem kStore_sem (off : Int) (v : Int) (c : Mo.Cl) (K : S → List Ob → Prop) (h : kStore_T off v c K) : CallSem noW Tryz.prog 215 [.ptr 0 (.l 0), .iv .u32 off, .iv .u32 v] [.cells 183 (Mo.Cl.cells c)] K := iv_call (callX_ok tok (by kernel_rfl) ffLpBok stopLpB_ok _ _ _ _ (Eq.mpr (kStore_run off v c K) (kStore_all off v c K h)))
noncomputable def kStore_con : Con := ⟨[.ptr 0, .int .u32, .int .u32], [.cellsV 183], [], fun a K => match a with | ⟨[off, v], [], [], [cs_c], []⟩ => (match Mo.Cl.is cs_c with | true => kStore_T off v (Mo.Cl.of cs_c) K | false => False) | _ => False⟩
theorem kStore_ok : kStore_con.ok noW Tryz.prog 215 := by
  intro a K h
  simp only [kStore_con] at h
  split at h
  case h_2 => exact h.elim
  split at h
  case h_2 => exact h.elim
  rename_i is_c
  exact CallSem.objs (kStore_sem _ _ _ K h) (fun _ _ _ h => h) ⟨WkO.cells (Mo.Cl.is_ok is_c), trivial⟩
noncomputable def lcb_nTick_0 (tt : List Tm) : LCon := ⟨[false, true, false, false, false, false, false, true, true, true, false, false, false, false, false, false, false], [], tt, t_BK, [(0, fun a => (iL 0 (castI (nthI a.i 1).toNat)))]⟩
noncomputable def lc_nTick_0 : LCon := lcb_nTick_0 [.junk, .int .u64, .junk, .junk, .junk, .junk, .junk, .tsl 1 1, .int .i64, .same (.il .i64 0), .junk, .junk, .junk, .junk, .junk, .junk, .junk]
noncomputable def acc_nTick_0 (k : Int) (n : Nat) (b : Mo.Bk) : Acc := ⟨[k, (Int.ofNat n), (castI n), (Int.ofNat n), (Int.ofNat n)], [(iL 0 (castI n))], [], [(Mo.Cnt.cells (Mo.Bk.c0 b))], []⟩
noncomputable def lc_nTick_1 : LCon := lcb_nTick_0 [.junk, .int .u64, .junk, .junk, .junk, .junk, .junk, .tsl 1 1, .int .i64, .same (.il .i64 1), .junk, .junk, .junk, .junk, .junk, .junk, .junk]
noncomputable def L_nTick : Nat → List LCon := fun k => match Nat.beq k (keyC (loopAt ffLpB 79 0).2) with | true => [lc_nTick_0, lc_nTick_1] | false => []
noncomputable def nTick_L0 (k : Int) (n : Nat) (b : Mo.Bk) (K : S → List Ob → Prop) : Prop := lpF noW Tryz.prog tt ffLpB stopLpB L_nTick 20 79 0 3 lc_nTick_0 (acc_nTick_0 k n b) (gcK 3 (optK (o_BK n) (ivK false K)))
noncomputable def nTick_L1 (k : Int) (n : Nat) (b : Mo.Bk) (K : S → List Ob → Prop) : Prop := lpF noW Tryz.prog tt ffLpB stopLpB L_nTick 20 79 0 3 lc_nTick_1 (acc_nTick_0 k n b) (gcK 3 (optK (o_BK n) (ivK false K)))
noncomputable def nTick_tree (k : Int) (n : Nat) (b : Mo.Bk) (K : S → List Ob → Prop) : Prop := (((iL 0 (castI n)) = (iL 0 (castI n))) ∧ nTick_L0 k n b K)
theorem nTick_run (k : Int) (n : Nat) (b : Mo.Bk) (K : S → List Ob → Prop) : callX (std noW) tt ffLpB stopLpB (lpB noW Tryz.prog) L_nTick 20 79 [.ptr 0 (.l 0), .iv .u64 k] (h_BK n b) (gcK 3 (optK (o_BK n) (ivK false K))) = nTick_tree k n b K := by kernel_rfl
noncomputable def nTick_T (k : Int) (n : Nat) (b : Mo.Bk) (K : S → List Ob → Prop) : Prop := True ∧ nTick_L0 k n b K
theorem nTick_all (k : Int) (n : Nat) (b : Mo.Bk) (K : S → List Ob → Prop) (h : nTick_T k n b K) : nTick_tree k n b K := by
  unfold nTick_T at h; obtain ⟨h0, h⟩ := h; unfold nTick_tree
  repeat' first | exact h | refine ⟨rfl, ?_⟩ | (refine ⟨h0.1, ?_⟩; replace h0 := h0.2) | refine ⟨h0, ?_⟩ | exact h0.elim | (refine ite_intro (fun c => ?_) fun c => ?_) <;> first | simp only [if_pos c] at h0 h | simp only [if_neg c] at h0 h | skip
theorem nTick_sem (k : Int) (n : Nat) (b : Mo.Bk) (K : S → List Ob → Prop) (h : nTick_T k n b K) : CallSem noW Tryz.prog 79 [.ptr 0 (.l 0), .iv .u64 k] (h_BK n b) K := opt_call (callX_ok tok (by kernel_rfl) ffLpBok stopLpB_ok _ _ _ _ (Eq.mpr (nTick_run k n b K) (nTick_all k n b K h)))
noncomputable def Mo.RnTick_0_v1 (k : Int) (b : Mo.Bk) : Mo.Bk := (Mo.Bk.mk (Mo.cTick_v1 k (Mo.Bk.c0 b)))
noncomputable def Mo.RnTick_0_g1 (n : Nat) : Bool := (if ((iL 0 (castI n)) = true) then true else false)
noncomputable def Mo.RnTick_0_pre (k : Int) (n : Nat) (b : Mo.Bk) : Prop := (if ((iL 0 (castI n)) = true) then (Mo.cTick_pre k (Mo.Bk.c0 b)) else True)
noncomputable def RnTick_0_tree (k : Int) (n : Nat) (b : Mo.Bk) (K : S → List Ob → Prop) : Prop := (if ((iL 0 (castI n)) = true) then (if ((iL 0 (castI n)) = true) then (((iL 0 (castI n)) = true) ∧ ((Mo.cTick_pre k (Mo.Bk.c0 b)) ∧ ((true = (iL 0 (castI n))) ∧ nTick_L1 k n (Mo.Bk.mk (Mo.cTick_v1 k (Mo.Bk.c0 b))) K))) else False) else K (.tup []) (h_BK n b))
theorem RnTick_0_run (k : Int) (n : Nat) (b : Mo.Bk) (K : S → List Ob → Prop) : roundX (std noW) tt ffLpB stopLpB (lpB noW Tryz.prog) L_nTick 20 79 0 3 (lc_nTick_0.st (acc_nTick_0 k n b)) (gcK 3 (optK (o_BK n) (ivK false K))) = RnTick_0_tree k n b K := by kernel_rfl
noncomputable def RnTick_0_T (k : Int) (n : Nat) (b : Mo.Bk) (K : S → List Ob → Prop) : Prop := Mo.RnTick_0_pre k n b ∧ (if (Mo.RnTick_0_g1 n) = true then nTick_L1 k n (Mo.RnTick_0_v1 k b) K else K (.tup []) (h_BK n b))
theorem RnTick_0_all (k : Int) (n : Nat) (b : Mo.Bk) (K : S → List Ob → Prop) (h : RnTick_0_T k n b K) : RnTick_0_tree k n b K := by
  unfold RnTick_0_T at h; obtain ⟨h0, h⟩ := h; unfold RnTick_0_tree
  try simp only [Mo.RnTick_0_v1] at h0 h
  try simp only [Mo.RnTick_0_g1] at h0 h
  try simp only [Mo.RnTick_0_pre] at h0 h
  repeat' (first | (refine ite_intro (fun c => ?_) (fun c => ?_) <;> first | simp only [if_pos c] at h0 h | simp only [if_neg c] at h0 h | skip) | with_reducible (replace h0 := (h0 : True ∧ _).2) | with_reducible (refine ⟨rfl, ?_⟩) | with_reducible (refine ⟨h0.1, ?_⟩; replace h0 := h0.2) | with_reducible (refine ⟨h0, ?_⟩) | (refine ⟨h0.1, ?_⟩; replace h0 := h0.2) | refine ⟨h0, ?_⟩ | refine ⟨rfl, ?_⟩ | refine ⟨trivial, ?_⟩ | refine ⟨by assumption, ?_⟩ | refine ⟨Eq.symm (by assumption), ?_⟩ | exact h | refine ⟨?_, ?_⟩ | exact h0.elim | trivial | contradiction | (simp only [if_true, if_false, Bool.false_eq_true] at h; exact h))
theorem RnTick_0_step (k : Int) (n : Nat) (b : Mo.Bk) (K : S → List Ob → Prop) (h : RnTick_0_T k n b K) : nTick_L0 k n b K := roundX_ok tok (by kernel_rfl) ffLpBok stopLpB_ok (Eq.mpr (RnTick_0_run k n b K) (RnTick_0_all k n b K h))
noncomputable def Mo.RnTick_1_pre (n : Nat) : Prop := (if ((iL 1 (castI n)) = true) then False else True)
noncomputable def RnTick_1_tree (k : Int) (n : Nat) (b : Mo.Bk) (K : S → List Ob → Prop) : Prop := (if ((iL 1 (castI n)) = true) then (if ((iL 1 (castI n)) = true) then False else False) else K (.tup []) (h_BK n b))
theorem RnTick_1_run (k : Int) (n : Nat) (b : Mo.Bk) (K : S → List Ob → Prop) : roundX (std noW) tt ffLpB stopLpB (lpB noW Tryz.prog) L_nTick 20 79 0 3 (lc_nTick_1.st (acc_nTick_0 k n b)) (gcK 3 (optK (o_BK n) (ivK false K))) = RnTick_1_tree k n b K := by kernel_rfl
noncomputable def RnTick_1_T (k : Int) (n : Nat) (b : Mo.Bk) (K : S → List Ob → Prop) : Prop := Mo.RnTick_1_pre n ∧ K (.tup []) (h_BK n b)
theorem RnTick_1_all (k : Int) (n : Nat) (b : Mo.Bk) (K : S → List Ob → Prop) (h : RnTick_1_T k n b K) : RnTick_1_tree k n b K := by
  unfold RnTick_1_T at h; obtain ⟨h0, h⟩ := h; unfold RnTick_1_tree
  try simp only [Mo.RnTick_1_pre] at h0 h
  repeat' first | exact h | (refine ite_intro (fun c => ?_) fun c => ?_) <;> first | simp only [if_pos c] at h0 h | simp only [if_neg c] at h0 h | skip
theorem RnTick_1_step (k : Int) (n : Nat) (b : Mo.Bk) (K : S → List Ob → Prop) (h : RnTick_1_T k n b K) : nTick_L1 k n b K := roundX_ok tok (by kernel_rfl) ffLpBok stopLpB_ok (Eq.mpr (RnTick_1_run k n b K) (RnTick_1_all k n b K h))
noncomputable def Mo.nTick_p1 (n : Nat) : Prop := (Mo.RnTick_1_pre n)
noncomputable def Mo.nTick_f2_1 (b : Mo.Bk) : Mo.Bk := b
theorem nTick_c1 (k : Int) (n : Nat) (b : Mo.Bk) (K : S → List Ob → Prop) (h0 : (Mo.nTick_p1 n)) (h : K (.tup []) (h_BK n (Mo.nTick_f2_1 b))) : nTick_L1 k n b K := by
  unfold Mo.nTick_p1 at h0
  refine RnTick_1_step k n b K ?_
  unfold RnTick_1_T
  refine ⟨h0, ?_⟩
  try unfold Mo.nTick_f2_1 at h
  exact h
noncomputable def Mo.nTick_p0 (k : Int) (n : Nat) (b : Mo.Bk) : Prop := (Mo.RnTick_0_pre k n b) ∧ (if (Mo.RnTick_0_g1 n) = true then (Mo.nTick_p1 n) else True)
noncomputable def Mo.nTick_f2_0 (k : Int) (n : Nat) (b : Mo.Bk) : Mo.Bk := (if (Mo.RnTick_0_g1 n) = true then (Mo.nTick_f2_1 (Mo.RnTick_0_v1 k b)) else b)
theorem nTick_c0 (k : Int) (n : Nat) (b : Mo.Bk) (K : S → List Ob → Prop) (h0 : (Mo.nTick_p0 k n b)) (h : K (.tup []) (h_BK n (Mo.nTick_f2_0 k n b))) : nTick_L0 k n b K := by
  unfold Mo.nTick_p0 at h0
  refine RnTick_0_step k n b K ?_
  unfold RnTick_0_T
  refine ⟨h0.1, ?_⟩
  replace h0 := h0.2
  try unfold Mo.nTick_f2_0 at h
  by_cases hg0 : (Mo.RnTick_0_g1 n) = true
  · simp only [if_pos hg0] at h0 h ⊢
    exact nTick_c1 _ _ _ K h0 h
  simp only [if_neg hg0] at h0 h ⊢
  exact h
noncomputable def Mo.nTick_p (k : Int) (n : Nat) (b : Mo.Bk) : Prop := (Mo.nTick_p0 k n b)
noncomputable def Mo.nTick_f2 (k : Int) (n : Nat) (b : Mo.Bk) : Mo.Bk := (Mo.nTick_f2_0 k n b)
theorem nTick_com (k : Int) (n : Nat) (b : Mo.Bk) (K : S → List Ob → Prop) (h0 : (Mo.nTick_p k n b)) (h : K (.tup []) (h_BK n (Mo.nTick_f2 k n b))) : nTick_T k n b K := by
  unfold Mo.nTick_p at h0
  unfold nTick_T
  refine ⟨trivial, ?_⟩
  try unfold Mo.nTick_f2 at h
  exact nTick_c0 _ _ _ K h0 h
noncomputable def nTick_J (k : Int) (n : Nat) (b : Mo.Bk) (K : S → List Ob → Prop) : Prop := (Mo.nTick_p k n b) ∧ K (.tup []) (h_BK n (Mo.nTick_f2 k n b))
theorem nTick_jsem (k : Int) (n : Nat) (b : Mo.Bk) (K : S → List Ob → Prop) (h : nTick_J k n b K) : CallSem noW Tryz.prog 79 [.ptr 0 (.l 0), .iv .u64 k] (h_BK n b) K := nTick_sem k n b K (nTick_com k n b K h.1 h.2)
noncomputable def nTick_con : Con := ⟨[.ptr 0, .int .u64], t_BK, [], fun a K => match a with | ⟨[k, (.ofNat n), (.ofNat q1)], [q2], [], [cs_b_c0], []⟩ => (match Mo.Cnt.is cs_b_c0 with | true => (q1 = n ∧ (q2 = (iL 0 (castI n)) ∧ nTick_J k n (Mo.Bk.mk (Mo.Cnt.of cs_b_c0)) K)) | false => False) | _ => False⟩
theorem nTick_ok : nTick_con.ok noW Tryz.prog 79 := by
  intro a K h
  simp only [nTick_con] at h
  split at h
  case h_2 => exact h.elim
  split at h
  case h_2 => exact h.elim
  rename_i is_b_c0
  obtain ⟨rfl, h⟩ := h
  obtain ⟨rfl, h⟩ := h
  exact CallSem.objs (nTick_jsem _ _ _ K h) (fun _ _ _ h => h) ⟨WkO.same, WkO.same, WkO.opt (Mo.Cnt.is_ok is_b_c0), trivial⟩
noncomputable def lcb_nWLine_0 (tt : List Tm) : LCon := ⟨[false, true, false, false, false, true, false, false, false, true, true, true, false, false, false, false, false, false, false, false, false, false, false, false, false], [], tt, t_BK, [(0, fun a => (iL 0 (castI (nthI a.i 1).toNat)))]⟩
noncomputable def lc_nWLine_0 : LCon := lcb_nWLine_0 [.junk, .same (.fn 168 []), .junk, .junk, .junk, .int .u32, .junk, .junk, .junk, .tsl 1 1, .int .i64, .same (.il .i64 0), .junk, .junk, .junk, .junk, .junk, .junk, .junk, .junk, .junk, .junk, .junk, .junk, .junk]
noncomputable def acc_nWLine_0 (out : Int) (n : Nat) (b : Mo.Bk) : Acc := ⟨[out, (Int.ofNat n), (castI n), (Int.ofNat n), (Int.ofNat n)], [(iL 0 (castI n))], [], [(Mo.Cnt.cells (Mo.Bk.c0 b))], []⟩
noncomputable def lc_nWLine_1 : LCon := lcb_nWLine_0 [.junk, .same (.fn 168 []), .junk, .junk, .junk, .int .u32, .junk, .junk, .junk, .tsl 1 1, .int .i64, .same (.il .i64 1), .junk, .junk, .junk, .junk, .junk, .junk, .junk, .junk, .junk, .junk, .junk, .junk, .junk]
noncomputable def L_nWLine : Nat → List LCon := fun k => match Nat.beq k (keyC (loopAt ffLpB 167 0).2) with | true => [lc_nWLine_0, lc_nWLine_1] | false => []
noncomputable def nWLine_L0 (out : Int) (n : Nat) (b : Mo.Bk) (K : S → List Ob → Prop) : Prop := lpF noW Tryz.prog tt ffLpB stopLpB L_nWLine 20 167 0 3 lc_nWLine_0 (acc_nWLine_0 out n b) (gcK 3 (optK (o_BK n) (ivK false K)))
noncomputable def nWLine_L1 (out : Int) (n : Nat) (b : Mo.Bk) (K : S → List Ob → Prop) : Prop := lpF noW Tryz.prog tt ffLpB stopLpB L_nWLine 20 167 0 3 lc_nWLine_1 (acc_nWLine_0 out n b) (gcK 3 (optK (o_BK n) (ivK false K)))
noncomputable def nWLine_tree (n : Nat) (b : Mo.Bk) (K : S → List Ob → Prop) : Prop := (((iL 0 (castI n)) = (iL 0 (castI n))) ∧ nWLine_L0 0 n b K)
theorem nWLine_run (n : Nat) (b : Mo.Bk) (K : S → List Ob → Prop) : callX (std noW) tt ffLpB stopLpB (lpB noW Tryz.prog) L_nWLine 20 167 [.ptr 0 (.l 0), .fn 168 []] (h_BK n b) (gcK 3 (optK (o_BK n) (ivK false K))) = nWLine_tree n b K := by kernel_rfl
noncomputable def nWLine_T (n : Nat) (b : Mo.Bk) (K : S → List Ob → Prop) : Prop := True ∧ nWLine_L0 0 n b K
theorem nWLine_all (n : Nat) (b : Mo.Bk) (K : S → List Ob → Prop) (h : nWLine_T n b K) : nWLine_tree n b K := by
  unfold nWLine_T at h; obtain ⟨h0, h⟩ := h; unfold nWLine_tree
  repeat' first | exact h | refine ⟨rfl, ?_⟩ | (refine ⟨h0.1, ?_⟩; replace h0 := h0.2) | refine ⟨h0, ?_⟩ | exact h0.elim | (refine ite_intro (fun c => ?_) fun c => ?_) <;> first | simp only [if_pos c] at h0 h | simp only [if_neg c] at h0 h | skip
theorem nWLine_sem (n : Nat) (b : Mo.Bk) (K : S → List Ob → Prop) (h : nWLine_T n b K) : CallSem noW Tryz.prog 167 [.ptr 0 (.l 0), .fn 168 []] (h_BK n b) K := opt_call (callX_ok tok (by kernel_rfl) ffLpBok stopLpB_ok _ _ _ _ (Eq.mpr (nWLine_run n b K) (nWLine_all n b K h)))
noncomputable def Mo.RnWLine_0_v1 (out : Int) (b : Mo.Bk) : Int := (if ((stdQ QO.not (Mo.cLine_v1 (Mo.Bk.c0 b)) (Mo.cLine_v1 (Mo.Bk.c0 b))) = true) then out else (Mo.bPut1_v1 out 0))
noncomputable def Mo.RnWLine_0_g1 (n : Nat) : Bool := (if ((iL 0 (castI n)) = true) then true else false)
noncomputable def Mo.RnWLine_0_pre (n : Nat) (b : Mo.Bk) : Prop := (if ((iL 0 (castI n)) = true) then (if ((stdQ QO.not (Mo.cLine_v1 (Mo.Bk.c0 b)) (Mo.cLine_v1 (Mo.Bk.c0 b))) = true) then True else (Mo.bPut1_pre 0)) else True)
noncomputable def RnWLine_0_tree (out : Int) (n : Nat) (b : Mo.Bk) (K : S → List Ob → Prop) : Prop := (if ((iL 0 (castI n)) = true) then (if ((iL 0 (castI n)) = true) then (((iL 0 (castI n)) = true) ∧ (True ∧ (if ((stdQ QO.not (Mo.cLine_v1 (Mo.Bk.c0 b)) (Mo.cLine_v1 (Mo.Bk.c0 b))) = true) then ((true = (iL 0 (castI n))) ∧ nWLine_L1 out n b K) else ((Mo.bPut1_pre 0) ∧ ((true = (iL 0 (castI n))) ∧ nWLine_L1 (Mo.bPut1_v1 out 0) n b K))))) else False) else K (.iv .u32 out) (h_BK n b))
theorem RnWLine_0_run (out : Int) (n : Nat) (b : Mo.Bk) (K : S → List Ob → Prop) : roundX (std noW) tt ffLpB stopLpB (lpB noW Tryz.prog) L_nWLine 20 167 0 3 (lc_nWLine_0.st (acc_nWLine_0 out n b)) (gcK 3 (optK (o_BK n) (ivK false K))) = RnWLine_0_tree out n b K := by kernel_rfl
noncomputable def RnWLine_0_T (out : Int) (n : Nat) (b : Mo.Bk) (K : S → List Ob → Prop) : Prop := Mo.RnWLine_0_pre n b ∧ (if (Mo.RnWLine_0_g1 n) = true then nWLine_L1 (Mo.RnWLine_0_v1 out b) n b K else K (.iv .u32 out) (h_BK n b))
theorem RnWLine_0_all (out : Int) (n : Nat) (b : Mo.Bk) (K : S → List Ob → Prop) (h : RnWLine_0_T out n b K) : RnWLine_0_tree out n b K := by
  unfold RnWLine_0_T at h; obtain ⟨h0, h⟩ := h; unfold RnWLine_0_tree
  try simp only [Mo.RnWLine_0_v1] at h0 h
  try simp only [Mo.RnWLine_0_g1] at h0 h
  try simp only [Mo.RnWLine_0_pre] at h0 h
  repeat' (first | (refine ite_intro (fun c => ?_) (fun c => ?_) <;> first | simp only [if_pos c] at h0 h | simp only [if_neg c] at h0 h | skip) | with_reducible (replace h0 := (h0 : True ∧ _).2) | with_reducible (refine ⟨rfl, ?_⟩) | with_reducible (refine ⟨h0.1, ?_⟩; replace h0 := h0.2) | with_reducible (refine ⟨h0, ?_⟩) | (refine ⟨h0.1, ?_⟩; replace h0 := h0.2) | refine ⟨h0, ?_⟩ | refine ⟨rfl, ?_⟩ | refine ⟨trivial, ?_⟩ | refine ⟨by assumption, ?_⟩ | refine ⟨Eq.symm (by assumption), ?_⟩ | exact h | refine ⟨?_, ?_⟩ | exact h0.elim | trivial | contradiction | (simp only [if_true, if_false, Bool.false_eq_true] at h; exact h))
theorem RnWLine_0_step (out : Int) (n : Nat) (b : Mo.Bk) (K : S → List Ob → Prop) (h : RnWLine_0_T out n b K) : nWLine_L0 out n b K := roundX_ok tok (by kernel_rfl) ffLpBok stopLpB_ok (Eq.mpr (RnWLine_0_run out n b K) (RnWLine_0_all out n b K h))
noncomputable def Mo.RnWLine_1_pre (n : Nat) : Prop := (if ((iL 1 (castI n)) = true) then False else True)
noncomputable def RnWLine_1_tree (out : Int) (n : Nat) (b : Mo.Bk) (K : S → List Ob → Prop) : Prop := (if ((iL 1 (castI n)) = true) then (if ((iL 1 (castI n)) = true) then False else False) else K (.iv .u32 out) (h_BK n b))
theorem RnWLine_1_run (out : Int) (n : Nat) (b : Mo.Bk) (K : S → List Ob → Prop) : roundX (std noW) tt ffLpB stopLpB (lpB noW Tryz.prog) L_nWLine 20 167 0 3 (lc_nWLine_1.st (acc_nWLine_0 out n b)) (gcK 3 (optK (o_BK n) (ivK false K))) = RnWLine_1_tree out n b K := by kernel_rfl
noncomputable def RnWLine_1_T (out : Int) (n : Nat) (b : Mo.Bk) (K : S → List Ob → Prop) : Prop := Mo.RnWLine_1_pre n ∧ K (.iv .u32 out) (h_BK n b)
theorem RnWLine_1_all (out : Int) (n : Nat) (b : Mo.Bk) (K : S → List Ob → Prop) (h : RnWLine_1_T out n b K) : RnWLine_1_tree out n b K := by
  unfold RnWLine_1_T at h; obtain ⟨h0, h⟩ := h; unfold RnWLine_1_tree
  try simp only [Mo.RnWLine_1_pre] at h0 h
  repeat' first | exact h | (refine ite_intro (fun c => ?_) fun c => ?_) <;> first | simp only [if_pos c] at h0 h | simp only [if_neg c] at h0 h | skip
theorem RnWLine_1_step (out : Int) (n : Nat) (b : Mo.Bk) (K : S → List Ob → Prop) (h : RnWLine_1_T out n b K) : nWLine_L1 out n b K := roundX_ok tok (by kernel_rfl) ffLpBok stopLpB_ok (Eq.mpr (RnWLine_1_run out n b K) (RnWLine_1_all out n b K h))
noncomputable def Mo.nWLine_p1 (n : Nat) : Prop := (Mo.RnWLine_1_pre n)
noncomputable def Mo.nWLine_f1_1 (out : Int) : Int := out
theorem nWLine_c1 (out : Int) (n : Nat) (b : Mo.Bk) (K : S → List Ob → Prop) (h0 : (Mo.nWLine_p1 n)) (h : K (.iv .u32 (Mo.nWLine_f1_1 out)) (h_BK n b)) : nWLine_L1 out n b K := by
  unfold Mo.nWLine_p1 at h0
  refine RnWLine_1_step out n b K ?_
  unfold RnWLine_1_T
  refine ⟨h0, ?_⟩
  try unfold Mo.nWLine_f1_1 at h
  exact h
noncomputable def Mo.nWLine_p0 (n : Nat) (b : Mo.Bk) : Prop := (Mo.RnWLine_0_pre n b) ∧ (if (Mo.RnWLine_0_g1 n) = true then (Mo.nWLine_p1 n) else True)
noncomputable def Mo.nWLine_f1_0 (out : Int) (n : Nat) (b : Mo.Bk) : Int := (if (Mo.RnWLine_0_g1 n) = true then (Mo.nWLine_f1_1 (Mo.RnWLine_0_v1 out b)) else out)
theorem nWLine_c0 (out : Int) (n : Nat) (b : Mo.Bk) (K : S → List Ob → Prop) (h0 : (Mo.nWLine_p0 n b)) (h : K (.iv .u32 (Mo.nWLine_f1_0 out n b)) (h_BK n b)) : nWLine_L0 out n b K := by
  unfold Mo.nWLine_p0 at h0
  refine RnWLine_0_step out n b K ?_
  unfold RnWLine_0_T
  refine ⟨h0.1, ?_⟩
  replace h0 := h0.2
  try unfold Mo.nWLine_f1_0 at h
  by_cases hg0 : (Mo.RnWLine_0_g1 n) = true
  · simp only [if_pos hg0] at h0 h ⊢
    exact nWLine_c1 _ _ _ K h0 h
  simp only [if_neg hg0] at h0 h ⊢
  exact h
noncomputable def Mo.nWLine_p (n : Nat) (b : Mo.Bk) : Prop := (Mo.nWLine_p0 n b)
noncomputable def Mo.nWLine_f1 (n : Nat) (b : Mo.Bk) : Int := (Mo.nWLine_f1_0 0 n b)
theorem nWLine_com (n : Nat) (b : Mo.Bk) (K : S → List Ob → Prop) (h0 : (Mo.nWLine_p n b)) (h : K (.iv .u32 (Mo.nWLine_f1 n b)) (h_BK n b)) : nWLine_T n b K := by
  unfold Mo.nWLine_p at h0
  unfold nWLine_T
  refine ⟨trivial, ?_⟩
  try unfold Mo.nWLine_f1 at h
  exact nWLine_c0 _ _ _ K h0 h
noncomputable def nWLine_J (n : Nat) (b : Mo.Bk) (K : S → List Ob → Prop) : Prop := (Mo.nWLine_p n b) ∧ K (.iv .u32 (Mo.nWLine_f1 n b)) (h_BK n b)
theorem nWLine_jsem (n : Nat) (b : Mo.Bk) (K : S → List Ob → Prop) (h : nWLine_J n b K) : CallSem noW Tryz.prog 167 [.ptr 0 (.l 0), .fn 168 []] (h_BK n b) K := nWLine_sem n b K (nWLine_com n b K h.1 h.2)
noncomputable def nWLine_con : Con := ⟨[.ptr 0, .same (.fn 168 [])], t_BK, [], fun a K => match a with | ⟨[(.ofNat n), (.ofNat q1)], [q2], [], [cs_b_c0], []⟩ => (match Mo.Cnt.is cs_b_c0 with | true => (q1 = n ∧ (q2 = (iL 0 (castI n)) ∧ nWLine_J n (Mo.Bk.mk (Mo.Cnt.of cs_b_c0)) K)) | false => False) | _ => False⟩
theorem nWLine_ok : nWLine_con.ok noW Tryz.prog 167 := by
  intro a K h
  simp only [nWLine_con] at h
  split at h
  case h_2 => exact h.elim
  split at h
  case h_2 => exact h.elim
  rename_i is_b_c0
  obtain ⟨rfl, h⟩ := h
  obtain ⟨rfl, h⟩ := h
  exact CallSem.objs (nWLine_jsem _ _ K h) (fun _ _ _ h => h) ⟨WkO.same, WkO.same, WkO.opt (Mo.Cnt.is_ok is_b_c0), trivial⟩
noncomputable def lcb_nWRuns_0 (tt : List Tm) : LCon := ⟨[false, true, false, false, false, true, false, false, false, true, true, true, false, false, false, false, false, false, false, false, false, false, false, false, false], [], tt, t_BK, [(0, fun a => (iL 0 (castI (nthI a.i 1).toNat)))]⟩
noncomputable def lc_nWRuns_0 : LCon := lcb_nWRuns_0 [.junk, .same (.fn 147 []), .junk, .junk, .junk, .int .u32, .junk, .junk, .junk, .tsl 1 1, .int .i64, .same (.il .i64 0), .junk, .junk, .junk, .junk, .junk, .junk, .junk, .junk, .junk, .junk, .junk, .junk, .junk]
noncomputable def acc_nWRuns_0 (out : Int) (n : Nat) (b : Mo.Bk) : Acc := ⟨[out, (Int.ofNat n), (castI n), (Int.ofNat n), (Int.ofNat n)], [(iL 0 (castI n))], [], [(Mo.Cnt.cells (Mo.Bk.c0 b))], []⟩
noncomputable def lc_nWRuns_1 : LCon := lcb_nWRuns_0 [.junk, .same (.fn 147 []), .junk, .junk, .junk, .int .u32, .junk, .junk, .junk, .tsl 1 1, .int .i64, .same (.il .i64 1), .junk, .junk, .junk, .junk, .junk, .junk, .junk, .junk, .junk, .junk, .junk, .junk, .junk]
noncomputable def L_nWRuns : Nat → List LCon := fun k => match Nat.beq k (keyC (loopAt ffLpB 167 0).2) with | true => [lc_nWRuns_0, lc_nWRuns_1] | false => []
noncomputable def nWRuns_L0 (out : Int) (n : Nat) (b : Mo.Bk) (K : S → List Ob → Prop) : Prop := lpF noW Tryz.prog tt ffLpB stopLpB L_nWRuns 20 167 0 3 lc_nWRuns_0 (acc_nWRuns_0 out n b) (gcK 3 (optK (o_BK n) (ivK false K)))
noncomputable def nWRuns_L1 (out : Int) (n : Nat) (b : Mo.Bk) (K : S → List Ob → Prop) : Prop := lpF noW Tryz.prog tt ffLpB stopLpB L_nWRuns 20 167 0 3 lc_nWRuns_1 (acc_nWRuns_0 out n b) (gcK 3 (optK (o_BK n) (ivK false K)))
noncomputable def nWRuns_tree (n : Nat) (b : Mo.Bk) (K : S → List Ob → Prop) : Prop := (((iL 0 (castI n)) = (iL 0 (castI n))) ∧ nWRuns_L0 0 n b K)
theorem nWRuns_run (n : Nat) (b : Mo.Bk) (K : S → List Ob → Prop) : callX (std noW) tt ffLpB stopLpB (lpB noW Tryz.prog) L_nWRuns 20 167 [.ptr 0 (.l 0), .fn 147 []] (h_BK n b) (gcK 3 (optK (o_BK n) (ivK false K))) = nWRuns_tree n b K := by kernel_rfl
noncomputable def nWRuns_T (n : Nat) (b : Mo.Bk) (K : S → List Ob → Prop) : Prop := True ∧ nWRuns_L0 0 n b K
theorem nWRuns_all (n : Nat) (b : Mo.Bk) (K : S → List Ob → Prop) (h : nWRuns_T n b K) : nWRuns_tree n b K := by
  unfold nWRuns_T at h; obtain ⟨h0, h⟩ := h; unfold nWRuns_tree
  repeat' first | exact h | refine ⟨rfl, ?_⟩ | (refine ⟨h0.1, ?_⟩; replace h0 := h0.2) | refine ⟨h0, ?_⟩ | exact h0.elim | (refine ite_intro (fun c => ?_) fun c => ?_) <;> first | simp only [if_pos c] at h0 h | simp only [if_neg c] at h0 h | skip
theorem nWRuns_sem (n : Nat) (b : Mo.Bk) (K : S → List Ob → Prop) (h : nWRuns_T n b K) : CallSem noW Tryz.prog 167 [.ptr 0 (.l 0), .fn 147 []] (h_BK n b) K := opt_call (callX_ok tok (by kernel_rfl) ffLpBok stopLpB_ok _ _ _ _ (Eq.mpr (nWRuns_run n b K) (nWRuns_all n b K h)))
noncomputable def Mo.RnWRuns_0_v1 (out : Int) (b : Mo.Bk) : Int := (if ((stdQ QO.not (iN (anw (Mo.Cnt.ct (Mo.Bk.c0 b)) 1) 0) (iN (anw (Mo.Cnt.ct (Mo.Bk.c0 b)) 1) 0)) = true) then out else (Mo.bPut1_v1 out 0))
noncomputable def Mo.RnWRuns_0_g1 (n : Nat) : Bool := (if ((iL 0 (castI n)) = true) then true else false)
noncomputable def Mo.RnWRuns_0_pre (n : Nat) (b : Mo.Bk) : Prop := (if ((iL 0 (castI n)) = true) then (if ((stdQ QO.not (iN (anw (Mo.Cnt.ct (Mo.Bk.c0 b)) 1) 0) (iN (anw (Mo.Cnt.ct (Mo.Bk.c0 b)) 1) 0)) = true) then True else (Mo.bPut1_pre 0)) else True)
noncomputable def RnWRuns_0_tree (out : Int) (n : Nat) (b : Mo.Bk) (K : S → List Ob → Prop) : Prop := (if ((iL 0 (castI n)) = true) then (if ((iL 0 (castI n)) = true) then (((iL 0 (castI n)) = true) ∧ (True ∧ (if ((stdQ QO.not (iN (anw (Mo.Cnt.ct (Mo.Bk.c0 b)) 1) 0) (iN (anw (Mo.Cnt.ct (Mo.Bk.c0 b)) 1) 0)) = true) then ((true = (iL 0 (castI n))) ∧ nWRuns_L1 out n b K) else ((Mo.bPut1_pre 0) ∧ ((true = (iL 0 (castI n))) ∧ nWRuns_L1 (Mo.bPut1_v1 out 0) n b K))))) else False) else K (.iv .u32 out) (h_BK n b))
theorem RnWRuns_0_run (out : Int) (n : Nat) (b : Mo.Bk) (K : S → List Ob → Prop) : roundX (std noW) tt ffLpB stopLpB (lpB noW Tryz.prog) L_nWRuns 20 167 0 3 (lc_nWRuns_0.st (acc_nWRuns_0 out n b)) (gcK 3 (optK (o_BK n) (ivK false K))) = RnWRuns_0_tree out n b K := by kernel_rfl
noncomputable def RnWRuns_0_T (out : Int) (n : Nat) (b : Mo.Bk) (K : S → List Ob → Prop) : Prop := Mo.RnWRuns_0_pre n b ∧ (if (Mo.RnWRuns_0_g1 n) = true then nWRuns_L1 (Mo.RnWRuns_0_v1 out b) n b K else K (.iv .u32 out) (h_BK n b))
theorem RnWRuns_0_all (out : Int) (n : Nat) (b : Mo.Bk) (K : S → List Ob → Prop) (h : RnWRuns_0_T out n b K) : RnWRuns_0_tree out n b K := by
  unfold RnWRuns_0_T at h; obtain ⟨h0, h⟩ := h; unfold RnWRuns_0_tree
  try simp only [Mo.RnWRuns_0_v1] at h0 h
  try simp only [Mo.RnWRuns_0_g1] at h0 h
  try simp only [Mo.RnWRuns_0_pre] at h0 h
  repeat' (first | (refine ite_intro (fun c => ?_) (fun c => ?_) <;> first | simp only [if_pos c] at h0 h | simp only [if_neg c] at h0 h | skip) | with_reducible (replace h0 := (h0 : True ∧ _).2) | with_reducible (refine ⟨rfl, ?_⟩) | with_reducible (refine ⟨h0.1, ?_⟩; replace h0 := h0.2) | with_reducible (refine ⟨h0, ?_⟩) | (refine ⟨h0.1, ?_⟩; replace h0 := h0.2) | refine ⟨h0, ?_⟩ | refine ⟨rfl, ?_⟩ | refine ⟨trivial, ?_⟩ | refine ⟨by assumption, ?_⟩ | refine ⟨Eq.symm (by assumption), ?_⟩ | exact h | refine ⟨?_, ?_⟩ | exact h0.elim | trivial | contradiction | (simp only [if_true, if_false, Bool.false_eq_true] at h; exact h))
theorem RnWRuns_0_step (out : Int) (n : Nat) (b : Mo.Bk) (K : S → List Ob → Prop) (h : RnWRuns_0_T out n b K) : nWRuns_L0 out n b K := roundX_ok tok (by kernel_rfl) ffLpBok stopLpB_ok (Eq.mpr (RnWRuns_0_run out n b K) (RnWRuns_0_all out n b K h))
noncomputable def Mo.RnWRuns_1_pre (n : Nat) : Prop := (if ((iL 1 (castI n)) = true) then False else True)
noncomputable def RnWRuns_1_tree (out : Int) (n : Nat) (b : Mo.Bk) (K : S → List Ob → Prop) : Prop := (if ((iL 1 (castI n)) = true) then (if ((iL 1 (castI n)) = true) then False else False) else K (.iv .u32 out) (h_BK n b))
theorem RnWRuns_1_run (out : Int) (n : Nat) (b : Mo.Bk) (K : S → List Ob → Prop) : roundX (std noW) tt ffLpB stopLpB (lpB noW Tryz.prog) L_nWRuns 20 167 0 3 (lc_nWRuns_1.st (acc_nWRuns_0 out n b)) (gcK 3 (optK (o_BK n) (ivK false K))) = RnWRuns_1_tree out n b K := by kernel_rfl
noncomputable def RnWRuns_1_T (out : Int) (n : Nat) (b : Mo.Bk) (K : S → List Ob → Prop) : Prop := Mo.RnWRuns_1_pre n ∧ K (.iv .u32 out) (h_BK n b)
theorem RnWRuns_1_all (out : Int) (n : Nat) (b : Mo.Bk) (K : S → List Ob → Prop) (h : RnWRuns_1_T out n b K) : RnWRuns_1_tree out n b K := by
  unfold RnWRuns_1_T at h; obtain ⟨h0, h⟩ := h; unfold RnWRuns_1_tree
  try simp only [Mo.RnWRuns_1_pre] at h0 h
  repeat' first | exact h | (refine ite_intro (fun c => ?_) fun c => ?_) <;> first | simp only [if_pos c] at h0 h | simp only [if_neg c] at h0 h | skip
theorem RnWRuns_1_step (out : Int) (n : Nat) (b : Mo.Bk) (K : S → List Ob → Prop) (h : RnWRuns_1_T out n b K) : nWRuns_L1 out n b K := roundX_ok tok (by kernel_rfl) ffLpBok stopLpB_ok (Eq.mpr (RnWRuns_1_run out n b K) (RnWRuns_1_all out n b K h))
noncomputable def Mo.nWRuns_p1 (n : Nat) : Prop := (Mo.RnWRuns_1_pre n)
noncomputable def Mo.nWRuns_f1_1 (out : Int) : Int := out
theorem nWRuns_c1 (out : Int) (n : Nat) (b : Mo.Bk) (K : S → List Ob → Prop) (h0 : (Mo.nWRuns_p1 n)) (h : K (.iv .u32 (Mo.nWRuns_f1_1 out)) (h_BK n b)) : nWRuns_L1 out n b K := by
  unfold Mo.nWRuns_p1 at h0
  refine RnWRuns_1_step out n b K ?_
  unfold RnWRuns_1_T
  refine ⟨h0, ?_⟩
  try unfold Mo.nWRuns_f1_1 at h
  exact h
noncomputable def Mo.nWRuns_p0 (n : Nat) (b : Mo.Bk) : Prop := (Mo.RnWRuns_0_pre n b) ∧ (if (Mo.RnWRuns_0_g1 n) = true then (Mo.nWRuns_p1 n) else True)
noncomputable def Mo.nWRuns_f1_0 (out : Int) (n : Nat) (b : Mo.Bk) : Int := (if (Mo.RnWRuns_0_g1 n) = true then (Mo.nWRuns_f1_1 (Mo.RnWRuns_0_v1 out b)) else out)
theorem nWRuns_c0 (out : Int) (n : Nat) (b : Mo.Bk) (K : S → List Ob → Prop) (h0 : (Mo.nWRuns_p0 n b)) (h : K (.iv .u32 (Mo.nWRuns_f1_0 out n b)) (h_BK n b)) : nWRuns_L0 out n b K := by
  unfold Mo.nWRuns_p0 at h0
  refine RnWRuns_0_step out n b K ?_
  unfold RnWRuns_0_T
  refine ⟨h0.1, ?_⟩
  replace h0 := h0.2
  try unfold Mo.nWRuns_f1_0 at h
  by_cases hg0 : (Mo.RnWRuns_0_g1 n) = true
  · simp only [if_pos hg0] at h0 h ⊢
    exact nWRuns_c1 _ _ _ K h0 h
  simp only [if_neg hg0] at h0 h ⊢
  exact h
noncomputable def Mo.nWRuns_p (n : Nat) (b : Mo.Bk) : Prop := (Mo.nWRuns_p0 n b)
noncomputable def Mo.nWRuns_f1 (n : Nat) (b : Mo.Bk) : Int := (Mo.nWRuns_f1_0 0 n b)
theorem nWRuns_com (n : Nat) (b : Mo.Bk) (K : S → List Ob → Prop) (h0 : (Mo.nWRuns_p n b)) (h : K (.iv .u32 (Mo.nWRuns_f1 n b)) (h_BK n b)) : nWRuns_T n b K := by
  unfold Mo.nWRuns_p at h0
  unfold nWRuns_T
  refine ⟨trivial, ?_⟩
  try unfold Mo.nWRuns_f1 at h
  exact nWRuns_c0 _ _ _ K h0 h
noncomputable def nWRuns_J (n : Nat) (b : Mo.Bk) (K : S → List Ob → Prop) : Prop := (Mo.nWRuns_p n b) ∧ K (.iv .u32 (Mo.nWRuns_f1 n b)) (h_BK n b)
theorem nWRuns_jsem (n : Nat) (b : Mo.Bk) (K : S → List Ob → Prop) (h : nWRuns_J n b K) : CallSem noW Tryz.prog 167 [.ptr 0 (.l 0), .fn 147 []] (h_BK n b) K := nWRuns_sem n b K (nWRuns_com n b K h.1 h.2)
noncomputable def nWRuns_con : Con := ⟨[.ptr 0, .same (.fn 147 [])], t_BK, [], fun a K => match a with | ⟨[(.ofNat n), (.ofNat q1)], [q2], [], [cs_b_c0], []⟩ => (match Mo.Cnt.is cs_b_c0 with | true => (q1 = n ∧ (q2 = (iL 0 (castI n)) ∧ nWRuns_J n (Mo.Bk.mk (Mo.Cnt.of cs_b_c0)) K)) | false => False) | _ => False⟩
theorem nWRuns_ok : nWRuns_con.ok noW Tryz.prog 167 := by
  intro a K h
  simp only [nWRuns_con] at h
  split at h
  case h_2 => exact h.elim
  split at h
  case h_2 => exact h.elim
  rename_i is_b_c0
  obtain ⟨rfl, h⟩ := h
  obtain ⟨rfl, h⟩ := h
  exact CallSem.objs (nWRuns_jsem _ _ K h) (fun _ _ _ h => h) ⟨WkO.same, WkO.same, WkO.opt (Mo.Cnt.is_ok is_b_c0), trivial⟩
noncomputable def lcb_nReset_0 (tt : List Tm) : LCon := ⟨[false, false, false, false, false, true, true, true, false, false, false, false, false, false], [], tt, t_BK, [(0, fun a => (iL 0 (castI (nthI a.i 0).toNat)))]⟩
noncomputable def lc_nReset_0 : LCon := lcb_nReset_0 [.junk, .junk, .junk, .junk, .junk, .tsl 1 1, .int .i64, .same (.il .i64 0), .junk, .junk, .junk, .junk, .junk, .junk]
noncomputable def acc_nReset_0 (n : Nat) (b : Mo.Bk) : Acc := ⟨[(Int.ofNat n), (castI n), (Int.ofNat n), (Int.ofNat n)], [(iL 0 (castI n))], [], [(Mo.Cnt.cells (Mo.Bk.c0 b))], []⟩
noncomputable def lc_nReset_1 : LCon := lcb_nReset_0 [.junk, .junk, .junk, .junk, .junk, .tsl 1 1, .int .i64, .same (.il .i64 1), .junk, .junk, .junk, .junk, .junk, .junk]
noncomputable def L_nReset : Nat → List LCon := fun k => match Nat.beq k (keyC (loopAt ffLpB 219 0).2) with | true => [lc_nReset_0, lc_nReset_1] | false => []
noncomputable def nReset_L0 (n : Nat) (b : Mo.Bk) (K : S → List Ob → Prop) : Prop := lpF noW Tryz.prog tt ffLpB stopLpB L_nReset 20 219 0 3 lc_nReset_0 (acc_nReset_0 n b) (gcK 3 (optK (o_BK n) (ivK false K)))
noncomputable def nReset_L1 (n : Nat) (b : Mo.Bk) (K : S → List Ob → Prop) : Prop := lpF noW Tryz.prog tt ffLpB stopLpB L_nReset 20 219 0 3 lc_nReset_1 (acc_nReset_0 n b) (gcK 3 (optK (o_BK n) (ivK false K)))
noncomputable def nReset_tree (n : Nat) (b : Mo.Bk) (K : S → List Ob → Prop) : Prop := (((iL 0 (castI n)) = (iL 0 (castI n))) ∧ nReset_L0 n b K)
theorem nReset_run (n : Nat) (b : Mo.Bk) (K : S → List Ob → Prop) : callX (std noW) tt ffLpB stopLpB (lpB noW Tryz.prog) L_nReset 20 219 [.ptr 0 (.l 0)] (h_BK n b) (gcK 3 (optK (o_BK n) (ivK false K))) = nReset_tree n b K := by kernel_rfl
noncomputable def nReset_T (n : Nat) (b : Mo.Bk) (K : S → List Ob → Prop) : Prop := True ∧ nReset_L0 n b K
theorem nReset_all (n : Nat) (b : Mo.Bk) (K : S → List Ob → Prop) (h : nReset_T n b K) : nReset_tree n b K := by
  unfold nReset_T at h; obtain ⟨h0, h⟩ := h; unfold nReset_tree
  repeat' first | exact h | refine ⟨rfl, ?_⟩ | (refine ⟨h0.1, ?_⟩; replace h0 := h0.2) | refine ⟨h0, ?_⟩ | exact h0.elim | (refine ite_intro (fun c => ?_) fun c => ?_) <;> first | simp only [if_pos c] at h0 h | simp only [if_neg c] at h0 h | skip
theorem nReset_sem (n : Nat) (b : Mo.Bk) (K : S → List Ob → Prop) (h : nReset_T n b K) : CallSem noW Tryz.prog 219 [.ptr 0 (.l 0)] (h_BK n b) K := opt_call (callX_ok tok (by kernel_rfl) ffLpBok stopLpB_ok _ _ _ _ (Eq.mpr (nReset_run n b K) (nReset_all n b K h)))
noncomputable def Mo.RnReset_0_v1 (b : Mo.Bk) : Mo.Bk := (Mo.Bk.mk (Mo.cReset_v1 (Mo.Bk.c0 b)))
noncomputable def Mo.RnReset_0_g1 (n : Nat) : Bool := (if ((iL 0 (castI n)) = true) then true else false)
noncomputable def RnReset_0_tree (n : Nat) (b : Mo.Bk) (K : S → List Ob → Prop) : Prop := (if ((iL 0 (castI n)) = true) then (if ((iL 0 (castI n)) = true) then (((iL 0 (castI n)) = true) ∧ (True ∧ ((true = (iL 0 (castI n))) ∧ nReset_L1 n (Mo.Bk.mk (Mo.cReset_v1 (Mo.Bk.c0 b))) K))) else False) else K (.tup []) (h_BK n b))
theorem RnReset_0_run (n : Nat) (b : Mo.Bk) (K : S → List Ob → Prop) : roundX (std noW) tt ffLpB stopLpB (lpB noW Tryz.prog) L_nReset 20 219 0 3 (lc_nReset_0.st (acc_nReset_0 n b)) (gcK 3 (optK (o_BK n) (ivK false K))) = RnReset_0_tree n b K := by kernel_rfl
noncomputable def RnReset_0_T (n : Nat) (b : Mo.Bk) (K : S → List Ob → Prop) : Prop := True ∧ (if (Mo.RnReset_0_g1 n) = true then nReset_L1 n (Mo.RnReset_0_v1 b) K else K (.tup []) (h_BK n b))
theorem RnReset_0_all (n : Nat) (b : Mo.Bk) (K : S → List Ob → Prop) (h : RnReset_0_T n b K) : RnReset_0_tree n b K := by
  unfold RnReset_0_T at h; obtain ⟨h0, h⟩ := h; unfold RnReset_0_tree
  try simp only [Mo.RnReset_0_v1] at h0 h
  try simp only [Mo.RnReset_0_g1] at h0 h
  repeat' (first | (refine ite_intro (fun c => ?_) (fun c => ?_) <;> first | simp only [if_pos c] at h0 h | simp only [if_neg c] at h0 h | skip) | with_reducible (replace h0 := (h0 : True ∧ _).2) | with_reducible (refine ⟨rfl, ?_⟩) | with_reducible (refine ⟨h0.1, ?_⟩; replace h0 := h0.2) | with_reducible (refine ⟨h0, ?_⟩) | (refine ⟨h0.1, ?_⟩; replace h0 := h0.2) | refine ⟨h0, ?_⟩ | refine ⟨rfl, ?_⟩ | refine ⟨trivial, ?_⟩ | refine ⟨by assumption, ?_⟩ | refine ⟨Eq.symm (by assumption), ?_⟩ | exact h | refine ⟨?_, ?_⟩ | exact h0.elim | trivial | contradiction | (simp only [if_true, if_false, Bool.false_eq_true] at h; exact h))
theorem RnReset_0_step (n : Nat) (b : Mo.Bk) (K : S → List Ob → Prop) (h : RnReset_0_T n b K) : nReset_L0 n b K := roundX_ok tok (by kernel_rfl) ffLpBok stopLpB_ok (Eq.mpr (RnReset_0_run n b K) (RnReset_0_all n b K h))
noncomputable def Mo.RnReset_1_pre (n : Nat) : Prop := (if ((iL 1 (castI n)) = true) then False else True)
noncomputable def RnReset_1_tree (n : Nat) (b : Mo.Bk) (K : S → List Ob → Prop) : Prop := (if ((iL 1 (castI n)) = true) then (if ((iL 1 (castI n)) = true) then False else False) else K (.tup []) (h_BK n b))
theorem RnReset_1_run (n : Nat) (b : Mo.Bk) (K : S → List Ob → Prop) : roundX (std noW) tt ffLpB stopLpB (lpB noW Tryz.prog) L_nReset 20 219 0 3 (lc_nReset_1.st (acc_nReset_0 n b)) (gcK 3 (optK (o_BK n) (ivK false K))) = RnReset_1_tree n b K := by kernel_rfl
noncomputable def RnReset_1_T (n : Nat) (b : Mo.Bk) (K : S → List Ob → Prop) : Prop := Mo.RnReset_1_pre n ∧ K (.tup []) (h_BK n b)
theorem RnReset_1_all (n : Nat) (b : Mo.Bk) (K : S → List Ob → Prop) (h : RnReset_1_T n b K) : RnReset_1_tree n b K := by
  unfold RnReset_1_T at h; obtain ⟨h0, h⟩ := h; unfold RnReset_1_tree
  try simp only [Mo.RnReset_1_pre] at h0 h
  repeat' first | exact h | (refine ite_intro (fun c => ?_) fun c => ?_) <;> first | simp only [if_pos c] at h0 h | simp only [if_neg c] at h0 h | skip
theorem RnReset_1_step (n : Nat) (b : Mo.Bk) (K : S → List Ob → Prop) (h : RnReset_1_T n b K) : nReset_L1 n b K := roundX_ok tok (by kernel_rfl) ffLpBok stopLpB_ok (Eq.mpr (RnReset_1_run n b K) (RnReset_1_all n b K h))
noncomputable def Mo.nReset_p1 (n : Nat) : Prop := (Mo.RnReset_1_pre n)
noncomputable def Mo.nReset_f2_1 (b : Mo.Bk) : Mo.Bk := b
theorem nReset_c1 (n : Nat) (b : Mo.Bk) (K : S → List Ob → Prop) (h0 : (Mo.nReset_p1 n)) (h : K (.tup []) (h_BK n (Mo.nReset_f2_1 b))) : nReset_L1 n b K := by
  unfold Mo.nReset_p1 at h0
  refine RnReset_1_step n b K ?_
  unfold RnReset_1_T
  refine ⟨h0, ?_⟩
  try unfold Mo.nReset_f2_1 at h
  exact h
noncomputable def Mo.nReset_p0 (n : Nat) : Prop := (if (Mo.RnReset_0_g1 n) = true then (Mo.nReset_p1 n) else True)
noncomputable def Mo.nReset_f2_0 (n : Nat) (b : Mo.Bk) : Mo.Bk := (if (Mo.RnReset_0_g1 n) = true then (Mo.nReset_f2_1 (Mo.RnReset_0_v1 b)) else b)
theorem nReset_c0 (n : Nat) (b : Mo.Bk) (K : S → List Ob → Prop) (h0 : (Mo.nReset_p0 n)) (h : K (.tup []) (h_BK n (Mo.nReset_f2_0 n b))) : nReset_L0 n b K := by
  unfold Mo.nReset_p0 at h0
  refine RnReset_0_step n b K ?_
  unfold RnReset_0_T
  refine ⟨trivial, ?_⟩
  try unfold Mo.nReset_f2_0 at h
  by_cases hg0 : (Mo.RnReset_0_g1 n) = true
  · simp only [if_pos hg0] at h0 h ⊢
    exact nReset_c1 _ _ K h0 h
  simp only [if_neg hg0] at h0 h ⊢
  exact h
noncomputable def Mo.nReset_p (n : Nat) : Prop := (Mo.nReset_p0 n)
noncomputable def Mo.nReset_f2 (n : Nat) (b : Mo.Bk) : Mo.Bk := (Mo.nReset_f2_0 n b)
theorem nReset_com (n : Nat) (b : Mo.Bk) (K : S → List Ob → Prop) (h0 : (Mo.nReset_p n)) (h : K (.tup []) (h_BK n (Mo.nReset_f2 n b))) : nReset_T n b K := by
  unfold Mo.nReset_p at h0
  unfold nReset_T
  refine ⟨trivial, ?_⟩
  try unfold Mo.nReset_f2 at h
  exact nReset_c0 _ _ K h0 h
noncomputable def nReset_J (n : Nat) (b : Mo.Bk) (K : S → List Ob → Prop) : Prop := (Mo.nReset_p n) ∧ K (.tup []) (h_BK n (Mo.nReset_f2 n b))
theorem nReset_jsem (n : Nat) (b : Mo.Bk) (K : S → List Ob → Prop) (h : nReset_J n b K) : CallSem noW Tryz.prog 219 [.ptr 0 (.l 0)] (h_BK n b) K := nReset_sem n b K (nReset_com n b K h.1 h.2)
noncomputable def nReset_con : Con := ⟨[.ptr 0], t_BK, [], fun a K => match a with | ⟨[(.ofNat n), (.ofNat q1)], [q2], [], [cs_b_c0], []⟩ => (match Mo.Cnt.is cs_b_c0 with | true => (q1 = n ∧ (q2 = (iL 0 (castI n)) ∧ nReset_J n (Mo.Bk.mk (Mo.Cnt.of cs_b_c0)) K)) | false => False) | _ => False⟩
theorem nReset_ok : nReset_con.ok noW Tryz.prog 219 := by
  intro a K h
  simp only [nReset_con] at h
  split at h
  case h_2 => exact h.elim
  split at h
  case h_2 => exact h.elim
  rename_i is_b_c0
  obtain ⟨rfl, h⟩ := h
  obtain ⟨rfl, h⟩ := h
  exact CallSem.objs (nReset_jsem _ _ K h) (fun _ _ _ h => h) ⟨WkO.same, WkO.same, WkO.opt (Mo.Cnt.is_ok is_b_c0), trivial⟩
noncomputable def Mo.nLoad_v1 (off : Int) (n : Nat) (b : Mo.Bk) : Int := (if ((iN (rmw off 4) 0) = true) then 0 else (if ((iM (castI n) (cvi (srw off 5) 0)) = true) then 0 else (if ((iM 16 (srw (anw off 31) 0)) = true) then 0 else (Mo.cLoad_v1 (srw (anw off 31) 0) (Mo.Bk.c0 b)))))
noncomputable def Mo.nLoad_v2 (off : Int) (n : Nat) : Int := (if ((iN (rmw off 4) 0) = true) then 11 else (if ((iM (castI n) (cvi (srw off 5) 0)) = true) then 10 else (if ((iM 16 (srw (anw off 31) 0)) = true) then 10 else (Mo.cLoad_v2 (srw (anw off 31) 0)))))
noncomputable def Mo.nLoad_pre (off : Int) (n : Nat) : Prop := (if ((iN (rmw off 4) 0) = true) then True else (if ((iM (castI n) (cvi (srw off 5) 0)) = true) then True else (if ((iM 16 (srw (anw off 31) 0)) = true) then True else (if ((iM 0 (cvi (srw off 5) 0)) = true) then (if ((iL (cvi (srw off 5) 0) (castI n)) = true) then (((iL 0 (castI n)) = true) ∧ ((Mo.cLoad_pre (srw (anw off 31) 0)) ∧ ((iL 0 (castI n)) = true))) else False) else False))))
noncomputable def nLoad_tree (off : Int) (n : Nat) (b : Mo.Bk) (K : S → List Ob → Prop) : Prop := (if ((iN (rmw off 4) 0) = true) then K (.tup [(.iv .u32 0), (.iv .i64 11)]) (h_BK n b) else (if ((iM (castI n) (cvi (srw off 5) 0)) = true) then K (.tup [(.iv .u32 0), (.iv .i64 10)]) (h_BK n b) else (if ((iM 16 (srw (anw off 31) 0)) = true) then K (.tup [(.iv .u32 0), (.iv .i64 10)]) (h_BK n b) else (if ((iM 0 (cvi (srw off 5) 0)) = true) then (if ((iL (cvi (srw off 5) 0) (castI n)) = true) then (((iL 0 (castI n)) = true) ∧ ((Mo.cLoad_pre (srw (anw off 31) 0)) ∧ (((iL 0 (castI n)) = true) ∧ K (.tup [(.iv .u32 (Mo.cLoad_v1 (srw (anw off 31) 0) (Mo.Bk.c0 b))), (.iv .i64 (Mo.cLoad_v2 (srw (anw off 31) 0)))]) (h_BK n b)))) else False) else False))))
theorem nLoad_run (off : Int) (n : Nat) (b : Mo.Bk) (K : S → List Ob → Prop) : callX (std noW) tt ffLpB stopLpB (lpB noW Tryz.prog) noL 60 218 [.ptr 0 (.l 0), .iv .u32 off] (h_BK n b) (gcK 3 (optK (o_BK n) (ivK true K))) = nLoad_tree off n b K := by kernel_rfl
noncomputable def nLoad_T (off : Int) (n : Nat) (b : Mo.Bk) (K : S → List Ob → Prop) : Prop := Mo.nLoad_pre off n ∧ K (.tup [(.iv .u32 (Mo.nLoad_v1 off n b)), (.iv .i64 (Mo.nLoad_v2 off n))]) (h_BK n b)
theorem nLoad_all (off : Int) (n : Nat) (b : Mo.Bk) (K : S → List Ob → Prop) (h : nLoad_T off n b K) : nLoad_tree off n b K := by
  unfold nLoad_T at h; obtain ⟨h0, h⟩ := h; unfold nLoad_tree
  try simp only [Mo.nLoad_v1] at h0 h
  try simp only [Mo.nLoad_v2] at h0 h
  try simp only [Mo.nLoad_pre] at h0 h
  repeat' first | exact h | refine ⟨rfl, ?_⟩ | (refine ⟨h0.1, ?_⟩; replace h0 := h0.2) | refine ⟨h0, ?_⟩ | exact h0.elim | (refine ite_intro (fun c => ?_) fun c => ?_) <;> first | simp only [if_pos c] at h0 h | simp only [if_neg c] at h0 h | skip
theorem nLoad_sem (off : Int) (n : Nat) (b : Mo.Bk) (K : S → List Ob → Prop) (h : nLoad_T off n b K) : CallSem noW Tryz.prog 218 [.ptr 0 (.l 0), .iv .u32 off] (h_BK n b) K := opt_call (callX_ok tok (by kernel_rfl) ffLpBok stopLpB_ok _ _ _ _ (Eq.mpr (nLoad_run off n b K) (nLoad_all off n b K h)))
noncomputable def nLoad_con : Con := ⟨[.ptr 0, .int .u32], t_BK, [], fun a K => match a with | ⟨[off, (.ofNat n), (.ofNat q1)], [q2], [], [cs_b_c0], []⟩ => (match Mo.Cnt.is cs_b_c0 with | true => (q1 = n ∧ (q2 = (iL 0 (castI n)) ∧ nLoad_T off n (Mo.Bk.mk (Mo.Cnt.of cs_b_c0)) K)) | false => False) | _ => False⟩
theorem nLoad_ok : nLoad_con.ok noW Tryz.prog 218 := by
  intro a K h
  simp only [nLoad_con] at h
  split at h
  case h_2 => exact h.elim
  split at h
  case h_2 => exact h.elim
  rename_i is_b_c0
  obtain ⟨rfl, h⟩ := h
  obtain ⟨rfl, h⟩ := h
  exact CallSem.objs (nLoad_sem _ _ _ K h) (fun _ _ _ h => h) ⟨WkO.same, WkO.same, WkO.opt (Mo.Cnt.is_ok is_b_c0), trivial⟩
noncomputable def Mo.nStore_v1 (off : Int) (n : Nat) : Int := (if ((iN (rmw off 4) 0) = true) then 11 else (if ((iM (castI n) (cvi (srw off 5) 0)) = true) then 10 else (if ((iM 16 (srw (anw off 31) 0)) = true) then 10 else (Mo.cStore_v1 (srw (anw off 31) 0)))))
noncomputable def Mo.nStore_v2 (off : Int) (v : Int) (n : Nat) (b : Mo.Bk) : Mo.Bk := (if ((iN (rmw off 4) 0) = true) then b else (if ((iM (castI n) (cvi (srw off 5) 0)) = true) then b else (if ((iM 16 (srw (anw off 31) 0)) = true) then b else (Mo.Bk.mk (Mo.cStore_v2 (srw (anw off 31) 0) v (Mo.Bk.c0 b))))))
noncomputable def Mo.nStore_pre (off : Int) (n : Nat) : Prop := (if ((iN (rmw off 4) 0) = true) then True else (if ((iM (castI n) (cvi (srw off 5) 0)) = true) then True else (if ((iM 16 (srw (anw off 31) 0)) = true) then True else (if ((iM 0 (cvi (srw off 5) 0)) = true) then (if ((iL (cvi (srw off 5) 0) (castI n)) = true) then (((iL 0 (castI n)) = true) ∧ ((iL 0 (castI n)) = true)) else False) else False))))
noncomputable def nStore_tree (off : Int) (v : Int) (n : Nat) (b : Mo.Bk) (K : S → List Ob → Prop) : Prop := (if ((iN (rmw off 4) 0) = true) then K (.iv .i64 11) (h_BK n b) else (if ((iM (castI n) (cvi (srw off 5) 0)) = true) then K (.iv .i64 10) (h_BK n b) else (if ((iM 16 (srw (anw off 31) 0)) = true) then K (.iv .i64 10) (h_BK n b) else (if ((iM 0 (cvi (srw off 5) 0)) = true) then (if ((iL (cvi (srw off 5) 0) (castI n)) = true) then (((iL 0 (castI n)) = true) ∧ (True ∧ (((iL 0 (castI n)) = true) ∧ K (.iv .i64 (Mo.cStore_v1 (srw (anw off 31) 0))) (h_BK n (Mo.Bk.mk (Mo.cStore_v2 (srw (anw off 31) 0) v (Mo.Bk.c0 b))))))) else False) else False))))
theorem nStore_run (off : Int) (v : Int) (n : Nat) (b : Mo.Bk) (K : S → List Ob → Prop) : callX (std noW) tt ffLpB stopLpB (lpB noW Tryz.prog) noL 60 220 [.ptr 0 (.l 0), .iv .u32 off, .iv .u32 v] (h_BK n b) (gcK 3 (optK (o_BK n) (ivK true K))) = nStore_tree off v n b K := by kernel_rfl
noncomputable def nStore_T (off : Int) (v : Int) (n : Nat) (b : Mo.Bk) (K : S → List Ob → Prop) : Prop := Mo.nStore_pre off n ∧ K (.iv .i64 (Mo.nStore_v1 off n)) (h_BK n (Mo.nStore_v2 off v n b))
theorem nStore_all (off : Int) (v : Int) (n : Nat) (b : Mo.Bk) (K : S → List Ob → Prop) (h : nStore_T off v n b K) : nStore_tree off v n b K := by
  unfold nStore_T at h; obtain ⟨h0, h⟩ := h; unfold nStore_tree
  try simp only [Mo.nStore_v1] at h0 h
  try simp only [Mo.nStore_v2] at h0 h
  try simp only [Mo.nStore_pre] at h0 h
  repeat' (first | (refine ite_intro (fun c => ?_) (fun c => ?_) <;> first | simp only [if_pos c] at h0 h | simp only [if_neg c] at h0 h | skip) | with_reducible (replace h0 := (h0 : True ∧ _).2) | with_reducible (refine ⟨rfl, ?_⟩) | with_reducible (refine ⟨h0.1, ?_⟩; replace h0 := h0.2) | with_reducible (refine ⟨h0, ?_⟩) | (refine ⟨h0.1, ?_⟩; replace h0 := h0.2) | refine ⟨h0, ?_⟩ | refine ⟨rfl, ?_⟩ | refine ⟨trivial, ?_⟩ | refine ⟨by assumption, ?_⟩ | refine ⟨Eq.symm (by assumption), ?_⟩ | exact h | refine ⟨?_, ?_⟩ | exact h0.elim | trivial | contradiction | (simp only [if_true, if_false, Bool.false_eq_true] at h; exact h))
theorem nStore_sem (off : Int) (v : Int) (n : Nat) (b : Mo.Bk) (K : S → List Ob → Prop) (h : nStore_T off v n b K) : CallSem noW Tryz.prog 220 [.ptr 0 (.l 0), .iv .u32 off, .iv .u32 v] (h_BK n b) K := opt_call (callX_ok tok (by kernel_rfl) ffLpBok stopLpB_ok _ _ _ _ (Eq.mpr (nStore_run off v n b K) (nStore_all off v n b K h)))
noncomputable def nStore_con : Con := ⟨[.ptr 0, .int .u32, .int .u32], t_BK, [], fun a K => match a with | ⟨[off, v, (.ofNat n), (.ofNat q1)], [q2], [], [cs_b_c0], []⟩ => (match Mo.Cnt.is cs_b_c0 with | true => (q1 = n ∧ (q2 = (iL 0 (castI n)) ∧ nStore_T off v n (Mo.Bk.mk (Mo.Cnt.of cs_b_c0)) K)) | false => False) | _ => False⟩
theorem nStore_ok : nStore_con.ok noW Tryz.prog 220 := by
  intro a K h
  simp only [nStore_con] at h
  split at h
  case h_2 => exact h.elim
  split at h
  case h_2 => exact h.elim
  rename_i is_b_c0
  obtain ⟨rfl, h⟩ := h
  obtain ⟨rfl, h⟩ := h
  exact CallSem.objs (nStore_sem _ _ _ _ K h) (fun _ _ _ h => h) ⟨WkO.same, WkO.same, WkO.opt (Mo.Cnt.is_ok is_b_c0), trivial⟩
noncomputable def tabLpC (n : Nat) : List Con := match Nat.beq n 214 with | true => [kLoad_con] | false => match Nat.beq n 215 with | true => [kStore_con] | false => match Nat.beq n 79 with | true => [nTick_con] | false => match Nat.beq n 167 with | true => [nWLine_con, nWRuns_con] | false => match Nat.beq n 219 with | true => [nReset_con] | false => match Nat.beq n 218 with | true => [nLoad_con] | false => match Nat.beq n 220 with | true => [nStore_con] | false => tabLpB n
theorem tabLpC_ok : ∀ f, ∀ c ∈ tabLpC f, c.ok noW Tryz.prog f := by
  intro f c hc
  unfold tabLpC at hc
  split at hc
  · rename_i hf; have := Nat.eq_of_beq_eq_true hf; subst this
    simp only [List.mem_cons, List.not_mem_nil, or_false] at hc
    subst hc; exact kLoad_ok
  split at hc
  · rename_i hf; have := Nat.eq_of_beq_eq_true hf; subst this
    simp only [List.mem_cons, List.not_mem_nil, or_false] at hc
    subst hc; exact kStore_ok
  split at hc
  · rename_i hf; have := Nat.eq_of_beq_eq_true hf; subst this
    simp only [List.mem_cons, List.not_mem_nil, or_false] at hc
    subst hc; exact nTick_ok
  split at hc
  · rename_i hf; have := Nat.eq_of_beq_eq_true hf; subst this
    simp only [List.mem_cons, List.not_mem_nil, or_false] at hc
    rcases hc with rfl | rfl
    · exact nWLine_ok
    · exact nWRuns_ok
  split at hc
  · rename_i hf; have := Nat.eq_of_beq_eq_true hf; subst this
    simp only [List.mem_cons, List.not_mem_nil, or_false] at hc
    subst hc; exact nReset_ok
  split at hc
  · rename_i hf; have := Nat.eq_of_beq_eq_true hf; subst this
    simp only [List.mem_cons, List.not_mem_nil, or_false] at hc
    subst hc; exact nLoad_ok
  split at hc
  · rename_i hf; have := Nat.eq_of_beq_eq_true hf; subst this
    simp only [List.mem_cons, List.not_mem_nil, or_false] at hc
    subst hc; exact nStore_ok
  exact tabLpB_ok f c hc
noncomputable def ffLpC (n : Nat) : Option FI := match Nat.beq n 214 with | true => none | false => match Nat.beq n 215 with | true => none | false => match Nat.beq n 79 with | true => none | false => match Nat.beq n 167 with | true => none | false => match Nat.beq n 219 with | true => none | false => match Nat.beq n 218 with | true => none | false => match Nat.beq n 220 with | true => none | false => ffLpB n
theorem ffLpCok : FOk Tryz.prog ffLpC := fun f fi hf => by
  unfold ffLpC at hf
  split at hf
  · cases hf
  split at hf
  · cases hf
  split at hf
  · cases hf
  split at hf
  · cases hf
  split at hf
  · cases hf
  split at hf
  · cases hf
  split at hf
  · cases hf
  exact ffLpBok f fi hf
noncomputable def stopLpC : CallT := stopC tabLpC stopB
theorem stopLpC_ok : ∀ f args h K, stopLpC f args h K → CallSem noW Tryz.prog f args h K := stopC_ok tabLpC_ok stopB_ok
end Go.SX.Y
