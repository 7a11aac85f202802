/- The walk of the law BoardNil: its run, reckoned. -/
import Derived.Test.YtjhejbajkkehjaaGreatDoorSxFresh
set_option maxRecDepth 20000
namespace Go.SX.Y
open Go.Proofs Go.RowKit
theorem known11_run : (SX.runN (std noW) tt ffB stopB 400).1 6 [] [] isTrue = (S.bl true = S.bl true) := by kernel_rfl
theorem stop11_ok : ∀ f args h K, stopN 6 f args h K → CallSem noW Tryz.prog f args h K :=
  stopN_ok (kn := 6) (n := 400) (fi := fi6) (by kernel_rfl) known11_run
def yes : Prop := S.bl true = S.bl true
def no : Prop := S.bl false = S.bl true
theorem boardNil_tree (a v n : Int) : (SX.runN (std noW) tt (ffN 6) (stopN 6) 400).1 3 [.iv .u32 a, .iv .u32 v, .iv .u64 n] [] isTrue =
    (if stdB .ne (stdA .rem .u32 a 4) 0 = true then (if stdB .ne (stdA .rem .u32 a 4) 0 = true then (if stdB .ne (stdA .rem .u32 a 4) 0 = true then yes else no) else no) else (if stdB .ne (stdA .rem .u32 a 4) 0 = true then no else (if stdB .ne (stdA .rem .u32 a 4) 0 = true then no else yes))) := by kernel_rfl
theorem boardNil_all (a : Int) :
    (if stdB .ne (stdA .rem .u32 a 4) 0 = true then (if stdB .ne (stdA .rem .u32 a 4) 0 = true then (if stdB .ne (stdA .rem .u32 a 4) 0 = true then yes else no) else no) else (if stdB .ne (stdA .rem .u32 a 4) 0 = true then no else (if stdB .ne (stdA .rem .u32 a 4) 0 = true then no else yes))) := by
  have hy : yes := rfl
  by_cases h : stdB .ne (stdA .rem .u32 a 4) 0 = true
  · simp only [if_pos h]; exact hy
  · simp only [if_neg h]; exact hy
theorem boardNil_walk (a0 a1 a2 : Int) (w : World) : Calls Tryz.prog 3 #[.int .u32 a0, .int .u32 a1, .int .u64 a2] w fun e w' => e = .returned (.bool true) ∧ Below w.heap.size w w' :=
  run_calls2 (ffNok 6) stop11_ok (fi := fi3) (by kernel_rfl) (boardNil_tree a0 a1 a2) (boardNil_all a0) [.int .u32 a0, .int .u32 a1, .int .u64 a2] (oks_cons (by simp only [S.ok]) (oks_cons (by simp only [S.ok]) (oks_cons (by simp only [S.ok]) oks_nil))) w
end Go.SX.Y
