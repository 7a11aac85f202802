/- The walk of the law ShotWords: its run, reckoned with the two numbers left open. -/
import Derived.Test.YtjhejbajkkehjaaGreatSxTr
set_option maxRecDepth 20000
namespace Go.SX.Y
open Go.Proofs Go.RowKit
def swNo : Prop := false = true
def sw1 (a : Int) : Int := stdA .or .u64 18446744069414584320 (stdA .conv .u64 (stdA .conv .u32 (stdA .rem .u64 a 4294967296) 0) 0)
def sw2 (a : Int) : Int := stdA .or .u64 (stdA .shl .u64 (stdA .conv .u64 (stdA .conv .u32 (stdA .quo .u64 a 4294967296) 0) 0) 32) (stdA .conv .u64 (stdA .conv .u32 (sw1 a) 0) 0)
def sw3 (a : Int) : Int := stdA .or .u64 (stdA .shl .u64 (stdA .conv .u64 (stdA .conv .u32 (stdA .shr .u64 (sw2 a) 32) 0) 0) 32) 4294967295
def sw4 (a d : Int) : Int := stdA .or .u64 (stdA .shl .u64 (stdA .conv .u64 (stdA .conv .u32 (stdA .shr .u64 d 32) 0) 0) 32) (stdA .conv .u64 (stdA .conv .u32 (sw3 a) 0) 0)
def sw5 (a d : Int) : Int := stdA .or .u64 (stdA .shl .u64 (stdA .conv .u64 (stdA .conv .u32 (stdA .shr .u64 (sw4 a d) 32) 0) 0) 32) (stdA .conv .u64 (stdA .conv .u32 d 0) 0)
def swLeaf (a d : Int) : Prop := if stdB .le (stdA .min .u64 a d) (sw3 a) = true then (if stdB .le (stdA .min .u64 a d) (sw4 a d) = true then stdB .eq (sw5 a d) d = true else swNo) else swNo
def swT5 (a d : Int) : Prop := if stdB .le (sw5 a d) 0 = true then swLeaf a d else swLeaf a d
def swT4 (a d : Int) : Prop := if stdB .le (sw4 a d) 0 = true then swT5 a d else swT5 a d
def swT3 (a d : Int) : Prop := if stdB .le (sw3 a) 0 = true then swT4 a d else swT4 a d
def swT2 (a d : Int) : Prop := if stdB .le (sw2 a) 0 = true then swT3 a d else swT3 a d
def swT1 (a d : Int) : Prop := if stdB .le (sw1 a) 0 = true then swT2 a d else swT2 a d
theorem shotWords_tree (a d : Int) : (SX.runN (std noW) tt ffB stopB 400).1 5 [.iv .u64 a, .iv .u64 d] [] isTr = swT1 a d := by kernel_rfl
end Go.SX.Y
