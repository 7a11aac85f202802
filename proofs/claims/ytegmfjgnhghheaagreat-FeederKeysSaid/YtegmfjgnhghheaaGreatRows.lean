/-
  No cell of these rows narrows 'for every input' (looked for: loops, veiled, ifaces, maps, wideKeys, modest, calm, conditions, laid).
  DERIVED. THE GIVEN ROWS OF THIS SEAT. 2 by the template 'for every input the law returns true; each argument reads behind the call as it read before'; 0 by the template 'total and deterministic' (their statements: YtegmfjgnhghheaaGreatTotals.lean).
  GIVEN WITH THE SEED: the statements are not yours to turn. If you find one false, say at which input.
  Laid BY PROGRAM, IN A SANDBOX (cutbox-rows.mjs): the forced cells as the released guide's own fill.sh prints them over the translation 849a54b10513039b… (all of the seat's roots in one cut). By AI agents, Wed Nov 11 2026. No macro, syntax, notation, axiom, sorry.
-/
import Derived.Test.YtegmfjgnhghheaaGreatChecked
import GoSem.Claim
import GoSem.ClaimJoined
import GoSem.ClaimMapViews
import Derived.JoinedTies
import Derived.KernelRfl
namespace Go.Proofs.YtegmfjgnhghheaaGreat
/- THE CELL 'sum', in the pinned program and in every row, IS THE sha256 OF THE DUMP (.gsa) THAT YtegmfjgnhghheaaGreatProg.lean LOADS. Nothing in Lean hashes anything: it is a label: what it is worth is what the hold of that sum in a sandbox is worth. -/
noncomputable def Tryz.pinned : Pinned := { name := "ytegmfjgnhghheaagreat", sum := "849a54b10513039be7923a8e46d159de481036d549b2645f2012e14948a87685", checked := Tryz.checked }
namespace Rows
def none {H : Type} : Left H := { results := [], args := [] }

/-- 'minuterielaw21.FeederKeys': WHATEVER THE INPUT: true; the input reads as it did. -/
def feederKeysSpec : ChangeSpec := { name := "feederKeys", fn := fun _ => fun
  | [d1, d2, d3, d4] => { results := [.lit (.bool true)], args := [d1, d2, d3, d4] }
  | _ => none }
def feederKeysRow : OpenClaim := { program := "ytegmfjgnhghheaagreat", sum := "849a54b10513039be7923a8e46d159de481036d549b2645f2012e14948a87685", func := "minuterie/minuterielaw21.FeederKeys", spec := "feederKeys", inPlace := ["math/bits.Add64"], unfollowed := true, recurses := true, plainKeys := false, apart := false }
def FeederKeysSaid : Prop := feederKeysRow.holds Tryz.pinned (OpenSpec.ofChange feederKeysSpec)

/-- ITS FALSE NEIGHBOUR: 'it returns false'. Refute it at one input. -/
def feederKeysWrong : ChangeSpec := { name := "feederKeys", fn := fun _ => fun
  | [d1, d2, d3, d4] => { results := [.lit (.bool false)], args := [d1, d2, d3, d4] }
  | _ => none }
def FeederKeysWrongFalsely : Prop := feederKeysRow.holds Tryz.pinned (OpenSpec.ofChange feederKeysWrong)

/-- 'minuterielaw22.AlarmRings': WHATEVER THE INPUT: true; the input reads as it did. -/
def alarmRingsSpec : ChangeSpec := { name := "alarmRings", fn := fun _ => fun
  | [d1, d2, d3, d4] => { results := [.lit (.bool true)], args := [d1, d2, d3, d4] }
  | _ => none }
def alarmRingsRow : OpenClaim := { program := "ytegmfjgnhghheaagreat", sum := "849a54b10513039be7923a8e46d159de481036d549b2645f2012e14948a87685", func := "minuterie/minuterielaw22.AlarmRings", spec := "alarmRings", inPlace := ["math/bits.Add64"], unfollowed := true, recurses := true, plainKeys := false, apart := false }
def AlarmRingsSaid : Prop := alarmRingsRow.holds Tryz.pinned (OpenSpec.ofChange alarmRingsSpec)

/-- ITS FALSE NEIGHBOUR: 'it returns false'. Refute it at one input. -/
def alarmRingsWrong : ChangeSpec := { name := "alarmRings", fn := fun _ => fun
  | [d1, d2, d3, d4] => { results := [.lit (.bool false)], args := [d1, d2, d3, d4] }
  | _ => none }
def AlarmRingsWrongFalsely : Prop := alarmRingsRow.holds Tryz.pinned (OpenSpec.ofChange alarmRingsWrong)

/- THE SECOND FORM. 'bulk': how many values and letters a reading holds, each counted each time it is reached (what is shared counts as often as it is met; a slice's spare places count too). A statement '..UptoSaid' is the law's where the arguments, and the package variables that the reading takes, are together of bulk at most 1048576: NARROWER than '..Said'. Prove '..Said' where nothing that the law and all that it calls make is longer than what came in: it says more and counts as full. Else prove '..UptoSaid'. A law counts once. -/
mutual
def uptoBulk {H : Type} : DataW H → Nat
  | .lit (.string bytes) => bytes.length + 1
  | .lit _ => 1
  | .nil => 1
  | .ptr d => uptoBulk d + 1
  | .slice elems spare => uptoBulkAll elems + uptoBulkAll spare + 1
  | .agg parts => uptoBulkAll parts + 1
  | .iface _ d => uptoBulk d + 1
  | .map entries => uptoBulkEntries entries + 1
  | .held _ => 1
def uptoBulkAll {H : Type} : List (DataW H) → Nat
  | [] => 0
  | d :: r => uptoBulk d + uptoBulkAll r
def uptoBulkEntries {H : Type} : List (Lit × DataW H) → Nat
  | [] => 0
  | x :: r => uptoBulkEntry x + uptoBulkEntries r
def uptoBulkEntry {H : Type} : Lit × DataW H → Nat
  | (.string bytes, d) => bytes.length + uptoBulk d + 1
  | (_, d) => uptoBulk d + 1
 end
def uptoSmall : (H : Type) → List (DataW H) → Bool := fun _ ds => decide (uptoBulkAll ds ≤ 1048576)
def OpenSpec.upto (s : _root_.Go.ChangeSpec) : _root_.Go.OpenSpec := { _root_.Go.OpenSpec.ofChange s with cond := some uptoSmall }

/-- 'minuterielaw21.FeederKeys', WHERE WHAT IT READS IS OF BULK AT MOST 1048576: true; the input reads as it did. -/
def feederKeysUptoRow : OpenClaim := { program := "ytegmfjgnhghheaagreat", sum := "849a54b10513039be7923a8e46d159de481036d549b2645f2012e14948a87685", func := "minuterie/minuterielaw21.FeederKeys", spec := "feederKeys", inPlace := ["math/bits.Add64"], unfollowed := true, recurses := true, plainKeys := false, apart := false, narrowed := true }
def FeederKeysUptoSaid : Prop := feederKeysUptoRow.holds Tryz.pinned (OpenSpec.upto feederKeysSpec)

/-- 'minuterielaw22.AlarmRings', WHERE WHAT IT READS IS OF BULK AT MOST 1048576: true; the input reads as it did. -/
def alarmRingsUptoRow : OpenClaim := { program := "ytegmfjgnhghheaagreat", sum := "849a54b10513039be7923a8e46d159de481036d549b2645f2012e14948a87685", func := "minuterie/minuterielaw22.AlarmRings", spec := "alarmRings", inPlace := ["math/bits.Add64"], unfollowed := true, recurses := true, plainKeys := false, apart := false, narrowed := true }
def AlarmRingsUptoSaid : Prop := alarmRingsUptoRow.holds Tryz.pinned (OpenSpec.upto alarmRingsSpec)

end Rows
end Go.Proofs.YtegmfjgnhghheaaGreat
