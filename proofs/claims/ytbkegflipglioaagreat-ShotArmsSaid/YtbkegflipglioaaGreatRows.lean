/-
  No cell of these rows narrows 'for every input' (looked for: loops, veiled, ifaces, maps, wideKeys, modest, calm, conditions, laid).
  DERIVED. THE GIVEN ROWS OF THIS SEAT. 8 by the template 'for every input the law returns true; each argument reads behind the call as it read before'; 0 by the template 'total and deterministic' (their statements: YtbkegflipglioaaGreatTotals.lean).
  GIVEN WITH THE SEED: the statements are not yours to turn. If you find one false, say at which input.
  Laid BY PROGRAM, IN A SANDBOX (cutbox-rows.mjs): the forced cells as the released guide's own fill.sh prints them over the translation d8620c5b94ad52bf… (all of the seat's roots in one cut). By AI agents, Wed Nov 11 2026. No macro, syntax, notation, axiom, sorry.
-/
import Derived.Test.YtbkegflipglioaaGreatChecked
import GoSem.Claim
import GoSem.ClaimJoined
import GoSem.ClaimMapViews
import Derived.JoinedTies
import Derived.KernelRfl
namespace Go.Proofs.YtbkegflipglioaaGreat
/- THE CELL 'sum', in the pinned program and in every row, IS THE sha256 OF THE DUMP (.gsa) THAT YtbkegflipglioaaGreatProg.lean LOADS. Nothing in Lean hashes anything: it is a label: what it is worth is what the hold of that sum in a sandbox is worth. -/
noncomputable def Tryz.pinned : Pinned := { name := "ytbkegflipglioaagreat", sum := "d8620c5b94ad52bf5c10c4f125b84c7224ea604ffcb543c578c2d0c8390f6821", checked := Tryz.checked }
namespace Rows
def none {H : Type} : Left H := { results := [], args := [] }

/-- 'minuterielaw22.AlarmRings': WHATEVER THE INPUT: true; the input reads as it did. -/
def alarmRingsSpec : ChangeSpec := { name := "alarmRings", fn := fun _ => fun
  | [d1, d2, d3, d4] => { results := [.lit (.bool true)], args := [d1, d2, d3, d4] }
  | _ => none }
def alarmRingsRow : OpenClaim := { program := "ytbkegflipglioaagreat", sum := "d8620c5b94ad52bf5c10c4f125b84c7224ea604ffcb543c578c2d0c8390f6821", func := "minuterie/minuterielaw22.AlarmRings", spec := "alarmRings", inPlace := ["math/bits.Add64"], unfollowed := true, recurses := true, plainKeys := false, apart := false }
def AlarmRingsSaid : Prop := alarmRingsRow.holds Tryz.pinned (OpenSpec.ofChange alarmRingsSpec)

/-- ITS FALSE NEIGHBOUR: 'it returns false'. Refute it at one input. -/
def alarmRingsWrong : ChangeSpec := { name := "alarmRings", fn := fun _ => fun
  | [d1, d2, d3, d4] => { results := [.lit (.bool false)], args := [d1, d2, d3, d4] }
  | _ => none }
def AlarmRingsWrongFalsely : Prop := alarmRingsRow.holds Tryz.pinned (OpenSpec.ofChange alarmRingsWrong)

/-- 'minuterielaw22.AlarmSets': WHATEVER THE INPUT: true; the input reads as it did. -/
def alarmSetsSpec : ChangeSpec := { name := "alarmSets", fn := fun _ => fun
  | [d1, d2, d3, d4] => { results := [.lit (.bool true)], args := [d1, d2, d3, d4] }
  | _ => none }
def alarmSetsRow : OpenClaim := { program := "ytbkegflipglioaagreat", sum := "d8620c5b94ad52bf5c10c4f125b84c7224ea604ffcb543c578c2d0c8390f6821", func := "minuterie/minuterielaw22.AlarmSets", spec := "alarmSets", inPlace := ["math/bits.Add64"], unfollowed := true, recurses := true, plainKeys := false, apart := false }
def AlarmSetsSaid : Prop := alarmSetsRow.holds Tryz.pinned (OpenSpec.ofChange alarmSetsSpec)

/-- ITS FALSE NEIGHBOUR: 'it returns false'. Refute it at one input. -/
def alarmSetsWrong : ChangeSpec := { name := "alarmSets", fn := fun _ => fun
  | [d1, d2, d3, d4] => { results := [.lit (.bool false)], args := [d1, d2, d3, d4] }
  | _ => none }
def AlarmSetsWrongFalsely : Prop := alarmSetsRow.holds Tryz.pinned (OpenSpec.ofChange alarmSetsWrong)

/-- 'minuterielaw28.ImageStores': WHATEVER THE INPUT: true; the input reads as it did. -/
def imageStoresSpec : ChangeSpec := { name := "imageStores", fn := fun _ => fun
  | [d1, d2, d3, d4] => { results := [.lit (.bool true)], args := [d1, d2, d3, d4] }
  | _ => none }
def imageStoresRow : OpenClaim := { program := "ytbkegflipglioaagreat", sum := "d8620c5b94ad52bf5c10c4f125b84c7224ea604ffcb543c578c2d0c8390f6821", func := "minuterie/minuterielaw28.ImageStores", spec := "imageStores", inPlace := ["math/bits.Add64", "internal/abi.NoEscape"], unfollowed := true, recurses := true, plainKeys := false, apart := false }
def ImageStoresSaid : Prop := imageStoresRow.holds Tryz.pinned (OpenSpec.ofChange imageStoresSpec)

/-- ITS FALSE NEIGHBOUR: 'it returns false'. Refute it at one input. -/
def imageStoresWrong : ChangeSpec := { name := "imageStores", fn := fun _ => fun
  | [d1, d2, d3, d4] => { results := [.lit (.bool false)], args := [d1, d2, d3, d4] }
  | _ => none }
def ImageStoresWrongFalsely : Prop := imageStoresRow.holds Tryz.pinned (OpenSpec.ofChange imageStoresWrong)

/-- 'minuterielaw23.TickerRings': WHATEVER THE INPUT: true; the input reads as it did. -/
def tickerRingsSpec : ChangeSpec := { name := "tickerRings", fn := fun _ => fun
  | [d1, d2, d3, d4] => { results := [.lit (.bool true)], args := [d1, d2, d3, d4] }
  | _ => none }
def tickerRingsRow : OpenClaim := { program := "ytbkegflipglioaagreat", sum := "d8620c5b94ad52bf5c10c4f125b84c7224ea604ffcb543c578c2d0c8390f6821", func := "minuterie/minuterielaw23.TickerRings", spec := "tickerRings", inPlace := ["math/bits.Add64"], unfollowed := true, recurses := true, plainKeys := false, apart := false }
def TickerRingsSaid : Prop := tickerRingsRow.holds Tryz.pinned (OpenSpec.ofChange tickerRingsSpec)

/-- ITS FALSE NEIGHBOUR: 'it returns false'. Refute it at one input. -/
def tickerRingsWrong : ChangeSpec := { name := "tickerRings", fn := fun _ => fun
  | [d1, d2, d3, d4] => { results := [.lit (.bool false)], args := [d1, d2, d3, d4] }
  | _ => none }
def TickerRingsWrongFalsely : Prop := tickerRingsRow.holds Tryz.pinned (OpenSpec.ofChange tickerRingsWrong)

/-- 'minuterielaw23.TickerFalls': WHATEVER THE INPUT: true; the input reads as it did. -/
def tickerFallsSpec : ChangeSpec := { name := "tickerFalls", fn := fun _ => fun
  | [d1, d2, d3, d4] => { results := [.lit (.bool true)], args := [d1, d2, d3, d4] }
  | _ => none }
def tickerFallsRow : OpenClaim := { program := "ytbkegflipglioaagreat", sum := "d8620c5b94ad52bf5c10c4f125b84c7224ea604ffcb543c578c2d0c8390f6821", func := "minuterie/minuterielaw23.TickerFalls", spec := "tickerFalls", inPlace := ["math/bits.Add64"], unfollowed := true, recurses := true, plainKeys := false, apart := false }
def TickerFallsSaid : Prop := tickerFallsRow.holds Tryz.pinned (OpenSpec.ofChange tickerFallsSpec)

/-- ITS FALSE NEIGHBOUR: 'it returns false'. Refute it at one input. -/
def tickerFallsWrong : ChangeSpec := { name := "tickerFalls", fn := fun _ => fun
  | [d1, d2, d3, d4] => { results := [.lit (.bool false)], args := [d1, d2, d3, d4] }
  | _ => none }
def TickerFallsWrongFalsely : Prop := tickerFallsRow.holds Tryz.pinned (OpenSpec.ofChange tickerFallsWrong)

/-- 'minuterielaw21.FeederCares': WHATEVER THE INPUT: true; the input reads as it did. -/
def feederCaresSpec : ChangeSpec := { name := "feederCares", fn := fun _ => fun
  | [d1, d2, d3, d4, d5] => { results := [.lit (.bool true)], args := [d1, d2, d3, d4, d5] }
  | _ => none }
def feederCaresRow : OpenClaim := { program := "ytbkegflipglioaagreat", sum := "d8620c5b94ad52bf5c10c4f125b84c7224ea604ffcb543c578c2d0c8390f6821", func := "minuterie/minuterielaw21.FeederCares", spec := "feederCares", inPlace := ["math/bits.Add64"], unfollowed := true, recurses := true, plainKeys := false, apart := false }
def FeederCaresSaid : Prop := feederCaresRow.holds Tryz.pinned (OpenSpec.ofChange feederCaresSpec)

/-- ITS FALSE NEIGHBOUR: 'it returns false'. Refute it at one input. -/
def feederCaresWrong : ChangeSpec := { name := "feederCares", fn := fun _ => fun
  | [d1, d2, d3, d4, d5] => { results := [.lit (.bool false)], args := [d1, d2, d3, d4, d5] }
  | _ => none }
def FeederCaresWrongFalsely : Prop := feederCaresRow.holds Tryz.pinned (OpenSpec.ofChange feederCaresWrong)

/-- 'minuterielaw14.ShotArms': WHATEVER THE INPUT: true; the input reads as it did. -/
def shotArmsSpec : ChangeSpec := { name := "shotArms", fn := fun _ => fun
  | [d1, d2, d3, d4] => { results := [.lit (.bool true)], args := [d1, d2, d3, d4] }
  | _ => none }
def shotArmsRow : OpenClaim := { program := "ytbkegflipglioaagreat", sum := "d8620c5b94ad52bf5c10c4f125b84c7224ea604ffcb543c578c2d0c8390f6821", func := "minuterie/minuterielaw14.ShotArms", spec := "shotArms", inPlace := ["math/bits.Add64"], unfollowed := true, recurses := true, plainKeys := false, apart := false }
def ShotArmsSaid : Prop := shotArmsRow.holds Tryz.pinned (OpenSpec.ofChange shotArmsSpec)

/-- ITS FALSE NEIGHBOUR: 'it returns false'. Refute it at one input. -/
def shotArmsWrong : ChangeSpec := { name := "shotArms", fn := fun _ => fun
  | [d1, d2, d3, d4] => { results := [.lit (.bool false)], args := [d1, d2, d3, d4] }
  | _ => none }
def ShotArmsWrongFalsely : Prop := shotArmsRow.holds Tryz.pinned (OpenSpec.ofChange shotArmsWrong)

/-- 'minuterielaw12.PortSpends': WHATEVER THE INPUT: true; the input reads as it did. -/
def portSpendsSpec : ChangeSpec := { name := "portSpends", fn := fun _ => fun
  | [d1, d2, d3] => { results := [.lit (.bool true)], args := [d1, d2, d3] }
  | _ => none }
def portSpendsRow : OpenClaim := { program := "ytbkegflipglioaagreat", sum := "d8620c5b94ad52bf5c10c4f125b84c7224ea604ffcb543c578c2d0c8390f6821", func := "minuterie/minuterielaw12.PortSpends", spec := "portSpends", inPlace := ["math/bits.Add64"], unfollowed := true, recurses := true, plainKeys := false, apart := false }
def PortSpendsSaid : Prop := portSpendsRow.holds Tryz.pinned (OpenSpec.ofChange portSpendsSpec)

/-- ITS FALSE NEIGHBOUR: 'it returns false'. Refute it at one input. -/
def portSpendsWrong : ChangeSpec := { name := "portSpends", fn := fun _ => fun
  | [d1, d2, d3] => { results := [.lit (.bool false)], args := [d1, d2, d3] }
  | _ => none }
def PortSpendsWrongFalsely : Prop := portSpendsRow.holds Tryz.pinned (OpenSpec.ofChange portSpendsWrong)

/- THE SECOND FORM. 'bulk': how many values and letters a reading holds, each counted each time it is reached (what is shared counts as often as it is met; a slice's spare places count too). A statement '..UptoSaid' is the law's where the arguments, and the package variables that the reading takes, are together of bulk at most 1048576: NARROWER than '..Said'. Prove '..Said' where nothing that the law and all that it calls make is longer than what came in: it says more and counts as full. Else prove '..UptoSaid'. A law counts once. -/
mutual
def uptoBulk {H : Type} : DataW H → Nat
  | .lit (.string bytes) => bytes.length + 1
  | .lit _ => 1
  | .nil => 1
  | .ptr d => uptoBulk d + 1
  | .slice elems spare => uptoBulkAll elems + uptoBulkAll spare + 1
  | .agg parts => uptoBulkAll parts + 1
  | .iface _ d => uptoBulk d + 1
  | .map entries => uptoBulkEntries entries + 1
  | .held _ => 1
def uptoBulkAll {H : Type} : List (DataW H) → Nat
  | [] => 0
  | d :: r => uptoBulk d + uptoBulkAll r
def uptoBulkEntries {H : Type} : List (Lit × DataW H) → Nat
  | [] => 0
  | x :: r => uptoBulkEntry x + uptoBulkEntries r
def uptoBulkEntry {H : Type} : Lit × DataW H → Nat
  | (.string bytes, d) => bytes.length + uptoBulk d + 1
  | (_, d) => uptoBulk d + 1
 end
def uptoSmall : (H : Type) → List (DataW H) → Bool := fun _ ds => decide (uptoBulkAll ds ≤ 1048576)
def OpenSpec.upto (s : _root_.Go.ChangeSpec) : _root_.Go.OpenSpec := { _root_.Go.OpenSpec.ofChange s with cond := some uptoSmall }

/-- 'minuterielaw22.AlarmRings', WHERE WHAT IT READS IS OF BULK AT MOST 1048576: true; the input reads as it did. -/
def alarmRingsUptoRow : OpenClaim := { program := "ytbkegflipglioaagreat", sum := "d8620c5b94ad52bf5c10c4f125b84c7224ea604ffcb543c578c2d0c8390f6821", func := "minuterie/minuterielaw22.AlarmRings", spec := "alarmRings", inPlace := ["math/bits.Add64"], unfollowed := true, recurses := true, plainKeys := false, apart := false, narrowed := true }
def AlarmRingsUptoSaid : Prop := alarmRingsUptoRow.holds Tryz.pinned (OpenSpec.upto alarmRingsSpec)

/-- 'minuterielaw22.AlarmSets', WHERE WHAT IT READS IS OF BULK AT MOST 1048576: true; the input reads as it did. -/
def alarmSetsUptoRow : OpenClaim := { program := "ytbkegflipglioaagreat", sum := "d8620c5b94ad52bf5c10c4f125b84c7224ea604ffcb543c578c2d0c8390f6821", func := "minuterie/minuterielaw22.AlarmSets", spec := "alarmSets", inPlace := ["math/bits.Add64"], unfollowed := true, recurses := true, plainKeys := false, apart := false, narrowed := true }
def AlarmSetsUptoSaid : Prop := alarmSetsUptoRow.holds Tryz.pinned (OpenSpec.upto alarmSetsSpec)

/-- 'minuterielaw28.ImageStores', WHERE WHAT IT READS IS OF BULK AT MOST 1048576: true; the input reads as it did. -/
def imageStoresUptoRow : OpenClaim := { program := "ytbkegflipglioaagreat", sum := "d8620c5b94ad52bf5c10c4f125b84c7224ea604ffcb543c578c2d0c8390f6821", func := "minuterie/minuterielaw28.ImageStores", spec := "imageStores", inPlace := ["math/bits.Add64", "internal/abi.NoEscape"], unfollowed := true, recurses := true, plainKeys := false, apart := false, narrowed := true }
def ImageStoresUptoSaid : Prop := imageStoresUptoRow.holds Tryz.pinned (OpenSpec.upto imageStoresSpec)

/-- 'minuterielaw23.TickerRings', WHERE WHAT IT READS IS OF BULK AT MOST 1048576: true; the input reads as it did. -/
def tickerRingsUptoRow : OpenClaim := { program := "ytbkegflipglioaagreat", sum := "d8620c5b94ad52bf5c10c4f125b84c7224ea604ffcb543c578c2d0c8390f6821", func := "minuterie/minuterielaw23.TickerRings", spec := "tickerRings", inPlace := ["math/bits.Add64"], unfollowed := true, recurses := true, plainKeys := false, apart := false, narrowed := true }
def TickerRingsUptoSaid : Prop := tickerRingsUptoRow.holds Tryz.pinned (OpenSpec.upto tickerRingsSpec)

/-- 'minuterielaw23.TickerFalls', WHERE WHAT IT READS IS OF BULK AT MOST 1048576: true; the input reads as it did. -/
def tickerFallsUptoRow : OpenClaim := { program := "ytbkegflipglioaagreat", sum := "d8620c5b94ad52bf5c10c4f125b84c7224ea604ffcb543c578c2d0c8390f6821", func := "minuterie/minuterielaw23.TickerFalls", spec := "tickerFalls", inPlace := ["math/bits.Add64"], unfollowed := true, recurses := true, plainKeys := false, apart := false, narrowed := true }
def TickerFallsUptoSaid : Prop := tickerFallsUptoRow.holds Tryz.pinned (OpenSpec.upto tickerFallsSpec)

/-- 'minuterielaw21.FeederCares', WHERE WHAT IT READS IS OF BULK AT MOST 1048576: true; the input reads as it did. -/
def feederCaresUptoRow : OpenClaim := { program := "ytbkegflipglioaagreat", sum := "d8620c5b94ad52bf5c10c4f125b84c7224ea604ffcb543c578c2d0c8390f6821", func := "minuterie/minuterielaw21.FeederCares", spec := "feederCares", inPlace := ["math/bits.Add64"], unfollowed := true, recurses := true, plainKeys := false, apart := false, narrowed := true }
def FeederCaresUptoSaid : Prop := feederCaresUptoRow.holds Tryz.pinned (OpenSpec.upto feederCaresSpec)

/-- 'minuterielaw14.ShotArms', WHERE WHAT IT READS IS OF BULK AT MOST 1048576: true; the input reads as it did. -/
def shotArmsUptoRow : OpenClaim := { program := "ytbkegflipglioaagreat", sum := "d8620c5b94ad52bf5c10c4f125b84c7224ea604ffcb543c578c2d0c8390f6821", func := "minuterie/minuterielaw14.ShotArms", spec := "shotArms", inPlace := ["math/bits.Add64"], unfollowed := true, recurses := true, plainKeys := false, apart := false, narrowed := true }
def ShotArmsUptoSaid : Prop := shotArmsUptoRow.holds Tryz.pinned (OpenSpec.upto shotArmsSpec)

/-- 'minuterielaw12.PortSpends', WHERE WHAT IT READS IS OF BULK AT MOST 1048576: true; the input reads as it did. -/
def portSpendsUptoRow : OpenClaim := { program := "ytbkegflipglioaagreat", sum := "d8620c5b94ad52bf5c10c4f125b84c7224ea604ffcb543c578c2d0c8390f6821", func := "minuterie/minuterielaw12.PortSpends", spec := "portSpends", inPlace := ["math/bits.Add64"], unfollowed := true, recurses := true, plainKeys := false, apart := false, narrowed := true }
def PortSpendsUptoSaid : Prop := portSpendsUptoRow.holds Tryz.pinned (OpenSpec.upto portSpendsSpec)

end Rows
end Go.Proofs.YtbkegflipglioaaGreat
