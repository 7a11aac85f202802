/-
  No cell of these rows narrows 'for every input' (looked for: loops, veiled, ifaces, maps, wideKeys, modest, calm, conditions, laid).
  DERIVED. THE GIVEN ROWS OF THIS SEAT. 7 by the template 'for every input the law returns true; each argument reads behind the call as it read before'; 0 by the template 'total and deterministic' (their statements: YtjhejbajkkehjaaGreatTotals.lean).
  GIVEN WITH THE SEED: the statements are not yours to turn. If you find one false, say at which input.
  Laid BY PROGRAM, IN A SANDBOX (cutbox-rows.mjs): the forced cells as the released guide's own fill.sh prints them over the translation 438c5ba8daab4550… (all of the seat's roots in one cut). By AI agents, Wed Nov 11 2026. No macro, syntax, notation, axiom, sorry.
-/
import Derived.Test.YtjhejbajkkehjaaGreatChecked
import GoSem.Claim
import GoSem.ClaimJoined
import GoSem.ClaimMapViews
import Derived.JoinedTies
import Derived.KernelRfl
namespace Go.Proofs.YtjhejbajkkehjaaGreat
/- THE CELL 'sum', in the pinned program and in every row, IS THE sha256 OF THE DUMP (.gsa) THAT YtjhejbajkkehjaaGreatProg.lean LOADS. Nothing in Lean hashes anything: it is a label: what it is worth is what the hold of that sum in a sandbox is worth. -/
noncomputable def Tryz.pinned : Pinned := { name := "ytjhejbajkkehjaagreat", sum := "438c5ba8daab45508a8a2ce406a352920394d3e2f1ccf59537b22dd69f52aca0", checked := Tryz.checked }
namespace Rows
def none {H : Type} : Left H := { results := [], args := [] }

/-- 'minuterielaw14.ShotNil': WHATEVER THE INPUT: true; the input reads as it did. -/
def shotNilSpec : ChangeSpec := { name := "shotNil", fn := fun _ => fun
  | [d] => { results := [.lit (.bool true)], args := [d] }
  | _ => none }
def shotNilRow : OpenClaim := { program := "ytjhejbajkkehjaagreat", sum := "438c5ba8daab45508a8a2ce406a352920394d3e2f1ccf59537b22dd69f52aca0", func := "minuterie/minuterielaw14.ShotNil", spec := "shotNil", inPlace := ["math/bits.Add64"], unfollowed := true, recurses := true, plainKeys := false, apart := false }
def ShotNilSaid : Prop := shotNilRow.holds Tryz.pinned (OpenSpec.ofChange shotNilSpec)

/-- ITS FALSE NEIGHBOUR: 'it returns false'. Refute it at one input. -/
def shotNilWrong : ChangeSpec := { name := "shotNil", fn := fun _ => fun
  | [d] => { results := [.lit (.bool false)], args := [d] }
  | _ => none }
def ShotNilWrongFalsely : Prop := shotNilRow.holds Tryz.pinned (OpenSpec.ofChange shotNilWrong)

/-- 'minuterielaw13.ClockNil': WHATEVER THE INPUT: true; the input reads as it did. -/
def clockNilSpec : ChangeSpec := { name := "clockNil", fn := fun _ => fun
  | [d] => { results := [.lit (.bool true)], args := [d] }
  | _ => none }
def clockNilRow : OpenClaim := { program := "ytjhejbajkkehjaagreat", sum := "438c5ba8daab45508a8a2ce406a352920394d3e2f1ccf59537b22dd69f52aca0", func := "minuterie/minuterielaw13.ClockNil", spec := "clockNil", inPlace := ["math/bits.Add64", "math/bits.Sub64"], unfollowed := true, recurses := true, plainKeys := false, apart := false }
def ClockNilSaid : Prop := clockNilRow.holds Tryz.pinned (OpenSpec.ofChange clockNilSpec)

/-- ITS FALSE NEIGHBOUR: 'it returns false'. Refute it at one input. -/
def clockNilWrong : ChangeSpec := { name := "clockNil", fn := fun _ => fun
  | [d] => { results := [.lit (.bool false)], args := [d] }
  | _ => none }
def ClockNilWrongFalsely : Prop := clockNilRow.holds Tryz.pinned (OpenSpec.ofChange clockNilWrong)

/-- 'minuterielaw14.ShotWords': WHATEVER THE INPUT: true; the input reads as it did. -/
def shotWordsSpec : ChangeSpec := { name := "shotWords", fn := fun _ => fun
  | [d1, d2] => { results := [.lit (.bool true)], args := [d1, d2] }
  | _ => none }
def shotWordsRow : OpenClaim := { program := "ytjhejbajkkehjaagreat", sum := "438c5ba8daab45508a8a2ce406a352920394d3e2f1ccf59537b22dd69f52aca0", func := "minuterie/minuterielaw14.ShotWords", spec := "shotWords", unfollowed := true, recurses := true, plainKeys := false, apart := false }
def ShotWordsSaid : Prop := shotWordsRow.holds Tryz.pinned (OpenSpec.ofChange shotWordsSpec)

/-- ITS FALSE NEIGHBOUR: 'it returns false'. Refute it at one input. -/
def shotWordsWrong : ChangeSpec := { name := "shotWords", fn := fun _ => fun
  | [d1, d2] => { results := [.lit (.bool false)], args := [d1, d2] }
  | _ => none }
def ShotWordsWrongFalsely : Prop := shotWordsRow.holds Tryz.pinned (OpenSpec.ofChange shotWordsWrong)

/-- 'minuterielaw12.PortNil': WHATEVER THE INPUT: true; the input reads as it did. -/
def portNilSpec : ChangeSpec := { name := "portNil", fn := fun _ => fun
  | [d1, d2] => { results := [.lit (.bool true)], args := [d1, d2] }
  | _ => none }
def portNilRow : OpenClaim := { program := "ytjhejbajkkehjaagreat", sum := "438c5ba8daab45508a8a2ce406a352920394d3e2f1ccf59537b22dd69f52aca0", func := "minuterie/minuterielaw12.PortNil", spec := "portNil", inPlace := ["math/bits.Add64"], unfollowed := true, recurses := true, plainKeys := false, apart := false }
def PortNilSaid : Prop := portNilRow.holds Tryz.pinned (OpenSpec.ofChange portNilSpec)

/-- ITS FALSE NEIGHBOUR: 'it returns false'. Refute it at one input. -/
def portNilWrong : ChangeSpec := { name := "portNil", fn := fun _ => fun
  | [d1, d2] => { results := [.lit (.bool false)], args := [d1, d2] }
  | _ => none }
def PortNilWrongFalsely : Prop := portNilRow.holds Tryz.pinned (OpenSpec.ofChange portNilWrong)

/-- 'minuterielaw21.FeederNil': WHATEVER THE INPUT: true; the input reads as it did. -/
def feederNilSpec : ChangeSpec := { name := "feederNil", fn := fun _ => fun
  | [d1, d2] => { results := [.lit (.bool true)], args := [d1, d2] }
  | _ => none }
def feederNilRow : OpenClaim := { program := "ytjhejbajkkehjaagreat", sum := "438c5ba8daab45508a8a2ce406a352920394d3e2f1ccf59537b22dd69f52aca0", func := "minuterie/minuterielaw21.FeederNil", spec := "feederNil", inPlace := ["math/bits.Add64"], unfollowed := true, recurses := true, plainKeys := false, apart := false }
def FeederNilSaid : Prop := feederNilRow.holds Tryz.pinned (OpenSpec.ofChange feederNilSpec)

/-- ITS FALSE NEIGHBOUR: 'it returns false'. Refute it at one input. -/
def feederNilWrong : ChangeSpec := { name := "feederNil", fn := fun _ => fun
  | [d1, d2] => { results := [.lit (.bool false)], args := [d1, d2] }
  | _ => none }
def FeederNilWrongFalsely : Prop := feederNilRow.holds Tryz.pinned (OpenSpec.ofChange feederNilWrong)

/-- 'minuterielaw23.TickerNil': WHATEVER THE INPUT: true; the input reads as it did. -/
def tickerNilSpec : ChangeSpec := { name := "tickerNil", fn := fun _ => fun
  | [d1, d2] => { results := [.lit (.bool true)], args := [d1, d2] }
  | _ => none }
def tickerNilRow : OpenClaim := { program := "ytjhejbajkkehjaagreat", sum := "438c5ba8daab45508a8a2ce406a352920394d3e2f1ccf59537b22dd69f52aca0", func := "minuterie/minuterielaw23.TickerNil", spec := "tickerNil", inPlace := ["math/bits.Add64"], unfollowed := true, recurses := true, plainKeys := false, apart := false }
def TickerNilSaid : Prop := tickerNilRow.holds Tryz.pinned (OpenSpec.ofChange tickerNilSpec)

/-- ITS FALSE NEIGHBOUR: 'it returns false'. Refute it at one input. -/
def tickerNilWrong : ChangeSpec := { name := "tickerNil", fn := fun _ => fun
  | [d1, d2] => { results := [.lit (.bool false)], args := [d1, d2] }
  | _ => none }
def TickerNilWrongFalsely : Prop := tickerNilRow.holds Tryz.pinned (OpenSpec.ofChange tickerNilWrong)

/-- 'minuterielaw22.AlarmNil': WHATEVER THE INPUT: true; the input reads as it did. -/
def alarmNilSpec : ChangeSpec := { name := "alarmNil", fn := fun _ => fun
  | [d] => { results := [.lit (.bool true)], args := [d] }
  | _ => none }
def alarmNilRow : OpenClaim := { program := "ytjhejbajkkehjaagreat", sum := "438c5ba8daab45508a8a2ce406a352920394d3e2f1ccf59537b22dd69f52aca0", func := "minuterie/minuterielaw22.AlarmNil", spec := "alarmNil", inPlace := ["math/bits.Add64"], unfollowed := true, recurses := true, plainKeys := false, apart := false }
def AlarmNilSaid : Prop := alarmNilRow.holds Tryz.pinned (OpenSpec.ofChange alarmNilSpec)

/-- ITS FALSE NEIGHBOUR: 'it returns false'. Refute it at one input. -/
def alarmNilWrong : ChangeSpec := { name := "alarmNil", fn := fun _ => fun
  | [d] => { results := [.lit (.bool false)], args := [d] }
  | _ => none }
def AlarmNilWrongFalsely : Prop := alarmNilRow.holds Tryz.pinned (OpenSpec.ofChange alarmNilWrong)

/- THE SECOND FORM. 'bulk': how many values and letters a reading holds, each counted each time it is reached (what is shared counts as often as it is met; a slice's spare places count too). A statement '..UptoSaid' is the law's where the arguments, and the package variables that the reading takes, are together of bulk at most 1048576: NARROWER than '..Said'. Prove '..Said' where nothing that the law and all that it calls make is longer than what came in: it says more and counts as full. Else prove '..UptoSaid'. A law counts once. -/
mutual
def uptoBulk {H : Type} : DataW H → Nat
  | .lit (.string bytes) => bytes.length + 1
  | .lit _ => 1
  | .nil => 1
  | .ptr d => uptoBulk d + 1
  | .slice elems spare => uptoBulkAll elems + uptoBulkAll spare + 1
  | .agg parts => uptoBulkAll parts + 1
  | .iface _ d => uptoBulk d + 1
  | .map entries => uptoBulkEntries entries + 1
  | .held _ => 1
def uptoBulkAll {H : Type} : List (DataW H) → Nat
  | [] => 0
  | d :: r => uptoBulk d + uptoBulkAll r
def uptoBulkEntries {H : Type} : List (Lit × DataW H) → Nat
  | [] => 0
  | x :: r => uptoBulkEntry x + uptoBulkEntries r
def uptoBulkEntry {H : Type} : Lit × DataW H → Nat
  | (.string bytes, d) => bytes.length + uptoBulk d + 1
  | (_, d) => uptoBulk d + 1
 end
def uptoSmall : (H : Type) → List (DataW H) → Bool := fun _ ds => decide (uptoBulkAll ds ≤ 1048576)
def OpenSpec.upto (s : _root_.Go.ChangeSpec) : _root_.Go.OpenSpec := { _root_.Go.OpenSpec.ofChange s with cond := some uptoSmall }

/-- 'minuterielaw14.ShotNil', WHERE WHAT IT READS IS OF BULK AT MOST 1048576: true; the input reads as it did. -/
def shotNilUptoRow : OpenClaim := { program := "ytjhejbajkkehjaagreat", sum := "438c5ba8daab45508a8a2ce406a352920394d3e2f1ccf59537b22dd69f52aca0", func := "minuterie/minuterielaw14.ShotNil", spec := "shotNil", inPlace := ["math/bits.Add64"], unfollowed := true, recurses := true, plainKeys := false, apart := false, narrowed := true }
def ShotNilUptoSaid : Prop := shotNilUptoRow.holds Tryz.pinned (OpenSpec.upto shotNilSpec)

/-- 'minuterielaw13.ClockNil', WHERE WHAT IT READS IS OF BULK AT MOST 1048576: true; the input reads as it did. -/
def clockNilUptoRow : OpenClaim := { program := "ytjhejbajkkehjaagreat", sum := "438c5ba8daab45508a8a2ce406a352920394d3e2f1ccf59537b22dd69f52aca0", func := "minuterie/minuterielaw13.ClockNil", spec := "clockNil", inPlace := ["math/bits.Add64", "math/bits.Sub64"], unfollowed := true, recurses := true, plainKeys := false, apart := false, narrowed := true }
def ClockNilUptoSaid : Prop := clockNilUptoRow.holds Tryz.pinned (OpenSpec.upto clockNilSpec)

/-- 'minuterielaw14.ShotWords', WHERE WHAT IT READS IS OF BULK AT MOST 1048576: true; the input reads as it did. -/
def shotWordsUptoRow : OpenClaim := { program := "ytjhejbajkkehjaagreat", sum := "438c5ba8daab45508a8a2ce406a352920394d3e2f1ccf59537b22dd69f52aca0", func := "minuterie/minuterielaw14.ShotWords", spec := "shotWords", unfollowed := true, recurses := true, plainKeys := false, apart := false, narrowed := true }
def ShotWordsUptoSaid : Prop := shotWordsUptoRow.holds Tryz.pinned (OpenSpec.upto shotWordsSpec)

/-- 'minuterielaw12.PortNil', WHERE WHAT IT READS IS OF BULK AT MOST 1048576: true; the input reads as it did. -/
def portNilUptoRow : OpenClaim := { program := "ytjhejbajkkehjaagreat", sum := "438c5ba8daab45508a8a2ce406a352920394d3e2f1ccf59537b22dd69f52aca0", func := "minuterie/minuterielaw12.PortNil", spec := "portNil", inPlace := ["math/bits.Add64"], unfollowed := true, recurses := true, plainKeys := false, apart := false, narrowed := true }
def PortNilUptoSaid : Prop := portNilUptoRow.holds Tryz.pinned (OpenSpec.upto portNilSpec)

/-- 'minuterielaw21.FeederNil', WHERE WHAT IT READS IS OF BULK AT MOST 1048576: true; the input reads as it did. -/
def feederNilUptoRow : OpenClaim := { program := "ytjhejbajkkehjaagreat", sum := "438c5ba8daab45508a8a2ce406a352920394d3e2f1ccf59537b22dd69f52aca0", func := "minuterie/minuterielaw21.FeederNil", spec := "feederNil", inPlace := ["math/bits.Add64"], unfollowed := true, recurses := true, plainKeys := false, apart := false, narrowed := true }
def FeederNilUptoSaid : Prop := feederNilUptoRow.holds Tryz.pinned (OpenSpec.upto feederNilSpec)

/-- 'minuterielaw23.TickerNil', WHERE WHAT IT READS IS OF BULK AT MOST 1048576: true; the input reads as it did. -/
def tickerNilUptoRow : OpenClaim := { program := "ytjhejbajkkehjaagreat", sum := "438c5ba8daab45508a8a2ce406a352920394d3e2f1ccf59537b22dd69f52aca0", func := "minuterie/minuterielaw23.TickerNil", spec := "tickerNil", inPlace := ["math/bits.Add64"], unfollowed := true, recurses := true, plainKeys := false, apart := false, narrowed := true }
def TickerNilUptoSaid : Prop := tickerNilUptoRow.holds Tryz.pinned (OpenSpec.upto tickerNilSpec)

/-- 'minuterielaw22.AlarmNil', WHERE WHAT IT READS IS OF BULK AT MOST 1048576: true; the input reads as it did. -/
def alarmNilUptoRow : OpenClaim := { program := "ytjhejbajkkehjaagreat", sum := "438c5ba8daab45508a8a2ce406a352920394d3e2f1ccf59537b22dd69f52aca0", func := "minuterie/minuterielaw22.AlarmNil", spec := "alarmNil", inPlace := ["math/bits.Add64"], unfollowed := true, recurses := true, plainKeys := false, apart := false, narrowed := true }
def AlarmNilUptoSaid : Prop := alarmNilUptoRow.holds Tryz.pinned (OpenSpec.upto alarmNilSpec)

end Rows
end Go.Proofs.YtjhejbajkkehjaaGreat
