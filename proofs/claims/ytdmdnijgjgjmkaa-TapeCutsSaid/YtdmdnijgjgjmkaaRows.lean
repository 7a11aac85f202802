/-
  No cell of these rows narrows 'for every input' (looked for: loops, veiled, ifaces, maps, wideKeys, modest, calm, conditions, laid).
  DERIVED. THE GIVEN ROWS OF THIS SEAT. 7 by the template 'for every input the law returns true; each argument reads behind the call as it read before'; 0 by the template 'total and deterministic' (their statements: YtdmdnijgjgjmkaaTotals.lean).
  GIVEN WITH THE SEED: the statements are not yours to turn. If you find one false, say at which input.
  Laid BY PROGRAM, IN A SANDBOX (cutbox-rows.mjs): the forced cells as the released guide's own fill.sh prints them over the translation 43ff3752c3d8ed53… (all of the seat's roots in one cut). By AI agents, Wed Nov 11 2026. No macro, syntax, notation, axiom, sorry.
-/
import Derived.Test.YtdmdnijgjgjmkaaChecked
import GoSem.Claim
import GoSem.ClaimJoined
import GoSem.ClaimMapViews
import Derived.JoinedTies
import Derived.KernelRfl
namespace Go.Proofs.Ytdmdnijgjgjmkaa
/- THE CELL 'sum', in the pinned program and in every row, IS THE sha256 OF THE DUMP (.gsa) THAT YtdmdnijgjgjmkaaProg.lean LOADS. Nothing in Lean hashes anything: it is a label: what it is worth is what the hold of that sum in a sandbox is worth. -/
noncomputable def Try.pinned : Pinned := { name := "ytdmdnijgjgjmkaa", sum := "43ff3752c3d8ed539c49ece59ae04c8f40dd28f5fc129bdf6e34043739becac4", checked := Try.checked }
namespace Rows
def none {H : Type} : Left H := { results := [], args := [] }

/-- 'minuterielaw09.RstcLast': WHATEVER THE INPUT: true; the input reads as it did. -/
def rstcLastSpec : ChangeSpec := { name := "rstcLast", fn := fun _ => fun
  | [d1, d2] => { results := [.lit (.bool true)], args := [d1, d2] }
  | _ => none }
def rstcLastRow : OpenClaim := { program := "ytdmdnijgjgjmkaa", sum := "43ff3752c3d8ed539c49ece59ae04c8f40dd28f5fc129bdf6e34043739becac4", func := "minuterie/minuterielaw09.RstcLast", spec := "rstcLast", apart := false }
def RstcLastSaid : Prop := rstcLastRow.holds Try.pinned (OpenSpec.ofChange rstcLastSpec)

/-- ITS FALSE NEIGHBOUR: 'it returns false'. Refute it at one input. -/
def rstcLastWrong : ChangeSpec := { name := "rstcLast", fn := fun _ => fun
  | [d1, d2] => { results := [.lit (.bool false)], args := [d1, d2] }
  | _ => none }
def RstcLastWrongFalsely : Prop := rstcLastRow.holds Try.pinned (OpenSpec.ofChange rstcLastWrong)

/-- 'minuterielaw09.RstcPlays': WHATEVER THE INPUT: true; the input reads as it did. -/
def rstcPlaysSpec : ChangeSpec := { name := "rstcPlays", fn := fun _ => fun
  | [d] => { results := [.lit (.bool true)], args := [d] }
  | _ => none }
def rstcPlaysRow : OpenClaim := { program := "ytdmdnijgjgjmkaa", sum := "43ff3752c3d8ed539c49ece59ae04c8f40dd28f5fc129bdf6e34043739becac4", func := "minuterie/minuterielaw09.RstcPlays", spec := "rstcPlays", apart := false }
def RstcPlaysSaid : Prop := rstcPlaysRow.holds Try.pinned (OpenSpec.ofChange rstcPlaysSpec)

/-- ITS FALSE NEIGHBOUR: 'it returns false'. Refute it at one input. -/
def rstcPlaysWrong : ChangeSpec := { name := "rstcPlays", fn := fun _ => fun
  | [d] => { results := [.lit (.bool false)], args := [d] }
  | _ => none }
def RstcPlaysWrongFalsely : Prop := rstcPlaysRow.holds Try.pinned (OpenSpec.ofChange rstcPlaysWrong)

/-- 'minuterielaw09.RstcNil': WHATEVER THE INPUT: true; the input reads as it did. -/
def rstcNilSpec : ChangeSpec := { name := "rstcNil", fn := fun _ => fun
  | [d1, d2] => { results := [.lit (.bool true)], args := [d1, d2] }
  | _ => none }
def rstcNilRow : OpenClaim := { program := "ytdmdnijgjgjmkaa", sum := "43ff3752c3d8ed539c49ece59ae04c8f40dd28f5fc129bdf6e34043739becac4", func := "minuterie/minuterielaw09.RstcNil", spec := "rstcNil", apart := false }
def RstcNilSaid : Prop := rstcNilRow.holds Try.pinned (OpenSpec.ofChange rstcNilSpec)

/-- ITS FALSE NEIGHBOUR: 'it returns false'. Refute it at one input. -/
def rstcNilWrong : ChangeSpec := { name := "rstcNil", fn := fun _ => fun
  | [d1, d2] => { results := [.lit (.bool false)], args := [d1, d2] }
  | _ => none }
def RstcNilWrongFalsely : Prop := rstcNilRow.holds Try.pinned (OpenSpec.ofChange rstcNilWrong)

/-- 'minuterielaw34.TapeNumbers': WHATEVER THE INPUT: true; the input reads as it did. -/
def tapeNumbersSpec : ChangeSpec := { name := "tapeNumbers", fn := fun _ => fun
  | [d1, d2] => { results := [.lit (.bool true)], args := [d1, d2] }
  | _ => none }
def tapeNumbersRow : OpenClaim := { program := "ytdmdnijgjgjmkaa", sum := "43ff3752c3d8ed539c49ece59ae04c8f40dd28f5fc129bdf6e34043739becac4", func := "minuterie/minuterielaw34.TapeNumbers", spec := "tapeNumbers", unfollowed := true, recurses := true, apart := false }
def TapeNumbersSaid : Prop := tapeNumbersRow.holds Try.pinned (OpenSpec.ofChange tapeNumbersSpec)

/-- ITS FALSE NEIGHBOUR: 'it returns false'. Refute it at one input. -/
def tapeNumbersWrong : ChangeSpec := { name := "tapeNumbers", fn := fun _ => fun
  | [d1, d2] => { results := [.lit (.bool false)], args := [d1, d2] }
  | _ => none }
def TapeNumbersWrongFalsely : Prop := tapeNumbersRow.holds Try.pinned (OpenSpec.ofChange tapeNumbersWrong)

/-- 'minuterielaw34.TapeTells': WHATEVER THE INPUT: true; the input reads as it did. -/
def tapeTellsSpec : ChangeSpec := { name := "tapeTells", fn := fun _ => fun
  | [d1, d2] => { results := [.lit (.bool true)], args := [d1, d2] }
  | _ => none }
def tapeTellsRow : OpenClaim := { program := "ytdmdnijgjgjmkaa", sum := "43ff3752c3d8ed539c49ece59ae04c8f40dd28f5fc129bdf6e34043739becac4", func := "minuterie/minuterielaw34.TapeTells", spec := "tapeTells", unfollowed := true, recurses := true, apart := false }
def TapeTellsSaid : Prop := tapeTellsRow.holds Try.pinned (OpenSpec.ofChange tapeTellsSpec)

/-- ITS FALSE NEIGHBOUR: 'it returns false'. Refute it at one input. -/
def tapeTellsWrong : ChangeSpec := { name := "tapeTells", fn := fun _ => fun
  | [d1, d2] => { results := [.lit (.bool false)], args := [d1, d2] }
  | _ => none }
def TapeTellsWrongFalsely : Prop := tapeTellsRow.holds Try.pinned (OpenSpec.ofChange tapeTellsWrong)

/-- 'minuterielaw34.TapeParses': WHATEVER THE INPUT: true; the input reads as it did. -/
def tapeParsesSpec : ChangeSpec := { name := "tapeParses", fn := fun _ => fun
  | [d] => { results := [.lit (.bool true)], args := [d] }
  | _ => none }
def tapeParsesRow : OpenClaim := { program := "ytdmdnijgjgjmkaa", sum := "43ff3752c3d8ed539c49ece59ae04c8f40dd28f5fc129bdf6e34043739becac4", func := "minuterie/minuterielaw34.TapeParses", spec := "tapeParses", unfollowed := true, recurses := true, apart := false }
def TapeParsesSaid : Prop := tapeParsesRow.holds Try.pinned (OpenSpec.ofChange tapeParsesSpec)

/-- ITS FALSE NEIGHBOUR: 'it returns false'. Refute it at one input. -/
def tapeParsesWrong : ChangeSpec := { name := "tapeParses", fn := fun _ => fun
  | [d] => { results := [.lit (.bool false)], args := [d] }
  | _ => none }
def TapeParsesWrongFalsely : Prop := tapeParsesRow.holds Try.pinned (OpenSpec.ofChange tapeParsesWrong)

/-- 'minuterielaw34.TapeCuts': WHATEVER THE INPUT: true; the input reads as it did. -/
def tapeCutsSpec : ChangeSpec := { name := "tapeCuts", fn := fun _ => fun
  | [d1, d2, d3, d4] => { results := [.lit (.bool true)], args := [d1, d2, d3, d4] }
  | _ => none }
def tapeCutsRow : OpenClaim := { program := "ytdmdnijgjgjmkaa", sum := "43ff3752c3d8ed539c49ece59ae04c8f40dd28f5fc129bdf6e34043739becac4", func := "minuterie/minuterielaw34.TapeCuts", spec := "tapeCuts", unfollowed := true, recurses := true, apart := false }
def TapeCutsSaid : Prop := tapeCutsRow.holds Try.pinned (OpenSpec.ofChange tapeCutsSpec)

/-- ITS FALSE NEIGHBOUR: 'it returns false'. Refute it at one input. -/
def tapeCutsWrong : ChangeSpec := { name := "tapeCuts", fn := fun _ => fun
  | [d1, d2, d3, d4] => { results := [.lit (.bool false)], args := [d1, d2, d3, d4] }
  | _ => none }
def TapeCutsWrongFalsely : Prop := tapeCutsRow.holds Try.pinned (OpenSpec.ofChange tapeCutsWrong)

/- THE SECOND FORM. 'bulk': how many values and letters a reading holds, each counted each time it is reached (what is shared counts as often as it is met; a slice's spare places count too). A statement '..UptoSaid' is the law's where the arguments, and the package variables that the reading takes, are together of bulk at most 1048576: NARROWER than '..Said'. Prove '..Said' where nothing that the law and all that it calls make is longer than what came in: it says more and counts as full. Else prove '..UptoSaid'. A law counts once. -/
mutual
def uptoBulk {H : Type} : DataW H → Nat
  | .lit (.string bytes) => bytes.length + 1
  | .lit _ => 1
  | .nil => 1
  | .ptr d => uptoBulk d + 1
  | .slice elems spare => uptoBulkAll elems + uptoBulkAll spare + 1
  | .agg parts => uptoBulkAll parts + 1
  | .iface _ d => uptoBulk d + 1
  | .map entries => uptoBulkEntries entries + 1
  | .held _ => 1
def uptoBulkAll {H : Type} : List (DataW H) → Nat
  | [] => 0
  | d :: r => uptoBulk d + uptoBulkAll r
def uptoBulkEntries {H : Type} : List (Lit × DataW H) → Nat
  | [] => 0
  | x :: r => uptoBulkEntry x + uptoBulkEntries r
def uptoBulkEntry {H : Type} : Lit × DataW H → Nat
  | (.string bytes, d) => bytes.length + uptoBulk d + 1
  | (_, d) => uptoBulk d + 1
 end
def uptoSmall : (H : Type) → List (DataW H) → Bool := fun _ ds => decide (uptoBulkAll ds ≤ 1048576)
def OpenSpec.upto (s : _root_.Go.ChangeSpec) : _root_.Go.OpenSpec := { _root_.Go.OpenSpec.ofChange s with cond := some uptoSmall }

/-- 'minuterielaw09.RstcLast', WHERE WHAT IT READS IS OF BULK AT MOST 1048576: true; the input reads as it did. -/
def rstcLastUptoRow : OpenClaim := { program := "ytdmdnijgjgjmkaa", sum := "43ff3752c3d8ed539c49ece59ae04c8f40dd28f5fc129bdf6e34043739becac4", func := "minuterie/minuterielaw09.RstcLast", spec := "rstcLast", apart := false, narrowed := true }
def RstcLastUptoSaid : Prop := rstcLastUptoRow.holds Try.pinned (OpenSpec.upto rstcLastSpec)

/-- 'minuterielaw09.RstcPlays', WHERE WHAT IT READS IS OF BULK AT MOST 1048576: true; the input reads as it did. -/
def rstcPlaysUptoRow : OpenClaim := { program := "ytdmdnijgjgjmkaa", sum := "43ff3752c3d8ed539c49ece59ae04c8f40dd28f5fc129bdf6e34043739becac4", func := "minuterie/minuterielaw09.RstcPlays", spec := "rstcPlays", apart := false, narrowed := true }
def RstcPlaysUptoSaid : Prop := rstcPlaysUptoRow.holds Try.pinned (OpenSpec.upto rstcPlaysSpec)

/-- 'minuterielaw09.RstcNil', WHERE WHAT IT READS IS OF BULK AT MOST 1048576: true; the input reads as it did. -/
def rstcNilUptoRow : OpenClaim := { program := "ytdmdnijgjgjmkaa", sum := "43ff3752c3d8ed539c49ece59ae04c8f40dd28f5fc129bdf6e34043739becac4", func := "minuterie/minuterielaw09.RstcNil", spec := "rstcNil", apart := false, narrowed := true }
def RstcNilUptoSaid : Prop := rstcNilUptoRow.holds Try.pinned (OpenSpec.upto rstcNilSpec)

/-- 'minuterielaw34.TapeNumbers', WHERE WHAT IT READS IS OF BULK AT MOST 1048576: true; the input reads as it did. -/
def tapeNumbersUptoRow : OpenClaim := { program := "ytdmdnijgjgjmkaa", sum := "43ff3752c3d8ed539c49ece59ae04c8f40dd28f5fc129bdf6e34043739becac4", func := "minuterie/minuterielaw34.TapeNumbers", spec := "tapeNumbers", unfollowed := true, recurses := true, apart := false, narrowed := true }
def TapeNumbersUptoSaid : Prop := tapeNumbersUptoRow.holds Try.pinned (OpenSpec.upto tapeNumbersSpec)

/-- 'minuterielaw34.TapeTells', WHERE WHAT IT READS IS OF BULK AT MOST 1048576: true; the input reads as it did. -/
def tapeTellsUptoRow : OpenClaim := { program := "ytdmdnijgjgjmkaa", sum := "43ff3752c3d8ed539c49ece59ae04c8f40dd28f5fc129bdf6e34043739becac4", func := "minuterie/minuterielaw34.TapeTells", spec := "tapeTells", unfollowed := true, recurses := true, apart := false, narrowed := true }
def TapeTellsUptoSaid : Prop := tapeTellsUptoRow.holds Try.pinned (OpenSpec.upto tapeTellsSpec)

/-- 'minuterielaw34.TapeParses', WHERE WHAT IT READS IS OF BULK AT MOST 1048576: true; the input reads as it did. -/
def tapeParsesUptoRow : OpenClaim := { program := "ytdmdnijgjgjmkaa", sum := "43ff3752c3d8ed539c49ece59ae04c8f40dd28f5fc129bdf6e34043739becac4", func := "minuterie/minuterielaw34.TapeParses", spec := "tapeParses", unfollowed := true, recurses := true, apart := false, narrowed := true }
def TapeParsesUptoSaid : Prop := tapeParsesUptoRow.holds Try.pinned (OpenSpec.upto tapeParsesSpec)

/-- 'minuterielaw34.TapeCuts', WHERE WHAT IT READS IS OF BULK AT MOST 1048576: true; the input reads as it did. -/
def tapeCutsUptoRow : OpenClaim := { program := "ytdmdnijgjgjmkaa", sum := "43ff3752c3d8ed539c49ece59ae04c8f40dd28f5fc129bdf6e34043739becac4", func := "minuterie/minuterielaw34.TapeCuts", spec := "tapeCuts", unfollowed := true, recurses := true, apart := false, narrowed := true }
def TapeCutsUptoSaid : Prop := tapeCutsUptoRow.holds Try.pinned (OpenSpec.upto tapeCutsSpec)

end Rows
end Go.Proofs.Ytdmdnijgjgjmkaa
