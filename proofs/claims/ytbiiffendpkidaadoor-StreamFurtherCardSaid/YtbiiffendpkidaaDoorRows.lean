/-
  NARROWER THAN 'FOR EVERY INPUT', by the rows' own cells (each row's printed sentence says how): StreamBlocks: laid · StreamTurns: laid · StreamMixes: laid · StreamTwice: laid · StreamFurther: laid · StreamCut: laid.
  DERIVED. THE GIVEN ROWS OF THIS SEAT. 6 by the template 'for every input the law returns true; each argument reads behind the call as it read before'; 0 by the template 'total and deterministic' (their statements: YtbiiffendpkidaaDoorTotals.lean).
  GIVEN WITH THE SEED: the statements are not yours to turn. If you find one false, say at which input.
  Laid BY PROGRAM, IN A SANDBOX (cutbox-rows.mjs): the forced cells as the released guide's own fill.sh prints them over the translation 5d14f6514be65269… (all of the seat's roots in one cut). By AI agents, Wed Nov 11 2026. No macro, syntax, notation, axiom, sorry.
-/
import Derived.Test.YtbiiffendpkidaaDoorChecked
import GoSem.Claim
import GoSem.ClaimJoined
import GoSem.ClaimMapViews
import Derived.JoinedTies
import Derived.KernelRfl
namespace Go.Proofs.YtbiiffendpkidaaDoor
/- THE CELL 'sum', in the pinned program and in every row, IS THE sha256 OF THE DUMP (.gsa) THAT YtbiiffendpkidaaDoorProg.lean LOADS. Nothing in Lean hashes anything: it is a label: what it is worth is what the hold of that sum in a sandbox is worth. -/
noncomputable def Tryd.pinned : Pinned := { name := "ytbiiffendpkidaadoor", sum := "5d14f6514be652691440be8ea6e7e05fdadb82725f1eb46b0c3a7f549b735ef0", checked := Tryd.checked }
namespace Rows
def none {H : Type} : Left H := { results := [], args := [] }

/- WHAT THE LISTED PACKAGE-LEVEL VARIABLES READ AS WHEN THE CALL BEGINS. Each datum BY PROGRAM (the guide's laid-datum.mjs) off the statement by which the dump's own 'gosem.cut.vars' lays the variable. In a bare row this is a premise. The card (YtbiiffendpkidaaDoorCards.lean) ties it to the program's text. -/
def laid_cablegram_stream_start {H : Type} : DataW H := .agg [.lit (.int .u32 1634760805), .lit (.int .u32 857760878), .lit (.int .u32 2036477234), .lit (.int .u32 1797285236)]
def laid_cablegram_stream_quarters {H : Type} : DataW H := .agg [.agg [.lit (.int .i64 0), .lit (.int .i64 4), .lit (.int .i64 8), .lit (.int .i64 12)], .agg [.lit (.int .i64 1), .lit (.int .i64 5), .lit (.int .i64 9), .lit (.int .i64 13)], .agg [.lit (.int .i64 2), .lit (.int .i64 6), .lit (.int .i64 10), .lit (.int .i64 14)], .agg [.lit (.int .i64 3), .lit (.int .i64 7), .lit (.int .i64 11), .lit (.int .i64 15)], .agg [.lit (.int .i64 0), .lit (.int .i64 5), .lit (.int .i64 10), .lit (.int .i64 15)], .agg [.lit (.int .i64 1), .lit (.int .i64 6), .lit (.int .i64 11), .lit (.int .i64 12)], .agg [.lit (.int .i64 2), .lit (.int .i64 7), .lit (.int .i64 8), .lit (.int .i64 13)], .agg [.lit (.int .i64 3), .lit (.int .i64 4), .lit (.int .i64 9), .lit (.int .i64 14)]]

/-- 'cablegramlaw04.StreamBlocks': WHATEVER THE INPUT: true; the input reads as it did. -/
def streamBlocksSpec : ChangeSpec := { name := "streamBlocks", fn := fun _ => fun
  | [d1, d2, d3, d4, d5, d6, d7, d8] => { results := [.lit (.bool true)], args := [d1, d2, d3, d4, d5, d6, d7, d8] }
  | _ => none }
def streamBlocksRow : OpenClaim := { program := "ytbiiffendpkidaadoor", sum := "5d14f6514be652691440be8ea6e7e05fdadb82725f1eb46b0c3a7f549b735ef0", func := "cablegram/cablegramlaw04.StreamBlocks", spec := "streamBlocks", named := ["cablegram/stream.quarters", "cablegram/stream.start"], apart := false, laid := [("cablegram/stream.start", laid_cablegram_stream_start), ("cablegram/stream.quarters", laid_cablegram_stream_quarters)] }
def StreamBlocksSaid : Prop := streamBlocksRow.holds Tryd.pinned (OpenSpec.ofChange streamBlocksSpec)

/-- ITS FALSE NEIGHBOUR: 'it returns false'. Refute it at one input. -/
def streamBlocksWrong : ChangeSpec := { name := "streamBlocks", fn := fun _ => fun
  | [d1, d2, d3, d4, d5, d6, d7, d8] => { results := [.lit (.bool false)], args := [d1, d2, d3, d4, d5, d6, d7, d8] }
  | _ => none }
def StreamBlocksWrongFalsely : Prop := streamBlocksRow.holds Tryd.pinned (OpenSpec.ofChange streamBlocksWrong)

/-- 'cablegramlaw04.StreamTurns': WHATEVER THE INPUT: true; the input reads as it did. -/
def streamTurnsSpec : ChangeSpec := { name := "streamTurns", fn := fun _ => fun
  | [d1, d2, d3, d4, d5, d6] => { results := [.lit (.bool true)], args := [d1, d2, d3, d4, d5, d6] }
  | _ => none }
def streamTurnsRow : OpenClaim := { program := "ytbiiffendpkidaadoor", sum := "5d14f6514be652691440be8ea6e7e05fdadb82725f1eb46b0c3a7f549b735ef0", func := "cablegram/cablegramlaw04.StreamTurns", spec := "streamTurns", named := ["cablegram/stream.quarters", "cablegram/stream.start"], apart := false, laid := [("cablegram/stream.start", laid_cablegram_stream_start), ("cablegram/stream.quarters", laid_cablegram_stream_quarters)] }
def StreamTurnsSaid : Prop := streamTurnsRow.holds Tryd.pinned (OpenSpec.ofChange streamTurnsSpec)

/-- ITS FALSE NEIGHBOUR: 'it returns false'. Refute it at one input. -/
def streamTurnsWrong : ChangeSpec := { name := "streamTurns", fn := fun _ => fun
  | [d1, d2, d3, d4, d5, d6] => { results := [.lit (.bool false)], args := [d1, d2, d3, d4, d5, d6] }
  | _ => none }
def StreamTurnsWrongFalsely : Prop := streamTurnsRow.holds Tryd.pinned (OpenSpec.ofChange streamTurnsWrong)

/-- 'cablegramlaw04.StreamMixes': WHATEVER THE INPUT: true; the input reads as it did. -/
def streamMixesSpec : ChangeSpec := { name := "streamMixes", fn := fun _ => fun
  | [d1, d2, d3, d4] => { results := [.lit (.bool true)], args := [d1, d2, d3, d4] }
  | _ => none }
def streamMixesRow : OpenClaim := { program := "ytbiiffendpkidaadoor", sum := "5d14f6514be652691440be8ea6e7e05fdadb82725f1eb46b0c3a7f549b735ef0", func := "cablegram/cablegramlaw04.StreamMixes", spec := "streamMixes", unfollowed := true, recurses := true, named := ["cablegram/stream.quarters", "cablegram/stream.start"], apart := false, laid := [("cablegram/stream.start", laid_cablegram_stream_start), ("cablegram/stream.quarters", laid_cablegram_stream_quarters)] }
def StreamMixesSaid : Prop := streamMixesRow.holds Tryd.pinned (OpenSpec.ofChange streamMixesSpec)

/-- ITS FALSE NEIGHBOUR: 'it returns false'. Refute it at one input. -/
def streamMixesWrong : ChangeSpec := { name := "streamMixes", fn := fun _ => fun
  | [d1, d2, d3, d4] => { results := [.lit (.bool false)], args := [d1, d2, d3, d4] }
  | _ => none }
def StreamMixesWrongFalsely : Prop := streamMixesRow.holds Tryd.pinned (OpenSpec.ofChange streamMixesWrong)

/-- 'cablegramlaw04.StreamTwice': WHATEVER THE INPUT: true; the input reads as it did. -/
def streamTwiceSpec : ChangeSpec := { name := "streamTwice", fn := fun _ => fun
  | [d1, d2, d3, d4] => { results := [.lit (.bool true)], args := [d1, d2, d3, d4] }
  | _ => none }
def streamTwiceRow : OpenClaim := { program := "ytbiiffendpkidaadoor", sum := "5d14f6514be652691440be8ea6e7e05fdadb82725f1eb46b0c3a7f549b735ef0", func := "cablegram/cablegramlaw04.StreamTwice", spec := "streamTwice", unfollowed := true, recurses := true, named := ["cablegram/stream.quarters", "cablegram/stream.start"], apart := false, laid := [("cablegram/stream.start", laid_cablegram_stream_start), ("cablegram/stream.quarters", laid_cablegram_stream_quarters)] }
def StreamTwiceSaid : Prop := streamTwiceRow.holds Tryd.pinned (OpenSpec.ofChange streamTwiceSpec)

/-- ITS FALSE NEIGHBOUR: 'it returns false'. Refute it at one input. -/
def streamTwiceWrong : ChangeSpec := { name := "streamTwice", fn := fun _ => fun
  | [d1, d2, d3, d4] => { results := [.lit (.bool false)], args := [d1, d2, d3, d4] }
  | _ => none }
def StreamTwiceWrongFalsely : Prop := streamTwiceRow.holds Tryd.pinned (OpenSpec.ofChange streamTwiceWrong)

/-- 'cablegramlaw04.StreamFurther': WHATEVER THE INPUT: true; the input reads as it did. -/
def streamFurtherSpec : ChangeSpec := { name := "streamFurther", fn := fun _ => fun
  | [d1, d2, d3, d4] => { results := [.lit (.bool true)], args := [d1, d2, d3, d4] }
  | _ => none }
def streamFurtherRow : OpenClaim := { program := "ytbiiffendpkidaadoor", sum := "5d14f6514be652691440be8ea6e7e05fdadb82725f1eb46b0c3a7f549b735ef0", func := "cablegram/cablegramlaw04.StreamFurther", spec := "streamFurther", unfollowed := true, recurses := true, named := ["cablegram/stream.quarters", "cablegram/stream.start"], apart := false, laid := [("cablegram/stream.start", laid_cablegram_stream_start), ("cablegram/stream.quarters", laid_cablegram_stream_quarters)] }
def StreamFurtherSaid : Prop := streamFurtherRow.holds Tryd.pinned (OpenSpec.ofChange streamFurtherSpec)

/-- ITS FALSE NEIGHBOUR: 'it returns false'. Refute it at one input. -/
def streamFurtherWrong : ChangeSpec := { name := "streamFurther", fn := fun _ => fun
  | [d1, d2, d3, d4] => { results := [.lit (.bool false)], args := [d1, d2, d3, d4] }
  | _ => none }
def StreamFurtherWrongFalsely : Prop := streamFurtherRow.holds Tryd.pinned (OpenSpec.ofChange streamFurtherWrong)

/-- 'cablegramlaw04.StreamCut': WHATEVER THE INPUT: true; the input reads as it did. -/
def streamCutSpec : ChangeSpec := { name := "streamCut", fn := fun _ => fun
  | [d1, d2, d3, d4, d5] => { results := [.lit (.bool true)], args := [d1, d2, d3, d4, d5] }
  | _ => none }
def streamCutRow : OpenClaim := { program := "ytbiiffendpkidaadoor", sum := "5d14f6514be652691440be8ea6e7e05fdadb82725f1eb46b0c3a7f549b735ef0", func := "cablegram/cablegramlaw04.StreamCut", spec := "streamCut", unfollowed := true, recurses := true, named := ["cablegram/stream.quarters", "cablegram/stream.start"], apart := false, laid := [("cablegram/stream.start", laid_cablegram_stream_start), ("cablegram/stream.quarters", laid_cablegram_stream_quarters)] }
def StreamCutSaid : Prop := streamCutRow.holds Tryd.pinned (OpenSpec.ofChange streamCutSpec)

/-- ITS FALSE NEIGHBOUR: 'it returns false'. Refute it at one input. -/
def streamCutWrong : ChangeSpec := { name := "streamCut", fn := fun _ => fun
  | [d1, d2, d3, d4, d5] => { results := [.lit (.bool false)], args := [d1, d2, d3, d4, d5] }
  | _ => none }
def StreamCutWrongFalsely : Prop := streamCutRow.holds Tryd.pinned (OpenSpec.ofChange streamCutWrong)

/- THE SECOND FORM. 'bulk': how many values and letters a reading holds, each counted each time it is reached (what is shared counts as often as it is met; a slice's spare places count too). A statement '..UptoSaid' is the law's where the arguments, and the package variables that the reading takes, are together of bulk at most 1048576: NARROWER than '..Said'. Prove '..Said' where nothing that the law and all that it calls make is longer than what came in: it says more and counts as full. Else prove '..UptoSaid'. A law counts once. -/
mutual
def uptoBulk {H : Type} : DataW H → Nat
  | .lit (.string bytes) => bytes.length + 1
  | .lit _ => 1
  | .nil => 1
  | .ptr d => uptoBulk d + 1
  | .slice elems spare => uptoBulkAll elems + uptoBulkAll spare + 1
  | .agg parts => uptoBulkAll parts + 1
  | .iface _ d => uptoBulk d + 1
  | .map entries => uptoBulkEntries entries + 1
  | .held _ => 1
def uptoBulkAll {H : Type} : List (DataW H) → Nat
  | [] => 0
  | d :: r => uptoBulk d + uptoBulkAll r
def uptoBulkEntries {H : Type} : List (Lit × DataW H) → Nat
  | [] => 0
  | x :: r => uptoBulkEntry x + uptoBulkEntries r
def uptoBulkEntry {H : Type} : Lit × DataW H → Nat
  | (.string bytes, d) => bytes.length + uptoBulk d + 1
  | (_, d) => uptoBulk d + 1
 end
def uptoSmall : (H : Type) → List (DataW H) → Bool := fun _ ds => decide (uptoBulkAll ds ≤ 1048576)
def OpenSpec.upto (s : _root_.Go.ChangeSpec) : _root_.Go.OpenSpec := { _root_.Go.OpenSpec.ofChange s with cond := some uptoSmall }

/-- 'cablegramlaw04.StreamBlocks', WHERE WHAT IT READS IS OF BULK AT MOST 1048576: true; the input reads as it did. -/
def streamBlocksUptoRow : OpenClaim := { program := "ytbiiffendpkidaadoor", sum := "5d14f6514be652691440be8ea6e7e05fdadb82725f1eb46b0c3a7f549b735ef0", func := "cablegram/cablegramlaw04.StreamBlocks", spec := "streamBlocks", named := ["cablegram/stream.quarters", "cablegram/stream.start"], apart := false, laid := [("cablegram/stream.start", laid_cablegram_stream_start), ("cablegram/stream.quarters", laid_cablegram_stream_quarters)], narrowed := true }
def StreamBlocksUptoSaid : Prop := streamBlocksUptoRow.holds Tryd.pinned (OpenSpec.upto streamBlocksSpec)

/-- 'cablegramlaw04.StreamTurns', WHERE WHAT IT READS IS OF BULK AT MOST 1048576: true; the input reads as it did. -/
def streamTurnsUptoRow : OpenClaim := { program := "ytbiiffendpkidaadoor", sum := "5d14f6514be652691440be8ea6e7e05fdadb82725f1eb46b0c3a7f549b735ef0", func := "cablegram/cablegramlaw04.StreamTurns", spec := "streamTurns", named := ["cablegram/stream.quarters", "cablegram/stream.start"], apart := false, laid := [("cablegram/stream.start", laid_cablegram_stream_start), ("cablegram/stream.quarters", laid_cablegram_stream_quarters)], narrowed := true }
def StreamTurnsUptoSaid : Prop := streamTurnsUptoRow.holds Tryd.pinned (OpenSpec.upto streamTurnsSpec)

/-- 'cablegramlaw04.StreamMixes', WHERE WHAT IT READS IS OF BULK AT MOST 1048576: true; the input reads as it did. -/
def streamMixesUptoRow : OpenClaim := { program := "ytbiiffendpkidaadoor", sum := "5d14f6514be652691440be8ea6e7e05fdadb82725f1eb46b0c3a7f549b735ef0", func := "cablegram/cablegramlaw04.StreamMixes", spec := "streamMixes", unfollowed := true, recurses := true, named := ["cablegram/stream.quarters", "cablegram/stream.start"], apart := false, laid := [("cablegram/stream.start", laid_cablegram_stream_start), ("cablegram/stream.quarters", laid_cablegram_stream_quarters)], narrowed := true }
def StreamMixesUptoSaid : Prop := streamMixesUptoRow.holds Tryd.pinned (OpenSpec.upto streamMixesSpec)

/-- 'cablegramlaw04.StreamTwice', WHERE WHAT IT READS IS OF BULK AT MOST 1048576: true; the input reads as it did. -/
def streamTwiceUptoRow : OpenClaim := { program := "ytbiiffendpkidaadoor", sum := "5d14f6514be652691440be8ea6e7e05fdadb82725f1eb46b0c3a7f549b735ef0", func := "cablegram/cablegramlaw04.StreamTwice", spec := "streamTwice", unfollowed := true, recurses := true, named := ["cablegram/stream.quarters", "cablegram/stream.start"], apart := false, laid := [("cablegram/stream.start", laid_cablegram_stream_start), ("cablegram/stream.quarters", laid_cablegram_stream_quarters)], narrowed := true }
def StreamTwiceUptoSaid : Prop := streamTwiceUptoRow.holds Tryd.pinned (OpenSpec.upto streamTwiceSpec)

/-- 'cablegramlaw04.StreamFurther', WHERE WHAT IT READS IS OF BULK AT MOST 1048576: true; the input reads as it did. -/
def streamFurtherUptoRow : OpenClaim := { program := "ytbiiffendpkidaadoor", sum := "5d14f6514be652691440be8ea6e7e05fdadb82725f1eb46b0c3a7f549b735ef0", func := "cablegram/cablegramlaw04.StreamFurther", spec := "streamFurther", unfollowed := true, recurses := true, named := ["cablegram/stream.quarters", "cablegram/stream.start"], apart := false, laid := [("cablegram/stream.start", laid_cablegram_stream_start), ("cablegram/stream.quarters", laid_cablegram_stream_quarters)], narrowed := true }
def StreamFurtherUptoSaid : Prop := streamFurtherUptoRow.holds Tryd.pinned (OpenSpec.upto streamFurtherSpec)

/-- 'cablegramlaw04.StreamCut', WHERE WHAT IT READS IS OF BULK AT MOST 1048576: true; the input reads as it did. -/
def streamCutUptoRow : OpenClaim := { program := "ytbiiffendpkidaadoor", sum := "5d14f6514be652691440be8ea6e7e05fdadb82725f1eb46b0c3a7f549b735ef0", func := "cablegram/cablegramlaw04.StreamCut", spec := "streamCut", unfollowed := true, recurses := true, named := ["cablegram/stream.quarters", "cablegram/stream.start"], apart := false, laid := [("cablegram/stream.start", laid_cablegram_stream_start), ("cablegram/stream.quarters", laid_cablegram_stream_quarters)], narrowed := true }
def StreamCutUptoSaid : Prop := streamCutUptoRow.holds Tryd.pinned (OpenSpec.upto streamCutSpec)

end Rows
end Go.Proofs.YtbiiffendpkidaaDoor
