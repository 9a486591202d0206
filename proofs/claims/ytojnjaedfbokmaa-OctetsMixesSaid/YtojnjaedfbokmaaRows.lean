/-
  No cell of these rows narrows 'for every input' (looked for: loops, veiled, ifaces, maps, wideKeys, modest, calm, conditions, laid).
  DERIVED. THE GIVEN ROWS OF THIS SEAT. 7 by the template 'for every input the law returns true; each argument reads behind the call as it read before'; 0 by the template 'total and deterministic' (their statements: YtojnjaedfbokmaaTotals.lean).
  GIVEN WITH THE SEED: the statements are not yours to turn. If you find one false, say at which input.
  Laid BY PROGRAM, IN A SANDBOX (cutbox-rows.mjs): the forced cells as the released guide's own fill.sh prints them over the translation 837683448151faf0… (all of the seat's roots in one cut). By AI agents, Wed Nov 11 2026. No macro, syntax, notation, axiom, sorry.
-/
import Derived.Test.YtojnjaedfbokmaaChecked
import GoSem.Claim
import GoSem.ClaimJoined
import GoSem.ClaimMapViews
import Derived.JoinedTies
import Derived.KernelRfl
namespace Go.Proofs.Ytojnjaedfbokmaa
/- THE CELL 'sum', in the pinned program and in every row, IS THE sha256 OF THE DUMP (.gsa) THAT YtojnjaedfbokmaaProg.lean LOADS. Nothing in Lean hashes anything: it is a label: what it is worth is what the hold of that sum in a sandbox is worth. -/
noncomputable def Try.pinned : Pinned := { name := "ytojnjaedfbokmaa", sum := "837683448151faf07b7ac263e243377b24711bcbd256d31e2b766a801e0713d5", checked := Try.checked }
namespace Rows
def none {H : Type} : Left H := { results := [], args := [] }

/-- 'cablegramlaw01.OctetsDigits': WHATEVER THE INPUT: true; the input reads as it did. -/
def octetsDigitsSpec : ChangeSpec := { name := "octetsDigits", fn := fun _ => fun
  | [d] => { results := [.lit (.bool true)], args := [d] }
  | _ => none }
def octetsDigitsRow : OpenClaim := { program := "ytojnjaedfbokmaa", sum := "837683448151faf07b7ac263e243377b24711bcbd256d31e2b766a801e0713d5", func := "cablegram/cablegramlaw01.OctetsDigits", spec := "octetsDigits", inPlace := ["internal/abi.NoEscape"], apart := false }
def OctetsDigitsSaid : Prop := octetsDigitsRow.holds Try.pinned (OpenSpec.ofChange octetsDigitsSpec)

/-- ITS FALSE NEIGHBOUR: 'it returns false'. Refute it at one input. -/
def octetsDigitsWrong : ChangeSpec := { name := "octetsDigits", fn := fun _ => fun
  | [d] => { results := [.lit (.bool false)], args := [d] }
  | _ => none }
def OctetsDigitsWrongFalsely : Prop := octetsDigitsRow.holds Try.pinned (OpenSpec.ofChange octetsDigitsWrong)

/-- 'cablegramlaw01.OctetsOrder': WHATEVER THE INPUT: true; the input reads as it did. -/
def octetsOrderSpec : ChangeSpec := { name := "octetsOrder", fn := fun _ => fun
  | [d1, d2] => { results := [.lit (.bool true)], args := [d1, d2] }
  | _ => none }
def octetsOrderRow : OpenClaim := { program := "ytojnjaedfbokmaa", sum := "837683448151faf07b7ac263e243377b24711bcbd256d31e2b766a801e0713d5", func := "cablegram/cablegramlaw01.OctetsOrder", spec := "octetsOrder", inPlace := ["internal/abi.NoEscape"], apart := false }
def OctetsOrderSaid : Prop := octetsOrderRow.holds Try.pinned (OpenSpec.ofChange octetsOrderSpec)

/-- ITS FALSE NEIGHBOUR: 'it returns false'. Refute it at one input. -/
def octetsOrderWrong : ChangeSpec := { name := "octetsOrder", fn := fun _ => fun
  | [d1, d2] => { results := [.lit (.bool false)], args := [d1, d2] }
  | _ => none }
def OctetsOrderWrongFalsely : Prop := octetsOrderRow.holds Try.pinned (OpenSpec.ofChange octetsOrderWrong)

/-- 'cablegramlaw01.OctetsTwice': WHATEVER THE INPUT: true; the input reads as it did. -/
def octetsTwiceSpec : ChangeSpec := { name := "octetsTwice", fn := fun _ => fun
  | [d1, d2] => { results := [.lit (.bool true)], args := [d1, d2] }
  | _ => none }
def octetsTwiceRow : OpenClaim := { program := "ytojnjaedfbokmaa", sum := "837683448151faf07b7ac263e243377b24711bcbd256d31e2b766a801e0713d5", func := "cablegram/cablegramlaw01.OctetsTwice", spec := "octetsTwice", inPlace := ["internal/abi.NoEscape"], apart := false }
def OctetsTwiceSaid : Prop := octetsTwiceRow.holds Try.pinned (OpenSpec.ofChange octetsTwiceSpec)

/-- ITS FALSE NEIGHBOUR: 'it returns false'. Refute it at one input. -/
def octetsTwiceWrong : ChangeSpec := { name := "octetsTwice", fn := fun _ => fun
  | [d1, d2] => { results := [.lit (.bool false)], args := [d1, d2] }
  | _ => none }
def OctetsTwiceWrongFalsely : Prop := octetsTwiceRow.holds Try.pinned (OpenSpec.ofChange octetsTwiceWrong)

/-- 'cablegramlaw01.OctetsNumbers': WHATEVER THE INPUT: true; the input reads as it did. -/
def octetsNumbersSpec : ChangeSpec := { name := "octetsNumbers", fn := fun _ => fun
  | [d1, d2, d3] => { results := [.lit (.bool true)], args := [d1, d2, d3] }
  | _ => none }
def octetsNumbersRow : OpenClaim := { program := "ytojnjaedfbokmaa", sum := "837683448151faf07b7ac263e243377b24711bcbd256d31e2b766a801e0713d5", func := "cablegram/cablegramlaw01.OctetsNumbers", spec := "octetsNumbers", inPlace := ["internal/abi.NoEscape"], apart := false }
def OctetsNumbersSaid : Prop := octetsNumbersRow.holds Try.pinned (OpenSpec.ofChange octetsNumbersSpec)

/-- ITS FALSE NEIGHBOUR: 'it returns false'. Refute it at one input. -/
def octetsNumbersWrong : ChangeSpec := { name := "octetsNumbers", fn := fun _ => fun
  | [d1, d2, d3] => { results := [.lit (.bool false)], args := [d1, d2, d3] }
  | _ => none }
def OctetsNumbersWrongFalsely : Prop := octetsNumbersRow.holds Try.pinned (OpenSpec.ofChange octetsNumbersWrong)

/-- 'cablegramlaw01.OctetsBack': WHATEVER THE INPUT: true; the input reads as it did. -/
def octetsBackSpec : ChangeSpec := { name := "octetsBack", fn := fun _ => fun
  | [d1, d2, d3] => { results := [.lit (.bool true)], args := [d1, d2, d3] }
  | _ => none }
def octetsBackRow : OpenClaim := { program := "ytojnjaedfbokmaa", sum := "837683448151faf07b7ac263e243377b24711bcbd256d31e2b766a801e0713d5", func := "cablegram/cablegramlaw01.OctetsBack", spec := "octetsBack", inPlace := ["internal/abi.NoEscape"], apart := false }
def OctetsBackSaid : Prop := octetsBackRow.holds Try.pinned (OpenSpec.ofChange octetsBackSpec)

/-- ITS FALSE NEIGHBOUR: 'it returns false'. Refute it at one input. -/
def octetsBackWrong : ChangeSpec := { name := "octetsBack", fn := fun _ => fun
  | [d1, d2, d3] => { results := [.lit (.bool false)], args := [d1, d2, d3] }
  | _ => none }
def OctetsBackWrongFalsely : Prop := octetsBackRow.holds Try.pinned (OpenSpec.ofChange octetsBackWrong)

/-- 'cablegramlaw01.OctetsKeys': WHATEVER THE INPUT: true; the input reads as it did. -/
def octetsKeysSpec : ChangeSpec := { name := "octetsKeys", fn := fun _ => fun
  | [d1, d2] => { results := [.lit (.bool true)], args := [d1, d2] }
  | _ => none }
def octetsKeysRow : OpenClaim := { program := "ytojnjaedfbokmaa", sum := "837683448151faf07b7ac263e243377b24711bcbd256d31e2b766a801e0713d5", func := "cablegram/cablegramlaw01.OctetsKeys", spec := "octetsKeys", inPlace := ["internal/abi.NoEscape"], apart := false }
def OctetsKeysSaid : Prop := octetsKeysRow.holds Try.pinned (OpenSpec.ofChange octetsKeysSpec)

/-- ITS FALSE NEIGHBOUR: 'it returns false'. Refute it at one input. -/
def octetsKeysWrong : ChangeSpec := { name := "octetsKeys", fn := fun _ => fun
  | [d1, d2] => { results := [.lit (.bool false)], args := [d1, d2] }
  | _ => none }
def OctetsKeysWrongFalsely : Prop := octetsKeysRow.holds Try.pinned (OpenSpec.ofChange octetsKeysWrong)

/-- 'cablegramlaw01.OctetsMixes': WHATEVER THE INPUT: true; the input reads as it did. -/
def octetsMixesSpec : ChangeSpec := { name := "octetsMixes", fn := fun _ => fun
  | [d1, d2] => { results := [.lit (.bool true)], args := [d1, d2] }
  | _ => none }
def octetsMixesRow : OpenClaim := { program := "ytojnjaedfbokmaa", sum := "837683448151faf07b7ac263e243377b24711bcbd256d31e2b766a801e0713d5", func := "cablegram/cablegramlaw01.OctetsMixes", spec := "octetsMixes", inPlace := ["internal/abi.NoEscape"], apart := false }
def OctetsMixesSaid : Prop := octetsMixesRow.holds Try.pinned (OpenSpec.ofChange octetsMixesSpec)

/-- ITS FALSE NEIGHBOUR: 'it returns false'. Refute it at one input. -/
def octetsMixesWrong : ChangeSpec := { name := "octetsMixes", fn := fun _ => fun
  | [d1, d2] => { results := [.lit (.bool false)], args := [d1, d2] }
  | _ => none }
def OctetsMixesWrongFalsely : Prop := octetsMixesRow.holds Try.pinned (OpenSpec.ofChange octetsMixesWrong)

/- THE SECOND FORM. 'bulk': how many values and letters a reading holds, each counted each time it is reached (what is shared counts as often as it is met; a slice's spare places count too). A statement '..UptoSaid' is the law's where the arguments, and the package variables that the reading takes, are together of bulk at most 1048576: NARROWER than '..Said'. Prove '..Said' where nothing that the law and all that it calls make is longer than what came in: it says more and counts as full. Else prove '..UptoSaid'. A law counts once. -/
mutual
def uptoBulk {H : Type} : DataW H → Nat
  | .lit (.string bytes) => bytes.length + 1
  | .lit _ => 1
  | .nil => 1
  | .ptr d => uptoBulk d + 1
  | .slice elems spare => uptoBulkAll elems + uptoBulkAll spare + 1
  | .agg parts => uptoBulkAll parts + 1
  | .iface _ d => uptoBulk d + 1
  | .map entries => uptoBulkEntries entries + 1
  | .held _ => 1
def uptoBulkAll {H : Type} : List (DataW H) → Nat
  | [] => 0
  | d :: r => uptoBulk d + uptoBulkAll r
def uptoBulkEntries {H : Type} : List (Lit × DataW H) → Nat
  | [] => 0
  | x :: r => uptoBulkEntry x + uptoBulkEntries r
def uptoBulkEntry {H : Type} : Lit × DataW H → Nat
  | (.string bytes, d) => bytes.length + uptoBulk d + 1
  | (_, d) => uptoBulk d + 1
 end
def uptoSmall : (H : Type) → List (DataW H) → Bool := fun _ ds => decide (uptoBulkAll ds ≤ 1048576)
def OpenSpec.upto (s : _root_.Go.ChangeSpec) : _root_.Go.OpenSpec := { _root_.Go.OpenSpec.ofChange s with cond := some uptoSmall }

/-- 'cablegramlaw01.OctetsDigits', WHERE WHAT IT READS IS OF BULK AT MOST 1048576: true; the input reads as it did. -/
def octetsDigitsUptoRow : OpenClaim := { program := "ytojnjaedfbokmaa", sum := "837683448151faf07b7ac263e243377b24711bcbd256d31e2b766a801e0713d5", func := "cablegram/cablegramlaw01.OctetsDigits", spec := "octetsDigits", inPlace := ["internal/abi.NoEscape"], apart := false, narrowed := true }
def OctetsDigitsUptoSaid : Prop := octetsDigitsUptoRow.holds Try.pinned (OpenSpec.upto octetsDigitsSpec)

/-- 'cablegramlaw01.OctetsOrder', WHERE WHAT IT READS IS OF BULK AT MOST 1048576: true; the input reads as it did. -/
def octetsOrderUptoRow : OpenClaim := { program := "ytojnjaedfbokmaa", sum := "837683448151faf07b7ac263e243377b24711bcbd256d31e2b766a801e0713d5", func := "cablegram/cablegramlaw01.OctetsOrder", spec := "octetsOrder", inPlace := ["internal/abi.NoEscape"], apart := false, narrowed := true }
def OctetsOrderUptoSaid : Prop := octetsOrderUptoRow.holds Try.pinned (OpenSpec.upto octetsOrderSpec)

/-- 'cablegramlaw01.OctetsTwice', WHERE WHAT IT READS IS OF BULK AT MOST 1048576: true; the input reads as it did. -/
def octetsTwiceUptoRow : OpenClaim := { program := "ytojnjaedfbokmaa", sum := "837683448151faf07b7ac263e243377b24711bcbd256d31e2b766a801e0713d5", func := "cablegram/cablegramlaw01.OctetsTwice", spec := "octetsTwice", inPlace := ["internal/abi.NoEscape"], apart := false, narrowed := true }
def OctetsTwiceUptoSaid : Prop := octetsTwiceUptoRow.holds Try.pinned (OpenSpec.upto octetsTwiceSpec)

/-- 'cablegramlaw01.OctetsNumbers', WHERE WHAT IT READS IS OF BULK AT MOST 1048576: true; the input reads as it did. -/
def octetsNumbersUptoRow : OpenClaim := { program := "ytojnjaedfbokmaa", sum := "837683448151faf07b7ac263e243377b24711bcbd256d31e2b766a801e0713d5", func := "cablegram/cablegramlaw01.OctetsNumbers", spec := "octetsNumbers", inPlace := ["internal/abi.NoEscape"], apart := false, narrowed := true }
def OctetsNumbersUptoSaid : Prop := octetsNumbersUptoRow.holds Try.pinned (OpenSpec.upto octetsNumbersSpec)

/-- 'cablegramlaw01.OctetsBack', WHERE WHAT IT READS IS OF BULK AT MOST 1048576: true; the input reads as it did. -/
def octetsBackUptoRow : OpenClaim := { program := "ytojnjaedfbokmaa", sum := "837683448151faf07b7ac263e243377b24711bcbd256d31e2b766a801e0713d5", func := "cablegram/cablegramlaw01.OctetsBack", spec := "octetsBack", inPlace := ["internal/abi.NoEscape"], apart := false, narrowed := true }
def OctetsBackUptoSaid : Prop := octetsBackUptoRow.holds Try.pinned (OpenSpec.upto octetsBackSpec)

/-- 'cablegramlaw01.OctetsKeys', WHERE WHAT IT READS IS OF BULK AT MOST 1048576: true; the input reads as it did. -/
def octetsKeysUptoRow : OpenClaim := { program := "ytojnjaedfbokmaa", sum := "837683448151faf07b7ac263e243377b24711bcbd256d31e2b766a801e0713d5", func := "cablegram/cablegramlaw01.OctetsKeys", spec := "octetsKeys", inPlace := ["internal/abi.NoEscape"], apart := false, narrowed := true }
def OctetsKeysUptoSaid : Prop := octetsKeysUptoRow.holds Try.pinned (OpenSpec.upto octetsKeysSpec)

/-- 'cablegramlaw01.OctetsMixes', WHERE WHAT IT READS IS OF BULK AT MOST 1048576: true; the input reads as it did. -/
def octetsMixesUptoRow : OpenClaim := { program := "ytojnjaedfbokmaa", sum := "837683448151faf07b7ac263e243377b24711bcbd256d31e2b766a801e0713d5", func := "cablegram/cablegramlaw01.OctetsMixes", spec := "octetsMixes", inPlace := ["internal/abi.NoEscape"], apart := false, narrowed := true }
def OctetsMixesUptoSaid : Prop := octetsMixesUptoRow.holds Try.pinned (OpenSpec.upto octetsMixesSpec)

end Rows
end Go.Proofs.Ytojnjaedfbokmaa
