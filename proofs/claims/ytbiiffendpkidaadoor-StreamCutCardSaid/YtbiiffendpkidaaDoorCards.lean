/-
  DERIVED. GIVEN WITH THE SEED: THE CARDS: each row of YtbiiffendpkidaaDoorRows.lean that lists a variable, with what it lists TIED to the program's text (the seventh form; the later family's looks); each row that meets fmt, with fmt's text TOLD by the authors' own Lean function (tested against real Go, not proved from fmt's source: count such statements apart). THE CARD IS WHAT COUNTS. Prove the row's statement (the work); the ties are given (YtbiiffendpkidaaDoorTie.lean); close each card by the builder's one call (the guide's Derived/Test/ToyasCard.lean, 'card_holds'). Laid BY PROGRAM, IN A SANDBOX (cutbox-door.mjs). By AI agents, Wed Nov 11 2026. No macro, syntax, notation, axiom, sorry.
-/
import Derived.Test.YtbiiffendpkidaaDoorRows
import GoSem.ClaimSeven
namespace Go.Proofs.YtbiiffendpkidaaDoor
namespace Rows

/-- THE TIED CARD OF 'cablegramlaw04.StreamBlocks'. -/
def streamBlocksCard : Claim7 := { stood := { row := streamBlocksRow, standIns := [], harness := (true, "605a0db88aefd650811feed2ab02adbbf3d5033ad117d9f97dabb7b3cca85529"), looks := false }, kinds := [], alts := [], laidByText := true, laidKinds := [.widerDeep, .data], laidTests := true, laidLooks := .later }
def StreamBlocksCardSaid : Prop := Claim7.holds Tryd.pinned (.plain (OpenSpec.ofChange streamBlocksSpec)) streamBlocksCard

/-- THE TIED CARD OF 'cablegramlaw04.StreamTurns'. -/
def streamTurnsCard : Claim7 := { stood := { row := streamTurnsRow, standIns := [], harness := (true, "605a0db88aefd650811feed2ab02adbbf3d5033ad117d9f97dabb7b3cca85529"), looks := false }, kinds := [], alts := [], laidByText := true, laidKinds := [.widerDeep, .data], laidTests := true, laidLooks := .later }
def StreamTurnsCardSaid : Prop := Claim7.holds Tryd.pinned (.plain (OpenSpec.ofChange streamTurnsSpec)) streamTurnsCard

/-- THE TIED CARD OF 'cablegramlaw04.StreamMixes'. -/
def streamMixesCard : Claim7 := { stood := { row := streamMixesRow, standIns := [], harness := (true, "605a0db88aefd650811feed2ab02adbbf3d5033ad117d9f97dabb7b3cca85529"), looks := false }, kinds := [], alts := [], laidByText := true, laidKinds := [.widerDeep, .data], laidTests := true, laidLooks := .later }
def StreamMixesCardSaid : Prop := Claim7.holds Tryd.pinned (.plain (OpenSpec.ofChange streamMixesSpec)) streamMixesCard

/-- THE TIED CARD OF 'cablegramlaw04.StreamTwice'. -/
def streamTwiceCard : Claim7 := { stood := { row := streamTwiceRow, standIns := [], harness := (true, "605a0db88aefd650811feed2ab02adbbf3d5033ad117d9f97dabb7b3cca85529"), looks := false }, kinds := [], alts := [], laidByText := true, laidKinds := [.widerDeep, .data], laidTests := true, laidLooks := .later }
def StreamTwiceCardSaid : Prop := Claim7.holds Tryd.pinned (.plain (OpenSpec.ofChange streamTwiceSpec)) streamTwiceCard

/-- THE TIED CARD OF 'cablegramlaw04.StreamFurther'. -/
def streamFurtherCard : Claim7 := { stood := { row := streamFurtherRow, standIns := [], harness := (true, "605a0db88aefd650811feed2ab02adbbf3d5033ad117d9f97dabb7b3cca85529"), looks := false }, kinds := [], alts := [], laidByText := true, laidKinds := [.widerDeep, .data], laidTests := true, laidLooks := .later }
def StreamFurtherCardSaid : Prop := Claim7.holds Tryd.pinned (.plain (OpenSpec.ofChange streamFurtherSpec)) streamFurtherCard

/-- THE TIED CARD OF 'cablegramlaw04.StreamCut'. -/
def streamCutCard : Claim7 := { stood := { row := streamCutRow, standIns := [], harness := (true, "605a0db88aefd650811feed2ab02adbbf3d5033ad117d9f97dabb7b3cca85529"), looks := false }, kinds := [], alts := [], laidByText := true, laidKinds := [.widerDeep, .data], laidTests := true, laidLooks := .later }
def StreamCutCardSaid : Prop := Claim7.holds Tryd.pinned (.plain (OpenSpec.ofChange streamCutSpec)) streamCutCard

/-- THE SECOND FORM's CARD OF 'cablegramlaw04.StreamBlocks'. -/
def streamBlocksUptoCard : Claim7 := { stood := { row := streamBlocksUptoRow, standIns := [], harness := (true, "605a0db88aefd650811feed2ab02adbbf3d5033ad117d9f97dabb7b3cca85529"), looks := false }, kinds := [], alts := [], laidByText := true, laidKinds := [.widerDeep, .data], laidTests := true, laidLooks := .later }
def StreamBlocksUptoCardSaid : Prop := Claim7.holds Tryd.pinned (.plain (OpenSpec.upto streamBlocksSpec)) streamBlocksUptoCard

/-- THE SECOND FORM's CARD OF 'cablegramlaw04.StreamTurns'. -/
def streamTurnsUptoCard : Claim7 := { stood := { row := streamTurnsUptoRow, standIns := [], harness := (true, "605a0db88aefd650811feed2ab02adbbf3d5033ad117d9f97dabb7b3cca85529"), looks := false }, kinds := [], alts := [], laidByText := true, laidKinds := [.widerDeep, .data], laidTests := true, laidLooks := .later }
def StreamTurnsUptoCardSaid : Prop := Claim7.holds Tryd.pinned (.plain (OpenSpec.upto streamTurnsSpec)) streamTurnsUptoCard

/-- THE SECOND FORM's CARD OF 'cablegramlaw04.StreamMixes'. -/
def streamMixesUptoCard : Claim7 := { stood := { row := streamMixesUptoRow, standIns := [], harness := (true, "605a0db88aefd650811feed2ab02adbbf3d5033ad117d9f97dabb7b3cca85529"), looks := false }, kinds := [], alts := [], laidByText := true, laidKinds := [.widerDeep, .data], laidTests := true, laidLooks := .later }
def StreamMixesUptoCardSaid : Prop := Claim7.holds Tryd.pinned (.plain (OpenSpec.upto streamMixesSpec)) streamMixesUptoCard

/-- THE SECOND FORM's CARD OF 'cablegramlaw04.StreamTwice'. -/
def streamTwiceUptoCard : Claim7 := { stood := { row := streamTwiceUptoRow, standIns := [], harness := (true, "605a0db88aefd650811feed2ab02adbbf3d5033ad117d9f97dabb7b3cca85529"), looks := false }, kinds := [], alts := [], laidByText := true, laidKinds := [.widerDeep, .data], laidTests := true, laidLooks := .later }
def StreamTwiceUptoCardSaid : Prop := Claim7.holds Tryd.pinned (.plain (OpenSpec.upto streamTwiceSpec)) streamTwiceUptoCard

/-- THE SECOND FORM's CARD OF 'cablegramlaw04.StreamFurther'. -/
def streamFurtherUptoCard : Claim7 := { stood := { row := streamFurtherUptoRow, standIns := [], harness := (true, "605a0db88aefd650811feed2ab02adbbf3d5033ad117d9f97dabb7b3cca85529"), looks := false }, kinds := [], alts := [], laidByText := true, laidKinds := [.widerDeep, .data], laidTests := true, laidLooks := .later }
def StreamFurtherUptoCardSaid : Prop := Claim7.holds Tryd.pinned (.plain (OpenSpec.upto streamFurtherSpec)) streamFurtherUptoCard

/-- THE SECOND FORM's CARD OF 'cablegramlaw04.StreamCut'. -/
def streamCutUptoCard : Claim7 := { stood := { row := streamCutUptoRow, standIns := [], harness := (true, "605a0db88aefd650811feed2ab02adbbf3d5033ad117d9f97dabb7b3cca85529"), looks := false }, kinds := [], alts := [], laidByText := true, laidKinds := [.widerDeep, .data], laidTests := true, laidLooks := .later }
def StreamCutUptoCardSaid : Prop := Claim7.holds Tryd.pinned (.plain (OpenSpec.upto streamCutSpec)) streamCutUptoCard
end Rows
end Go.Proofs.YtbiiffendpkidaaDoor
