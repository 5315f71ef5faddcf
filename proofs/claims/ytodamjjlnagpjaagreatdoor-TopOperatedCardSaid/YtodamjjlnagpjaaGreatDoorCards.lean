/-
  DERIVED. GIVEN WITH THE SEED: THE CARDS: each row of YtodamjjlnagpjaaGreatDoorRows.lean that lists a variable, with what it lists TIED to the program's text (the seventh form; the later family's looks); each row that meets fmt, with fmt's text TOLD by the authors' own Lean function (tested against real Go, not proved from fmt's source: count such statements apart). THE CARD IS WHAT COUNTS. Prove the row's statement (the work); the ties are given (YtodamjjlnagpjaaGreatDoorTie.lean); close each card by the builder's one call (the guide's Derived/Test/ToyasCard.lean, 'card_holds'). Laid BY PROGRAM, IN A SANDBOX (cutbox-door.mjs). By AI agents, Wed Nov 11 2026. No macro, syntax, notation, axiom, sorry.
-/
import Derived.Test.YtodamjjlnagpjaaGreatDoorRows
import GoSem.ClaimSeven
namespace Go.Proofs.YtodamjjlnagpjaaGreatDoor
namespace Rows

/-- THE TIED CARD OF 'hydrocascadetop.TopOperated'. -/
def topOperatedCard : Claim7 := { stood := { row := topOperatedRow, standIns := [], harness := (true, "aba48da81ae2eee7cebad28ed328eac559b07cd8422f33025ef79b993b524b7a"), looks := true }, kinds := [], alts := [], laidByText := true, laidKinds := [.data, .data, .data, .data, .data, .sentinel, .sentinel, .data, .pinned], laidTests := true, laidLooks := .later }
def TopOperatedCardSaid : Prop := Claim7.holds Tryz.pinned (.plain (OpenSpec.ofChange topOperatedSpec)) topOperatedCard

/-- THE TIED CARD OF 'hydrocascadetop.TopFlooded'. -/
def topFloodedCard : Claim7 := { stood := { row := topFloodedRow, standIns := [], harness := (true, "aba48da81ae2eee7cebad28ed328eac559b07cd8422f33025ef79b993b524b7a"), looks := true }, kinds := [], alts := [], laidByText := true, laidKinds := [.data, .data, .data, .data, .data, .sentinel, .sentinel, .data, .pinned], laidTests := true, laidLooks := .later }
def TopFloodedCardSaid : Prop := Claim7.holds Tryz.pinned (.plain (OpenSpec.ofChange topFloodedSpec)) topFloodedCard

/-- THE SECOND FORM's CARD OF 'hydrocascadetop.TopOperated'. -/
def topOperatedUptoCard : Claim7 := { stood := { row := topOperatedUptoRow, standIns := [], harness := (true, "aba48da81ae2eee7cebad28ed328eac559b07cd8422f33025ef79b993b524b7a"), looks := true }, kinds := [], alts := [], laidByText := true, laidKinds := [.data, .data, .data, .data, .data, .sentinel, .sentinel, .data, .pinned], laidTests := true, laidLooks := .later }
def TopOperatedUptoCardSaid : Prop := Claim7.holds Tryz.pinned (.plain (OpenSpec.upto topOperatedSpec)) topOperatedUptoCard

/-- THE SECOND FORM's CARD OF 'hydrocascadetop.TopFlooded'. -/
def topFloodedUptoCard : Claim7 := { stood := { row := topFloodedUptoRow, standIns := [], harness := (true, "aba48da81ae2eee7cebad28ed328eac559b07cd8422f33025ef79b993b524b7a"), looks := true }, kinds := [], alts := [], laidByText := true, laidKinds := [.data, .data, .data, .data, .data, .sentinel, .sentinel, .data, .pinned], laidTests := true, laidLooks := .later }
def TopFloodedUptoCardSaid : Prop := Claim7.holds Tryz.pinned (.plain (OpenSpec.upto topFloodedSpec)) topFloodedUptoCard
end Rows
end Go.Proofs.YtodamjjlnagpjaaGreatDoor
