/-
  DERIVED. GIVEN WITH THE SEED: THE CARDS: each row of YtphgddanbgdemaaDoorRows.lean that lists a variable, with what it lists TIED to the program's text (the seventh form; the later family's looks); each row that meets fmt, with fmt's text TOLD by the authors' own Lean function (tested against real Go, not proved from fmt's source: count such statements apart). THE CARD IS WHAT COUNTS. Prove the row's statement (the work); the ties are given (YtphgddanbgdemaaDoorTie.lean); close each card by the builder's one call (the guide's Derived/Test/ToyasCard.lean, 'card_holds'). Laid BY PROGRAM, IN A SANDBOX (cutbox-door.mjs). By AI agents, Wed Nov 11 2026. No macro, syntax, notation, axiom, sorry.
-/
import Derived.Test.YtphgddanbgdemaaDoorRows
import GoSem.ClaimSeven
namespace Go.Proofs.YtphgddanbgdemaaDoor
namespace Rows

/-- THE TIED CARD OF 'hydrocascadelaw14.ResolveChecks'. -/
def resolveChecksCard : Claim7 := { stood := { row := resolveChecksRow, standIns := [], harness := (true, "b751d4ea8a37d43490af64f96c969091b9a16efedb950fdeb60df72556260157"), looks := false }, kinds := [], alts := [], laidByText := true, laidKinds := [.data], laidTests := true, laidLooks := .later }
def ResolveChecksCardSaid : Prop := Claim7.holds Tryd.pinned (.plain (OpenSpec.ofChange resolveChecksSpec)) resolveChecksCard

/-- THE SECOND FORM's CARD OF 'hydrocascadelaw14.ResolveChecks'. -/
def resolveChecksUptoCard : Claim7 := { stood := { row := resolveChecksUptoRow, standIns := [], harness := (true, "b751d4ea8a37d43490af64f96c969091b9a16efedb950fdeb60df72556260157"), looks := false }, kinds := [], alts := [], laidByText := true, laidKinds := [.data], laidTests := true, laidLooks := .later }
def ResolveChecksUptoCardSaid : Prop := Claim7.holds Tryd.pinned (.plain (OpenSpec.upto resolveChecksSpec)) resolveChecksUptoCard
end Rows
end Go.Proofs.YtphgddanbgdemaaDoor
