/-
  DERIVED. GIVEN WITH THE SEED: THE CARDS: each row of YtegjihcokndemaaDoorRows.lean that lists a variable, with what it lists TIED to the program's text (the seventh form; the later family's looks); each row that meets fmt, with fmt's text TOLD by the authors' own Lean function (tested against real Go, not proved from fmt's source: count such statements apart). THE CARD IS WHAT COUNTS. Prove the row's statement (the work); the ties are given (YtegjihcokndemaaDoorTie.lean); close each card by the builder's one call (the guide's Derived/Test/ToyasCard.lean, 'card_holds'). Laid BY PROGRAM, IN A SANDBOX (cutbox-door.mjs). By AI agents, Wed Nov 11 2026. No macro, syntax, notation, axiom, sorry.
-/
import Derived.Test.YtegjihcokndemaaDoorRows
import GoSem.ClaimSeven
namespace Go.Proofs.YtegjihcokndemaaDoor
namespace Rows

/-- THE TIED CARD OF 'hydrocascadelaw12.LicenceAll'. -/
def licenceAllCard : Claim7 := { stood := { row := licenceAllRow, standIns := [], harness := (true, "c82a723ed4cfc4d2b909c3cf3581335c47a881d913a41a592e7a3b936388075c"), looks := false }, kinds := [], alts := [], laidByText := true, laidKinds := [.data], laidTests := true, laidLooks := .later }
def LicenceAllCardSaid : Prop := Claim7.holds Tryd.pinned (.plain (OpenSpec.ofChange licenceAllSpec)) licenceAllCard

/-- THE TIED CARD OF 'hydrocascadelaw14.ResolveChooses'. -/
def resolveChoosesCard : Claim7 := { stood := { row := resolveChoosesRow, standIns := [], harness := (true, "c82a723ed4cfc4d2b909c3cf3581335c47a881d913a41a592e7a3b936388075c"), looks := false }, kinds := [], alts := [], laidByText := true, laidKinds := [.data], laidTests := true, laidLooks := .later }
def ResolveChoosesCardSaid : Prop := Claim7.holds Tryd.pinned (.plain (OpenSpec.ofChange resolveChoosesSpec)) resolveChoosesCard

/-- THE TIED CARD OF 'hydrocascadelaw14.ResolveChecks'. -/
def resolveChecksCard : Claim7 := { stood := { row := resolveChecksRow, standIns := [], harness := (true, "c82a723ed4cfc4d2b909c3cf3581335c47a881d913a41a592e7a3b936388075c"), looks := false }, kinds := [], alts := [], laidByText := true, laidKinds := [.data], laidTests := true, laidLooks := .later }
def ResolveChecksCardSaid : Prop := Claim7.holds Tryd.pinned (.plain (OpenSpec.ofChange resolveChecksSpec)) resolveChecksCard

/-- THE SECOND FORM's CARD OF 'hydrocascadelaw12.LicenceAll'. -/
def licenceAllUptoCard : Claim7 := { stood := { row := licenceAllUptoRow, standIns := [], harness := (true, "c82a723ed4cfc4d2b909c3cf3581335c47a881d913a41a592e7a3b936388075c"), looks := false }, kinds := [], alts := [], laidByText := true, laidKinds := [.data], laidTests := true, laidLooks := .later }
def LicenceAllUptoCardSaid : Prop := Claim7.holds Tryd.pinned (.plain (OpenSpec.upto licenceAllSpec)) licenceAllUptoCard

/-- THE SECOND FORM's CARD OF 'hydrocascadelaw14.ResolveChooses'. -/
def resolveChoosesUptoCard : Claim7 := { stood := { row := resolveChoosesUptoRow, standIns := [], harness := (true, "c82a723ed4cfc4d2b909c3cf3581335c47a881d913a41a592e7a3b936388075c"), looks := false }, kinds := [], alts := [], laidByText := true, laidKinds := [.data], laidTests := true, laidLooks := .later }
def ResolveChoosesUptoCardSaid : Prop := Claim7.holds Tryd.pinned (.plain (OpenSpec.upto resolveChoosesSpec)) resolveChoosesUptoCard

/-- THE SECOND FORM's CARD OF 'hydrocascadelaw14.ResolveChecks'. -/
def resolveChecksUptoCard : Claim7 := { stood := { row := resolveChecksUptoRow, standIns := [], harness := (true, "c82a723ed4cfc4d2b909c3cf3581335c47a881d913a41a592e7a3b936388075c"), looks := false }, kinds := [], alts := [], laidByText := true, laidKinds := [.data], laidTests := true, laidLooks := .later }
def ResolveChecksUptoCardSaid : Prop := Claim7.holds Tryd.pinned (.plain (OpenSpec.upto resolveChecksSpec)) resolveChecksUptoCard
end Rows
end Go.Proofs.YtegjihcokndemaaDoor
