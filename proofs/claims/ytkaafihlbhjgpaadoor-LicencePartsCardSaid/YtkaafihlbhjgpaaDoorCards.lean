/-
  DERIVED. GIVEN WITH THE SEED: THE CARDS: each row of YtkaafihlbhjgpaaDoorRows.lean that lists a variable, with what it lists TIED to the program's text (the seventh form; the later family's looks); each row that meets fmt, with fmt's text TOLD by the authors' own Lean function (tested against real Go, not proved from fmt's source: count such statements apart). THE CARD IS WHAT COUNTS. Prove the row's statement (the work); the ties are given (YtkaafihlbhjgpaaDoorTie.lean); close each card by the builder's one call (the guide's Derived/Test/ToyasCard.lean, 'card_holds'). Laid BY PROGRAM, IN A SANDBOX (cutbox-door.mjs). By AI agents, Wed Nov 11 2026. No macro, syntax, notation, axiom, sorry.
-/
import Derived.Test.YtkaafihlbhjgpaaDoorRows
import GoSem.ClaimSeven
namespace Go.Proofs.YtkaafihlbhjgpaaDoor
namespace Rows

/-- THE TIED CARD OF 'hydrocascadelaw12.LicenceDays'. -/
def licenceDaysCard : Claim7 := { stood := { row := licenceDaysRow, standIns := [], harness := (true, "4be82b6f372e154cfe51cef20902b52361b8e3be130d0d6b19132846bfb1cafa"), looks := false }, kinds := [], alts := [], laidByText := true, laidKinds := [.data], laidTests := true, laidLooks := .later }
def LicenceDaysCardSaid : Prop := Claim7.holds Tryd.pinned (.plain (OpenSpec.ofChange licenceDaysSpec)) licenceDaysCard

/-- THE TIED CARD OF 'hydrocascadelaw12.LicenceOrder'. -/
def licenceOrderCard : Claim7 := { stood := { row := licenceOrderRow, standIns := [], harness := (true, "4be82b6f372e154cfe51cef20902b52361b8e3be130d0d6b19132846bfb1cafa"), looks := false }, kinds := [], alts := [], laidByText := true, laidKinds := [.data], laidTests := true, laidLooks := .later }
def LicenceOrderCardSaid : Prop := Claim7.holds Tryd.pinned (.plain (OpenSpec.ofChange licenceOrderSpec)) licenceOrderCard

/-- THE TIED CARD OF 'hydrocascadelaw12.LicenceAll'. -/
def licenceAllCard : Claim7 := { stood := { row := licenceAllRow, standIns := [], harness := (true, "4be82b6f372e154cfe51cef20902b52361b8e3be130d0d6b19132846bfb1cafa"), looks := false }, kinds := [], alts := [], laidByText := true, laidKinds := [.data], laidTests := true, laidLooks := .later }
def LicenceAllCardSaid : Prop := Claim7.holds Tryd.pinned (.plain (OpenSpec.ofChange licenceAllSpec)) licenceAllCard

/-- THE TIED CARD OF 'hydrocascadelaw12.LicenceParts'. -/
def licencePartsCard : Claim7 := { stood := { row := licencePartsRow, standIns := [], harness := (true, "4be82b6f372e154cfe51cef20902b52361b8e3be130d0d6b19132846bfb1cafa"), looks := false }, kinds := [], alts := [], laidByText := true, laidKinds := [.data], laidTests := true, laidLooks := .later }
def LicencePartsCardSaid : Prop := Claim7.holds Tryd.pinned (.plain (OpenSpec.ofChange licencePartsSpec)) licencePartsCard

/-- THE TIED CARD OF 'hydrocascadelaw12.LicenceRises'. -/
def licenceRisesCard : Claim7 := { stood := { row := licenceRisesRow, standIns := [], harness := (true, "4be82b6f372e154cfe51cef20902b52361b8e3be130d0d6b19132846bfb1cafa"), looks := false }, kinds := [], alts := [], laidByText := true, laidKinds := [.data], laidTests := true, laidLooks := .later }
def LicenceRisesCardSaid : Prop := Claim7.holds Tryd.pinned (.plain (OpenSpec.ofChange licenceRisesSpec)) licenceRisesCard

/-- THE SECOND FORM's CARD OF 'hydrocascadelaw12.LicenceDays'. -/
def licenceDaysUptoCard : Claim7 := { stood := { row := licenceDaysUptoRow, standIns := [], harness := (true, "4be82b6f372e154cfe51cef20902b52361b8e3be130d0d6b19132846bfb1cafa"), looks := false }, kinds := [], alts := [], laidByText := true, laidKinds := [.data], laidTests := true, laidLooks := .later }
def LicenceDaysUptoCardSaid : Prop := Claim7.holds Tryd.pinned (.plain (OpenSpec.upto licenceDaysSpec)) licenceDaysUptoCard

/-- THE SECOND FORM's CARD OF 'hydrocascadelaw12.LicenceOrder'. -/
def licenceOrderUptoCard : Claim7 := { stood := { row := licenceOrderUptoRow, standIns := [], harness := (true, "4be82b6f372e154cfe51cef20902b52361b8e3be130d0d6b19132846bfb1cafa"), looks := false }, kinds := [], alts := [], laidByText := true, laidKinds := [.data], laidTests := true, laidLooks := .later }
def LicenceOrderUptoCardSaid : Prop := Claim7.holds Tryd.pinned (.plain (OpenSpec.upto licenceOrderSpec)) licenceOrderUptoCard

/-- THE SECOND FORM's CARD OF 'hydrocascadelaw12.LicenceAll'. -/
def licenceAllUptoCard : Claim7 := { stood := { row := licenceAllUptoRow, standIns := [], harness := (true, "4be82b6f372e154cfe51cef20902b52361b8e3be130d0d6b19132846bfb1cafa"), looks := false }, kinds := [], alts := [], laidByText := true, laidKinds := [.data], laidTests := true, laidLooks := .later }
def LicenceAllUptoCardSaid : Prop := Claim7.holds Tryd.pinned (.plain (OpenSpec.upto licenceAllSpec)) licenceAllUptoCard

/-- THE SECOND FORM's CARD OF 'hydrocascadelaw12.LicenceParts'. -/
def licencePartsUptoCard : Claim7 := { stood := { row := licencePartsUptoRow, standIns := [], harness := (true, "4be82b6f372e154cfe51cef20902b52361b8e3be130d0d6b19132846bfb1cafa"), looks := false }, kinds := [], alts := [], laidByText := true, laidKinds := [.data], laidTests := true, laidLooks := .later }
def LicencePartsUptoCardSaid : Prop := Claim7.holds Tryd.pinned (.plain (OpenSpec.upto licencePartsSpec)) licencePartsUptoCard

/-- THE SECOND FORM's CARD OF 'hydrocascadelaw12.LicenceRises'. -/
def licenceRisesUptoCard : Claim7 := { stood := { row := licenceRisesUptoRow, standIns := [], harness := (true, "4be82b6f372e154cfe51cef20902b52361b8e3be130d0d6b19132846bfb1cafa"), looks := false }, kinds := [], alts := [], laidByText := true, laidKinds := [.data], laidTests := true, laidLooks := .later }
def LicenceRisesUptoCardSaid : Prop := Claim7.holds Tryd.pinned (.plain (OpenSpec.upto licenceRisesSpec)) licenceRisesUptoCard
end Rows
end Go.Proofs.YtkaafihlbhjgpaaDoor
