/-
  DERIVED. GIVEN WITH THE SEED: THE CARDS: each row of YtnjlbmdpfhiojaaDoorRows.lean that lists a variable, with what it lists TIED to the program's text (the seventh form; the later family's looks); each row that meets fmt, with fmt's text TOLD by the authors' own Lean function (tested against real Go, not proved from fmt's source: count such statements apart). THE CARD IS WHAT COUNTS. Prove the row's statement (the work); the ties are given (YtnjlbmdpfhiojaaDoorTie.lean); close each card by the builder's one call (the guide's Derived/Test/ToyasCard.lean, 'card_holds'). Laid BY PROGRAM, IN A SANDBOX (cutbox-door.mjs). By AI agents, Wed Nov 11 2026. No macro, syntax, notation, axiom, sorry.
-/
import Derived.Test.YtnjlbmdpfhiojaaDoorRows
import GoSem.ClaimSeven
namespace Go.Proofs.YtnjlbmdpfhiojaaDoor
namespace Rows

/-- THE TIED CARD OF 'hydrocascadelaw14.ResolveChooses'. -/
def resolveChoosesCard : Claim7 := { stood := { row := resolveChoosesRow, standIns := [], harness := (true, "daa4bb2bfa729ff2f57a912021074ac685735e36efb86e0673243e23cc88c913"), looks := false }, kinds := [], alts := [], laidByText := true, laidKinds := [.data], laidTests := true, laidLooks := .later }
def ResolveChoosesCardSaid : Prop := Claim7.holds Tryd.pinned (.plain (OpenSpec.ofChange resolveChoosesSpec)) resolveChoosesCard

/-- THE TIED CARD OF 'hydrocascadelaw14.ResolveStronger'. -/
def resolveStrongerCard : Claim7 := { stood := { row := resolveStrongerRow, standIns := [], harness := (true, "daa4bb2bfa729ff2f57a912021074ac685735e36efb86e0673243e23cc88c913"), looks := false }, kinds := [], alts := [], laidByText := true, laidKinds := [.data], laidTests := true, laidLooks := .later }
def ResolveStrongerCardSaid : Prop := Claim7.holds Tryd.pinned (.plain (OpenSpec.ofChange resolveStrongerSpec)) resolveStrongerCard

/-- THE TIED CARD OF 'hydrocascadelaw14.ResolveWanted'. -/
def resolveWantedCard : Claim7 := { stood := { row := resolveWantedRow, standIns := [], harness := (true, "daa4bb2bfa729ff2f57a912021074ac685735e36efb86e0673243e23cc88c913"), looks := false }, kinds := [], alts := [], laidByText := true, laidKinds := [.data], laidTests := true, laidLooks := .later }
def ResolveWantedCardSaid : Prop := Claim7.holds Tryd.pinned (.plain (OpenSpec.ofChange resolveWantedSpec)) resolveWantedCard

/-- THE TIED CARD OF 'hydrocascadelaw14.ResolveWider'. -/
def resolveWiderCard : Claim7 := { stood := { row := resolveWiderRow, standIns := [], harness := (true, "daa4bb2bfa729ff2f57a912021074ac685735e36efb86e0673243e23cc88c913"), looks := false }, kinds := [], alts := [], laidByText := true, laidKinds := [.data], laidTests := true, laidLooks := .later }
def ResolveWiderCardSaid : Prop := Claim7.holds Tryd.pinned (.plain (OpenSpec.ofChange resolveWiderSpec)) resolveWiderCard

/-- THE TIED CARD OF 'hydrocascadelaw14.ResolveProves'. -/
def resolveProvesCard : Claim7 := { stood := { row := resolveProvesRow, standIns := [], harness := (true, "daa4bb2bfa729ff2f57a912021074ac685735e36efb86e0673243e23cc88c913"), looks := false }, kinds := [], alts := [], laidByText := true, laidKinds := [.data], laidTests := true, laidLooks := .later }
def ResolveProvesCardSaid : Prop := Claim7.holds Tryd.pinned (.plain (OpenSpec.ofChange resolveProvesSpec)) resolveProvesCard

/-- THE TIED CARD OF 'hydrocascadelaw14.ResolveChecks'. -/
def resolveChecksCard : Claim7 := { stood := { row := resolveChecksRow, standIns := [], harness := (true, "daa4bb2bfa729ff2f57a912021074ac685735e36efb86e0673243e23cc88c913"), looks := false }, kinds := [], alts := [], laidByText := true, laidKinds := [.data], laidTests := true, laidLooks := .later }
def ResolveChecksCardSaid : Prop := Claim7.holds Tryd.pinned (.plain (OpenSpec.ofChange resolveChecksSpec)) resolveChecksCard

/-- THE SECOND FORM's CARD OF 'hydrocascadelaw14.ResolveChooses'. -/
def resolveChoosesUptoCard : Claim7 := { stood := { row := resolveChoosesUptoRow, standIns := [], harness := (true, "daa4bb2bfa729ff2f57a912021074ac685735e36efb86e0673243e23cc88c913"), looks := false }, kinds := [], alts := [], laidByText := true, laidKinds := [.data], laidTests := true, laidLooks := .later }
def ResolveChoosesUptoCardSaid : Prop := Claim7.holds Tryd.pinned (.plain (OpenSpec.upto resolveChoosesSpec)) resolveChoosesUptoCard

/-- THE SECOND FORM's CARD OF 'hydrocascadelaw14.ResolveStronger'. -/
def resolveStrongerUptoCard : Claim7 := { stood := { row := resolveStrongerUptoRow, standIns := [], harness := (true, "daa4bb2bfa729ff2f57a912021074ac685735e36efb86e0673243e23cc88c913"), looks := false }, kinds := [], alts := [], laidByText := true, laidKinds := [.data], laidTests := true, laidLooks := .later }
def ResolveStrongerUptoCardSaid : Prop := Claim7.holds Tryd.pinned (.plain (OpenSpec.upto resolveStrongerSpec)) resolveStrongerUptoCard

/-- THE SECOND FORM's CARD OF 'hydrocascadelaw14.ResolveWanted'. -/
def resolveWantedUptoCard : Claim7 := { stood := { row := resolveWantedUptoRow, standIns := [], harness := (true, "daa4bb2bfa729ff2f57a912021074ac685735e36efb86e0673243e23cc88c913"), looks := false }, kinds := [], alts := [], laidByText := true, laidKinds := [.data], laidTests := true, laidLooks := .later }
def ResolveWantedUptoCardSaid : Prop := Claim7.holds Tryd.pinned (.plain (OpenSpec.upto resolveWantedSpec)) resolveWantedUptoCard

/-- THE SECOND FORM's CARD OF 'hydrocascadelaw14.ResolveWider'. -/
def resolveWiderUptoCard : Claim7 := { stood := { row := resolveWiderUptoRow, standIns := [], harness := (true, "daa4bb2bfa729ff2f57a912021074ac685735e36efb86e0673243e23cc88c913"), looks := false }, kinds := [], alts := [], laidByText := true, laidKinds := [.data], laidTests := true, laidLooks := .later }
def ResolveWiderUptoCardSaid : Prop := Claim7.holds Tryd.pinned (.plain (OpenSpec.upto resolveWiderSpec)) resolveWiderUptoCard

/-- THE SECOND FORM's CARD OF 'hydrocascadelaw14.ResolveProves'. -/
def resolveProvesUptoCard : Claim7 := { stood := { row := resolveProvesUptoRow, standIns := [], harness := (true, "daa4bb2bfa729ff2f57a912021074ac685735e36efb86e0673243e23cc88c913"), looks := false }, kinds := [], alts := [], laidByText := true, laidKinds := [.data], laidTests := true, laidLooks := .later }
def ResolveProvesUptoCardSaid : Prop := Claim7.holds Tryd.pinned (.plain (OpenSpec.upto resolveProvesSpec)) resolveProvesUptoCard

/-- THE SECOND FORM's CARD OF 'hydrocascadelaw14.ResolveChecks'. -/
def resolveChecksUptoCard : Claim7 := { stood := { row := resolveChecksUptoRow, standIns := [], harness := (true, "daa4bb2bfa729ff2f57a912021074ac685735e36efb86e0673243e23cc88c913"), looks := false }, kinds := [], alts := [], laidByText := true, laidKinds := [.data], laidTests := true, laidLooks := .later }
def ResolveChecksUptoCardSaid : Prop := Claim7.holds Tryd.pinned (.plain (OpenSpec.upto resolveChecksSpec)) resolveChecksUptoCard
end Rows
end Go.Proofs.YtnjlbmdpfhiojaaDoor
