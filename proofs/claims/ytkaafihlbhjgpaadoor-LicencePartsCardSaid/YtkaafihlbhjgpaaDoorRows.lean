/-
  NARROWER THAN 'FOR EVERY INPUT', by the rows' own cells (each row's printed sentence says how): LicenceDays: laid · LicenceOrder: laid · LicenceAll: laid · LicenceParts: laid · LicenceRises: laid.
  DERIVED. THE GIVEN ROWS OF THIS SEAT. 5 by the template 'for every input the law returns true; each argument reads behind the call as it read before'; 0 by the template 'total and deterministic' (their statements: YtkaafihlbhjgpaaDoorTotals.lean).
  GIVEN WITH THE SEED: the statements are not yours to turn. If you find one false, say at which input.
  Laid BY PROGRAM, IN A SANDBOX (cutbox-rows.mjs): the forced cells as the released guide's own fill.sh prints them over the translation 9799633390357535… (all of the seat's roots in one cut). By AI agents, Wed Nov 11 2026. No macro, syntax, notation, axiom, sorry.
-/
import Derived.Test.YtkaafihlbhjgpaaDoorChecked
import GoSem.Claim
import GoSem.ClaimJoined
import GoSem.ClaimMapViews
import Derived.JoinedTies
import Derived.KernelRfl
namespace Go.Proofs.YtkaafihlbhjgpaaDoor
/- THE CELL 'sum', in the pinned program and in every row, IS THE sha256 OF THE DUMP (.gsa) THAT YtkaafihlbhjgpaaDoorProg.lean LOADS. Nothing in Lean hashes anything: it is a label: what it is worth is what the hold of that sum in a sandbox is worth. -/
noncomputable def Tryd.pinned : Pinned := { name := "ytkaafihlbhjgpaadoor", sum := "9799633390357535357d30851a4c107a502dbc636c0adf5b821aaf5f63445d37", checked := Tryd.checked }
namespace Rows
def none {H : Type} : Left H := { results := [], args := [] }

/- WHAT THE LISTED PACKAGE-LEVEL VARIABLES READ AS WHEN THE CALL BEGINS. Each datum BY PROGRAM (the guide's laid-datum.mjs) off the statement by which the dump's own 'gosem.cut.vars' lays the variable. In a bare row this is a premise. The card (YtkaafihlbhjgpaaDoorCards.lean) ties it to the program's text. -/
def laid_hydrocascade_licence_kinds {H : Type} : DataW H := .agg [.agg [.lit (.bool false), .lit (.bool false)], .agg [.lit (.bool true), .lit (.bool false)], .agg [.lit (.bool false), .lit (.bool false)], .agg [.lit (.bool false), .lit (.bool true)], .agg [.lit (.bool true), .lit (.bool true)]]

/-- 'hydrocascadelaw12.LicenceDays': WHATEVER THE INPUT: true; the input reads as it did. -/
def licenceDaysSpec : ChangeSpec := { name := "licenceDays", fn := fun _ => fun
  | [d1, d2] => { results := [.lit (.bool true)], args := [d1, d2] }
  | _ => none }
def licenceDaysRow : OpenClaim := { program := "ytkaafihlbhjgpaadoor", sum := "9799633390357535357d30851a4c107a502dbc636c0adf5b821aaf5f63445d37", func := "hydrocascade/hydrocascadelaw12.LicenceDays", spec := "licenceDays", unfollowed := true, recurses := true, named := ["hydrocascade/licence.kinds"], apart := false, laid := [("hydrocascade/licence.kinds", laid_hydrocascade_licence_kinds)] }
def LicenceDaysSaid : Prop := licenceDaysRow.holds Tryd.pinned (OpenSpec.ofChange licenceDaysSpec)

/-- ITS FALSE NEIGHBOUR: 'it returns false'. Refute it at one input. -/
def licenceDaysWrong : ChangeSpec := { name := "licenceDays", fn := fun _ => fun
  | [d1, d2] => { results := [.lit (.bool false)], args := [d1, d2] }
  | _ => none }
def LicenceDaysWrongFalsely : Prop := licenceDaysRow.holds Tryd.pinned (OpenSpec.ofChange licenceDaysWrong)

/-- 'hydrocascadelaw12.LicenceOrder': WHATEVER THE INPUT: true; the input reads as it did. -/
def licenceOrderSpec : ChangeSpec := { name := "licenceOrder", fn := fun _ => fun
  | [d1, d2, d3] => { results := [.lit (.bool true)], args := [d1, d2, d3] }
  | _ => none }
def licenceOrderRow : OpenClaim := { program := "ytkaafihlbhjgpaadoor", sum := "9799633390357535357d30851a4c107a502dbc636c0adf5b821aaf5f63445d37", func := "hydrocascade/hydrocascadelaw12.LicenceOrder", spec := "licenceOrder", unfollowed := true, recurses := true, named := ["hydrocascade/licence.kinds"], apart := false, laid := [("hydrocascade/licence.kinds", laid_hydrocascade_licence_kinds)] }
def LicenceOrderSaid : Prop := licenceOrderRow.holds Tryd.pinned (OpenSpec.ofChange licenceOrderSpec)

/-- ITS FALSE NEIGHBOUR: 'it returns false'. Refute it at one input. -/
def licenceOrderWrong : ChangeSpec := { name := "licenceOrder", fn := fun _ => fun
  | [d1, d2, d3] => { results := [.lit (.bool false)], args := [d1, d2, d3] }
  | _ => none }
def LicenceOrderWrongFalsely : Prop := licenceOrderRow.holds Tryd.pinned (OpenSpec.ofChange licenceOrderWrong)

/-- 'hydrocascadelaw12.LicenceAll': WHATEVER THE INPUT: true; the input reads as it did. -/
def licenceAllSpec : ChangeSpec := { name := "licenceAll", fn := fun _ => fun
  | [d1, d2, d3, d4, d5, d6] => { results := [.lit (.bool true)], args := [d1, d2, d3, d4, d5, d6] }
  | _ => none }
def licenceAllRow : OpenClaim := { program := "ytkaafihlbhjgpaadoor", sum := "9799633390357535357d30851a4c107a502dbc636c0adf5b821aaf5f63445d37", func := "hydrocascade/hydrocascadelaw12.LicenceAll", spec := "licenceAll", unfollowed := true, recurses := true, named := ["hydrocascade/licence.kinds"], apart := false, laid := [("hydrocascade/licence.kinds", laid_hydrocascade_licence_kinds)] }
def LicenceAllSaid : Prop := licenceAllRow.holds Tryd.pinned (OpenSpec.ofChange licenceAllSpec)

/-- ITS FALSE NEIGHBOUR: 'it returns false'. Refute it at one input. -/
def licenceAllWrong : ChangeSpec := { name := "licenceAll", fn := fun _ => fun
  | [d1, d2, d3, d4, d5, d6] => { results := [.lit (.bool false)], args := [d1, d2, d3, d4, d5, d6] }
  | _ => none }
def LicenceAllWrongFalsely : Prop := licenceAllRow.holds Tryd.pinned (OpenSpec.ofChange licenceAllWrong)

/-- 'hydrocascadelaw12.LicenceParts': WHATEVER THE INPUT: true; the input reads as it did. -/
def licencePartsSpec : ChangeSpec := { name := "licenceParts", fn := fun _ => fun
  | [d1, d2] => { results := [.lit (.bool true)], args := [d1, d2] }
  | _ => none }
def licencePartsRow : OpenClaim := { program := "ytkaafihlbhjgpaadoor", sum := "9799633390357535357d30851a4c107a502dbc636c0adf5b821aaf5f63445d37", func := "hydrocascade/hydrocascadelaw12.LicenceParts", spec := "licenceParts", unfollowed := true, recurses := true, named := ["hydrocascade/licence.kinds"], apart := false, laid := [("hydrocascade/licence.kinds", laid_hydrocascade_licence_kinds)] }
def LicencePartsSaid : Prop := licencePartsRow.holds Tryd.pinned (OpenSpec.ofChange licencePartsSpec)

/-- ITS FALSE NEIGHBOUR: 'it returns false'. Refute it at one input. -/
def licencePartsWrong : ChangeSpec := { name := "licenceParts", fn := fun _ => fun
  | [d1, d2] => { results := [.lit (.bool false)], args := [d1, d2] }
  | _ => none }
def LicencePartsWrongFalsely : Prop := licencePartsRow.holds Tryd.pinned (OpenSpec.ofChange licencePartsWrong)

/-- 'hydrocascadelaw12.LicenceRises': WHATEVER THE INPUT: true; the input reads as it did. -/
def licenceRisesSpec : ChangeSpec := { name := "licenceRises", fn := fun _ => fun
  | [d1, d2] => { results := [.lit (.bool true)], args := [d1, d2] }
  | _ => none }
def licenceRisesRow : OpenClaim := { program := "ytkaafihlbhjgpaadoor", sum := "9799633390357535357d30851a4c107a502dbc636c0adf5b821aaf5f63445d37", func := "hydrocascade/hydrocascadelaw12.LicenceRises", spec := "licenceRises", unfollowed := true, recurses := true, named := ["hydrocascade/licence.kinds"], apart := false, laid := [("hydrocascade/licence.kinds", laid_hydrocascade_licence_kinds)] }
def LicenceRisesSaid : Prop := licenceRisesRow.holds Tryd.pinned (OpenSpec.ofChange licenceRisesSpec)

/-- ITS FALSE NEIGHBOUR: 'it returns false'. Refute it at one input. -/
def licenceRisesWrong : ChangeSpec := { name := "licenceRises", fn := fun _ => fun
  | [d1, d2] => { results := [.lit (.bool false)], args := [d1, d2] }
  | _ => none }
def LicenceRisesWrongFalsely : Prop := licenceRisesRow.holds Tryd.pinned (OpenSpec.ofChange licenceRisesWrong)

/- THE SECOND FORM. 'bulk': how many values and letters a reading holds, each counted each time it is reached (what is shared counts as often as it is met; a slice's spare places count too). A statement '..UptoSaid' is the law's where the arguments, and the package variables that the reading takes, are together of bulk at most 1048576: NARROWER than '..Said'. Prove '..Said' where nothing that the law and all that it calls make is longer than what came in: it says more and counts as full. Else prove '..UptoSaid'. A law counts once. -/
mutual
def uptoBulk {H : Type} : DataW H → Nat
  | .lit (.string bytes) => bytes.length + 1
  | .lit _ => 1
  | .nil => 1
  | .ptr d => uptoBulk d + 1
  | .slice elems spare => uptoBulkAll elems + uptoBulkAll spare + 1
  | .agg parts => uptoBulkAll parts + 1
  | .iface _ d => uptoBulk d + 1
  | .map entries => uptoBulkEntries entries + 1
  | .held _ => 1
def uptoBulkAll {H : Type} : List (DataW H) → Nat
  | [] => 0
  | d :: r => uptoBulk d + uptoBulkAll r
def uptoBulkEntries {H : Type} : List (Lit × DataW H) → Nat
  | [] => 0
  | x :: r => uptoBulkEntry x + uptoBulkEntries r
def uptoBulkEntry {H : Type} : Lit × DataW H → Nat
  | (.string bytes, d) => bytes.length + uptoBulk d + 1
  | (_, d) => uptoBulk d + 1
 end
def uptoSmall : (H : Type) → List (DataW H) → Bool := fun _ ds => decide (uptoBulkAll ds ≤ 1048576)
def OpenSpec.upto (s : _root_.Go.ChangeSpec) : _root_.Go.OpenSpec := { _root_.Go.OpenSpec.ofChange s with cond := some uptoSmall }

/-- 'hydrocascadelaw12.LicenceDays', WHERE WHAT IT READS IS OF BULK AT MOST 1048576: true; the input reads as it did. -/
def licenceDaysUptoRow : OpenClaim := { program := "ytkaafihlbhjgpaadoor", sum := "9799633390357535357d30851a4c107a502dbc636c0adf5b821aaf5f63445d37", func := "hydrocascade/hydrocascadelaw12.LicenceDays", spec := "licenceDays", unfollowed := true, recurses := true, named := ["hydrocascade/licence.kinds"], apart := false, laid := [("hydrocascade/licence.kinds", laid_hydrocascade_licence_kinds)], narrowed := true }
def LicenceDaysUptoSaid : Prop := licenceDaysUptoRow.holds Tryd.pinned (OpenSpec.upto licenceDaysSpec)

/-- 'hydrocascadelaw12.LicenceOrder', WHERE WHAT IT READS IS OF BULK AT MOST 1048576: true; the input reads as it did. -/
def licenceOrderUptoRow : OpenClaim := { program := "ytkaafihlbhjgpaadoor", sum := "9799633390357535357d30851a4c107a502dbc636c0adf5b821aaf5f63445d37", func := "hydrocascade/hydrocascadelaw12.LicenceOrder", spec := "licenceOrder", unfollowed := true, recurses := true, named := ["hydrocascade/licence.kinds"], apart := false, laid := [("hydrocascade/licence.kinds", laid_hydrocascade_licence_kinds)], narrowed := true }
def LicenceOrderUptoSaid : Prop := licenceOrderUptoRow.holds Tryd.pinned (OpenSpec.upto licenceOrderSpec)

/-- 'hydrocascadelaw12.LicenceAll', WHERE WHAT IT READS IS OF BULK AT MOST 1048576: true; the input reads as it did. -/
def licenceAllUptoRow : OpenClaim := { program := "ytkaafihlbhjgpaadoor", sum := "9799633390357535357d30851a4c107a502dbc636c0adf5b821aaf5f63445d37", func := "hydrocascade/hydrocascadelaw12.LicenceAll", spec := "licenceAll", unfollowed := true, recurses := true, named := ["hydrocascade/licence.kinds"], apart := false, laid := [("hydrocascade/licence.kinds", laid_hydrocascade_licence_kinds)], narrowed := true }
def LicenceAllUptoSaid : Prop := licenceAllUptoRow.holds Tryd.pinned (OpenSpec.upto licenceAllSpec)

/-- 'hydrocascadelaw12.LicenceParts', WHERE WHAT IT READS IS OF BULK AT MOST 1048576: true; the input reads as it did. -/
def licencePartsUptoRow : OpenClaim := { program := "ytkaafihlbhjgpaadoor", sum := "9799633390357535357d30851a4c107a502dbc636c0adf5b821aaf5f63445d37", func := "hydrocascade/hydrocascadelaw12.LicenceParts", spec := "licenceParts", unfollowed := true, recurses := true, named := ["hydrocascade/licence.kinds"], apart := false, laid := [("hydrocascade/licence.kinds", laid_hydrocascade_licence_kinds)], narrowed := true }
def LicencePartsUptoSaid : Prop := licencePartsUptoRow.holds Tryd.pinned (OpenSpec.upto licencePartsSpec)

/-- 'hydrocascadelaw12.LicenceRises', WHERE WHAT IT READS IS OF BULK AT MOST 1048576: true; the input reads as it did. -/
def licenceRisesUptoRow : OpenClaim := { program := "ytkaafihlbhjgpaadoor", sum := "9799633390357535357d30851a4c107a502dbc636c0adf5b821aaf5f63445d37", func := "hydrocascade/hydrocascadelaw12.LicenceRises", spec := "licenceRises", unfollowed := true, recurses := true, named := ["hydrocascade/licence.kinds"], apart := false, laid := [("hydrocascade/licence.kinds", laid_hydrocascade_licence_kinds)], narrowed := true }
def LicenceRisesUptoSaid : Prop := licenceRisesUptoRow.holds Tryd.pinned (OpenSpec.upto licenceRisesSpec)

end Rows
end Go.Proofs.YtkaafihlbhjgpaaDoor
