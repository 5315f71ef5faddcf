/-
  NARROWER THAN 'FOR EVERY INPUT', by the rows' own cells (each row's printed sentence says how): ResolveChooses: laid · ResolveStronger: laid · ResolveWanted: laid · ResolveWider: laid · ResolveProves: laid · ResolveChecks: laid.
  DERIVED. THE GIVEN ROWS OF THIS SEAT. 6 by the template 'for every input the law returns true; each argument reads behind the call as it read before'; 0 by the template 'total and deterministic' (their statements: YtnjlbmdpfhiojaaDoorTotals.lean).
  GIVEN WITH THE SEED: the statements are not yours to turn. If you find one false, say at which input.
  Laid BY PROGRAM, IN A SANDBOX (cutbox-rows.mjs): the forced cells as the released guide's own fill.sh prints them over the translation 29d256c5436763ad… (all of the seat's roots in one cut). By AI agents, Wed Nov 11 2026. No macro, syntax, notation, axiom, sorry.
-/
import Derived.Test.YtnjlbmdpfhiojaaDoorChecked
import GoSem.Claim
import GoSem.ClaimJoined
import GoSem.ClaimMapViews
import Derived.JoinedTies
import Derived.KernelRfl
namespace Go.Proofs.YtnjlbmdpfhiojaaDoor
/- THE CELL 'sum', in the pinned program and in every row, IS THE sha256 OF THE DUMP (.gsa) THAT YtnjlbmdpfhiojaaDoorProg.lean LOADS. Nothing in Lean hashes anything: it is a label: what it is worth is what the hold of that sum in a sandbox is worth. -/
noncomputable def Tryd.pinned : Pinned := { name := "ytnjlbmdpfhiojaadoor", sum := "29d256c5436763ad7cec13f0b89853aa51db185a0a99e775ec8b4d37c410c3b1", checked := Tryd.checked }
namespace Rows
def none {H : Type} : Left H := { results := [], args := [] }

/- WHAT THE LISTED PACKAGE-LEVEL VARIABLES READ AS WHEN THE CALL BEGINS. Each datum BY PROGRAM (the guide's laid-datum.mjs) off the statement by which the dump's own 'gosem.cut.vars' lays the variable. In a bare row this is a premise. The card (YtnjlbmdpfhiojaaDoorCards.lean) ties it to the program's text. -/
def laid_hydrocascade_licence_kinds {H : Type} : DataW H := .agg [.agg [.lit (.bool false), .lit (.bool false)], .agg [.lit (.bool true), .lit (.bool false)], .agg [.lit (.bool false), .lit (.bool false)], .agg [.lit (.bool false), .lit (.bool true)], .agg [.lit (.bool true), .lit (.bool true)]]

/-- 'hydrocascadelaw14.ResolveChooses': WHATEVER THE INPUT: true; the input reads as it did. -/
def resolveChoosesSpec : ChangeSpec := { name := "resolveChooses", fn := fun _ => fun
  | [d1, d2, d3, d4, d5, d6, d7] => { results := [.lit (.bool true)], args := [d1, d2, d3, d4, d5, d6, d7] }
  | _ => none }
def resolveChoosesRow : OpenClaim := { program := "ytnjlbmdpfhiojaadoor", sum := "29d256c5436763ad7cec13f0b89853aa51db185a0a99e775ec8b4d37c410c3b1", func := "hydrocascade/hydrocascadelaw14.ResolveChooses", spec := "resolveChooses", unfollowed := true, recurses := true, named := ["hydrocascade/licence.kinds"], apart := false, laid := [("hydrocascade/licence.kinds", laid_hydrocascade_licence_kinds)] }
def ResolveChoosesSaid : Prop := resolveChoosesRow.holds Tryd.pinned (OpenSpec.ofChange resolveChoosesSpec)

/-- ITS FALSE NEIGHBOUR: 'it returns false'. Refute it at one input. -/
def resolveChoosesWrong : ChangeSpec := { name := "resolveChooses", fn := fun _ => fun
  | [d1, d2, d3, d4, d5, d6, d7] => { results := [.lit (.bool false)], args := [d1, d2, d3, d4, d5, d6, d7] }
  | _ => none }
def ResolveChoosesWrongFalsely : Prop := resolveChoosesRow.holds Tryd.pinned (OpenSpec.ofChange resolveChoosesWrong)

/-- 'hydrocascadelaw14.ResolveStronger': WHATEVER THE INPUT: true; the input reads as it did. -/
def resolveStrongerSpec : ChangeSpec := { name := "resolveStronger", fn := fun _ => fun
  | [d1, d2] => { results := [.lit (.bool true)], args := [d1, d2] }
  | _ => none }
def resolveStrongerRow : OpenClaim := { program := "ytnjlbmdpfhiojaadoor", sum := "29d256c5436763ad7cec13f0b89853aa51db185a0a99e775ec8b4d37c410c3b1", func := "hydrocascade/hydrocascadelaw14.ResolveStronger", spec := "resolveStronger", unfollowed := true, recurses := true, named := ["hydrocascade/licence.kinds"], apart := false, laid := [("hydrocascade/licence.kinds", laid_hydrocascade_licence_kinds)] }
def ResolveStrongerSaid : Prop := resolveStrongerRow.holds Tryd.pinned (OpenSpec.ofChange resolveStrongerSpec)

/-- ITS FALSE NEIGHBOUR: 'it returns false'. Refute it at one input. -/
def resolveStrongerWrong : ChangeSpec := { name := "resolveStronger", fn := fun _ => fun
  | [d1, d2] => { results := [.lit (.bool false)], args := [d1, d2] }
  | _ => none }
def ResolveStrongerWrongFalsely : Prop := resolveStrongerRow.holds Tryd.pinned (OpenSpec.ofChange resolveStrongerWrong)

/-- 'hydrocascadelaw14.ResolveWanted': WHATEVER THE INPUT: true; the input reads as it did. -/
def resolveWantedSpec : ChangeSpec := { name := "resolveWanted", fn := fun _ => fun
  | [d] => { results := [.lit (.bool true)], args := [d] }
  | _ => none }
def resolveWantedRow : OpenClaim := { program := "ytnjlbmdpfhiojaadoor", sum := "29d256c5436763ad7cec13f0b89853aa51db185a0a99e775ec8b4d37c410c3b1", func := "hydrocascade/hydrocascadelaw14.ResolveWanted", spec := "resolveWanted", unfollowed := true, recurses := true, named := ["hydrocascade/licence.kinds"], apart := false, laid := [("hydrocascade/licence.kinds", laid_hydrocascade_licence_kinds)] }
def ResolveWantedSaid : Prop := resolveWantedRow.holds Tryd.pinned (OpenSpec.ofChange resolveWantedSpec)

/-- ITS FALSE NEIGHBOUR: 'it returns false'. Refute it at one input. -/
def resolveWantedWrong : ChangeSpec := { name := "resolveWanted", fn := fun _ => fun
  | [d] => { results := [.lit (.bool false)], args := [d] }
  | _ => none }
def ResolveWantedWrongFalsely : Prop := resolveWantedRow.holds Tryd.pinned (OpenSpec.ofChange resolveWantedWrong)

/-- 'hydrocascadelaw14.ResolveWider': WHATEVER THE INPUT: true; the input reads as it did. -/
def resolveWiderSpec : ChangeSpec := { name := "resolveWider", fn := fun _ => fun
  | [d1, d2] => { results := [.lit (.bool true)], args := [d1, d2] }
  | _ => none }
def resolveWiderRow : OpenClaim := { program := "ytnjlbmdpfhiojaadoor", sum := "29d256c5436763ad7cec13f0b89853aa51db185a0a99e775ec8b4d37c410c3b1", func := "hydrocascade/hydrocascadelaw14.ResolveWider", spec := "resolveWider", unfollowed := true, recurses := true, named := ["hydrocascade/licence.kinds"], apart := false, laid := [("hydrocascade/licence.kinds", laid_hydrocascade_licence_kinds)] }
def ResolveWiderSaid : Prop := resolveWiderRow.holds Tryd.pinned (OpenSpec.ofChange resolveWiderSpec)

/-- ITS FALSE NEIGHBOUR: 'it returns false'. Refute it at one input. -/
def resolveWiderWrong : ChangeSpec := { name := "resolveWider", fn := fun _ => fun
  | [d1, d2] => { results := [.lit (.bool false)], args := [d1, d2] }
  | _ => none }
def ResolveWiderWrongFalsely : Prop := resolveWiderRow.holds Tryd.pinned (OpenSpec.ofChange resolveWiderWrong)

/-- 'hydrocascadelaw14.ResolveProves': WHATEVER THE INPUT: true; the input reads as it did. -/
def resolveProvesSpec : ChangeSpec := { name := "resolveProves", fn := fun _ => fun
  | [d] => { results := [.lit (.bool true)], args := [d] }
  | _ => none }
def resolveProvesRow : OpenClaim := { program := "ytnjlbmdpfhiojaadoor", sum := "29d256c5436763ad7cec13f0b89853aa51db185a0a99e775ec8b4d37c410c3b1", func := "hydrocascade/hydrocascadelaw14.ResolveProves", spec := "resolveProves", unfollowed := true, recurses := true, named := ["hydrocascade/licence.kinds"], apart := false, laid := [("hydrocascade/licence.kinds", laid_hydrocascade_licence_kinds)] }
def ResolveProvesSaid : Prop := resolveProvesRow.holds Tryd.pinned (OpenSpec.ofChange resolveProvesSpec)

/-- ITS FALSE NEIGHBOUR: 'it returns false'. Refute it at one input. -/
def resolveProvesWrong : ChangeSpec := { name := "resolveProves", fn := fun _ => fun
  | [d] => { results := [.lit (.bool false)], args := [d] }
  | _ => none }
def ResolveProvesWrongFalsely : Prop := resolveProvesRow.holds Tryd.pinned (OpenSpec.ofChange resolveProvesWrong)

/-- 'hydrocascadelaw14.ResolveChecks': WHATEVER THE INPUT: true; the input reads as it did. -/
def resolveChecksSpec : ChangeSpec := { name := "resolveChecks", fn := fun _ => fun
  | [d1, d2, d3] => { results := [.lit (.bool true)], args := [d1, d2, d3] }
  | _ => none }
def resolveChecksRow : OpenClaim := { program := "ytnjlbmdpfhiojaadoor", sum := "29d256c5436763ad7cec13f0b89853aa51db185a0a99e775ec8b4d37c410c3b1", func := "hydrocascade/hydrocascadelaw14.ResolveChecks", spec := "resolveChecks", unfollowed := true, recurses := true, named := ["hydrocascade/licence.kinds"], apart := false, laid := [("hydrocascade/licence.kinds", laid_hydrocascade_licence_kinds)] }
def ResolveChecksSaid : Prop := resolveChecksRow.holds Tryd.pinned (OpenSpec.ofChange resolveChecksSpec)

/-- ITS FALSE NEIGHBOUR: 'it returns false'. Refute it at one input. -/
def resolveChecksWrong : ChangeSpec := { name := "resolveChecks", fn := fun _ => fun
  | [d1, d2, d3] => { results := [.lit (.bool false)], args := [d1, d2, d3] }
  | _ => none }
def ResolveChecksWrongFalsely : Prop := resolveChecksRow.holds Tryd.pinned (OpenSpec.ofChange resolveChecksWrong)

/- THE SECOND FORM. 'bulk': how many values and letters a reading holds, each counted each time it is reached (what is shared counts as often as it is met; a slice's spare places count too). A statement '..UptoSaid' is the law's where the arguments, and the package variables that the reading takes, are together of bulk at most 1048576: NARROWER than '..Said'. Prove '..Said' where nothing that the law and all that it calls make is longer than what came in: it says more and counts as full. Else prove '..UptoSaid'. A law counts once. -/
mutual
def uptoBulk {H : Type} : DataW H → Nat
  | .lit (.string bytes) => bytes.length + 1
  | .lit _ => 1
  | .nil => 1
  | .ptr d => uptoBulk d + 1
  | .slice elems spare => uptoBulkAll elems + uptoBulkAll spare + 1
  | .agg parts => uptoBulkAll parts + 1
  | .iface _ d => uptoBulk d + 1
  | .map entries => uptoBulkEntries entries + 1
  | .held _ => 1
def uptoBulkAll {H : Type} : List (DataW H) → Nat
  | [] => 0
  | d :: r => uptoBulk d + uptoBulkAll r
def uptoBulkEntries {H : Type} : List (Lit × DataW H) → Nat
  | [] => 0
  | x :: r => uptoBulkEntry x + uptoBulkEntries r
def uptoBulkEntry {H : Type} : Lit × DataW H → Nat
  | (.string bytes, d) => bytes.length + uptoBulk d + 1
  | (_, d) => uptoBulk d + 1
 end
def uptoSmall : (H : Type) → List (DataW H) → Bool := fun _ ds => decide (uptoBulkAll ds ≤ 1048576)
def OpenSpec.upto (s : _root_.Go.ChangeSpec) : _root_.Go.OpenSpec := { _root_.Go.OpenSpec.ofChange s with cond := some uptoSmall }

/-- 'hydrocascadelaw14.ResolveChooses', WHERE WHAT IT READS IS OF BULK AT MOST 1048576: true; the input reads as it did. -/
def resolveChoosesUptoRow : OpenClaim := { program := "ytnjlbmdpfhiojaadoor", sum := "29d256c5436763ad7cec13f0b89853aa51db185a0a99e775ec8b4d37c410c3b1", func := "hydrocascade/hydrocascadelaw14.ResolveChooses", spec := "resolveChooses", unfollowed := true, recurses := true, named := ["hydrocascade/licence.kinds"], apart := false, laid := [("hydrocascade/licence.kinds", laid_hydrocascade_licence_kinds)], narrowed := true }
def ResolveChoosesUptoSaid : Prop := resolveChoosesUptoRow.holds Tryd.pinned (OpenSpec.upto resolveChoosesSpec)

/-- 'hydrocascadelaw14.ResolveStronger', WHERE WHAT IT READS IS OF BULK AT MOST 1048576: true; the input reads as it did. -/
def resolveStrongerUptoRow : OpenClaim := { program := "ytnjlbmdpfhiojaadoor", sum := "29d256c5436763ad7cec13f0b89853aa51db185a0a99e775ec8b4d37c410c3b1", func := "hydrocascade/hydrocascadelaw14.ResolveStronger", spec := "resolveStronger", unfollowed := true, recurses := true, named := ["hydrocascade/licence.kinds"], apart := false, laid := [("hydrocascade/licence.kinds", laid_hydrocascade_licence_kinds)], narrowed := true }
def ResolveStrongerUptoSaid : Prop := resolveStrongerUptoRow.holds Tryd.pinned (OpenSpec.upto resolveStrongerSpec)

/-- 'hydrocascadelaw14.ResolveWanted', WHERE WHAT IT READS IS OF BULK AT MOST 1048576: true; the input reads as it did. -/
def resolveWantedUptoRow : OpenClaim := { program := "ytnjlbmdpfhiojaadoor", sum := "29d256c5436763ad7cec13f0b89853aa51db185a0a99e775ec8b4d37c410c3b1", func := "hydrocascade/hydrocascadelaw14.ResolveWanted", spec := "resolveWanted", unfollowed := true, recurses := true, named := ["hydrocascade/licence.kinds"], apart := false, laid := [("hydrocascade/licence.kinds", laid_hydrocascade_licence_kinds)], narrowed := true }
def ResolveWantedUptoSaid : Prop := resolveWantedUptoRow.holds Tryd.pinned (OpenSpec.upto resolveWantedSpec)

/-- 'hydrocascadelaw14.ResolveWider', WHERE WHAT IT READS IS OF BULK AT MOST 1048576: true; the input reads as it did. -/
def resolveWiderUptoRow : OpenClaim := { program := "ytnjlbmdpfhiojaadoor", sum := "29d256c5436763ad7cec13f0b89853aa51db185a0a99e775ec8b4d37c410c3b1", func := "hydrocascade/hydrocascadelaw14.ResolveWider", spec := "resolveWider", unfollowed := true, recurses := true, named := ["hydrocascade/licence.kinds"], apart := false, laid := [("hydrocascade/licence.kinds", laid_hydrocascade_licence_kinds)], narrowed := true }
def ResolveWiderUptoSaid : Prop := resolveWiderUptoRow.holds Tryd.pinned (OpenSpec.upto resolveWiderSpec)

/-- 'hydrocascadelaw14.ResolveProves', WHERE WHAT IT READS IS OF BULK AT MOST 1048576: true; the input reads as it did. -/
def resolveProvesUptoRow : OpenClaim := { program := "ytnjlbmdpfhiojaadoor", sum := "29d256c5436763ad7cec13f0b89853aa51db185a0a99e775ec8b4d37c410c3b1", func := "hydrocascade/hydrocascadelaw14.ResolveProves", spec := "resolveProves", unfollowed := true, recurses := true, named := ["hydrocascade/licence.kinds"], apart := false, laid := [("hydrocascade/licence.kinds", laid_hydrocascade_licence_kinds)], narrowed := true }
def ResolveProvesUptoSaid : Prop := resolveProvesUptoRow.holds Tryd.pinned (OpenSpec.upto resolveProvesSpec)

/-- 'hydrocascadelaw14.ResolveChecks', WHERE WHAT IT READS IS OF BULK AT MOST 1048576: true; the input reads as it did. -/
def resolveChecksUptoRow : OpenClaim := { program := "ytnjlbmdpfhiojaadoor", sum := "29d256c5436763ad7cec13f0b89853aa51db185a0a99e775ec8b4d37c410c3b1", func := "hydrocascade/hydrocascadelaw14.ResolveChecks", spec := "resolveChecks", unfollowed := true, recurses := true, named := ["hydrocascade/licence.kinds"], apart := false, laid := [("hydrocascade/licence.kinds", laid_hydrocascade_licence_kinds)], narrowed := true }
def ResolveChecksUptoSaid : Prop := resolveChecksUptoRow.holds Tryd.pinned (OpenSpec.upto resolveChecksSpec)

end Rows
end Go.Proofs.YtnjlbmdpfhiojaaDoor
