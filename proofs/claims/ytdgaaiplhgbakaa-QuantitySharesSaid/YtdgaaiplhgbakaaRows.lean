/-
  No cell of these rows narrows 'for every input' (looked for: loops, veiled, ifaces, maps, wideKeys, modest, calm, conditions, laid).
  DERIVED. THE GIVEN ROWS OF THIS SEAT. 6 by the template 'for every input the law returns true; each argument reads behind the call as it read before'; 0 by the template 'total and deterministic' (their statements: YtdgaaiplhgbakaaTotals.lean).
  GIVEN WITH THE SEED: the statements are not yours to turn. If you find one false, say at which input.
  Laid BY PROGRAM, IN A SANDBOX (cutbox-rows.mjs): the forced cells as the released guide's own fill.sh prints them over the translation 82026bc402493a5c… (all of the seat's roots in one cut). By AI agents, Wed Nov 11 2026. No macro, syntax, notation, axiom, sorry.
-/
import Derived.Test.YtdgaaiplhgbakaaChecked
import GoSem.Claim
import GoSem.ClaimJoined
import GoSem.ClaimMapViews
import Derived.JoinedTies
import Derived.KernelRfl
namespace Go.Proofs.Ytdgaaiplhgbakaa
/- THE CELL 'sum', in the pinned program and in every row, IS THE sha256 OF THE DUMP (.gsa) THAT YtdgaaiplhgbakaaProg.lean LOADS. Nothing in Lean hashes anything: it is a label: what it is worth is what the hold of that sum in a sandbox is worth. -/
noncomputable def Try.pinned : Pinned := { name := "ytdgaaiplhgbakaa", sum := "82026bc402493a5c74522f98e2cb4e1fbc8c4bf8b1b3bd19c6d3238802242e7b", checked := Try.checked }
namespace Rows
def none {H : Type} : Left H := { results := [], args := [] }

/-- 'hydrocascadelaw01.QuantityShares': WHATEVER THE INPUT: true; the input reads as it did. -/
def quantitySharesSpec : ChangeSpec := { name := "quantityShares", fn := fun _ => fun
  | [d1, d2, d3] => { results := [.lit (.bool true)], args := [d1, d2, d3] }
  | _ => none }
def quantitySharesRow : OpenClaim := { program := "ytdgaaiplhgbakaa", sum := "82026bc402493a5c74522f98e2cb4e1fbc8c4bf8b1b3bd19c6d3238802242e7b", func := "hydrocascade/hydrocascadelaw01.QuantityShares", spec := "quantityShares", unfollowed := true, recurses := true, apart := false }
def QuantitySharesSaid : Prop := quantitySharesRow.holds Try.pinned (OpenSpec.ofChange quantitySharesSpec)

/-- ITS FALSE NEIGHBOUR: 'it returns false'. Refute it at one input. -/
def quantitySharesWrong : ChangeSpec := { name := "quantityShares", fn := fun _ => fun
  | [d1, d2, d3] => { results := [.lit (.bool false)], args := [d1, d2, d3] }
  | _ => none }
def QuantitySharesWrongFalsely : Prop := quantitySharesRow.holds Try.pinned (OpenSpec.ofChange quantitySharesWrong)

/-- 'hydrocascadelaw01.QuantityFair': WHATEVER THE INPUT: true; the input reads as it did. -/
def quantityFairSpec : ChangeSpec := { name := "quantityFair", fn := fun _ => fun
  | [d1, d2] => { results := [.lit (.bool true)], args := [d1, d2] }
  | _ => none }
def quantityFairRow : OpenClaim := { program := "ytdgaaiplhgbakaa", sum := "82026bc402493a5c74522f98e2cb4e1fbc8c4bf8b1b3bd19c6d3238802242e7b", func := "hydrocascade/hydrocascadelaw01.QuantityFair", spec := "quantityFair", unfollowed := true, recurses := true, apart := false }
def QuantityFairSaid : Prop := quantityFairRow.holds Try.pinned (OpenSpec.ofChange quantityFairSpec)

/-- ITS FALSE NEIGHBOUR: 'it returns false'. Refute it at one input. -/
def quantityFairWrong : ChangeSpec := { name := "quantityFair", fn := fun _ => fun
  | [d1, d2] => { results := [.lit (.bool false)], args := [d1, d2] }
  | _ => none }
def QuantityFairWrongFalsely : Prop := quantityFairRow.holds Try.pinned (OpenSpec.ofChange quantityFairWrong)

/-- 'hydrocascadelaw01.QuantityBounds': WHATEVER THE INPUT: true; the input reads as it did. -/
def quantityBoundsSpec : ChangeSpec := { name := "quantityBounds", fn := fun _ => fun
  | [d1, d2, d3, d4, d5] => { results := [.lit (.bool true)], args := [d1, d2, d3, d4, d5] }
  | _ => none }
def quantityBoundsRow : OpenClaim := { program := "ytdgaaiplhgbakaa", sum := "82026bc402493a5c74522f98e2cb4e1fbc8c4bf8b1b3bd19c6d3238802242e7b", func := "hydrocascade/hydrocascadelaw01.QuantityBounds", spec := "quantityBounds", unfollowed := true, recurses := true, apart := false }
def QuantityBoundsSaid : Prop := quantityBoundsRow.holds Try.pinned (OpenSpec.ofChange quantityBoundsSpec)

/-- ITS FALSE NEIGHBOUR: 'it returns false'. Refute it at one input. -/
def quantityBoundsWrong : ChangeSpec := { name := "quantityBounds", fn := fun _ => fun
  | [d1, d2, d3, d4, d5] => { results := [.lit (.bool false)], args := [d1, d2, d3, d4, d5] }
  | _ => none }
def QuantityBoundsWrongFalsely : Prop := quantityBoundsRow.holds Try.pinned (OpenSpec.ofChange quantityBoundsWrong)

/-- 'hydrocascadelaw01.QuantityScales': WHATEVER THE INPUT: true; the input reads as it did. -/
def quantityScalesSpec : ChangeSpec := { name := "quantityScales", fn := fun _ => fun
  | [d1, d2] => { results := [.lit (.bool true)], args := [d1, d2] }
  | _ => none }
def quantityScalesRow : OpenClaim := { program := "ytdgaaiplhgbakaa", sum := "82026bc402493a5c74522f98e2cb4e1fbc8c4bf8b1b3bd19c6d3238802242e7b", func := "hydrocascade/hydrocascadelaw01.QuantityScales", spec := "quantityScales", unfollowed := true, recurses := true, apart := false }
def QuantityScalesSaid : Prop := quantityScalesRow.holds Try.pinned (OpenSpec.ofChange quantityScalesSpec)

/-- ITS FALSE NEIGHBOUR: 'it returns false'. Refute it at one input. -/
def quantityScalesWrong : ChangeSpec := { name := "quantityScales", fn := fun _ => fun
  | [d1, d2] => { results := [.lit (.bool false)], args := [d1, d2] }
  | _ => none }
def QuantityScalesWrongFalsely : Prop := quantityScalesRow.holds Try.pinned (OpenSpec.ofChange quantityScalesWrong)

/-- 'hydrocascadelaw01.QuantityCarries': WHATEVER THE INPUT: true; the input reads as it did. -/
def quantityCarriesSpec : ChangeSpec := { name := "quantityCarries", fn := fun _ => fun
  | [d1, d2, d3] => { results := [.lit (.bool true)], args := [d1, d2, d3] }
  | _ => none }
def quantityCarriesRow : OpenClaim := { program := "ytdgaaiplhgbakaa", sum := "82026bc402493a5c74522f98e2cb4e1fbc8c4bf8b1b3bd19c6d3238802242e7b", func := "hydrocascade/hydrocascadelaw01.QuantityCarries", spec := "quantityCarries", unfollowed := true, recurses := true, apart := false }
def QuantityCarriesSaid : Prop := quantityCarriesRow.holds Try.pinned (OpenSpec.ofChange quantityCarriesSpec)

/-- ITS FALSE NEIGHBOUR: 'it returns false'. Refute it at one input. -/
def quantityCarriesWrong : ChangeSpec := { name := "quantityCarries", fn := fun _ => fun
  | [d1, d2, d3] => { results := [.lit (.bool false)], args := [d1, d2, d3] }
  | _ => none }
def QuantityCarriesWrongFalsely : Prop := quantityCarriesRow.holds Try.pinned (OpenSpec.ofChange quantityCarriesWrong)

/-- 'hydrocascadelaw01.QuantityDoes': WHATEVER THE INPUT: true; the input reads as it did. -/
def quantityDoesSpec : ChangeSpec := { name := "quantityDoes", fn := fun _ => fun
  | [d1, d2, d3, d4, d5, d6] => { results := [.lit (.bool true)], args := [d1, d2, d3, d4, d5, d6] }
  | _ => none }
def quantityDoesRow : OpenClaim := { program := "ytdgaaiplhgbakaa", sum := "82026bc402493a5c74522f98e2cb4e1fbc8c4bf8b1b3bd19c6d3238802242e7b", func := "hydrocascade/hydrocascadelaw01.QuantityDoes", spec := "quantityDoes", unfollowed := true, recurses := true, apart := false }
def QuantityDoesSaid : Prop := quantityDoesRow.holds Try.pinned (OpenSpec.ofChange quantityDoesSpec)

/-- ITS FALSE NEIGHBOUR: 'it returns false'. Refute it at one input. -/
def quantityDoesWrong : ChangeSpec := { name := "quantityDoes", fn := fun _ => fun
  | [d1, d2, d3, d4, d5, d6] => { results := [.lit (.bool false)], args := [d1, d2, d3, d4, d5, d6] }
  | _ => none }
def QuantityDoesWrongFalsely : Prop := quantityDoesRow.holds Try.pinned (OpenSpec.ofChange quantityDoesWrong)

/- THE SECOND FORM. 'bulk': how many values and letters a reading holds, each counted each time it is reached (what is shared counts as often as it is met; a slice's spare places count too). A statement '..UptoSaid' is the law's where the arguments, and the package variables that the reading takes, are together of bulk at most 1048576: NARROWER than '..Said'. Prove '..Said' where nothing that the law and all that it calls make is longer than what came in: it says more and counts as full. Else prove '..UptoSaid'. A law counts once. -/
mutual
def uptoBulk {H : Type} : DataW H → Nat
  | .lit (.string bytes) => bytes.length + 1
  | .lit _ => 1
  | .nil => 1
  | .ptr d => uptoBulk d + 1
  | .slice elems spare => uptoBulkAll elems + uptoBulkAll spare + 1
  | .agg parts => uptoBulkAll parts + 1
  | .iface _ d => uptoBulk d + 1
  | .map entries => uptoBulkEntries entries + 1
  | .held _ => 1
def uptoBulkAll {H : Type} : List (DataW H) → Nat
  | [] => 0
  | d :: r => uptoBulk d + uptoBulkAll r
def uptoBulkEntries {H : Type} : List (Lit × DataW H) → Nat
  | [] => 0
  | x :: r => uptoBulkEntry x + uptoBulkEntries r
def uptoBulkEntry {H : Type} : Lit × DataW H → Nat
  | (.string bytes, d) => bytes.length + uptoBulk d + 1
  | (_, d) => uptoBulk d + 1
 end
def uptoSmall : (H : Type) → List (DataW H) → Bool := fun _ ds => decide (uptoBulkAll ds ≤ 1048576)
def OpenSpec.upto (s : _root_.Go.ChangeSpec) : _root_.Go.OpenSpec := { _root_.Go.OpenSpec.ofChange s with cond := some uptoSmall }

/-- 'hydrocascadelaw01.QuantityShares', WHERE WHAT IT READS IS OF BULK AT MOST 1048576: true; the input reads as it did. -/
def quantitySharesUptoRow : OpenClaim := { program := "ytdgaaiplhgbakaa", sum := "82026bc402493a5c74522f98e2cb4e1fbc8c4bf8b1b3bd19c6d3238802242e7b", func := "hydrocascade/hydrocascadelaw01.QuantityShares", spec := "quantityShares", unfollowed := true, recurses := true, apart := false, narrowed := true }
def QuantitySharesUptoSaid : Prop := quantitySharesUptoRow.holds Try.pinned (OpenSpec.upto quantitySharesSpec)

/-- 'hydrocascadelaw01.QuantityFair', WHERE WHAT IT READS IS OF BULK AT MOST 1048576: true; the input reads as it did. -/
def quantityFairUptoRow : OpenClaim := { program := "ytdgaaiplhgbakaa", sum := "82026bc402493a5c74522f98e2cb4e1fbc8c4bf8b1b3bd19c6d3238802242e7b", func := "hydrocascade/hydrocascadelaw01.QuantityFair", spec := "quantityFair", unfollowed := true, recurses := true, apart := false, narrowed := true }
def QuantityFairUptoSaid : Prop := quantityFairUptoRow.holds Try.pinned (OpenSpec.upto quantityFairSpec)

/-- 'hydrocascadelaw01.QuantityBounds', WHERE WHAT IT READS IS OF BULK AT MOST 1048576: true; the input reads as it did. -/
def quantityBoundsUptoRow : OpenClaim := { program := "ytdgaaiplhgbakaa", sum := "82026bc402493a5c74522f98e2cb4e1fbc8c4bf8b1b3bd19c6d3238802242e7b", func := "hydrocascade/hydrocascadelaw01.QuantityBounds", spec := "quantityBounds", unfollowed := true, recurses := true, apart := false, narrowed := true }
def QuantityBoundsUptoSaid : Prop := quantityBoundsUptoRow.holds Try.pinned (OpenSpec.upto quantityBoundsSpec)

/-- 'hydrocascadelaw01.QuantityScales', WHERE WHAT IT READS IS OF BULK AT MOST 1048576: true; the input reads as it did. -/
def quantityScalesUptoRow : OpenClaim := { program := "ytdgaaiplhgbakaa", sum := "82026bc402493a5c74522f98e2cb4e1fbc8c4bf8b1b3bd19c6d3238802242e7b", func := "hydrocascade/hydrocascadelaw01.QuantityScales", spec := "quantityScales", unfollowed := true, recurses := true, apart := false, narrowed := true }
def QuantityScalesUptoSaid : Prop := quantityScalesUptoRow.holds Try.pinned (OpenSpec.upto quantityScalesSpec)

/-- 'hydrocascadelaw01.QuantityCarries', WHERE WHAT IT READS IS OF BULK AT MOST 1048576: true; the input reads as it did. -/
def quantityCarriesUptoRow : OpenClaim := { program := "ytdgaaiplhgbakaa", sum := "82026bc402493a5c74522f98e2cb4e1fbc8c4bf8b1b3bd19c6d3238802242e7b", func := "hydrocascade/hydrocascadelaw01.QuantityCarries", spec := "quantityCarries", unfollowed := true, recurses := true, apart := false, narrowed := true }
def QuantityCarriesUptoSaid : Prop := quantityCarriesUptoRow.holds Try.pinned (OpenSpec.upto quantityCarriesSpec)

/-- 'hydrocascadelaw01.QuantityDoes', WHERE WHAT IT READS IS OF BULK AT MOST 1048576: true; the input reads as it did. -/
def quantityDoesUptoRow : OpenClaim := { program := "ytdgaaiplhgbakaa", sum := "82026bc402493a5c74522f98e2cb4e1fbc8c4bf8b1b3bd19c6d3238802242e7b", func := "hydrocascade/hydrocascadelaw01.QuantityDoes", spec := "quantityDoes", unfollowed := true, recurses := true, apart := false, narrowed := true }
def QuantityDoesUptoSaid : Prop := quantityDoesUptoRow.holds Try.pinned (OpenSpec.upto quantityDoesSpec)

end Rows
end Go.Proofs.Ytdgaaiplhgbakaa
