/-
  No cell of these rows narrows 'for every input' (looked for: loops, veiled, ifaces, maps, wideKeys, modest, calm, conditions, laid).
  DERIVED. THE GIVEN ROWS OF THIS SEAT. 5 by the template 'for every input the law returns true; each argument reads behind the call as it read before'; 0 by the template 'total and deterministic' (their statements: YtbfflggoffmnmaaTotals.lean).
  GIVEN WITH THE SEED: the statements are not yours to turn. If you find one false, say at which input.
  Laid BY PROGRAM, IN A SANDBOX (cutbox-rows.mjs): the forced cells as the released guide's own fill.sh prints them over the translation 238637091954b490… (all of the seat's roots in one cut). By AI agents, Wed Nov 11 2026. No macro, syntax, notation, axiom, sorry.
-/
import Derived.Test.YtbfflggoffmnmaaChecked
import GoSem.Claim
import GoSem.ClaimJoined
import GoSem.ClaimMapViews
import Derived.JoinedTies
import Derived.KernelRfl
namespace Go.Proofs.Ytbfflggoffmnmaa
/- THE CELL 'sum', in the pinned program and in every row, IS THE sha256 OF THE DUMP (.gsa) THAT YtbfflggoffmnmaaProg.lean LOADS. Nothing in Lean hashes anything: it is a label: what it is worth is what the hold of that sum in a sandbox is worth. -/
noncomputable def Try.pinned : Pinned := { name := "ytbfflggoffmnmaa", sum := "238637091954b490fbc41378d2a9a8e94270a60da91b9b4abea71a415b73a614", checked := Try.checked }
namespace Rows
def none {H : Type} : Left H := { results := [], args := [] }

/-- 'hydrocascadelaw09.InflowSmooth': WHATEVER THE INPUT: true; the input reads as it did. -/
def inflowSmoothSpec : ChangeSpec := { name := "inflowSmooth", fn := fun _ => fun
  | [d1, d2] => { results := [.lit (.bool true)], args := [d1, d2] }
  | _ => none }
def inflowSmoothRow : OpenClaim := { program := "ytbfflggoffmnmaa", sum := "238637091954b490fbc41378d2a9a8e94270a60da91b9b4abea71a415b73a614", func := "hydrocascade/hydrocascadelaw09.InflowSmooth", spec := "inflowSmooth", unfollowed := true, recurses := true, apart := false }
def InflowSmoothSaid : Prop := inflowSmoothRow.holds Try.pinned (OpenSpec.ofChange inflowSmoothSpec)

/-- ITS FALSE NEIGHBOUR: 'it returns false'. Refute it at one input. -/
def inflowSmoothWrong : ChangeSpec := { name := "inflowSmooth", fn := fun _ => fun
  | [d1, d2] => { results := [.lit (.bool false)], args := [d1, d2] }
  | _ => none }
def InflowSmoothWrongFalsely : Prop := inflowSmoothRow.holds Try.pinned (OpenSpec.ofChange inflowSmoothWrong)

/-- 'hydrocascadelaw09.InflowSums': WHATEVER THE INPUT: true; the input reads as it did. -/
def inflowSumsSpec : ChangeSpec := { name := "inflowSums", fn := fun _ => fun
  | [d1, d2, d3] => { results := [.lit (.bool true)], args := [d1, d2, d3] }
  | _ => none }
def inflowSumsRow : OpenClaim := { program := "ytbfflggoffmnmaa", sum := "238637091954b490fbc41378d2a9a8e94270a60da91b9b4abea71a415b73a614", func := "hydrocascade/hydrocascadelaw09.InflowSums", spec := "inflowSums", unfollowed := true, recurses := true, apart := false }
def InflowSumsSaid : Prop := inflowSumsRow.holds Try.pinned (OpenSpec.ofChange inflowSumsSpec)

/-- ITS FALSE NEIGHBOUR: 'it returns false'. Refute it at one input. -/
def inflowSumsWrong : ChangeSpec := { name := "inflowSums", fn := fun _ => fun
  | [d1, d2, d3] => { results := [.lit (.bool false)], args := [d1, d2, d3] }
  | _ => none }
def InflowSumsWrongFalsely : Prop := inflowSumsRow.holds Try.pinned (OpenSpec.ofChange inflowSumsWrong)

/-- 'hydrocascadelaw09.InflowUncertain': WHATEVER THE INPUT: true; the input reads as it did. -/
def inflowUncertainSpec : ChangeSpec := { name := "inflowUncertain", fn := fun _ => fun
  | [d1, d2] => { results := [.lit (.bool true)], args := [d1, d2] }
  | _ => none }
def inflowUncertainRow : OpenClaim := { program := "ytbfflggoffmnmaa", sum := "238637091954b490fbc41378d2a9a8e94270a60da91b9b4abea71a415b73a614", func := "hydrocascade/hydrocascadelaw09.InflowUncertain", spec := "inflowUncertain", unfollowed := true, recurses := true, apart := false }
def InflowUncertainSaid : Prop := inflowUncertainRow.holds Try.pinned (OpenSpec.ofChange inflowUncertainSpec)

/-- ITS FALSE NEIGHBOUR: 'it returns false'. Refute it at one input. -/
def inflowUncertainWrong : ChangeSpec := { name := "inflowUncertain", fn := fun _ => fun
  | [d1, d2] => { results := [.lit (.bool false)], args := [d1, d2] }
  | _ => none }
def InflowUncertainWrongFalsely : Prop := inflowUncertainRow.holds Try.pinned (OpenSpec.ofChange inflowUncertainWrong)

/-- 'hydrocascadelaw09.InflowAll': WHATEVER THE INPUT: true; the input reads as it did. -/
def inflowAllSpec : ChangeSpec := { name := "inflowAll", fn := fun _ => fun
  | [d1, d2, d3, d4, d5] => { results := [.lit (.bool true)], args := [d1, d2, d3, d4, d5] }
  | _ => none }
def inflowAllRow : OpenClaim := { program := "ytbfflggoffmnmaa", sum := "238637091954b490fbc41378d2a9a8e94270a60da91b9b4abea71a415b73a614", func := "hydrocascade/hydrocascadelaw09.InflowAll", spec := "inflowAll", unfollowed := true, recurses := true, apart := false }
def InflowAllSaid : Prop := inflowAllRow.holds Try.pinned (OpenSpec.ofChange inflowAllSpec)

/-- ITS FALSE NEIGHBOUR: 'it returns false'. Refute it at one input. -/
def inflowAllWrong : ChangeSpec := { name := "inflowAll", fn := fun _ => fun
  | [d1, d2, d3, d4, d5] => { results := [.lit (.bool false)], args := [d1, d2, d3, d4, d5] }
  | _ => none }
def InflowAllWrongFalsely : Prop := inflowAllRow.holds Try.pinned (OpenSpec.ofChange inflowAllWrong)

/-- 'hydrocascadelaw09.InflowShares': WHATEVER THE INPUT: true; the input reads as it did. -/
def inflowSharesSpec : ChangeSpec := { name := "inflowShares", fn := fun _ => fun
  | [d1, d2, d3] => { results := [.lit (.bool true)], args := [d1, d2, d3] }
  | _ => none }
def inflowSharesRow : OpenClaim := { program := "ytbfflggoffmnmaa", sum := "238637091954b490fbc41378d2a9a8e94270a60da91b9b4abea71a415b73a614", func := "hydrocascade/hydrocascadelaw09.InflowShares", spec := "inflowShares", unfollowed := true, recurses := true, apart := false }
def InflowSharesSaid : Prop := inflowSharesRow.holds Try.pinned (OpenSpec.ofChange inflowSharesSpec)

/-- ITS FALSE NEIGHBOUR: 'it returns false'. Refute it at one input. -/
def inflowSharesWrong : ChangeSpec := { name := "inflowShares", fn := fun _ => fun
  | [d1, d2, d3] => { results := [.lit (.bool false)], args := [d1, d2, d3] }
  | _ => none }
def InflowSharesWrongFalsely : Prop := inflowSharesRow.holds Try.pinned (OpenSpec.ofChange inflowSharesWrong)

/- THE SECOND FORM. 'bulk': how many values and letters a reading holds, each counted each time it is reached (what is shared counts as often as it is met; a slice's spare places count too). A statement '..UptoSaid' is the law's where the arguments, and the package variables that the reading takes, are together of bulk at most 1048576: NARROWER than '..Said'. Prove '..Said' where nothing that the law and all that it calls make is longer than what came in: it says more and counts as full. Else prove '..UptoSaid'. A law counts once. -/
mutual
def uptoBulk {H : Type} : DataW H → Nat
  | .lit (.string bytes) => bytes.length + 1
  | .lit _ => 1
  | .nil => 1
  | .ptr d => uptoBulk d + 1
  | .slice elems spare => uptoBulkAll elems + uptoBulkAll spare + 1
  | .agg parts => uptoBulkAll parts + 1
  | .iface _ d => uptoBulk d + 1
  | .map entries => uptoBulkEntries entries + 1
  | .held _ => 1
def uptoBulkAll {H : Type} : List (DataW H) → Nat
  | [] => 0
  | d :: r => uptoBulk d + uptoBulkAll r
def uptoBulkEntries {H : Type} : List (Lit × DataW H) → Nat
  | [] => 0
  | x :: r => uptoBulkEntry x + uptoBulkEntries r
def uptoBulkEntry {H : Type} : Lit × DataW H → Nat
  | (.string bytes, d) => bytes.length + uptoBulk d + 1
  | (_, d) => uptoBulk d + 1
 end
def uptoSmall : (H : Type) → List (DataW H) → Bool := fun _ ds => decide (uptoBulkAll ds ≤ 1048576)
def OpenSpec.upto (s : _root_.Go.ChangeSpec) : _root_.Go.OpenSpec := { _root_.Go.OpenSpec.ofChange s with cond := some uptoSmall }

/-- 'hydrocascadelaw09.InflowSmooth', WHERE WHAT IT READS IS OF BULK AT MOST 1048576: true; the input reads as it did. -/
def inflowSmoothUptoRow : OpenClaim := { program := "ytbfflggoffmnmaa", sum := "238637091954b490fbc41378d2a9a8e94270a60da91b9b4abea71a415b73a614", func := "hydrocascade/hydrocascadelaw09.InflowSmooth", spec := "inflowSmooth", unfollowed := true, recurses := true, apart := false, narrowed := true }
def InflowSmoothUptoSaid : Prop := inflowSmoothUptoRow.holds Try.pinned (OpenSpec.upto inflowSmoothSpec)

/-- 'hydrocascadelaw09.InflowSums', WHERE WHAT IT READS IS OF BULK AT MOST 1048576: true; the input reads as it did. -/
def inflowSumsUptoRow : OpenClaim := { program := "ytbfflggoffmnmaa", sum := "238637091954b490fbc41378d2a9a8e94270a60da91b9b4abea71a415b73a614", func := "hydrocascade/hydrocascadelaw09.InflowSums", spec := "inflowSums", unfollowed := true, recurses := true, apart := false, narrowed := true }
def InflowSumsUptoSaid : Prop := inflowSumsUptoRow.holds Try.pinned (OpenSpec.upto inflowSumsSpec)

/-- 'hydrocascadelaw09.InflowUncertain', WHERE WHAT IT READS IS OF BULK AT MOST 1048576: true; the input reads as it did. -/
def inflowUncertainUptoRow : OpenClaim := { program := "ytbfflggoffmnmaa", sum := "238637091954b490fbc41378d2a9a8e94270a60da91b9b4abea71a415b73a614", func := "hydrocascade/hydrocascadelaw09.InflowUncertain", spec := "inflowUncertain", unfollowed := true, recurses := true, apart := false, narrowed := true }
def InflowUncertainUptoSaid : Prop := inflowUncertainUptoRow.holds Try.pinned (OpenSpec.upto inflowUncertainSpec)

/-- 'hydrocascadelaw09.InflowAll', WHERE WHAT IT READS IS OF BULK AT MOST 1048576: true; the input reads as it did. -/
def inflowAllUptoRow : OpenClaim := { program := "ytbfflggoffmnmaa", sum := "238637091954b490fbc41378d2a9a8e94270a60da91b9b4abea71a415b73a614", func := "hydrocascade/hydrocascadelaw09.InflowAll", spec := "inflowAll", unfollowed := true, recurses := true, apart := false, narrowed := true }
def InflowAllUptoSaid : Prop := inflowAllUptoRow.holds Try.pinned (OpenSpec.upto inflowAllSpec)

/-- 'hydrocascadelaw09.InflowShares', WHERE WHAT IT READS IS OF BULK AT MOST 1048576: true; the input reads as it did. -/
def inflowSharesUptoRow : OpenClaim := { program := "ytbfflggoffmnmaa", sum := "238637091954b490fbc41378d2a9a8e94270a60da91b9b4abea71a415b73a614", func := "hydrocascade/hydrocascadelaw09.InflowShares", spec := "inflowShares", unfollowed := true, recurses := true, apart := false, narrowed := true }
def InflowSharesUptoSaid : Prop := inflowSharesUptoRow.holds Try.pinned (OpenSpec.upto inflowSharesSpec)

end Rows
end Go.Proofs.Ytbfflggoffmnmaa
