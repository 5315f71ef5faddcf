/-
  No cell of these rows narrows 'for every input' (looked for: loops, veiled, ifaces, maps, wideKeys, modest, calm, conditions, laid).
  DERIVED. THE GIVEN ROWS OF THIS SEAT. 6 by the template 'for every input the law returns true; each argument reads behind the call as it read before'; 0 by the template 'total and deterministic' (their statements: YtmlpimidbgeacaaTotals.lean).
  GIVEN WITH THE SEED: the statements are not yours to turn. If you find one false, say at which input.
  Laid BY PROGRAM, IN A SANDBOX (cutbox-rows.mjs): the forced cells as the released guide's own fill.sh prints them over the translation 588636b6615175a3… (all of the seat's roots in one cut). By AI agents, Wed Nov 11 2026. No macro, syntax, notation, axiom, sorry.
-/
import Derived.Test.YtmlpimidbgeacaaChecked
import GoSem.Claim
import GoSem.ClaimJoined
import GoSem.ClaimMapViews
import Derived.JoinedTies
import Derived.KernelRfl
namespace Go.Proofs.Ytmlpimidbgeacaa
/- THE CELL 'sum', in the pinned program and in every row, IS THE sha256 OF THE DUMP (.gsa) THAT YtmlpimidbgeacaaProg.lean LOADS. Nothing in Lean hashes anything: it is a label: what it is worth is what the hold of that sum in a sandbox is worth. -/
noncomputable def Try.pinned : Pinned := { name := "ytmlpimidbgeacaa", sum := "588636b6615175a31060d4b8f42cb31c53cd9a740bcaf2cf0fc40ad124c810df", checked := Try.checked }
namespace Rows
def none {H : Type} : Left H := { results := [], args := [] }

/-- 'hydrocascadelaw10.ForecastWeights': WHATEVER THE INPUT: true; the input reads as it did. -/
def forecastWeightsSpec : ChangeSpec := { name := "forecastWeights", fn := fun _ => fun
  | [d1, d2, d3] => { results := [.lit (.bool true)], args := [d1, d2, d3] }
  | _ => none }
def forecastWeightsRow : OpenClaim := { program := "ytmlpimidbgeacaa", sum := "588636b6615175a31060d4b8f42cb31c53cd9a740bcaf2cf0fc40ad124c810df", func := "hydrocascade/hydrocascadelaw10.ForecastWeights", spec := "forecastWeights", unfollowed := true, recurses := true, apart := false }
def ForecastWeightsSaid : Prop := forecastWeightsRow.holds Try.pinned (OpenSpec.ofChange forecastWeightsSpec)

/-- ITS FALSE NEIGHBOUR: 'it returns false'. Refute it at one input. -/
def forecastWeightsWrong : ChangeSpec := { name := "forecastWeights", fn := fun _ => fun
  | [d1, d2, d3] => { results := [.lit (.bool false)], args := [d1, d2, d3] }
  | _ => none }
def ForecastWeightsWrongFalsely : Prop := forecastWeightsRow.holds Try.pinned (OpenSpec.ofChange forecastWeightsWrong)

/-- 'hydrocascadelaw10.ForecastQuantiles': WHATEVER THE INPUT: true; the input reads as it did. -/
def forecastQuantilesSpec : ChangeSpec := { name := "forecastQuantiles", fn := fun _ => fun
  | [d1, d2, d3] => { results := [.lit (.bool true)], args := [d1, d2, d3] }
  | _ => none }
def forecastQuantilesRow : OpenClaim := { program := "ytmlpimidbgeacaa", sum := "588636b6615175a31060d4b8f42cb31c53cd9a740bcaf2cf0fc40ad124c810df", func := "hydrocascade/hydrocascadelaw10.ForecastQuantiles", spec := "forecastQuantiles", unfollowed := true, recurses := true, apart := false }
def ForecastQuantilesSaid : Prop := forecastQuantilesRow.holds Try.pinned (OpenSpec.ofChange forecastQuantilesSpec)

/-- ITS FALSE NEIGHBOUR: 'it returns false'. Refute it at one input. -/
def forecastQuantilesWrong : ChangeSpec := { name := "forecastQuantiles", fn := fun _ => fun
  | [d1, d2, d3] => { results := [.lit (.bool false)], args := [d1, d2, d3] }
  | _ => none }
def ForecastQuantilesWrongFalsely : Prop := forecastQuantilesRow.holds Try.pinned (OpenSpec.ofChange forecastQuantilesWrong)

/-- 'hydrocascadelaw10.ForecastAsks': WHATEVER THE INPUT: true; the input reads as it did. -/
def forecastAsksSpec : ChangeSpec := { name := "forecastAsks", fn := fun _ => fun
  | [d1, d2, d3, d4, d5, d6] => { results := [.lit (.bool true)], args := [d1, d2, d3, d4, d5, d6] }
  | _ => none }
def forecastAsksRow : OpenClaim := { program := "ytmlpimidbgeacaa", sum := "588636b6615175a31060d4b8f42cb31c53cd9a740bcaf2cf0fc40ad124c810df", func := "hydrocascade/hydrocascadelaw10.ForecastAsks", spec := "forecastAsks", unfollowed := true, recurses := true, apart := false }
def ForecastAsksSaid : Prop := forecastAsksRow.holds Try.pinned (OpenSpec.ofChange forecastAsksSpec)

/-- ITS FALSE NEIGHBOUR: 'it returns false'. Refute it at one input. -/
def forecastAsksWrong : ChangeSpec := { name := "forecastAsks", fn := fun _ => fun
  | [d1, d2, d3, d4, d5, d6] => { results := [.lit (.bool false)], args := [d1, d2, d3, d4, d5, d6] }
  | _ => none }
def ForecastAsksWrongFalsely : Prop := forecastAsksRow.holds Try.pinned (OpenSpec.ofChange forecastAsksWrong)

/-- 'hydrocascadelaw10.ForecastLatest': WHATEVER THE INPUT: true; the input reads as it did. -/
def forecastLatestSpec : ChangeSpec := { name := "forecastLatest", fn := fun _ => fun
  | [d1, d2] => { results := [.lit (.bool true)], args := [d1, d2] }
  | _ => none }
def forecastLatestRow : OpenClaim := { program := "ytmlpimidbgeacaa", sum := "588636b6615175a31060d4b8f42cb31c53cd9a740bcaf2cf0fc40ad124c810df", func := "hydrocascade/hydrocascadelaw10.ForecastLatest", spec := "forecastLatest", unfollowed := true, recurses := true, apart := false }
def ForecastLatestSaid : Prop := forecastLatestRow.holds Try.pinned (OpenSpec.ofChange forecastLatestSpec)

/-- ITS FALSE NEIGHBOUR: 'it returns false'. Refute it at one input. -/
def forecastLatestWrong : ChangeSpec := { name := "forecastLatest", fn := fun _ => fun
  | [d1, d2] => { results := [.lit (.bool false)], args := [d1, d2] }
  | _ => none }
def ForecastLatestWrongFalsely : Prop := forecastLatestRow.holds Try.pinned (OpenSpec.ofChange forecastLatestWrong)

/-- 'hydrocascadelaw10.ForecastMoves': WHATEVER THE INPUT: true; the input reads as it did. -/
def forecastMovesSpec : ChangeSpec := { name := "forecastMoves", fn := fun _ => fun
  | [d1, d2, d3] => { results := [.lit (.bool true)], args := [d1, d2, d3] }
  | _ => none }
def forecastMovesRow : OpenClaim := { program := "ytmlpimidbgeacaa", sum := "588636b6615175a31060d4b8f42cb31c53cd9a740bcaf2cf0fc40ad124c810df", func := "hydrocascade/hydrocascadelaw10.ForecastMoves", spec := "forecastMoves", unfollowed := true, recurses := true, apart := false }
def ForecastMovesSaid : Prop := forecastMovesRow.holds Try.pinned (OpenSpec.ofChange forecastMovesSpec)

/-- ITS FALSE NEIGHBOUR: 'it returns false'. Refute it at one input. -/
def forecastMovesWrong : ChangeSpec := { name := "forecastMoves", fn := fun _ => fun
  | [d1, d2, d3] => { results := [.lit (.bool false)], args := [d1, d2, d3] }
  | _ => none }
def ForecastMovesWrongFalsely : Prop := forecastMovesRow.holds Try.pinned (OpenSpec.ofChange forecastMovesWrong)

/-- 'hydrocascadelaw10.ForecastShifts': WHATEVER THE INPUT: true; the input reads as it did. -/
def forecastShiftsSpec : ChangeSpec := { name := "forecastShifts", fn := fun _ => fun
  | [d] => { results := [.lit (.bool true)], args := [d] }
  | _ => none }
def forecastShiftsRow : OpenClaim := { program := "ytmlpimidbgeacaa", sum := "588636b6615175a31060d4b8f42cb31c53cd9a740bcaf2cf0fc40ad124c810df", func := "hydrocascade/hydrocascadelaw10.ForecastShifts", spec := "forecastShifts", unfollowed := true, recurses := true, apart := false }
def ForecastShiftsSaid : Prop := forecastShiftsRow.holds Try.pinned (OpenSpec.ofChange forecastShiftsSpec)

/-- ITS FALSE NEIGHBOUR: 'it returns false'. Refute it at one input. -/
def forecastShiftsWrong : ChangeSpec := { name := "forecastShifts", fn := fun _ => fun
  | [d] => { results := [.lit (.bool false)], args := [d] }
  | _ => none }
def ForecastShiftsWrongFalsely : Prop := forecastShiftsRow.holds Try.pinned (OpenSpec.ofChange forecastShiftsWrong)

/- THE SECOND FORM. 'bulk': how many values and letters a reading holds, each counted each time it is reached (what is shared counts as often as it is met; a slice's spare places count too). A statement '..UptoSaid' is the law's where the arguments, and the package variables that the reading takes, are together of bulk at most 1048576: NARROWER than '..Said'. Prove '..Said' where nothing that the law and all that it calls make is longer than what came in: it says more and counts as full. Else prove '..UptoSaid'. A law counts once. -/
mutual
def uptoBulk {H : Type} : DataW H → Nat
  | .lit (.string bytes) => bytes.length + 1
  | .lit _ => 1
  | .nil => 1
  | .ptr d => uptoBulk d + 1
  | .slice elems spare => uptoBulkAll elems + uptoBulkAll spare + 1
  | .agg parts => uptoBulkAll parts + 1
  | .iface _ d => uptoBulk d + 1
  | .map entries => uptoBulkEntries entries + 1
  | .held _ => 1
def uptoBulkAll {H : Type} : List (DataW H) → Nat
  | [] => 0
  | d :: r => uptoBulk d + uptoBulkAll r
def uptoBulkEntries {H : Type} : List (Lit × DataW H) → Nat
  | [] => 0
  | x :: r => uptoBulkEntry x + uptoBulkEntries r
def uptoBulkEntry {H : Type} : Lit × DataW H → Nat
  | (.string bytes, d) => bytes.length + uptoBulk d + 1
  | (_, d) => uptoBulk d + 1
 end
def uptoSmall : (H : Type) → List (DataW H) → Bool := fun _ ds => decide (uptoBulkAll ds ≤ 1048576)
def OpenSpec.upto (s : _root_.Go.ChangeSpec) : _root_.Go.OpenSpec := { _root_.Go.OpenSpec.ofChange s with cond := some uptoSmall }

/-- 'hydrocascadelaw10.ForecastWeights', WHERE WHAT IT READS IS OF BULK AT MOST 1048576: true; the input reads as it did. -/
def forecastWeightsUptoRow : OpenClaim := { program := "ytmlpimidbgeacaa", sum := "588636b6615175a31060d4b8f42cb31c53cd9a740bcaf2cf0fc40ad124c810df", func := "hydrocascade/hydrocascadelaw10.ForecastWeights", spec := "forecastWeights", unfollowed := true, recurses := true, apart := false, narrowed := true }
def ForecastWeightsUptoSaid : Prop := forecastWeightsUptoRow.holds Try.pinned (OpenSpec.upto forecastWeightsSpec)

/-- 'hydrocascadelaw10.ForecastQuantiles', WHERE WHAT IT READS IS OF BULK AT MOST 1048576: true; the input reads as it did. -/
def forecastQuantilesUptoRow : OpenClaim := { program := "ytmlpimidbgeacaa", sum := "588636b6615175a31060d4b8f42cb31c53cd9a740bcaf2cf0fc40ad124c810df", func := "hydrocascade/hydrocascadelaw10.ForecastQuantiles", spec := "forecastQuantiles", unfollowed := true, recurses := true, apart := false, narrowed := true }
def ForecastQuantilesUptoSaid : Prop := forecastQuantilesUptoRow.holds Try.pinned (OpenSpec.upto forecastQuantilesSpec)

/-- 'hydrocascadelaw10.ForecastAsks', WHERE WHAT IT READS IS OF BULK AT MOST 1048576: true; the input reads as it did. -/
def forecastAsksUptoRow : OpenClaim := { program := "ytmlpimidbgeacaa", sum := "588636b6615175a31060d4b8f42cb31c53cd9a740bcaf2cf0fc40ad124c810df", func := "hydrocascade/hydrocascadelaw10.ForecastAsks", spec := "forecastAsks", unfollowed := true, recurses := true, apart := false, narrowed := true }
def ForecastAsksUptoSaid : Prop := forecastAsksUptoRow.holds Try.pinned (OpenSpec.upto forecastAsksSpec)

/-- 'hydrocascadelaw10.ForecastLatest', WHERE WHAT IT READS IS OF BULK AT MOST 1048576: true; the input reads as it did. -/
def forecastLatestUptoRow : OpenClaim := { program := "ytmlpimidbgeacaa", sum := "588636b6615175a31060d4b8f42cb31c53cd9a740bcaf2cf0fc40ad124c810df", func := "hydrocascade/hydrocascadelaw10.ForecastLatest", spec := "forecastLatest", unfollowed := true, recurses := true, apart := false, narrowed := true }
def ForecastLatestUptoSaid : Prop := forecastLatestUptoRow.holds Try.pinned (OpenSpec.upto forecastLatestSpec)

/-- 'hydrocascadelaw10.ForecastMoves', WHERE WHAT IT READS IS OF BULK AT MOST 1048576: true; the input reads as it did. -/
def forecastMovesUptoRow : OpenClaim := { program := "ytmlpimidbgeacaa", sum := "588636b6615175a31060d4b8f42cb31c53cd9a740bcaf2cf0fc40ad124c810df", func := "hydrocascade/hydrocascadelaw10.ForecastMoves", spec := "forecastMoves", unfollowed := true, recurses := true, apart := false, narrowed := true }
def ForecastMovesUptoSaid : Prop := forecastMovesUptoRow.holds Try.pinned (OpenSpec.upto forecastMovesSpec)

/-- 'hydrocascadelaw10.ForecastShifts', WHERE WHAT IT READS IS OF BULK AT MOST 1048576: true; the input reads as it did. -/
def forecastShiftsUptoRow : OpenClaim := { program := "ytmlpimidbgeacaa", sum := "588636b6615175a31060d4b8f42cb31c53cd9a740bcaf2cf0fc40ad124c810df", func := "hydrocascade/hydrocascadelaw10.ForecastShifts", spec := "forecastShifts", unfollowed := true, recurses := true, apart := false, narrowed := true }
def ForecastShiftsUptoSaid : Prop := forecastShiftsUptoRow.holds Try.pinned (OpenSpec.upto forecastShiftsSpec)

end Rows
end Go.Proofs.Ytmlpimidbgeacaa
