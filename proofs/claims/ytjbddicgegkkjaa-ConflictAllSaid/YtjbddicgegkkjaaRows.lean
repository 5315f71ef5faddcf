/-
  No cell of these rows narrows 'for every input' (looked for: loops, veiled, ifaces, maps, wideKeys, modest, calm, conditions, laid).
  DERIVED. THE GIVEN ROWS OF THIS SEAT. 5 by the template 'for every input the law returns true; each argument reads behind the call as it read before'; 0 by the template 'total and deterministic' (their statements: YtjbddicgegkkjaaTotals.lean).
  GIVEN WITH THE SEED: the statements are not yours to turn. If you find one false, say at which input.
  Laid BY PROGRAM, IN A SANDBOX (cutbox-rows.mjs): the forced cells as the released guide's own fill.sh prints them over the translation 3f058fc5a44b4340… (all of the seat's roots in one cut). By AI agents, Wed Nov 11 2026. No macro, syntax, notation, axiom, sorry.
-/
import Derived.Test.YtjbddicgegkkjaaChecked
import GoSem.Claim
import GoSem.ClaimJoined
import GoSem.ClaimMapViews
import Derived.JoinedTies
import Derived.KernelRfl
namespace Go.Proofs.Ytjbddicgegkkjaa
/- THE CELL 'sum', in the pinned program and in every row, IS THE sha256 OF THE DUMP (.gsa) THAT YtjbddicgegkkjaaProg.lean LOADS. Nothing in Lean hashes anything: it is a label: what it is worth is what the hold of that sum in a sandbox is worth. -/
noncomputable def Try.pinned : Pinned := { name := "ytjbddicgegkkjaa", sum := "3f058fc5a44b43404187f3aeca7bb13d25e2b4ca4910ab25e6e4bb6fdbc5df59", checked := Try.checked }
namespace Rows
def none {H : Type} : Left H := { results := [], args := [] }

/-- 'hydrocascadelaw15.ConflictMeans': WHATEVER THE INPUT: true; the input reads as it did. -/
def conflictMeansSpec : ChangeSpec := { name := "conflictMeans", fn := fun _ => fun
  | [d1, d2] => { results := [.lit (.bool true)], args := [d1, d2] }
  | _ => none }
def conflictMeansRow : OpenClaim := { program := "ytjbddicgegkkjaa", sum := "3f058fc5a44b43404187f3aeca7bb13d25e2b4ca4910ab25e6e4bb6fdbc5df59", func := "hydrocascade/hydrocascadelaw15.ConflictMeans", spec := "conflictMeans", unfollowed := true, recurses := true, apart := false }
def ConflictMeansSaid : Prop := conflictMeansRow.holds Try.pinned (OpenSpec.ofChange conflictMeansSpec)

/-- ITS FALSE NEIGHBOUR: 'it returns false'. Refute it at one input. -/
def conflictMeansWrong : ChangeSpec := { name := "conflictMeans", fn := fun _ => fun
  | [d1, d2] => { results := [.lit (.bool false)], args := [d1, d2] }
  | _ => none }
def ConflictMeansWrongFalsely : Prop := conflictMeansRow.holds Try.pinned (OpenSpec.ofChange conflictMeansWrong)

/-- 'hydrocascadelaw15.ConflictKinds': WHATEVER THE INPUT: true; the input reads as it did. -/
def conflictKindsSpec : ChangeSpec := { name := "conflictKinds", fn := fun _ => fun
  | [d] => { results := [.lit (.bool true)], args := [d] }
  | _ => none }
def conflictKindsRow : OpenClaim := { program := "ytjbddicgegkkjaa", sum := "3f058fc5a44b43404187f3aeca7bb13d25e2b4ca4910ab25e6e4bb6fdbc5df59", func := "hydrocascade/hydrocascadelaw15.ConflictKinds", spec := "conflictKinds", unfollowed := true, recurses := true, apart := false }
def ConflictKindsSaid : Prop := conflictKindsRow.holds Try.pinned (OpenSpec.ofChange conflictKindsSpec)

/-- ITS FALSE NEIGHBOUR: 'it returns false'. Refute it at one input. -/
def conflictKindsWrong : ChangeSpec := { name := "conflictKinds", fn := fun _ => fun
  | [d] => { results := [.lit (.bool false)], args := [d] }
  | _ => none }
def ConflictKindsWrongFalsely : Prop := conflictKindsRow.holds Try.pinned (OpenSpec.ofChange conflictKindsWrong)

/-- 'hydrocascadelaw15.ConflictFree': WHATEVER THE INPUT: true; the input reads as it did. -/
def conflictFreeSpec : ChangeSpec := { name := "conflictFree", fn := fun _ => fun
  | [d] => { results := [.lit (.bool true)], args := [d] }
  | _ => none }
def conflictFreeRow : OpenClaim := { program := "ytjbddicgegkkjaa", sum := "3f058fc5a44b43404187f3aeca7bb13d25e2b4ca4910ab25e6e4bb6fdbc5df59", func := "hydrocascade/hydrocascadelaw15.ConflictFree", spec := "conflictFree", unfollowed := true, recurses := true, apart := false }
def ConflictFreeSaid : Prop := conflictFreeRow.holds Try.pinned (OpenSpec.ofChange conflictFreeSpec)

/-- ITS FALSE NEIGHBOUR: 'it returns false'. Refute it at one input. -/
def conflictFreeWrong : ChangeSpec := { name := "conflictFree", fn := fun _ => fun
  | [d] => { results := [.lit (.bool false)], args := [d] }
  | _ => none }
def ConflictFreeWrongFalsely : Prop := conflictFreeRow.holds Try.pinned (OpenSpec.ofChange conflictFreeWrong)

/-- 'hydrocascadelaw15.ConflictDead': WHATEVER THE INPUT: true; the input reads as it did. -/
def conflictDeadSpec : ChangeSpec := { name := "conflictDead", fn := fun _ => fun
  | [d] => { results := [.lit (.bool true)], args := [d] }
  | _ => none }
def conflictDeadRow : OpenClaim := { program := "ytjbddicgegkkjaa", sum := "3f058fc5a44b43404187f3aeca7bb13d25e2b4ca4910ab25e6e4bb6fdbc5df59", func := "hydrocascade/hydrocascadelaw15.ConflictDead", spec := "conflictDead", unfollowed := true, recurses := true, apart := false }
def ConflictDeadSaid : Prop := conflictDeadRow.holds Try.pinned (OpenSpec.ofChange conflictDeadSpec)

/-- ITS FALSE NEIGHBOUR: 'it returns false'. Refute it at one input. -/
def conflictDeadWrong : ChangeSpec := { name := "conflictDead", fn := fun _ => fun
  | [d] => { results := [.lit (.bool false)], args := [d] }
  | _ => none }
def ConflictDeadWrongFalsely : Prop := conflictDeadRow.holds Try.pinned (OpenSpec.ofChange conflictDeadWrong)

/-- 'hydrocascadelaw15.ConflictAll': WHATEVER THE INPUT: true; the input reads as it did. -/
def conflictAllSpec : ChangeSpec := { name := "conflictAll", fn := fun _ => fun
  | [d1, d2, d3, d4] => { results := [.lit (.bool true)], args := [d1, d2, d3, d4] }
  | _ => none }
def conflictAllRow : OpenClaim := { program := "ytjbddicgegkkjaa", sum := "3f058fc5a44b43404187f3aeca7bb13d25e2b4ca4910ab25e6e4bb6fdbc5df59", func := "hydrocascade/hydrocascadelaw15.ConflictAll", spec := "conflictAll", unfollowed := true, recurses := true, apart := false }
def ConflictAllSaid : Prop := conflictAllRow.holds Try.pinned (OpenSpec.ofChange conflictAllSpec)

/-- ITS FALSE NEIGHBOUR: 'it returns false'. Refute it at one input. -/
def conflictAllWrong : ChangeSpec := { name := "conflictAll", fn := fun _ => fun
  | [d1, d2, d3, d4] => { results := [.lit (.bool false)], args := [d1, d2, d3, d4] }
  | _ => none }
def ConflictAllWrongFalsely : Prop := conflictAllRow.holds Try.pinned (OpenSpec.ofChange conflictAllWrong)

/- THE SECOND FORM. 'bulk': how many values and letters a reading holds, each counted each time it is reached (what is shared counts as often as it is met; a slice's spare places count too). A statement '..UptoSaid' is the law's where the arguments, and the package variables that the reading takes, are together of bulk at most 1048576: NARROWER than '..Said'. Prove '..Said' where nothing that the law and all that it calls make is longer than what came in: it says more and counts as full. Else prove '..UptoSaid'. A law counts once. -/
mutual
def uptoBulk {H : Type} : DataW H → Nat
  | .lit (.string bytes) => bytes.length + 1
  | .lit _ => 1
  | .nil => 1
  | .ptr d => uptoBulk d + 1
  | .slice elems spare => uptoBulkAll elems + uptoBulkAll spare + 1
  | .agg parts => uptoBulkAll parts + 1
  | .iface _ d => uptoBulk d + 1
  | .map entries => uptoBulkEntries entries + 1
  | .held _ => 1
def uptoBulkAll {H : Type} : List (DataW H) → Nat
  | [] => 0
  | d :: r => uptoBulk d + uptoBulkAll r
def uptoBulkEntries {H : Type} : List (Lit × DataW H) → Nat
  | [] => 0
  | x :: r => uptoBulkEntry x + uptoBulkEntries r
def uptoBulkEntry {H : Type} : Lit × DataW H → Nat
  | (.string bytes, d) => bytes.length + uptoBulk d + 1
  | (_, d) => uptoBulk d + 1
 end
def uptoSmall : (H : Type) → List (DataW H) → Bool := fun _ ds => decide (uptoBulkAll ds ≤ 1048576)
def OpenSpec.upto (s : _root_.Go.ChangeSpec) : _root_.Go.OpenSpec := { _root_.Go.OpenSpec.ofChange s with cond := some uptoSmall }

/-- 'hydrocascadelaw15.ConflictMeans', WHERE WHAT IT READS IS OF BULK AT MOST 1048576: true; the input reads as it did. -/
def conflictMeansUptoRow : OpenClaim := { program := "ytjbddicgegkkjaa", sum := "3f058fc5a44b43404187f3aeca7bb13d25e2b4ca4910ab25e6e4bb6fdbc5df59", func := "hydrocascade/hydrocascadelaw15.ConflictMeans", spec := "conflictMeans", unfollowed := true, recurses := true, apart := false, narrowed := true }
def ConflictMeansUptoSaid : Prop := conflictMeansUptoRow.holds Try.pinned (OpenSpec.upto conflictMeansSpec)

/-- 'hydrocascadelaw15.ConflictKinds', WHERE WHAT IT READS IS OF BULK AT MOST 1048576: true; the input reads as it did. -/
def conflictKindsUptoRow : OpenClaim := { program := "ytjbddicgegkkjaa", sum := "3f058fc5a44b43404187f3aeca7bb13d25e2b4ca4910ab25e6e4bb6fdbc5df59", func := "hydrocascade/hydrocascadelaw15.ConflictKinds", spec := "conflictKinds", unfollowed := true, recurses := true, apart := false, narrowed := true }
def ConflictKindsUptoSaid : Prop := conflictKindsUptoRow.holds Try.pinned (OpenSpec.upto conflictKindsSpec)

/-- 'hydrocascadelaw15.ConflictFree', WHERE WHAT IT READS IS OF BULK AT MOST 1048576: true; the input reads as it did. -/
def conflictFreeUptoRow : OpenClaim := { program := "ytjbddicgegkkjaa", sum := "3f058fc5a44b43404187f3aeca7bb13d25e2b4ca4910ab25e6e4bb6fdbc5df59", func := "hydrocascade/hydrocascadelaw15.ConflictFree", spec := "conflictFree", unfollowed := true, recurses := true, apart := false, narrowed := true }
def ConflictFreeUptoSaid : Prop := conflictFreeUptoRow.holds Try.pinned (OpenSpec.upto conflictFreeSpec)

/-- 'hydrocascadelaw15.ConflictDead', WHERE WHAT IT READS IS OF BULK AT MOST 1048576: true; the input reads as it did. -/
def conflictDeadUptoRow : OpenClaim := { program := "ytjbddicgegkkjaa", sum := "3f058fc5a44b43404187f3aeca7bb13d25e2b4ca4910ab25e6e4bb6fdbc5df59", func := "hydrocascade/hydrocascadelaw15.ConflictDead", spec := "conflictDead", unfollowed := true, recurses := true, apart := false, narrowed := true }
def ConflictDeadUptoSaid : Prop := conflictDeadUptoRow.holds Try.pinned (OpenSpec.upto conflictDeadSpec)

/-- 'hydrocascadelaw15.ConflictAll', WHERE WHAT IT READS IS OF BULK AT MOST 1048576: true; the input reads as it did. -/
def conflictAllUptoRow : OpenClaim := { program := "ytjbddicgegkkjaa", sum := "3f058fc5a44b43404187f3aeca7bb13d25e2b4ca4910ab25e6e4bb6fdbc5df59", func := "hydrocascade/hydrocascadelaw15.ConflictAll", spec := "conflictAll", unfollowed := true, recurses := true, apart := false, narrowed := true }
def ConflictAllUptoSaid : Prop := conflictAllUptoRow.holds Try.pinned (OpenSpec.upto conflictAllSpec)

end Rows
end Go.Proofs.Ytjbddicgegkkjaa
