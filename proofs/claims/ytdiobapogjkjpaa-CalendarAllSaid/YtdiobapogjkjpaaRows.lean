/-
  No cell of these rows narrows 'for every input' (looked for: loops, veiled, ifaces, maps, wideKeys, modest, calm, conditions, laid).
  DERIVED. THE GIVEN ROWS OF THIS SEAT. 5 by the template 'for every input the law returns true; each argument reads behind the call as it read before'; 0 by the template 'total and deterministic' (their statements: YtdiobapogjkjpaaTotals.lean).
  GIVEN WITH THE SEED: the statements are not yours to turn. If you find one false, say at which input.
  Laid BY PROGRAM, IN A SANDBOX (cutbox-rows.mjs): the forced cells as the released guide's own fill.sh prints them over the translation 0220813ca7c2954f… (all of the seat's roots in one cut). By AI agents, Wed Nov 11 2026. No macro, syntax, notation, axiom, sorry.
-/
import Derived.Test.YtdiobapogjkjpaaChecked
import GoSem.Claim
import GoSem.ClaimJoined
import GoSem.ClaimMapViews
import Derived.JoinedTies
import Derived.KernelRfl
namespace Go.Proofs.Ytdiobapogjkjpaa
/- THE CELL 'sum', in the pinned program and in every row, IS THE sha256 OF THE DUMP (.gsa) THAT YtdiobapogjkjpaaProg.lean LOADS. Nothing in Lean hashes anything: it is a label: what it is worth is what the hold of that sum in a sandbox is worth. -/
noncomputable def Try.pinned : Pinned := { name := "ytdiobapogjkjpaa", sum := "0220813ca7c2954f0c16b6721fb2e0a3126547ba202d5d02a885a2ea53dbd867", checked := Try.checked }
namespace Rows
def none {H : Type} : Left H := { results := [], args := [] }

/-- 'hydrocascadelaw04.CalendarSplits': WHATEVER THE INPUT: true; the input reads as it did. -/
def calendarSplitsSpec : ChangeSpec := { name := "calendarSplits", fn := fun _ => fun
  | [d1, d2, d3] => { results := [.lit (.bool true)], args := [d1, d2, d3] }
  | _ => none }
def calendarSplitsRow : OpenClaim := { program := "ytdiobapogjkjpaa", sum := "0220813ca7c2954f0c16b6721fb2e0a3126547ba202d5d02a885a2ea53dbd867", func := "hydrocascade/hydrocascadelaw04.CalendarSplits", spec := "calendarSplits", apart := false }
def CalendarSplitsSaid : Prop := calendarSplitsRow.holds Try.pinned (OpenSpec.ofChange calendarSplitsSpec)

/-- ITS FALSE NEIGHBOUR: 'it returns false'. Refute it at one input. -/
def calendarSplitsWrong : ChangeSpec := { name := "calendarSplits", fn := fun _ => fun
  | [d1, d2, d3] => { results := [.lit (.bool false)], args := [d1, d2, d3] }
  | _ => none }
def CalendarSplitsWrongFalsely : Prop := calendarSplitsRow.holds Try.pinned (OpenSpec.ofChange calendarSplitsWrong)

/-- 'hydrocascadelaw04.CalendarBoth': WHATEVER THE INPUT: true; the input reads as it did. -/
def calendarBothSpec : ChangeSpec := { name := "calendarBoth", fn := fun _ => fun
  | [d] => { results := [.lit (.bool true)], args := [d] }
  | _ => none }
def calendarBothRow : OpenClaim := { program := "ytdiobapogjkjpaa", sum := "0220813ca7c2954f0c16b6721fb2e0a3126547ba202d5d02a885a2ea53dbd867", func := "hydrocascade/hydrocascadelaw04.CalendarBoth", spec := "calendarBoth", apart := false }
def CalendarBothSaid : Prop := calendarBothRow.holds Try.pinned (OpenSpec.ofChange calendarBothSpec)

/-- ITS FALSE NEIGHBOUR: 'it returns false'. Refute it at one input. -/
def calendarBothWrong : ChangeSpec := { name := "calendarBoth", fn := fun _ => fun
  | [d] => { results := [.lit (.bool false)], args := [d] }
  | _ => none }
def CalendarBothWrongFalsely : Prop := calendarBothRow.holds Try.pinned (OpenSpec.ofChange calendarBothWrong)

/-- 'hydrocascadelaw04.CalendarAll': WHATEVER THE INPUT: true; the input reads as it did. -/
def calendarAllSpec : ChangeSpec := { name := "calendarAll", fn := fun _ => fun
  | [d1, d2, d3, d4, d5, d6] => { results := [.lit (.bool true)], args := [d1, d2, d3, d4, d5, d6] }
  | _ => none }
def calendarAllRow : OpenClaim := { program := "ytdiobapogjkjpaa", sum := "0220813ca7c2954f0c16b6721fb2e0a3126547ba202d5d02a885a2ea53dbd867", func := "hydrocascade/hydrocascadelaw04.CalendarAll", spec := "calendarAll", apart := false }
def CalendarAllSaid : Prop := calendarAllRow.holds Try.pinned (OpenSpec.ofChange calendarAllSpec)

/-- ITS FALSE NEIGHBOUR: 'it returns false'. Refute it at one input. -/
def calendarAllWrong : ChangeSpec := { name := "calendarAll", fn := fun _ => fun
  | [d1, d2, d3, d4, d5, d6] => { results := [.lit (.bool false)], args := [d1, d2, d3, d4, d5, d6] }
  | _ => none }
def CalendarAllWrongFalsely : Prop := calendarAllRow.holds Try.pinned (OpenSpec.ofChange calendarAllWrong)

/-- 'hydrocascadelaw04.CalendarBack': WHATEVER THE INPUT: true; the input reads as it did. -/
def calendarBackSpec : ChangeSpec := { name := "calendarBack", fn := fun _ => fun
  | [d] => { results := [.lit (.bool true)], args := [d] }
  | _ => none }
def calendarBackRow : OpenClaim := { program := "ytdiobapogjkjpaa", sum := "0220813ca7c2954f0c16b6721fb2e0a3126547ba202d5d02a885a2ea53dbd867", func := "hydrocascade/hydrocascadelaw04.CalendarBack", spec := "calendarBack", apart := false }
def CalendarBackSaid : Prop := calendarBackRow.holds Try.pinned (OpenSpec.ofChange calendarBackSpec)

/-- ITS FALSE NEIGHBOUR: 'it returns false'. Refute it at one input. -/
def calendarBackWrong : ChangeSpec := { name := "calendarBack", fn := fun _ => fun
  | [d] => { results := [.lit (.bool false)], args := [d] }
  | _ => none }
def CalendarBackWrongFalsely : Prop := calendarBackRow.holds Try.pinned (OpenSpec.ofChange calendarBackWrong)

/-- 'hydrocascadelaw04.CalendarYears': WHATEVER THE INPUT: true; the input reads as it did. -/
def calendarYearsSpec : ChangeSpec := { name := "calendarYears", fn := fun _ => fun
  | [d1, d2, d3] => { results := [.lit (.bool true)], args := [d1, d2, d3] }
  | _ => none }
def calendarYearsRow : OpenClaim := { program := "ytdiobapogjkjpaa", sum := "0220813ca7c2954f0c16b6721fb2e0a3126547ba202d5d02a885a2ea53dbd867", func := "hydrocascade/hydrocascadelaw04.CalendarYears", spec := "calendarYears", apart := false }
def CalendarYearsSaid : Prop := calendarYearsRow.holds Try.pinned (OpenSpec.ofChange calendarYearsSpec)

/-- ITS FALSE NEIGHBOUR: 'it returns false'. Refute it at one input. -/
def calendarYearsWrong : ChangeSpec := { name := "calendarYears", fn := fun _ => fun
  | [d1, d2, d3] => { results := [.lit (.bool false)], args := [d1, d2, d3] }
  | _ => none }
def CalendarYearsWrongFalsely : Prop := calendarYearsRow.holds Try.pinned (OpenSpec.ofChange calendarYearsWrong)

/- THE SECOND FORM. 'bulk': how many values and letters a reading holds, each counted each time it is reached (what is shared counts as often as it is met; a slice's spare places count too). A statement '..UptoSaid' is the law's where the arguments, and the package variables that the reading takes, are together of bulk at most 1048576: NARROWER than '..Said'. Prove '..Said' where nothing that the law and all that it calls make is longer than what came in: it says more and counts as full. Else prove '..UptoSaid'. A law counts once. -/
mutual
def uptoBulk {H : Type} : DataW H → Nat
  | .lit (.string bytes) => bytes.length + 1
  | .lit _ => 1
  | .nil => 1
  | .ptr d => uptoBulk d + 1
  | .slice elems spare => uptoBulkAll elems + uptoBulkAll spare + 1
  | .agg parts => uptoBulkAll parts + 1
  | .iface _ d => uptoBulk d + 1
  | .map entries => uptoBulkEntries entries + 1
  | .held _ => 1
def uptoBulkAll {H : Type} : List (DataW H) → Nat
  | [] => 0
  | d :: r => uptoBulk d + uptoBulkAll r
def uptoBulkEntries {H : Type} : List (Lit × DataW H) → Nat
  | [] => 0
  | x :: r => uptoBulkEntry x + uptoBulkEntries r
def uptoBulkEntry {H : Type} : Lit × DataW H → Nat
  | (.string bytes, d) => bytes.length + uptoBulk d + 1
  | (_, d) => uptoBulk d + 1
 end
def uptoSmall : (H : Type) → List (DataW H) → Bool := fun _ ds => decide (uptoBulkAll ds ≤ 1048576)
def OpenSpec.upto (s : _root_.Go.ChangeSpec) : _root_.Go.OpenSpec := { _root_.Go.OpenSpec.ofChange s with cond := some uptoSmall }

/-- 'hydrocascadelaw04.CalendarSplits', WHERE WHAT IT READS IS OF BULK AT MOST 1048576: true; the input reads as it did. -/
def calendarSplitsUptoRow : OpenClaim := { program := "ytdiobapogjkjpaa", sum := "0220813ca7c2954f0c16b6721fb2e0a3126547ba202d5d02a885a2ea53dbd867", func := "hydrocascade/hydrocascadelaw04.CalendarSplits", spec := "calendarSplits", apart := false, narrowed := true }
def CalendarSplitsUptoSaid : Prop := calendarSplitsUptoRow.holds Try.pinned (OpenSpec.upto calendarSplitsSpec)

/-- 'hydrocascadelaw04.CalendarBoth', WHERE WHAT IT READS IS OF BULK AT MOST 1048576: true; the input reads as it did. -/
def calendarBothUptoRow : OpenClaim := { program := "ytdiobapogjkjpaa", sum := "0220813ca7c2954f0c16b6721fb2e0a3126547ba202d5d02a885a2ea53dbd867", func := "hydrocascade/hydrocascadelaw04.CalendarBoth", spec := "calendarBoth", apart := false, narrowed := true }
def CalendarBothUptoSaid : Prop := calendarBothUptoRow.holds Try.pinned (OpenSpec.upto calendarBothSpec)

/-- 'hydrocascadelaw04.CalendarAll', WHERE WHAT IT READS IS OF BULK AT MOST 1048576: true; the input reads as it did. -/
def calendarAllUptoRow : OpenClaim := { program := "ytdiobapogjkjpaa", sum := "0220813ca7c2954f0c16b6721fb2e0a3126547ba202d5d02a885a2ea53dbd867", func := "hydrocascade/hydrocascadelaw04.CalendarAll", spec := "calendarAll", apart := false, narrowed := true }
def CalendarAllUptoSaid : Prop := calendarAllUptoRow.holds Try.pinned (OpenSpec.upto calendarAllSpec)

/-- 'hydrocascadelaw04.CalendarBack', WHERE WHAT IT READS IS OF BULK AT MOST 1048576: true; the input reads as it did. -/
def calendarBackUptoRow : OpenClaim := { program := "ytdiobapogjkjpaa", sum := "0220813ca7c2954f0c16b6721fb2e0a3126547ba202d5d02a885a2ea53dbd867", func := "hydrocascade/hydrocascadelaw04.CalendarBack", spec := "calendarBack", apart := false, narrowed := true }
def CalendarBackUptoSaid : Prop := calendarBackUptoRow.holds Try.pinned (OpenSpec.upto calendarBackSpec)

/-- 'hydrocascadelaw04.CalendarYears', WHERE WHAT IT READS IS OF BULK AT MOST 1048576: true; the input reads as it did. -/
def calendarYearsUptoRow : OpenClaim := { program := "ytdiobapogjkjpaa", sum := "0220813ca7c2954f0c16b6721fb2e0a3126547ba202d5d02a885a2ea53dbd867", func := "hydrocascade/hydrocascadelaw04.CalendarYears", spec := "calendarYears", apart := false, narrowed := true }
def CalendarYearsUptoSaid : Prop := calendarYearsUptoRow.holds Try.pinned (OpenSpec.upto calendarYearsSpec)

end Rows
end Go.Proofs.Ytdiobapogjkjpaa
