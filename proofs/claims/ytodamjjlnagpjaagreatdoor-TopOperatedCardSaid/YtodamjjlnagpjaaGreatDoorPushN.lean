/-
  A region that draws its order, walked once in the text's order, where the callees may make memory: every world of the region keeps an invariant. No condition.
  One element pushed onto an own row behind a region that has drawn. No condition.
-/
import Derived.WalkKit
import Derived.Deep.QuietTactic
import Derived.BigQuiet
import Derived.Below
import Derived.Test.YtodamjjlnagpjaaGreatDoorLib
namespace Go.Proofs.YtodamjjlnagpjaaGreatDoor
open Go.RowKit

/-- A world in which the invariant holds. -/
structure InW (I : World → Prop) where
  val : World
  ok : I val
def InC (I : World → Prop) (w : World) : Prop := ∃ s : InW I, w = s.val
theorem wp_region_inv {P : Program} {I : World → Prop} {id : Nat} {Q : Exit → Act → World → Prop} {a : Act} {w : World} {l : List Oper} (hm : P.follows .mixedOrders = true) (hB : Region.lexB .any l.toArray = true) (hI : I w.drew)
    (h : wpQuiet P l.toArray (fun w' => ∃ s : InW I, w' = s.val) (fun a' => ∀ w', (∃ s : InW I, w' = s.val) → Q .normal a' w') l a) : (Code.region id l.toArray true).wp P Q a w :=
  wp_region_quiet (C := fun w' => ∃ s : InW I, w' = s.val) hm hB ⟨⟨_, hI⟩, rfl⟩ (by simpa using h)
theorem inv_call {P : Program} {I : World → Prop} {f : FuncId} {args : Array Value} {v : Value} {s : InW I} (hcl : ∀ x y : World, I x → Below x.heap.size x y → I y)
    (h : Calls P f args s.val fun e w' => e = .returned v ∧ Below s.val.heap.size s.val w') : Calls P f args s.val fun e w'' => e = .returned v ∧ ∃ s' : InW I, w'' = s'.val :=
  h.mono fun _ w'' ⟨he, hb⟩ => ⟨he, ⟨⟨w'', hcl _ _ s.ok hb⟩, rfl⟩⟩
theorem inv_same {P : Program} {I : World → Prop} {f : FuncId} {args : Array Value} {v : Value} {s : InW I}
    (h : Calls P f args s.val fun e w' => e = .returned v ∧ s.val = w') : Calls P f args s.val fun e w'' => e = .returned v ∧ ∃ s' : InW I, w'' = s'.val :=
  h.mono fun _ _ ⟨he, hb⟩ => ⟨he, ⟨s, hb.symm⟩⟩
theorem inv_callb {P : Program} {I : World → Prop} {f : FuncId} {args : Array Value} {b c : Bool} {s : InW I} (hbc : b = c) (hcl : ∀ x y : World, I x → Below x.heap.size x y → I y)
    (h : Calls P f args s.val fun e w' => e = .returned (.bool b) ∧ Below s.val.heap.size s.val w') : Calls P f args s.val fun e w'' => e = .returned (.bool c) ∧ ∃ s' : InW I, w'' = s'.val := by
  subst hbc; exact inv_call hcl h
theorem inv_sameb {P : Program} {I : World → Prop} {f : FuncId} {args : Array Value} {b c : Bool} {s : InW I} (hbc : b = c)
    (h : Calls P f args s.val fun e w' => e = .returned (.bool b) ∧ s.val = w') : Calls P f args s.val fun e w'' => e = .returned (.bool c) ∧ ∃ s' : InW I, w'' = s'.val := by
  subst hbc; exact inv_same h
/-- What was so below the region's first world stays so. -/
theorem inv_cell {w0 : World} {a : Addr} {v : Value} (h : w0.cell? a = some v) : ∀ s : InW (fun x => Below w0.heap.size w0 x), s.val.cell? a = some v := fun s => (s.ok.cell (World.block_lt_of_cell? w0 a h)).trans h
theorem inv_closed (w0 : World) : ∀ x y : World, Below w0.heap.size w0 x → Below x.heap.size x y → Below w0.heap.size w0 y := fun _ _ h k => bthr h k h.size
end Go.Proofs.YtodamjjlnagpjaaGreatDoor
namespace Go.Proofs.YtodamjjlnagpjaaGreatDoor
open Go.RowKit
theorem wpList_pushN {P : Program} {ops : Array Oper} {rest : List Oper} {o : Oper} {a : Act} {Q : Exit → Act → World → Prop} {w : World} {m : Nat} (hgd : o.guard = none) (s x : Operand) (t : TypeId)
    (ho : o.op = .call { callee := .builtin .append, args := #[s, x], argTypes := #[t, t] })
    (base : Nat) (e : TypeId) (size : Nat) (hT : SlT P t e size)
    (v : Value) (n : Nat) (xs : List Value) (hs : a.eval s = v) (hown : w.ownsRow base e size v n xs) (c : Nat) (cs : Array Value)
    (hx : a.eval x = .slice (some ⟨w.heap.size, 0, none⟩) 1 c) (hl : cs.size = size) (h1 : cs.toList.all Value.oneCell' = true)
    (hn : n < 549755813888) (hbase : base ≤ w.heap.size)
    (h : ∀ v' w', w'.ownsRow base e size v' (n + 1) (xs ++ cs.toList) → w.grownBy w' v.ownBlock → (v'.ownBlock = v.ownBlock ∨ ∃ g, v'.ownBlock = some g ∧ w.heap.size ≤ g) → wpList P ops Q rest (a.put o.dst v') w') :
    wpList P ops Q (o :: rest) a ((w.alloc (.cells cs e)).drewN m) := by
  have e1 : (w.alloc (.cells cs e)).drewN m = (w.drewN m).alloc (.cells cs e) := rfl
  rw [e1]
  exact wpList_push (w := w.drewN m) hgd s x t ho base e size hT v n xs hs hown c cs hx hl h1 hn hbase fun v' w' h2 h3 h4 =>
    h v' w' h2 ⟨h3.os, h3.tape, h3.output, h3.size, h3.block⟩ h4
theorem wpList_pushG {P : Program} {ops : Array Oper} {rest : List Oper} {o : Oper} {a : Act} {Q : Exit → Act → World → Prop} {w : World} (g : Nat) (hg : g = w.heap.size) (hgd : o.guard = none) (s x : Operand) (t : TypeId)
    (ho : o.op = .call { callee := .builtin .append, args := #[s, x], argTypes := #[t, t] })
    (base : Nat) (e : TypeId) (size : Nat) (hT : SlT P t e size)
    (v : Value) (n : Nat) (xs : List Value) (hs : a.eval s = v) (hown : w.ownsRow base e size v n xs) (c : Nat) (cs : Array Value)
    (hx : a.eval x = .slice (some ⟨g, 0, none⟩) 1 c) (hl : cs.size = size) (h1 : cs.toList.all Value.oneCell' = true)
    (hn : n < 549755813888) (hbase : base ≤ w.heap.size)
    (h : ∀ v' w', w'.ownsRow base e size v' (n + 1) (xs ++ cs.toList) → w.grownBy w' v.ownBlock → (v'.ownBlock = v.ownBlock ∨ ∃ g, v'.ownBlock = some g ∧ w.heap.size ≤ g) → wpList P ops Q rest (a.put o.dst v') w') :
    wpList P ops Q (o :: rest) a (w.alloc (.cells cs e)) := by
  subst hg
  exact wpList_push hgd s x t ho base e size hT v n xs hs hown c cs hx hl h1 hn hbase h
end Go.Proofs.YtodamjjlnagpjaaGreatDoor
