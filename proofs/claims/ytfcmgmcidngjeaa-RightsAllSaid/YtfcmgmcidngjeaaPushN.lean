/-
  One element pushed onto an own row behind a region that has drawn. No condition.
-/
import Derived.Test.YtfcmgmcidngjeaaReg
namespace Go.Proofs.Ytfcmgmcidngjeaa
open Go.RowKit
theorem wpList_pushN {P : Program} {ops : Array Oper} {rest : List Oper} {o : Oper} {a : Act} {Q : Exit → Act → World → Prop} {w : World} {m : Nat} (hgd : o.guard = none) (s x : Operand) (t : TypeId)
    (ho : o.op = .call { callee := .builtin .append, args := #[s, x], argTypes := #[t, t] })
    (base : Nat) (e : TypeId) (size : Nat) (hT : SlT P t e size)
    (v : Value) (n : Nat) (xs : List Value) (hs : a.eval s = v) (hown : w.ownsRow base e size v n xs) (c : Nat) (cs : Array Value)
    (hx : a.eval x = .slice (some ⟨w.heap.size, 0, none⟩) 1 c) (hl : cs.size = size) (h1 : cs.toList.all Value.oneCell' = true)
    (hn : n < 549755813888) (hbase : base ≤ w.heap.size)
    (h : ∀ v' w', w'.ownsRow base e size v' (n + 1) (xs ++ cs.toList) → w.grownBy w' v.ownBlock → (v'.ownBlock = v.ownBlock ∨ ∃ g, v'.ownBlock = some g ∧ w.heap.size ≤ g) → wpList P ops Q rest (a.put o.dst v') w') :
    wpList P ops Q (o :: rest) a ((w.alloc (.cells cs e)).drewN m) := by
  have e1 : (w.alloc (.cells cs e)).drewN m = (w.drewN m).alloc (.cells cs e) := rfl
  rw [e1]
  exact wpList_push (w := w.drewN m) hgd s x t ho base e size hT v n xs hs hown c cs hx hl h1 hn hbase fun v' w' h2 h3 h4 =>
    h v' w' h2 ⟨h3.os, h3.tape, h3.output, h3.size, h3.block⟩ h4
theorem wpList_pushG {P : Program} {ops : Array Oper} {rest : List Oper} {o : Oper} {a : Act} {Q : Exit → Act → World → Prop} {w : World} (g : Nat) (hg : g = w.heap.size) (hgd : o.guard = none) (s x : Operand) (t : TypeId)
    (ho : o.op = .call { callee := .builtin .append, args := #[s, x], argTypes := #[t, t] })
    (base : Nat) (e : TypeId) (size : Nat) (hT : SlT P t e size)
    (v : Value) (n : Nat) (xs : List Value) (hs : a.eval s = v) (hown : w.ownsRow base e size v n xs) (c : Nat) (cs : Array Value)
    (hx : a.eval x = .slice (some ⟨g, 0, none⟩) 1 c) (hl : cs.size = size) (h1 : cs.toList.all Value.oneCell' = true)
    (hn : n < 549755813888) (hbase : base ≤ w.heap.size)
    (h : ∀ v' w', w'.ownsRow base e size v' (n + 1) (xs ++ cs.toList) → w.grownBy w' v.ownBlock → (v'.ownBlock = v.ownBlock ∨ ∃ g, v'.ownBlock = some g ∧ w.heap.size ≤ g) → wpList P ops Q rest (a.put o.dst v') w') :
    wpList P ops Q (o :: rest) a (w.alloc (.cells cs e)) := by
  subst hg
  exact wpList_push hgd s x t ho base e size hT v n xs hs hown c cs hx hl h1 hn hbase h
end Go.Proofs.Ytfcmgmcidngjeaa
