/-
  A slice of bundles in memory, and the contract of the reference's Latest: the last bundle that is live and covers a step. Condition: the list can be read.
-/
import Derived.Test.YtmlpimidbgeacaaProg
import Derived.Test.YtmlpimidbgeacaaFry
namespace Go.Proofs.Ytmlpimidbgeacaa
open Go.RowKit

def bdCells (bs : List Bd) : List Value := bs.flatMap fun b => b.arr.toList
theorem bdCells_append (x y : List Bd) : bdCells (x ++ y) = bdCells x ++ bdCells y := by simp [bdCells]
theorem bdCells_len (bs : List Bd) : (bdCells bs).length = bs.length * 3 := by
  induction bs with
  | nil => rfl
  | cons a t ih =>
    have e : bdCells (a :: t) = a.arr.toList ++ bdCells t := by simp [bdCells]
    rw [e, List.length_append, ih]; simp [Bd.arr]; omega
theorem bdCells_get : ∀ (bs : List Bd) (k : Nat) (h : k < bs.length), (bdCells bs)[k * 3]? = some (.int .i64 bs[k].fr) ∧ (bdCells bs)[k * 3 + 1]? = some (.slice bs[k].A bs[k].n bs[k].c) ∧ (bdCells bs)[k * 3 + 2]? = some (.bool bs[k].wd)
  | a :: t, 0, _ => by simp [bdCells, Bd.arr]
  | a :: t, k + 1, h => by
    have e : bdCells (a :: t) = [.int .i64 a.fr, .slice a.A a.n a.c, .bool a.wd] ++ bdCells t := by simp [bdCells, Bd.arr]
    have ih := bdCells_get t k (by simpa using h)
    have e4 : ∀ j, (bdCells (a :: t))[(k + 1) * 3 + j]? = (bdCells t)[k * 3 + j]? := fun j => by
      rw [e, List.getElem?_append_right (by simp; omega)]
      congr 1; simp; omega
    have h0 := e4 0
    simp only [Nat.add_zero] at h0
    rw [h0, e4 1, e4 2]
    exact ih
/-- A slice of bundles, each with its scenarios. -/
def BdsOk (w : World) (B : Nat) (A : Option Addr) (n c : Nat) (bs : List Bd) : Prop := Sl w B 3 A n c (bdCells bs) ∧ ∀ b ∈ bs, b.ok w B
theorem bd_cells {w : World} {g o : Nat} {bs : List Bd} {b : Bd} (hc : ∀ j u, (bdCells bs)[j]? = some u → w.cell? ⟨g, o + j, none⟩ = some u) {k : Nat} (hk : k < bs.length) (he : bs[k] = b) :
    w.cell? ⟨g, o + k * 3, none⟩ = some (.int .i64 b.fr) ∧ w.cell? ⟨g, o + k * 3 + 1, none⟩ = some (.slice b.A b.n b.c) ∧ w.cell? ⟨g, o + k * 3 + 2, none⟩ = some (.bool b.wd) := by
  have h := bdCells_get bs k hk
  rw [he] at h
  exact ⟨hc _ _ h.1, hc _ _ h.2.1, hc _ _ h.2.2⟩
theorem BdsOk.len {w : World} {B n c : Nat} {A : Option Addr} {bs : List Bd} (h : BdsOk w B A n c bs) : n = bs.length := by have := h.1.1; rw [bdCells_len] at this; omega
theorem BdsOk.thr {w w' : World} {n c : Nat} {A : Option Addr} {bs : List Bd} (h : BdsOk w w.heap.size A n c bs) (hb : Below w.heap.size w w') : BdsOk w' w'.heap.size A n c bs := ⟨h.1.thr hb, fun s hs => Bd.ok.thr (h.2 s hs) hb⟩
/-- the last of the first k bundles that is live and covers t -/
def latL (t : Int) : List Bd → Nat → Option Nat
  | _, 0 => none
  | bs, k + 1 => match bs[k]? with
    | some b => if stepE b t = 0 then some k else latL t bs k
    | none => latL t bs k
theorem latL_hit {t : Int} {bs : List Bd} {k : Nat} {b : Bd} (h : bs[k]? = some b) (hs : stepE b t = 0) : latL t bs (k + 1) = some k := by unfold latL; rw [h]; simp [hs]
theorem latL_miss {t : Int} {bs : List Bd} {k : Nat} {b : Bd} (h : bs[k]? = some b) (hs : stepE b t ≠ 0) : latL t bs (k + 1) = latL t bs k := by
  conv => lhs; unfold latL
  rw [h]; simp [hs]
end Go.Proofs.Ytmlpimidbgeacaa
