/-
  A list of bundles under way: a row of the call's own whose bundles lie apart from it; and plain laws of the latest bundle. No condition.
-/
import Derived.Test.YtmlpimidbgeacaaProg
import Derived.Test.YtmlpimidbgeacaaFla
import Derived.Test.YtmlpimidbgeacaaFws
import Derived.Laws.OwnMore
namespace Go.Proofs.Ytmlpimidbgeacaa
open Go.RowKit

theorem slBd : SlT Try.prog 42 27 3 := slT_of (z := .agg #[.int .i64 0, .slice none 0 0, .bool false]) (bytes := 40) Try.underlying42 (by kernel_rfl) rfl (by decide) (by decide)
theorem rowd_other {W W' : World} {base size n2 : Nat} {e : TypeId} {v1 v2 : Value} {xs2 : List Value} (h2 : W.ownsRow base e size v2 n2 xs2) (hg : W.grownBy W' v1.ownBlock) (hd : ∀ g, v2.ownBlock = some g → v1.ownBlock ≠ some g) : W'.ownsRow base e size v2 n2 xs2 :=
  World.ownsRow.kept h2 hg (by
    cases e : v2.ownBlock with
    | none => exact .inl rfl
    | some g => exact .inr (fun e' => hd g e e'.symm))
theorem rowd_disj {W : World} {base size n2 : Nat} {e : TypeId} {v1 v1' v2 : Value} {xs2 : List Value} (h2 : W.ownsRow base e size v2 n2 xs2) (hd : ∀ g, v2.ownBlock = some g → v1.ownBlock ≠ some g) (hor : v1'.ownBlock = v1.ownBlock ∨ ∃ g, v1'.ownBlock = some g ∧ W.heap.size ≤ g) : ∀ g, v2.ownBlock = some g → v1'.ownBlock ≠ some g := by
  intro g hg e
  rcases hor with h | ⟨g', h, hle⟩
  · exact hd g hg (h.symm.trans e)
  · have := (h2.lt g hg).2
    rw [h] at e; injection e with e; omega
/-- A bundle of the call's own, apart from the row v. -/
def BdApart (w : World) (base : Nat) (v : Value) (x : Bd) : Prop := BdOwn w base x ∧ (∀ g, (Value.slice x.A x.n x.c).ownBlock = some g → v.ownBlock ≠ some g) ∧ ∀ s ∈ x.ss, ∀ g, (Value.slice s.A s.n s.c).ownBlock = some g → v.ownBlock ≠ some g
section
variable {w w' : World} {base base' : Nat} {v v' : Value} {x : Bd}
theorem BdApart.push (h : BdApart w base v x) (hg : w.grownBy w' v.ownBlock) (hor : v'.ownBlock = v.ownBlock ∨ ∃ g, v'.ownBlock = some g ∧ w.heap.size ≤ g) : BdApart w' base v' x :=
  ⟨⟨rowd_other h.1.1 hg h.2.1, fun s hs => rowd_other (h.1.2 s hs) hg (h.2.2 s hs)⟩, rowd_disj h.1.1 h.2.1 hor, fun s hs => rowd_disj (h.1.2 s hs) (h.2.2 s hs) hor⟩
theorem BdApart.deck (h : BdApart w base v x) {b : Nat} (hg : w.grownBy w' (some b)) (hb : b < base) : BdApart w' base v x :=
  ⟨⟨own_deckF h.1.1 hg hb, fun s hs => own_deckF (h.1.2 s hs) hg hb⟩, h.2⟩
theorem BdApart.alloc (h : BdApart w base v x) (o : Obj) : BdApart (w.alloc o) base v x := ⟨h.1.alloc o, h.2⟩
theorem BdApart.new (h : BdOwn w base x) (hb : base' ≤ base) (hv : ∀ g, v.ownBlock = some g → g < base) : BdApart w base' v x :=
  ⟨h.lower hb, fun g hg e => by have h1 := (h.1.lt g hg).1; have := hv g e; omega, fun s hs g hg e => by have h1 := (World.ownsRow.lt (h.2 s hs) g hg).1; have := hv g e; omega⟩
end
/-- the list under way: q bundles are still to come -/
def LsP (w1 : World) (b : Nat) (P : Bd → Prop) (k0 q : Nat) (wx : World) (v : Value) : Prop := ∃ (A : Option Addr) (c : Nat) (bs : List Bd), v = .slice A bs.length c ∧ q + bs.length = k0 ∧ (∀ x ∈ bs, P x) ∧ wx.ownsRow w1.heap.size 27 3 (.slice A bs.length c) bs.length (bdCells bs) ∧ (∀ x ∈ bs, BdApart wx w1.heap.size (.slice A bs.length c) x) ∧ Dk wx b ∧ w1.grownBy wx (some b)
theorem bdCells_one (x : Bd) : bdCells [x] = x.arr.toList := by simp [bdCells]
theorem lsp_step {w1 wr w2 w3 : World} {b k0 q : Nat} {P : Bd → Prop} {A : Option Addr} {c : Nat} {bs : List Bd} {x : Bd} {A' : Option Addr} {c' : Nat} (hb : b < w1.heap.size) (hk : q + 1 + bs.length = k0) (hP : ∀ x ∈ bs, P x) (hx : P x)
    (ho : wr.ownsRow w1.heap.size 27 3 (.slice A bs.length c) bs.length (bdCells bs)) (hap : ∀ x ∈ bs, BdApart wr w1.heap.size (.slice A bs.length c) x) (hG : w1.grownBy wr (some b))
    (hbx : BdOwn w2 wr.heap.size x) (hD2 : Dk w2 b) (hg2 : wr.grownBy w2 (some b))
    (hv : w3.ownsRow w1.heap.size 27 3 (.slice A' (bs.length + 1) c') (bs.length + 1) (bdCells bs ++ x.arr.toList)) (hgr : w2.grownBy w3 (Value.slice A bs.length c).ownBlock) (hor : (Value.slice A' (bs.length + 1) c').ownBlock = (Value.slice A bs.length c).ownBlock ∨ ∃ g, (Value.slice A' (bs.length + 1) c').ownBlock = some g ∧ w2.heap.size ≤ g) : LsP w1 b P k0 q w3 (.slice A' (bs.length + 1) c') := by
  have hrow : ∀ k, (Value.slice A bs.length c).ownBlock = some k → w1.heap.size ≤ k ∧ k < wr.heap.size := fun k hk => ho.lt k hk
  have hall : ∀ y ∈ bs ++ [x], P y ∧ BdApart w2 w1.heap.size (.slice A bs.length c) y := fun y hy => by
    rcases List.mem_append.1 hy with h | h
    · exact ⟨hP y h, (hap y h).deck hg2 hb⟩
    · rw [List.mem_singleton] at h; subst h
      exact ⟨hx, BdApart.new hbx hG.size (fun g hg => (hrow g hg).2)⟩
  have hl : (bs ++ [x]).length = bs.length + 1 := by simp
  refine ⟨A', c', bs ++ [x], by rw [hl], by rw [hl]; omega, fun y hy => (hall y hy).1, ?_, fun y hy => ?_, ?_, ?_⟩
  · rw [hl, bdCells_append, bdCells_one]; exact hv
  · rw [hl]; exact (hall y hy).2.push hgr hor
  · exact hD2.otherF hgr (fun k hk => by have := hrow k hk; omega)
  · exact grown_pushF (grown_trans hG hg2) hgr (fun k hk => by have := hrow k hk; omega)
/-- such a row, read -/
theorem bds_own {w : World} {base : Nat} {A : Option Addr} {n c : Nat} {bs : List Bd} (h : w.ownsRow base 27 3 (.slice A n c) n (bdCells bs)) (hx : ∀ x ∈ bs, x.ok w w.heap.size) : BdsOk w w.heap.size A n c bs := ⟨sl_ownv h, hx⟩
theorem latL_off {t : Int} {bs : List Bd} {n : Nat} (hb : bs[n]? = none) : latL t bs (n + 1) = latL t bs n := by
  conv => lhs; unfold latL
  rw [hb]
theorem latL_lt {t : Int} {bs : List Bd} : ∀ {n i : Nat}, latL t bs n = some i → i < n ∧ ∃ b, bs[i]? = some b ∧ stepE b t = 0
  | 0, i, h => by unfold latL at h; cases h
  | n + 1, i, h => by
    rcases hb : bs[n]? with _ | b
    · rw [latL_off hb] at h
      have := latL_lt h
      exact ⟨by omega, this.2⟩
    · by_cases h0 : stepE b t = 0
      · rw [latL_hit hb h0] at h
        injection h with h; subst h
        exact ⟨by omega, b, hb, h0⟩
      · rw [latL_miss hb h0] at h
        have := latL_lt h
        exact ⟨by omega, this.2⟩
theorem latL_high {t : Int} {bs : List Bd} {i : Nat} : ∀ {n : Nat}, latL t bs n = some i → ∀ j b, i < j → j < n → bs[j]? = some b → stepE b t ≠ 0
  | 0, h, j, b, h1, h2, h3 => by omega
  | n + 1, h, j, b, h1, h2, h3 => by
    rcases hb : bs[n]? with _ | b'
    · rw [latL_off hb] at h
      by_cases hj : j = n
      · subst hj; rw [hb] at h3; cases h3
      · exact latL_high h j b h1 (by omega) h3
    · by_cases h0 : stepE b' t = 0
      · rw [latL_hit hb h0] at h
        injection h with h; omega
      · by_cases hj : j = n
        · subst hj; rw [hb] at h3; injection h3 with h3; subst h3; exact h0
        · rw [latL_miss hb h0] at h
          exact latL_high h j b h1 (by omega) h3
/-- with the latest one gone the latest is an earlier one -/
theorem latL_gone {t : Int} {bs : List Bd} {n i : Nat} {g : Bd} (h : latL t bs n = some i) (hg : stepE g t ≠ 0) : ∀ m, latL t (bs.set i g) n = some m → m < i := by
  intro m hm
  obtain ⟨h1, b, h2, h3⟩ := latL_lt hm
  rcases Nat.lt_trichotomy m i with hlt | heq | hgt
  · exact hlt
  · subst heq
    have hi := (List.getElem?_eq_some_iff.1 h2).1
    rw [List.getElem?_set_self (by simpa using hi)] at h2
    injection h2 with h2; subst h2
    exact absurd h3 hg
  · rw [List.getElem?_set_ne (by omega)] at h2
    exact absurd h3 (latL_high h m b hgt h1 h2)
theorem latL_append {t : Int} {bs cs : List Bd} : ∀ {n : Nat}, n ≤ bs.length → latL t (bs ++ cs) n = latL t bs n
  | 0, _ => by unfold latL; rfl
  | n + 1, h => by
    have ih := latL_append (t := t) (bs := bs) (cs := cs) (n := n) (by omega)
    obtain ⟨b, hb⟩ : ∃ b, bs[n]? = some b := ⟨_, List.getElem?_eq_getElem (by omega)⟩
    have hb2 : (bs ++ cs)[n]? = some b := by rw [List.getElem?_append_left (by omega)]; exact hb
    by_cases h0 : stepE b t = 0
    · rw [latL_hit hb h0, latL_hit hb2 h0]
    · rw [latL_miss hb h0, latL_miss hb2 h0, ih]
theorem bdCells_set {bs : List Bd} {i : Nat} {x : Bd} (h : i < bs.length) : (((bdCells bs).set (i * 3) (.int .i64 x.fr)).set (i * 3 + 1) (.slice x.A x.n x.c)).set (i * 3 + 2) (.bool x.wd) = bdCells (bs.set i x) := by
  induction bs generalizing i with
  | nil => simp at h
  | cons a t ih =>
    have e : ∀ (a : Bd) t, bdCells (a :: t) = [.int .i64 a.fr, .slice a.A a.n a.c, .bool a.wd] ++ bdCells t := fun a t => by simp [bdCells, Bd.arr]
    cases i with
    | zero => simp [e]
    | succ i =>
      have ih := ih (i := i) (by simpa using h)
      rw [List.set_cons_succ, e, e, ← ih]
      have e3 : (i + 1) * 3 = i * 3 + 3 := by omega
      rw [e3]
      simp
end Go.Proofs.Ytmlpimidbgeacaa
