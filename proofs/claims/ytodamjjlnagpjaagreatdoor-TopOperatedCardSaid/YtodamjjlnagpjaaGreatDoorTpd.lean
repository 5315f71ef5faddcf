/-
  Contracts of Applies and Check of conditions. Conditions: Check: each of them is valid.
  The contract of Conditions: at most six valid conditions, in a row of the call's own. Condition: the deck lies in memory.
  Facts of memory with the blocks that they lean on: they hold in every world that agrees on these blocks. No condition.
  Plain words for dams: curves, units, gates, reservoirs and their states, as cells and as lists; what makes them valid. No program in sight. No condition.
-/
import Derived.Test.YtodamjjlnagpjaaGreatDoorProg
import Derived.Test.YtodamjjlnagpjaaGreatDoorOne
import Derived.Test.YtodamjjlnagpjaaGreatDoorPushN
import Derived.Test.YtodamjjlnagpjaaGreatDoorTrj
namespace Go.Proofs.YtodamjjlnagpjaaGreatDoor
open Go.RowKit

def appB (c : Cd) (d x : Int) : Bool := decide (c.err = 0) && inB c.from_ c.to_ d && decide (c.above ≤ x) && decide (x ≤ c.below)
set_option maxHeartbeats 1600000 in
set_option maxRecDepth 20000 in
theorem applies_ok (c : Cd) (d x : Int) (w : World) (he : c.err = 0) : Calls Tryz.prog 81 #[.agg c.arr, .int .i64 d, .int .i64 x] w fun e w' => e = .returned (.bool (inB c.from_ c.to_ d && decide (c.above ≤ x) && decide (x ≤ c.below))) ∧ Below w.heap.size w w' := by
  have h0 := Blk.new w 72 c.arr
  have hB := bel1 (w := w) (o := .cells c.arr 72)
  have HA := hide (fun W => one_any c W)
  have H9 := hide he
  clear he
  obtain ⟨r, k, v, f, t, a, b⟩ := c
  have HI := hide (fun W => in_any f t d W)
  unfold Cd.arr at h0 hB HA ⊢
  simp only
  go_enter Tryz.func81, Tryz.ntmps81
  go_wp2_with fail
  generalize (w.alloc _) = w2 at *
  refine (HA.out _).mono ?_
  rintro e w3 ⟨rfl, hb1⟩
  rw [H9.out]
  have hB1 := bthr hB hb1 hB.size
  replace h0 := h0.below hb1 h0.lt
  clear hB hb1
  obtain ⟨⟨a0, a1, a2, a3, a4, a5, a6⟩, _⟩ := Blk.facts7 h0
  go_wp2_with fail
  refine (HI.out _).mono ?_
  rintro e w4 ⟨rfl, hb4⟩
  have hB4 := bthr hB1 hb4 hB1.size
  replace h0 := h0.below hb4 h0.lt
  clear hB1 hb4 a0 a1 a2 a3 a4 a5 a6 HA HI H9
  obtain ⟨⟨a0, a1, a2, a3, a4, a5, a6⟩, _⟩ := Blk.facts7 h0
  clear h0 a0 a1 a2
  cases hi : inB f t d
  all_goals by_cases h1 : a ≤ x <;> by_cases h2 : x ≤ b
  all_goals
    go_wp2
    go_ret
    exact ⟨ret_bool (by simp [h1, h2, hi]), hB4⟩
/-- Conditions as cells. -/
def cdCells (cs : List Cd) : List Value := cs.flatMap fun c => c.arr.toList
theorem cdCells_append (a b : List Cd) : cdCells (a ++ b) = cdCells a ++ cdCells b := by simp [cdCells]
theorem cdCells_length (cs : List Cd) : (cdCells cs).length = cs.length * 7 := by
  induction cs with
  | nil => rfl
  | cons c t ih => simp only [cdCells, List.flatMap_cons, List.length_append, List.length_cons] at ih ⊢; rw [ih]; simp [Cd.arr]; omega
theorem cdCells_get : ∀ (cs : List Cd) (i : Nat) (h : i < cs.length) (j : Nat), j < 7 → (cdCells cs)[i * 7 + j]? = cs[i].arr.toList[j]?
  | c :: t, 0, _, j, hj => by
    simp only [cdCells, List.flatMap_cons, Nat.zero_mul, Nat.zero_add, List.getElem_cons_zero]
    rw [List.getElem?_append_left (by simp [Cd.arr]; omega)]
  | c :: t, i + 1, h, j, hj => by
    have := cdCells_get t i (by simpa using h) j hj
    simp only [cdCells, List.flatMap_cons, List.getElem_cons_succ] at this ⊢
    rw [List.getElem?_append_right (by simp [Cd.arr]; omega), ← this]
    congr 1
    simp [Cd.arr]; omega
/-- The seven cells of element i. -/
theorem cd_cells {w : World} {B n c b o : Nat} {cs : List Cd} (hc : ∀ j u, (cdCells cs)[j]? = some u → w.cell? ⟨b, o + j, none⟩ = some u) {i : Nat} (hi : i < cs.length) {r k v f t x y : Int} (he : cs[i] = ⟨r, k, v, f, t, x, y⟩) :
    w.cell? ⟨b, o + i * 7, none⟩ = some (.int .i64 r) ∧ w.cell? ⟨b, o + i * 7 + 1, none⟩ = some (.int .i64 k) ∧ w.cell? ⟨b, o + i * 7 + 2, none⟩ = some (.int .i64 v) ∧ w.cell? ⟨b, o + i * 7 + 3, none⟩ = some (.int .i64 f) ∧ w.cell? ⟨b, o + i * 7 + 4, none⟩ = some (.int .i64 t) ∧ w.cell? ⟨b, o + i * 7 + 5, none⟩ = some (.int .i64 x) ∧ w.cell? ⟨b, o + i * 7 + 6, none⟩ = some (.int .i64 y) := by
  have _hBnc : B = B ∧ n = n ∧ c = c := ⟨rfl, rfl, rfl⟩
  have h := fun j hj => cdCells_get cs i hi j hj
  rw [he] at h
  exact ⟨hc _ _ (h 0 (by omega)), hc _ _ (h 1 (by omega)), hc _ _ (h 2 (by omega)), hc _ _ (h 3 (by omega)), hc _ _ (h 4 (by omega)), hc _ _ (h 5 (by omega)), hc _ _ (h 6 (by omega))⟩
set_option maxHeartbeats 1600000 in
set_option maxRecDepth 20000 in
theorem check_ok (A : Option Addr) (n c : Nat) (cs : List Cd) (w : World) (hn : n ≤ 200) (hg : ∀ x ∈ cs, x.err = 0) (hs : Sl w w.heap.size 7 A n c (cdCells cs)) :
    Calls Tryz.prog 75 #[.slice A n c] w fun e w' => e = .returned (.int .i64 0) ∧ Below w.heap.size w w' := by
  have hl : n = cs.length := by have := hs.1; rw [cdCells_length] at this; omega
  have HL := hide hl
  have HS := hide hs
  have HG := hide hg
  clear hl hs hg
  go_enter Tryz.func75, Tryz.ntmps75
  go_wp2
  go_loopw [11] (fun i wr => ∃ k : Nat, k ≤ n ∧ i = .int .i64 k ∧ Below w.heap.size w wr) (fun i _ => n - (intOf i).toNat)
  case atStart => exact ⟨0, by omega, rfl, Below.refl _ _⟩
  case round =>
    obtain ⟨k, hk, rfl, hb⟩ := hrel
    by_cases hlt : k < n
    · obtain ⟨b, o, rfl, hb1, hc⟩ := (HS.out.below hb).at_ hlt
      have hL := HL.out
      have hE := HG.out _ (List.getElem_mem (show k < cs.length by omega))
      rcases he : cs[k]'(by omega) with ⟨r, kd, v, f, t, x, y⟩
      obtain ⟨c0, c1, c2, c3, c4, c5, c6⟩ := cd_cells (B := 0) (n := 0) (c := 0) hc (by omega) he
      rw [he] at hE
      have HE := hide hE
      have HA := hide (fun W => one_any ⟨r, kd, v, f, t, x, y⟩ W)
      have hB2 := hide (hb.alloc hb.size (.cells (Cd.arr ⟨r, kd, v, f, t, x, y⟩) 72))
      unfold Cd.arr at HA hB2
      clear hc hL he hE hb
      go_wp2_with fail
      refine (HA.out _).mono ?_
      rintro e w2 ⟨rfl, hb2⟩
      rw [HE.out]
      have hB3 := hide (bthr hB2.out hb2 hB2.out.size)
      clear hB2 hb2 c0 c1 c2 c3 c4 c5 c6
      go_wp2
      go_roundw
      case rel => exact ⟨k + 1, by omega, by go_num, hB3.out⟩
      case measure => simp [intOf]; omega
    · obtain rfl : k = n := by omega
      go_wp2
      go_ret
      exact ⟨rfl, hb⟩
end Go.Proofs.YtodamjjlnagpjaaGreatDoor
namespace Go.Proofs.YtodamjjlnagpjaaGreatDoor
open Go.RowKit

theorem own_cells {w : World} {base : Nat} {e : TypeId} {size n : Nat} {v : Value} {xs ys : List Value} (h : w.ownsRow base e size v n xs) (he : xs = ys) : w.ownsRow base e size v n ys := he ▸ h
theorem slCond : SlT Tryz.prog 38 72 7 := slT_of (z := .agg #[.int .i64 0, .int .i64 0, .int .i64 0, .int .i64 0, .int .i64 0, .int .i64 0, .int .i64 0]) (bytes := 56) Tryz.underlying38 (by kernel_rfl) rfl (by decide) (by decide)
theorem Dk.other {w w' : World} {b : Nat} {row : Option Nat} (h : Dk w b) (hg : w.grownBy w' row) (hr : ∀ k, row = some k → b < k) : Dk w' b := by
  have hlt := h.lt
  obtain ⟨A, n, c, a, zs, h, ha, hs⟩ := h
  have hk : ∀ i, i ≤ b → w'.heap[i]? = w.heap[i]? := fun i hi => hg.block i (by omega) (fun e => by have := hr i e.symm; omega)
  exact ⟨A, n, c, a, zs, (hk b (Nat.le_refl _)).trans h, ha, hs.keep fun p o hp => World.cell?_of_block (hk p (by omega))⟩
theorem grown_push {w w2 w3 : World} {b : Nat} {row : Option Nat} (h : w.grownBy w2 (some b)) (hg : w2.grownBy w3 row) (hr : ∀ k, row = some k → w.heap.size ≤ k) : w.grownBy w3 (some b) :=
  ⟨hg.os.trans h.os, hg.tape.trans h.tape, hg.output.trans h.output, Nat.le_trans h.size hg.size, fun i hi hn => (hg.block i (Nat.lt_of_lt_of_le hi h.size) (fun e => by have := hr i e.symm; omega)).trans (h.block i hi hn)⟩
theorem own_deck {w w' : World} {base b : Nat} {e : TypeId} {size n : Nat} {v : Value} {xs : List Value} (h : w.ownsRow base e size v n xs) (hg : w.grownBy w' (some b)) (hb : b < base) : w'.ownsRow base e size v n xs := h.kept hg (by
  cases hv : v.ownBlock with
  | none => exact .inl rfl
  | some g => exact .inr (fun e => by injection e with e; have := (h.lt g hv).1; omega))
def CondsMade (b : Nat) (w : World) (e : Ending) (w' : World) : Prop := ∃ (v : Value) (cs : List Cd), e = .returned v ∧ cs.length ≤ 6 ∧ (∀ c ∈ cs, c.good) ∧ w'.ownsRow w.heap.size 72 7 v cs.length (cdCells cs) ∧ Dk w' b ∧ w.grownBy w' (some b)
set_option maxHeartbeats 1600000 in
set_option maxRecDepth 20000 in
theorem conds_any (b : Nat) (w : World) (hD : Dk w b) : Calls Tryz.prog 7 #[.pointer (some ⟨b, 0, none⟩)] w (CondsMade b w) := by
  have hbl := hD.lt
  go_enter Tryz.func7, Tryz.ntmps7
  go_wp2_with fail
  refine (next_any _ _ (by omega) _ hD).mono ?_
  rintro e w1 ⟨m0, rfl, hm0, hm1, hD1, hg1, hz1⟩
  clear hD
  go_wp2
  go_loopw [3, 4] (fun v i wr => ∃ (m : Nat) (cs : List Cd), i = .int .i64 m ∧ m + cs.length ≤ 6 ∧ Hid (∀ c ∈ cs, c.good) ∧ wr.ownsRow w.heap.size 72 7 v cs.length (cdCells cs) ∧ Dk wr b ∧ w.grownBy wr (some b)) (fun _ i _ => (intOf i).toNat)
  case atStart => exact ⟨m0.toNat, [], by rw [Int.toNat_of_nonneg hm0], by simp; omega, hide (by simp), World.ownsRow_nil _ _ _ _, hD1, hg1⟩
  case round =>
    obtain ⟨m, cs, rfl, hm, hgood, hv, hDr, hgr⟩ := hrel
    by_cases h0 : m = 0
    · subst h0
      have HV := hide hv
      clear hv
      go_wp2
      go_ret
      exact ⟨_, cs, rfl, by omega, hgood.out, HV.out, hDr, hgr⟩
    · have hm0' : (0 : Int) < (m : Int) := by omega
      go_wp2_with fail
      refine (cond_any _ _ hDr).mono ?_
      rintro e w2 ⟨c, rfl, hc, hD2, hg2⟩
      have hv2 := own_deck hv hg2 hbl
      have hgr2 := grown_trans hgr hg2
      have hz2 := hgr2.size
      have HC := hide hc
      clear hv hg2 hDr hc
      obtain ⟨r, kd, vl, f, t, x, y⟩ := c
      unfold Cd.arr
      go_wp2_with (at_builtin; refine wpList_push rfl _ _ _ rfl w.heap.size _ _ slCond _ _ _ rfl hv2 _ _ rfl rfl rfl (by omega) hz2 ?_)
      intro v' w3 hv3 hg3 _
      have hD3 := hD2.other hg3 (fun k hk => by have := (hv2.lt k hk).1; omega)
      have hgr3 := grown_push hgr2 hg3 (fun k hk => (hv2.lt k hk).1)
      have hv4 := own_cells hv3 (ys := cdCells (cs ++ [⟨r, kd, vl, f, t, x, y⟩])) (by rw [cdCells_append]; rfl)
      have HV := hide hv4
      clear hv2 hv3 hv4 hg3 hD2
      go_wp2
      go_roundw
      case rel =>
        refine ⟨m - 1, cs ++ [⟨r, kd, vl, f, t, x, y⟩], by go_num, by simp; omega, hide ?_, ?_, hD3, hgr3⟩
        · intro z hz
          rcases List.mem_append.1 hz with h | h
          · exact hgood.out z h
          · rw [List.mem_singleton] at h; subst h; exact HC.out
        · have h9 : (cs ++ [(⟨r, kd, vl, f, t, x, y⟩ : Cd)]).length = cs.length + 1 := by simp
          rw [h9]; exact HV.out
      case measure => simp [intOf]; omega
end Go.Proofs.YtodamjjlnagpjaaGreatDoor
namespace Go.Proofs.YtodamjjlnagpjaaGreatDoor
open Go.RowKit

/-- A fact that leans on the blocks of S alone. -/
def Held (S : Nat → Prop) (w : World) (φ : World → Prop) : Prop :=
  (∀ i, S i → i < w.heap.size) ∧ ∀ w' : World, (∀ i, S i → w'.heap[i]? = w.heap[i]?) → φ w'
section
variable {S T : Nat → Prop} {w w' : World} {φ ψ : World → Prop}
theorem Held.out (h : Held S w φ) : φ w := h.2 w fun _ _ => rfl
theorem Held.lt (h : Held S w φ) {i : Nat} (hi : S i) : i < w.heap.size := h.1 i hi
theorem Held.keep (h : Held S w φ) (hk : ∀ i, S i → w'.heap[i]? = w.heap[i]?) : Held S w' φ := by
  refine ⟨fun i hi => ?_, fun w2 h2 => h.2 w2 fun i hi => (h2 i hi).trans (hk i hi)⟩
  have h1 := hk i hi
  have h2 := h.1 i hi
  rcases Nat.lt_or_ge i w'.heap.size with h3 | h3
  · exact h3
  · rw [Array.getElem?_eq_none h3, Array.getElem?_eq_getElem h2] at h1
    cases h1
theorem Held.imp (h : Held S w φ) (hi : ∀ w, φ w → ψ w) : Held S w ψ := ⟨h.1, fun w' hk => hi w' (h.2 w' hk)⟩
theorem Held.both (h : Held S w φ) (k : Held T w ψ) : Held (fun i => S i ∨ T i) w fun W => φ W ∧ ψ W :=
  ⟨fun i hi => hi.elim (h.1 i) (k.1 i), fun w' hk => ⟨h.2 w' fun i hi => hk i (.inl hi), k.2 w' fun i hi => hk i (.inr hi)⟩⟩
theorem Held.wide (h : Held S w φ) (hs : ∀ i, S i → T i) (ht : ∀ i, T i → i < w.heap.size) : Held T w φ := ⟨ht, fun w' hk => h.2 w' fun i hi => hk i (hs i hi)⟩
theorem Held.below (h : Held S w φ) (hb : Below w.heap.size w w') : Held S w' φ := h.keep fun i hi => hb.block i (h.1 i hi)
theorem Held.grown {row : Option Nat} (h : Held S w φ) (hg : w.grownBy w' row) (hr : ∀ k, row = some k → ¬ S k) : Held S w' φ := h.keep fun i hi => hg.block i (h.1 i hi) fun e => hr i e.symm hi
theorem Held.deck {b : Nat} (h : Held S w φ) (hg : w.grownBy w' (some b)) (hb : ∀ i, S i → b < i) : Held S w' φ := h.grown hg fun k hk hs => by injection hk with hk; subst hk; exact absurd (hb _ hs) (Nat.lt_irrefl _)
theorem Held.alloc (h : Held S w φ) (o : Obj) : Held S (w.alloc o) φ := h.keep fun i hi => Below.heap_alloc w o i (h.1 i hi)
theorem Held.set (h : Held S w φ) {p : Addr} (hp : ¬ S p.block) (u : Value) : Held S (w.setCell p u) φ := h.keep fun i hi => Below.heap_setCell w p u i (fun e => hp (e ▸ hi))
theorem Held.drew (h : Held S w φ) : Held S w.drew φ := h.keep fun _ _ => rfl
theorem Held.drewN (h : Held S w φ) (n : Nat) : Held S (w.drewN n) φ := h.keep fun _ _ => rfl
theorem held_true (w : World) {φ : World → Prop} (h : ∀ w, φ w) : Held (fun _ => False) w φ := ⟨fun _ h => h.elim, fun w' _ => h w'⟩
end
theorem ownsRow_agree {w w' : World} {base : Nat} {e : TypeId} {size n : Nat} {v : Value} {xs : List Value} (h : w.ownsRow base e size v n xs) (hk : ∀ g, v.ownBlock = some g → w'.heap[g]? = w.heap[g]?) : w'.ownsRow base e size v n xs := by
  obtain ⟨h1, h2⟩ := h
  refine ⟨h1, ?_⟩
  rcases h2 with h2 | ⟨g, cap, cur, hv, hg, hh, r⟩
  · exact Or.inl h2
  · exact Or.inr ⟨g, cap, cur, hv, hg, by rw [hk g (by rw [hv]; rfl)]; exact hh, r⟩
/-- An own row leans on its own block. -/
theorem held_own {w : World} {base : Nat} {e : TypeId} {size n : Nat} {v : Value} {xs : List Value} (h : w.ownsRow base e size v n xs) : Held (fun g => v.ownBlock = some g) w fun W => W.ownsRow base e size v n xs :=
  ⟨fun g hg => (h.lt g hg).2, fun _ hk => ownsRow_agree h hk⟩
theorem sl_ownv {w : World} {base size n c : Nat} {e : TypeId} {A : Option Addr} {xs : List Value} (h : w.ownsRow base e size (.slice A n c) n xs) : Sl w w.heap.size size A n c xs := by
  obtain ⟨A', c', e', h'⟩ := own_sl h
  injection e' with e1 _ e3
  subst e1 e3
  exact h'
theorem held_sl {w : World} {base : Nat} {e : TypeId} {size n c : Nat} {A : Option Addr} {xs : List Value} (h : w.ownsRow base e size (.slice A n c) n xs) : Held (fun g => (Value.slice A n c).ownBlock = some g) w fun W => Sl W W.heap.size size A n c xs :=
  (held_own h).imp fun _ h => sl_ownv h
theorem own_set {w : World} {base n : Nat} {e : TypeId} {size : Nat} {v : Value} {xs : List Value} (h : w.ownsRow base e size v n xs) {p : Addr} (hp : v.ownBlock ≠ some p.block) (u : Value) : (w.setCell p u).ownsRow base e size v n xs :=
  ownsRow_agree h fun g hg => Below.heap_setCell w p u g (fun e => hp (e ▸ hg))
theorem Blk.push {w w' : World} {row : Option Nat} {g : Nat} {t : TypeId} {cs : Array Value} (h : Blk w g t cs) (hg : w.grownBy w' row) (hr : ∀ k, row = some k → g ≠ k) : Blk w' g t cs := (hg.block g h.lt (fun e => hr g e.symm rfl)).trans h
end Go.Proofs.YtodamjjlnagpjaaGreatDoor
namespace Go.Proofs.YtodamjjlnagpjaaGreatDoor
open Go.RowKit

def ptCells (ps : List Pt) : List Value := ps.flatMap fun p => [.int .i64 p.x, .int .i64 p.y]
theorem ptCells_append (x y : List Pt) : ptCells (x ++ y) = ptCells x ++ ptCells y := by simp [ptCells]
theorem ptCells_len (ps : List Pt) : (ptCells ps).length = ps.length * 2 := by
  induction ps with
  | nil => rfl
  | cons a t ih =>
    have e : ptCells (a :: t) = [.int .i64 a.x, .int .i64 a.y] ++ ptCells t := by simp [ptCells]
    rw [e, List.length_append, ih]; simp; omega
theorem ptCells_get : ∀ (ps : List Pt) (k : Nat) (h : k < ps.length), (ptCells ps)[k * 2]? = some (.int .i64 ps[k].x) ∧ (ptCells ps)[k * 2 + 1]? = some (.int .i64 ps[k].y)
  | a :: t, 0, _ => by simp [ptCells]
  | a :: t, k + 1, h => by
    have e : ptCells (a :: t) = [.int .i64 a.x, .int .i64 a.y] ++ ptCells t := by simp [ptCells]
    have ih := ptCells_get t k (by simpa using h)
    have e2 : ∀ j, (ptCells (a :: t))[(k + 1) * 2 + j]? = (ptCells t)[k * 2 + j]? := fun j => by
      rw [e, List.getElem?_append_right (by simp; omega)]
      congr 1; simp; omega
    have h0 := e2 0
    simp only [Nat.add_zero] at h0
    rw [h0, e2 1]
    exact ih
theorem ptCells_one (ps : List Pt) : ∀ u ∈ ptCells ps, u.oneCell' = true := by
  intro u hu
  unfold ptCells at hu
  obtain ⟨p, _, h⟩ := List.mem_flatMap.1 hu
  simp at h
  rcases h with rfl | rfl <;> rfl
/-- A curve, or a list of bounds, in memory. -/
structure Cv where
  A : Option Addr
  n : Nat
  c : Nat
  ps : List Pt
def Cv.v (x : Cv) : Value := .slice x.A x.n x.c
def Cv.ok (x : Cv) (w : World) : Prop := Sl w w.heap.size 2 x.A x.n x.c (ptCells x.ps)
theorem Cv.ok.len {x : Cv} {w : World} (h : x.ok w) : x.n = x.ps.length := by have := h.1; rw [ptCells_len] at this; omega
theorem Cv.ok.below {x : Cv} {w w' : World} (h : x.ok w) (hb : Below w.heap.size w w') : x.ok w' := Sl.thr h hb
theorem Cv.ok.alloc {x : Cv} {w : World} (h : x.ok w) (o : Obj) : x.ok (w.alloc o) := h.below bel1
theorem Cv.ok.block {x : Cv} {w : World} (h : x.ok w) (hn : 0 < x.ps.length) : ∃ b o, x.A = some ⟨b, o, none⟩ ∧ b < w.heap.size ∧ ∀ (k : Nat) (hk : k < x.ps.length), w.cell? ⟨b, o + k * 2, none⟩ = some (.int .i64 x.ps[k].x) ∧ w.cell? ⟨b, o + k * 2 + 1, none⟩ = some (.int .i64 x.ps[k].y) := by
  have hl := h.len
  obtain ⟨b, o, hA, hb, hc⟩ := Sl.at_ (k := 0) h (by omega)
  exact ⟨b, o, hA, hb, fun k hk => by
    obtain ⟨h1, h2⟩ := ptCells_get x.ps k hk
    exact ⟨hc _ _ h1, by have := hc _ _ h2; rwa [← Nat.add_assoc] at this⟩⟩
/-- A unit. -/
structure Un where
  t : Cv
  lo : Int
  hi : Int
  r : Cv
  up : Int
  dn : Int
def Un.arr (u : Un) : Array Value := #[u.t.v, .int .i64 u.lo, .int .i64 u.hi, u.r.v, .int .i64 u.up, .int .i64 u.dn]
def Un.ok (u : Un) (w : World) : Prop := u.t.ok w ∧ u.r.ok w
theorem Un.ok.below {u : Un} {w w' : World} (h : u.ok w) (hb : Below w.heap.size w w') : u.ok w' := ⟨h.1.below hb, h.2.below hb⟩
def clearB (zs : List Pt) (f : Int) : Bool := zs.all fun z => !(decide (z.x < f) && decide (f < z.y))
def runsB (u : Un) (f : Int) : Bool := decide (u.lo ≤ f) && decide (f ≤ u.hi) && clearB u.r.ps f
theorem clearB_iff {zs : List Pt} {f : Int} : clearB zs f = true ↔ ∀ z ∈ zs, ¬ (z.x < f ∧ f < z.y) := by
  unfold clearB
  rw [List.all_eq_true]
  constructor
  · intro h z hz
    have := h z hz
    simp at this
    omega
  · intro h z hz
    have := h z hz
    simp
    omega
theorem runsB_iff {u : Un} {f : Int} : runsB u f = true ↔ (u.lo ≤ f ∧ f ≤ u.hi) ∧ clearB u.r.ps f = true := by
  unfold runsB
  simp [and_assoc]
/-- What a valid unit of small numbers is. -/
structure UnG (u : Un) : Prop where
  t : CvG 2000 u.t.ps
  lo : 1 ≤ u.lo ∧ u.lo ≤ u.hi ∧ u.hi ≤ 100
  zn : u.r.ps.length ≤ 10
  z : ∀ z ∈ u.r.ps, 0 ≤ z.x ∧ z.x < z.y ∧ z.y ≤ 100
  up : 0 ≤ u.up ∧ u.up ≤ 1000
  dn : 0 ≤ u.dn ∧ u.dn ≤ 1000
/-- A unit's state. -/
structure Us where
  fl : Int
  si : Int
  out : Bool
def Us.arr (s : Us) : Array Value := #[.int .i64 s.fl, .int .i64 s.si, .bool s.out]
structure UsG (u : Un) (s : Us) : Prop where
  si : 0 ≤ s.si ∧ s.si ≤ 1000
  fl : s.fl = 0 ∨ s.out = false ∧ runsB u s.fl = true
def cellsOf {α : Type} (f : α → Array Value) (l : List α) : List Value := l.flatMap fun x => (f x).toList
theorem cellsOf_append {α : Type} (f : α → Array Value) (x y : List α) : cellsOf f (x ++ y) = cellsOf f x ++ cellsOf f y := by simp [cellsOf]
theorem cellsOf_one {α : Type} (f : α → Array Value) (x : α) : cellsOf f [x] = (f x).toList := by simp [cellsOf]
theorem cellsOf_cons {α : Type} (f : α → Array Value) (x : α) (l : List α) : cellsOf f (x :: l) = (f x).toList ++ cellsOf f l := by simp [cellsOf]
theorem cellsOf_len {α : Type} (f : α → Array Value) (m : Nat) (hf : ∀ x, (f x).size = m) (l : List α) : (cellsOf f l).length = l.length * m := by
  induction l with
  | nil => simp [cellsOf]
  | cons a t ih => rw [cellsOf_cons, List.length_append, ih, List.length_cons, Nat.succ_mul, Nat.add_comm]; simp [hf]
theorem cellsOf_get {α : Type} (f : α → Array Value) (m : Nat) (hf : ∀ x, (f x).size = m) : ∀ (l : List α) (k : Nat) (h : k < l.length) (j : Nat), j < m → (cellsOf f l)[k * m + j]? = (f l[k])[j]?
  | a :: t, 0, _, j, hj => by rw [cellsOf_cons, Nat.zero_mul, Nat.zero_add, List.getElem?_append_left (by simpa [hf] using hj)]; simp
  | a :: t, k + 1, h, j, hj => by
    have ih := cellsOf_get f m hf t k (by simpa using h) j hj
    rw [cellsOf_cons, List.getElem?_append_right (by simp [hf, Nat.succ_mul]; omega)]
    rw [show (k + 1) * m + j - (f a).toList.length = k * m + j by simp [hf, Nat.succ_mul]; omega, ih]
    simp
def unCells (l : List Un) : List Value := cellsOf Un.arr l
def usCells (l : List Us) : List Value := cellsOf Us.arr l
/-- One rating of a gate. -/
structure Gr where
  lv : Int
  cv : Cv
def Gr.arr (r : Gr) : Array Value := #[.int .i64 r.lv, r.cv.v]
def grCells (l : List Gr) : List Value := cellsOf Gr.arr l
structure Gt where
  A : Option Addr
  n : Nat
  c : Nat
  rs : List Gr
  mo : Int
  mv : Int
def Gt.arr (g : Gt) : Array Value := #[.slice g.A g.n g.c, .int .i64 g.mo, .int .i64 g.mv]
def Gt.ok (g : Gt) (w : World) : Prop := Sl w w.heap.size 2 g.A g.n g.c (grCells g.rs) ∧ ∀ r ∈ g.rs, r.cv.ok w
theorem Gt.ok.below {g : Gt} {w w' : World} (h : g.ok w) (hb : Below w.heap.size w w') : g.ok w' := ⟨Sl.thr h.1 hb, fun r hr => (h.2 r hr).below hb⟩
theorem Gt.ok.len {g : Gt} {w : World} (h : g.ok w) : g.n = g.rs.length := by have := h.1.1; rw [grCells, cellsOf_len Gr.arr 2 (fun _ => rfl)] at this; omega
structure GtG (g : Gt) : Prop where
  ne : 0 < g.rs.length
  le : g.rs.length ≤ 10
  lv : ∀ r ∈ g.rs, 0 ≤ r.lv ∧ r.lv ≤ 2000
  up : ∀ (i : Nat) (h : i + 1 < g.rs.length), (g.rs[i]'(by omega)).lv < g.rs[i + 1].lv
  cv : ∀ r ∈ g.rs, CvG 2000 r.cv.ps ∧ ∃ t, r.cv.ps = ⟨0, 0⟩ :: t
  mo : 0 ≤ g.mo ∧ g.mo ≤ 1000
  mv : 0 ≤ g.mv ∧ g.mv ≤ 1000
def gtCells (l : List Gt) : List Value := cellsOf Gt.arr l
/-- A gate's state. -/
structure Gs where
  op : Int
  jam : Bool
def Gs.arr (s : Gs) : Array Value := #[.int .i64 s.op, .bool s.jam]
def gsCells (l : List Gs) : List Value := cellsOf Gs.arr l
/-- The curve of a gate at a level. -/
def gCv : List Gr → Int → Cv → Cv
  | [], _, v => v
  | r :: t, lv, v => gCv t lv (if r.lv ≤ lv then r.cv else v)
def nilCv : Cv := ⟨none, 0, 0, []⟩
def gFlow (g : Gt) (lv op : Int) : Int := if (gCv g.rs lv nilCv).ps.length = 0 then 0 else val (gCv g.rs lv nilCv).ps op
/-- A reservoir. -/
structure Rs where
  st : Cv
  de : Int
  lw : Int
  fu : Int
  su : Int
  cr : Int
def Rs.arr (r : Rs) : Array Value := #[r.st.v, .int .i64 r.de, .int .i64 r.lw, .int .i64 r.fu, .int .i64 r.su, .int .i64 r.cr]
structure RsG (r : Rs) : Prop where
  st : CvG 2000 r.st.ps
  two : 2 ≤ r.st.ps.length
  up : ∀ (i : Nat) (h : i + 1 < r.st.ps.length), (r.st.ps[i]'(by omega)).y < r.st.ps[i + 1].y
  l0 : (r.st.ps[0]'st.ne).x ≤ r.de
  l1 : r.de ≤ r.lw
  l2 : r.lw ≤ r.fu
  l3 : r.fu ≤ r.su
  l4 : r.su ≤ r.cr
  l5 : r.cr ≤ (r.st.ps[r.st.ps.length - 1]'(by have := st.ne; omega)).x
/-- A dam. -/
structure Dm where
  r : Rs
  uA : Option Addr
  un : Nat
  uc : Nat
  us : List Un
  gA : Option Addr
  gn : Nat
  gc : Nat
  gs : List Gt
  gr : Int
def Dm.arr (d : Dm) : Array Value := #[d.r.st.v, .int .i64 d.r.de, .int .i64 d.r.lw, .int .i64 d.r.fu, .int .i64 d.r.su, .int .i64 d.r.cr, .slice d.uA d.un d.uc, .slice d.gA d.gn d.gc, .int .i64 d.gr]
def Dm.ok (d : Dm) (w : World) : Prop := d.r.st.ok w ∧ (Sl w w.heap.size 6 d.uA d.un d.uc (unCells d.us) ∧ ∀ u ∈ d.us, u.ok w) ∧ Sl w w.heap.size 3 d.gA d.gn d.gc (gtCells d.gs) ∧ ∀ g ∈ d.gs, g.ok w
theorem Dm.ok.below {d : Dm} {w w' : World} (h : d.ok w) (hb : Below w.heap.size w w') : d.ok w' :=
  ⟨h.1.below hb, ⟨Sl.thr h.2.1.1 hb, fun u hu => (h.2.1.2 u hu).below hb⟩, Sl.thr h.2.2.1 hb, fun g hg => (h.2.2.2 g hg).below hb⟩
theorem Dm.ok.lenU {d : Dm} {w : World} (h : d.ok w) : d.un = d.us.length := by have := h.2.1.1.1; rw [unCells, cellsOf_len Un.arr 6 (fun _ => rfl)] at this; omega
theorem Dm.ok.lenG {d : Dm} {w : World} (h : d.ok w) : d.gn = d.gs.length := by have := h.2.2.1.1; rw [gtCells, cellsOf_len Gt.arr 3 (fun _ => rfl)] at this; omega
structure DmG (d : Dm) : Prop where
  r : RsG d.r
  un : d.us.length ≤ 6
  u : ∀ u ∈ d.us, UnG u
  gn : d.gs.length ≤ 8
  g : ∀ g ∈ d.gs, GtG g
  gr : 1 ≤ d.gr ∧ d.gr ≤ 1000
/-- A dam's state. -/
structure Ds where
  vo : Int
  re : Int
  uA : Option Addr
  un : Nat
  uc : Nat
  us : List Us
  gA : Option Addr
  gn : Nat
  gc : Nat
  gs : List Gs
def Ds.arr (s : Ds) : Array Value := #[.int .i64 s.vo, .int .i64 s.re, .slice s.uA s.un s.uc, .slice s.gA s.gn s.gc]
def Ds.ok (s : Ds) (w : World) : Prop := Sl w w.heap.size 3 s.uA s.un s.uc (usCells s.us) ∧ Sl w w.heap.size 2 s.gA s.gn s.gc (gsCells s.gs)
theorem Ds.ok.below {s : Ds} {w w' : World} (h : s.ok w) (hb : Below w.heap.size w w') : s.ok w' := ⟨Sl.thr h.1 hb, Sl.thr h.2 hb⟩
def crestV (d : Dm) : Int := val d.r.st.ps d.r.cr
structure DsG (d : Dm) (s : Ds) : Prop where
  vo : 0 ≤ s.vo ∧ s.vo ≤ crestV d
  re : 0 ≤ s.re ∧ s.re ≤ 1073741824
  ul : s.us.length = d.us.length
  u : ∀ (i : Nat) (h : i < d.us.length), UsG d.us[i] (s.us[i]'(by omega))
  gl : s.gs.length = d.gs.length
  g : ∀ (i : Nat) (h : i < d.gs.length), 0 ≤ (s.gs[i]'(by omega)).op ∧ (s.gs[i]'(by omega)).op ≤ d.gs[i].mo
end Go.Proofs.YtodamjjlnagpjaaGreatDoor
