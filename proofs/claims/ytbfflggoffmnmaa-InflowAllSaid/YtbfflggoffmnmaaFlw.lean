/-
  Flows and run make lists from the deck; the inflow laws' sanity check returns true. Condition: the deck lies in memory.
-/
import Derived.Test.YtbfflggoffmnmaaBal
import Derived.Test.YtbfflggoffmnmaaSame0
import Derived.Test.YtbfflggoffmnmaaSmk
namespace Go.Proofs.Ytbfflggoffmnmaa
open Go.RowKit

theorem Dk.other {w w' : World} {b : Nat} {row : Option Nat} (h : Dk w b) (hg : w.grownBy w' row) (hr : ∀ k, row = some k → b < k) : Dk w' b := by
  have hlt := h.lt
  obtain ⟨A, n, c, a, zs, h, ha, hs⟩ := h
  have hk : ∀ i, i ≤ b → w'.heap[i]? = w.heap[i]? := fun i hi => hg.block i (by omega) (fun e => by have := hr i e.symm; omega)
  exact ⟨A, n, c, a, zs, (hk b (Nat.le_refl _)).trans h, ha, hs.keep fun p o hp => World.cell?_of_block (hk p (by omega))⟩
theorem grown_push {w w2 w3 : World} {b : Nat} {row : Option Nat} (h : w.grownBy w2 (some b)) (hg : w2.grownBy w3 row) (hr : ∀ k, row = some k → w.heap.size ≤ k) : w.grownBy w3 (some b) :=
  ⟨hg.os.trans h.os, hg.tape.trans h.tape, hg.output.trans h.output, Nat.le_trans h.size hg.size, fun i hi hn => (hg.block i (Nat.lt_of_lt_of_le hi h.size) (fun e => by have := hr i e.symm; omega)).trans (h.block i hi hn)⟩
theorem own_deck {w w' : World} {base b : Nat} {e : TypeId} {size n : Nat} {v : Value} {xs : List Value} (h : w.ownsRow base e size v n xs) (hg : w.grownBy w' (some b)) (hb : b < base) : w'.ownsRow base e size v n xs := h.kept hg (by
  cases hv : v.ownBlock with
  | none => exact .inl rfl
  | some g => exact .inr (fun e => by injection e with e; have := (h.lt g hv).1; omega))
def FlowsMade (b n : Nat) (m : Int) (w : World) (e : Ending) (w' : World) : Prop := ∃ (v : Value) (xs : List Int), e = .returned v ∧ xs.length = n ∧ (∀ x ∈ xs, 0 ≤ x ∧ x < m) ∧ w'.ownsRow w.heap.size 3 1 v n (ints xs) ∧ Dk w' b ∧ w.grownBy w' (some b)
set_option maxHeartbeats 800000 in
set_option maxRecDepth 20000 in
theorem flows_any (b n : Nat) (m : Int) (hn : n ≤ 4096) (hm : 0 < m) (hm2 : m ≤ 4611686018427387904) (w : World) (hD : Dk w b) : Calls Try.prog 25 #[.pointer (some ⟨b, 0, none⟩), .int .i64 n, .int .i64 m] w (FlowsMade b n m w) := by
  have hbl := hD.lt
  go_enter Try.func25, Try.ntmps25
  go_wp2
  go_loopw [7, 9] (fun v i wr => ∃ (k : Nat) (xs : List Int), k ≤ n ∧ i = .int .i64 k ∧ xs.length = k ∧ Hid (∀ x ∈ xs, 0 ≤ x ∧ x < m) ∧ wr.ownsRow w.heap.size 3 1 v k (ints xs) ∧ Dk wr b ∧ w.grownBy wr (some b)) (fun _ i _ => n - (intOf i).toNat)
  case atStart => exact ⟨0, [], by omega, rfl, rfl, hide (by simp), World.ownsRow_nil _ _ _ _, hD, grown_refl _ _⟩
  case round =>
    obtain ⟨k, xs, hk, rfl, hxl, hxs, hv, hDr, hgr⟩ := hrel
    by_cases hlt : k < n
    · go_wp2_with fail
      refine (next_any b m hm2 _ hDr).mono ?_
      rintro e w2 ⟨x, rfl, hx0, hx1, hD2, hg2, -⟩
      have hv2 := own_deck hv hg2 hbl
      have hgr2 := grown_trans hgr hg2
      have hz2 := hgr2.size
      have HX := hide (show ∀ y ∈ xs ++ [x], 0 ≤ y ∧ y < m by
        intro y hy
        rcases List.mem_append.1 hy with h | h
        · exact hxs.out y h
        · rw [List.mem_singleton] at h; subst h; omega)
      clear hv hg2 hDr hxs hx1
      go_wp2_with (at_builtin; refine wpList_push rfl _ _ _ rfl w.heap.size _ _ slInt _ _ _ rfl hv2 _ _ rfl rfl rfl (by omega) hz2 ?_)
      intro v' w3 hv3 hg3 _
      have hD3 := hD2.other hg3 (fun k hk => by have := (hv2.lt k hk).1; omega)
      have hgr3 := grown_push hgr2 hg3 (fun k hk => (hv2.lt k hk).1)
      have hv4 := own_cells hv3 (ys := ints (xs ++ [x])) (by rw [ints_append]; rfl)
      clear hv2 hv3 hg3 hD2 hgr2 hgr hz2
      go_wp2
      go_roundw
      case rel => exact ⟨k + 1, xs ++ [x], by omega, by go_num, by simp; omega, HX, hv4, hD3, hgr3⟩
      case measure => simp [intOf]; omega
    · obtain rfl : k = n := by omega
      have HV := hide hv
      clear hv
      go_wp2
      go_ret
      exact ⟨_, xs, rfl, hxl, hxs.out, HV.out, hDr, hgr⟩
def RunMade (b : Nat) (w : World) (e : Ending) (w' : World) : Prop := ∃ (A B : Option Addr) (c d n : Nat) (vs os : List Int), e = .returned (.tuple #[.slice A (n + 1) c, .slice B n d]) ∧ n ≤ 13 ∧ vs.length = n + 1 ∧ os.length = n ∧ (∀ x ∈ vs, 0 ≤ x ∧ x < 200) ∧ (∀ x ∈ os, 0 ≤ x ∧ x < 40) ∧
  w'.ownsRow w.heap.size 3 1 (.slice A (n + 1) c) (n + 1) (ints vs) ∧ w'.ownsRow w.heap.size 3 1 (.slice B n d) n (ints os) ∧ (∀ g, (Value.slice A (n + 1) c).ownBlock = some g → (Value.slice B n d).ownBlock ≠ some g) ∧ Dk w' b ∧ w.grownBy w' (some b)
set_option maxHeartbeats 800000 in
set_option maxRecDepth 20000 in
theorem run_any (b : Nat) (w : World) (hD : Dk w b) : Calls Try.prog 14 #[.pointer (some ⟨b, 0, none⟩)] w (RunMade b w) := by
  have hbl := hD.lt
  go_enter Try.func14, Try.ntmps14
  go_wp2_with fail
  refine (next_any b 14 (by omega) _ hD).mono ?_
  rintro e w1 ⟨x, rfl, hx0, hx1, hD1, hg1, hz1⟩
  obtain ⟨n, rfl⟩ : ∃ n : Nat, x = (n : Int) := ⟨x.toNat, by omega⟩
  have hn : n ≤ 13 := by omega
  clear hD hx0 hx1
  go_wp2_with fail
  rw [show (n : Int) + 1 = ((n + 1 : Nat) : Int) by omega]
  refine (flows_any b (n + 1) 200 (by omega) (by omega) (by omega) _ hD1).mono ?_
  rintro e w2 ⟨v, vs, rfl, hvl, hvs, hv, hD2, hg2⟩
  have hz2 := hg2.size
  clear hD1
  go_wp2_with fail
  refine (flows_any b n 40 (by omega) (by omega) (by omega) _ hD2).mono ?_
  rintro e w3 ⟨u, os, rfl, hol, hos, hu, hD3, hg3⟩
  have hv3 := own_deck (ownsRow_base hv (Nat.le_of_eq hz1.symm)) hg3 (by omega)
  have hlv := fun g hg => (hv.lt g hg).2
  have hlu := fun g hg => (hu.lt g hg).1
  have hu3 := ownsRow_base hu (show w.heap.size ≤ w2.heap.size by omega)
  have hg := grown_trans (grown_trans hg1 hg2) hg3
  obtain ⟨A, c, rfl, -⟩ := own_sl hv3
  obtain ⟨B, d, rfl, -⟩ := own_sl hu3
  clear hv hu hg1 hg2 hg3 hD2
  go_wp2
  go_ret2
  exact ⟨A, B, c, d, n, vs, os, rfl, hn, hvl, hol, hvs, hos, hv3, hu3, fun g h1 h2 => by have := hlv g h1; have := hlu g h2; omega, hD3, hg⟩
theorem Sl.of_blk {w : World} {g n : Nat} {t : TypeId} {cs : Array Value} {zs : List Int} (h : Blk w g t cs) (hx : cs.toList = ints zs) (hn : zs.length = n) (hm : n ≤ maxLen) : Sl w w.heap.size 1 (some ⟨g, 0, none⟩) n n (ints zs) :=
  ⟨by rw [ints_length]; omega, Nat.le_refl _, hm, fun _ => ⟨g, 0, rfl, h.lt, fun j u hu => by
    rw [h.facts.1, ← hu, ← hx]; simp⟩⟩
theorem smo_ex : smoL 3 [5, 0, 0, 7] = [2, 2, 1, 7] ∧ smoE 3 [5, 0, 0, 7] = 0 := by decide +kernel
theorem bal_ex : balL [10, 12] [3] = [5] ∧ uncE [10, 12] [3] 0 = 0 := by decide +kernel
set_option maxHeartbeats 800000 in
set_option maxRecDepth 20000 in
theorem awake_any (w : World) : Calls Try.prog 13 #[] w fun e w' => e = .returned (.bool true) ∧ Below w.heap.size w w' := by
  have h1 := Blk.new w 3 #[.int .i64 5, .int .i64 0, .int .i64 0, .int .i64 7]
  have hB := bel1 (w := w) (o := .cells #[.int .i64 5, .int .i64 0, .int .i64 0, .int .i64 7] 3)
  go_enter Try.func13, Try.ntmps13
  go_wp2_with fail
  generalize w.alloc _ = w2 at *
  refine (smooth_any _ 4 4 [5, 0, 0, 7] 3 w2 (Sl.of_blk h1 rfl rfl (by unfold maxLen; omega))).mono ?_
  rintro e w3 ⟨v, rfl, hv, hb⟩
  rw [smo_ex.1] at hv
  rw [smo_ex.2]
  obtain ⟨A, c, rfl, hs⟩ := own_sl hv
  have hB3 := bthr hB hb hB.size
  clear hv hb hB h1
  go_wp2_with fail
  have b1 := (Blk.new w3 3 #[.int .i64 10, .int .i64 12]).alloc (.cells #[.int .i64 3] 3)
  have b2 := Blk.new (w3.alloc (.cells #[.int .i64 10, .int .i64 12] 3)) 3 #[.int .i64 3]
  rw [World.size_alloc] at b2
  have hB4 := (hB3.alloc hB3.size (.cells #[.int .i64 10, .int .i64 12] 3)).alloc (by simp; have := hB3.size; omega) (.cells #[.int .i64 3] 3)
  have hs4 := (hs.allocw (.cells #[.int .i64 10, .int .i64 12] 3)).allocw (.cells #[.int .i64 3] 3)
  clear hs
  refine (bal_any _ _ 2 2 1 1 [10, 12] [3] _ (by omega) (Sl.of_blk b1 rfl rfl (by unfold maxLen; omega)) (Sl.of_blk b2 rfl rfl (by unfold maxLen; omega))).mono ?_
  rintro e w5 ⟨v, rfl, hv, hb⟩
  rw [bal_ex.1] at hv
  rw [bal_ex.2]
  obtain ⟨A2, c2, rfl, hs2⟩ := own_sl hv
  have hs5 := hs4.thr hb
  have hB5 := bthr hB4 hb hB4.size
  clear hv hb hs4 hB4 b1 b2 hB3
  go_wp2_with fail
  refine (same_any A c [2, 2, 1, 7] _ 4 [2, 2, 1, 7] 4 4 _ (hs5.allocw _) (Sl.of_blk (Blk.new w5 3 #[.int .i64 2, .int .i64 2, .int .i64 1, .int .i64 7]) rfl rfl (by unfold maxLen; omega))).mono ?_
  rintro e w6 ⟨rfl, hb6⟩
  have hs6 := (hs2.allocw (.cells #[.int .i64 2, .int .i64 2, .int .i64 1, .int .i64 7] 3)).thr hb6
  have hB6 := bthr (hB5.alloc hB5.size (.cells #[.int .i64 2, .int .i64 2, .int .i64 1, .int .i64 7] 3)) hb6 (by simp; have := hB5.size; omega)
  clear hs5 hs2 hB5 hb6
  go_wp2_with fail
  refine (same_any A2 c2 [5] _ 1 [5] 1 1 _ (hs6.allocw _) (Sl.of_blk (Blk.new w6 3 #[.int .i64 5]) rfl rfl (by unfold maxLen; omega))).mono ?_
  rintro e w7 ⟨rfl, hb7⟩
  have hB7 := bthr (hB6.alloc hB6.size (.cells #[.int .i64 5] 3)) hb7 (by simp; have := hB6.size; omega)
  clear hs6 hB6 hb7
  go_wp2
  go_ret
  exact ⟨rfl, hB7⟩
end Go.Proofs.Ytbfflggoffmnmaa
