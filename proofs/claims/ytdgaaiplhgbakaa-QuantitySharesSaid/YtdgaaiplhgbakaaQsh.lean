/-
  Each share is what the reference says, or the error: the walk of QuantityShares. Condition: its lists can be read.
-/
import Derived.Test.YtdgaaiplhgbakaaProg
import Derived.Test.YtdgaaiplhgbakaaQaw
import Derived.Test.YtdgaaiplhgbakaaRsh
namespace Go.Proofs.Ytdgaaiplhgbakaa
open Go.RowKit

/-- a cell that holds a slice of at most 300 integers, each time in memory -/
def HoldsL (w : World) (g k : Nat) : Prop := ∃ (A : Option Addr) (n c : Nat) (ws : List Int), w.cell? ⟨g, k, none⟩ = some (.slice A n c) ∧ n ≤ 4096 ∧ Sl w w.heap.size 1 A n c (ints ws)
theorem HoldsL.thr {w w' : World} {g k : Nat} (h : HoldsL w g k) (hb : Below w.heap.size w w') : HoldsL w' g k := by
  obtain ⟨A, n, c, ws, h1, h2, h3⟩ := h
  exact ⟨A, n, c, ws, cell_thr hb h1, h2, h3.thr hb⟩
def HoldsI (w : World) (g k : Nat) : Prop := ∃ x : Int, w.cell? ⟨g, k, none⟩ = some (.int .i64 x)
theorem sl_nil (w : World) (B : Nat) : Sl w B 1 none 0 0 (ints []) := ⟨rfl, Nat.le_refl _, by unfold maxLen; omega, fun h => absurd h (by omega)⟩
set_option maxHeartbeats 600000 in
set_option maxRecDepth 20000 in
theorem qshares_walk {A B : Option Addr} {n c n' c' : Nat} {zs ls : List Int} {w : World} (h1 : Sl w w.heap.size 1 A n c (ints zs)) (h2 : Sl w w.heap.size 1 B n' c' (ints ls)) (am : Int) : Calls Try.prog 3 #[.slice A n c, .slice B n' c', .int .i64 am] w fun e w' => e = .returned (.bool true) ∧ Below w.heap.size w w' := by
  have hm1 : n ≤ 9223372036854775807 := by have a1 := h1.2.1; have a2 := h1.2.2.1; unfold maxLen at a2; omega
  have hm2 : n' ≤ 9223372036854775807 := by have a1 := h2.2.1; have a2 := h2.2.2.1; unfold maxLen at a2; omega
  have hl2 : n' = ls.length := by have := h2.1; rw [ints_length] at this; omega
  have H1 := hide h1
  have H2 := hide h2
  have HL2 := hide hl2
  clear h1 h2 hl2
  by_cases hn : 300 < n
  · have hni : (300 : Int) < (n : Int) := by omega
    go_enter Try.func3, Try.ntmps3
    go_wp2_with (go_at_call 9; refine (awake_any _).mono ?_; rintro e w9 ⟨rfl, hb9⟩)
    go_ret
    exact ⟨rfl, hb9⟩
  · have hni : (n : Int) ≤ 300 := by omega
    go_enter Try.func3, Try.ntmps3
    go_wp2
    go_loopw [7, 8] (fun v i wr => ∃ (k : Nat) (ws : List Int), k ≤ n' ∧ k ≤ 12 ∧ ws.length = k ∧ i = .int .i64 k ∧ wr.ownsRow w.heap.size 3 1 v k (ints ws) ∧ Below w.heap.size w wr) (fun _ i _ => 12 - (intOf i).toNat)
    case atStart => exact ⟨0, [], by omega, by omega, rfl, rfl, World.ownsRow_nil _ _ _ _, Below.refl _ _⟩
    case round =>
      obtain ⟨k, ws, hk, hk2, hwl, rfl, hv, hb⟩ := hrel
      by_cases hlt : k < n' ∧ k < 12
      · obtain ⟨hl1, hl2⟩ := hlt
        obtain ⟨b, o, rfl, hb1, hcl⟩ := (H2.out.below hb).at_ hl1
        have hL := HL2.out
        have hx := hcl k _ (ints_get ls k (by omega))
        clear hcl hL
        generalize ls.getD k 0 = z at *
        go_wp2_with fail
        refine (mod_any _ _ (by omega) (by omega) _).mono ?_
        rintro e w2 ⟨rfl, rfl⟩
        obtain ⟨x, hxe⟩ : ∃ x, x = z % 30 := ⟨_, rfl⟩
        have x0 : 0 ≤ x ∧ x < 30 := by omega
        rw [← hxe]
        clear hxe
        have hbz := hb.size
        go_wp2_with (at_builtin; refine wpList_push rfl _ _ _ rfl w.heap.size _ _ slInt _ _ _ rfl hv _ _ rfl rfl rfl (by omega) hbz ?_)
        intro v' w3 hv3 hg3 _
        have hb3 := hb.trans (below_push hv hg3 hbz)
        have HV := hide (own_cells hv3 (ys := ints (ws ++ [x])) (by rw [ints_append]; rfl))
        clear hv hv3 hg3 hb hbz
        go_wp2
        go_roundw
        case rel => exact ⟨k + 1, ws ++ [x], by omega, by omega, by simp; omega, by go_num, HV.out, hb3⟩
        case measure => simp [intOf]; omega
      · have hlt2 : ¬ (k < n') ∨ (k < n' ∧ ¬ (k < 12)) := by omega
        obtain ⟨A2, c2, rfl, hsm⟩ := own_sl hv
        have hs0 := H1.out.thr hb
        have hg0 := bel1 (w := wr) (o := .cells #[.int .i64 0, .int .i64 0] 3)
        have hg1 := hg0.alloc (by simp) (.cells #[.slice A n c, .slice A2 k c2, .slice none 0 0, .slice (some ⟨wr.heap.size, 0, none⟩) 2 2] 22)
        have hk1 := (Blk.new wr 3 #[.int .i64 0, .int .i64 0]).alloc (.cells #[.slice A n c, .slice A2 k c2, .slice none 0 0, .slice (some ⟨wr.heap.size, 0, none⟩) 2 2] 22)
        have hk2' := Blk.new (wr.alloc (.cells #[.int .i64 0, .int .i64 0] 3)) 22 #[.slice A n c, .slice A2 k c2, .slice none 0 0, .slice (some ⟨wr.heap.size, 0, none⟩) 2 2]
        rw [World.size_alloc] at hk2'
        have hs1 := hs0.thr hg1
        have hs2 := hsm.thr hg1
        have hs3 := Sl.of_blk hk1 (zs := [0, 0]) (n := 2) rfl rfl (by unfold maxLen; omega)
        have hc := hk2'.facts.1
        have HEL : Hid (∀ j, j < 4 → HoldsL ((wr.alloc (.cells #[.int .i64 0, .int .i64 0] 3)).alloc (.cells #[.slice A n c, .slice A2 k c2, .slice none 0 0, .slice (some ⟨wr.heap.size, 0, none⟩) 2 2] 22)) (wr.heap.size + 1) j) := hide (fun j hj => by
          match j, hj with
          | 0, _ => exact ⟨A, n, c, zs, hc 0, by omega, hs1⟩
          | 1, _ => exact ⟨A2, k, c2, ws, hc 1, by omega, hs2⟩
          | 2, _ => exact ⟨none, 0, 0, [], hc 2, by omega, sl_nil _ _⟩
          | 3, _ => exact ⟨_, 2, 2, [0, 0], hc 3, by omega, hs3⟩)
        have HB := hide (bthr hb hg1 hb.size)
        clear hs0 hg0 hg1 hk1 hk2' hs1 hs2 hs3 hc hsm hv hb hlt
        rcases hlt2 with hlt2 | ⟨hlt2, hlt3⟩
        all_goals
          go_wp2
          generalize ((wr.alloc (.cells #[.int .i64 0, .int .i64 0] 3)).alloc (.cells #[.slice A n c, .slice A2 k c2, .slice none 0 0, .slice (some ⟨wr.heap.size, 0, none⟩) 2 2] 22)) = w4 at *
          generalize wr.heap.size + 1 = g4 at *
          go_loopw [44] (fun i wq => ∃ j : Nat, j ≤ 4 ∧ i = .int .i64 j ∧ Below w4.heap.size w4 wq) (fun i _ => 4 - (intOf i).toNat)
          case atStart => exact ⟨0, by omega, rfl, Below.refl _ _⟩
          case round =>
            obtain ⟨j, hj, rfl, hbq⟩ := hrel
            by_cases hj4 : j < 4
            · obtain ⟨A3, m, c3, us, hc3, hm3, hs3⟩ := (HEL.out j hj4).thr hbq
              have HS3 := hide hs3
              have HBQ := hide hbq
              have hj4i : (j : Int) < 4 := by omega
              have hmi : (m : Int) ≤ 4096 := by omega
              clear hs3 hbq
              go_wp2_with fail
              refine (mod_any _ _ (by omega) (by omega) _).mono ?_
              rintro e w' ⟨rfl, rfl⟩
              go_wp2_with fail
              refine (mod_any _ _ (by omega) (by omega) _).mono ?_
              rintro e w' ⟨rfl, rfl⟩
              generalize am % 100 = a1
              generalize am % 274877906945 = a2
              have hk5 := (Blk.new wr 3 #[.int .i64 am, .int .i64 a1, .int .i64 a2]).facts.1
              have HEI : Hid (∀ l, l < 3 → HoldsI (wr.alloc (.cells #[.int .i64 am, .int .i64 a1, .int .i64 a2] 3)) wr.heap.size l) := hide (fun l hl => by
                match l, hl with
                | 0, _ => exact ⟨am, hk5 0⟩
                | 1, _ => exact ⟨a1, hk5 1⟩
                | 2, _ => exact ⟨a2, hk5 2⟩)
              have hb5 := bel1 (w := wr) (o := .cells #[.int .i64 am, .int .i64 a1, .int .i64 a2] 3)
              have HS4 := hide (HS3.out.thr hb5)
              have HB5 := hide (bthr HBQ.out hb5 HBQ.out.size)
              clear hk5 hb5
              go_wp2
              generalize wr.alloc (.cells #[.int .i64 am, .int .i64 a1, .int .i64 a2] 3) = w5 at *
              generalize wr.heap.size = g5 at *
              go_loopw [55] (fun i wq => ∃ l : Nat, l ≤ 3 ∧ i = .int .i64 l ∧ Below w5.heap.size w5 wq) (fun i _ => 3 - (intOf i).toNat)
              case atStart => exact ⟨0, by omega, rfl, Below.refl _ _⟩
              case round =>
                obtain ⟨l, hl, rfl, hbl⟩ := hrel
                by_cases hl3 : l < 3
                · obtain ⟨x, hx⟩ := HEI.out l hl3
                  have cx := cell_thr hbl hx
                  have HS5 := hide (HS4.out.thr hbl)
                  have HBL := hide hbl
                  have hl3i : (l : Int) < 3 := by omega
                  clear hx hbl
                  go_wp2_with fail
                  refine (share_full x us _ _ _ _ hm3 HS5.out).mono ?_
                  rintro e w6 ⟨v6, rfl, hv6, hb6⟩
                  have HS6 := hide (HS5.out.thr hb6)
                  have HB6 := hide (bthr HBL.out hb6 HBL.out.size)
                  obtain ⟨A6, c6, rfl, hs6⟩ := own_sl hv6
                  have HV6 := hide hv6
                  clear hv6 hb6 hs6
                  go_wp2_with fail
                  refine (rshare_full x us _ _ _ _ hm3 HS6.out).mono ?_
                  rintro e w7 ⟨v7, rfl, hv7, hb7⟩
                  have HB7 := hide (bthr HB6.out hb7 HB6.out.size)
                  have hv67 := ownsRow_below HV6.out hb7
                  obtain ⟨A7, c7, rfl, hs7⟩ := own_sl hv7
                  obtain ⟨_, _, hgg, hs67⟩ := own_sl hv67
                  injection hgg with e1 e2 e3
                  subst e1 e3
                  have HS7 := hide hs7
                  have HS67 := hide hs67
                  clear hv7 hb7 hv67 hs7 hs67 HV6
                  have hee : (shFE x us != shFE x us) = false := by simp
                  generalize shFE x us = ee at *
                  go_wp2_with fail
                  refine (same_any _ _ _ _ _ _ _ _ _ HS67.out HS7.out).mono ?_
                  rintro e w8 ⟨rfl, hb8⟩
                  rw [show sameB (shFV x us) (shFV x us) = true by simp [sameB]]
                  have HB8 := hide (bthr HB7.out hb8 HB7.out.size)
                  clear hb8 cx
                  go_wp2
                  go_roundw
                  case rel => exact ⟨l + 1, by omega, by go_num, HB8.out⟩
                  case measure => simp [intOf]; omega
                · obtain rfl : l = 3 := by omega
                  have hb9 := bthr HB5.out hbl HB5.out.size
                  go_wp2
                  go_roundw
                  case rel => exact ⟨j + 1, by omega, by go_num, hb9⟩
                  case measure => simp [intOf]; omega
            · obtain rfl : j = 4 := by omega
              have hb9 := bthr HB.out hbq HB.out.size
              go_wp2_with (go_at_call 9; refine (awake_any _).mono ?_; rintro e w9 ⟨rfl, hb9'⟩)
              go_ret
              exact ⟨rfl, bthr hb9 hb9' hb9.size⟩
end Go.Proofs.Ytdgaaiplhgbakaa
