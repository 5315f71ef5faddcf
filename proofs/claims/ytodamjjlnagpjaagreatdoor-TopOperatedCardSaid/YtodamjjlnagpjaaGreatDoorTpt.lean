/-
  rules.Split: the words of a text. Condition: the text is short.
  rules.lines at the sanity check's text: two lines of four words. Condition: bytealg.MaxLen lies in memory.
  strings.Trim over the ten digits of a text of digits: nothing is left. No condition.
-/
import Derived.Test.YtodamjjlnagpjaaGreatDoorProg
import Derived.Test.YtodamjjlnagpjaaGreatDoorTsl
import Derived.Test.YtodamjjlnagpjaaGreatDoorTpd
import Derived.Shelf.Strings.AsciiSet
import Derived.Deep.WholeRow
namespace Go.Proofs.YtodamjjlnagpjaaGreatDoor
open Go.RowKit Go.Lib

/-- what parts words -/
def spP (x : Nat) : Bool := decide (x = 32) || decide (x = 10)
theorem sp_pred (w : World) : PredAt Tryz.prog 118 #[] encR spP w := by
  intro W x _
  show Calls Tryz.prog 118 #[.int .i32 (x : Int)] W _
  by_cases h1 : x = 32
  · subst h1
    go_enter Tryz.func118, Tryz.ntmps118
    go_wp2
    go_ret
    exact ⟨rfl, 0, rfl⟩
  · have h2 : ¬ ((x : Int) = 32) := by omega
    have h3 : ((x : Int) == 32) = false := by simp; omega
    by_cases h4 : x = 10
    · subst h4
      go_enter Tryz.func118, Tryz.ntmps118
      go_wp2
      go_ret
      exact ⟨rfl, 0, rfl⟩
    · have h5 : ¬ ((x : Int) = 10) := by omega
      have h6 : ((x : Int) == 10) = false := by simp; omega
      have h7 : spP x = false := by simp [spP, h1, h4]
      rw [h7]
      go_enter Tryz.func118, Tryz.ntmps118
      go_wp2
      go_ret
      exact ⟨rfl, 0, rfl⟩
set_option maxRecDepth 20000 in
theorem split_any (s : ByteArray) (ws : List ByteArray) (n : Nat) (hs : s.size ≤ 1000) (hw : goFieldsP spP s = ws) (hn : ws.length = n) (w : World) : Calls Tryz.prog 90 #[.string s] w fun e w' => ∃ A, e = .returned (.slice (some ⟨A, 0, none⟩) n n) ∧ w.heap.size ≤ A ∧ w'.ownsRow w.heap.size 9 1 (.slice (some ⟨A, 0, none⟩) n n) n (ws.map Value.string) ∧ Below w.heap.size w w' := by
  have hC := Tryz.strings_FieldsFunc 118 #[] (enters_of Tryz.func118 (by kernel_rfl) rfl) spP s w (by omega) (sp_pred w)
  rw [hw, hn] at hC
  have HC := hide hC
  clear hC hw
  go_enter Tryz.func90, Tryz.ntmps90
  go_wp2_with fail
  refine HC.out.mono ?_
  rintro e w1 ⟨A, rfl, hA, ho, hb⟩
  have HO := hide ho
  have HB := hide hb
  clear ho hb
  go_wp2
  go_ret
  exact ⟨A, rfl, hA, HO.out, HB.out⟩
end Go.Proofs.YtodamjjlnagpjaaGreatDoor
namespace Go.Proofs.YtodamjjlnagpjaaGreatDoor
open Go.RowKit Go.Lib

theorem held_pushL {S : Nat → Prop} {w w' : World} {φ : World → Prop} {v v' : Value} (h : Held S w φ) (hn : ∀ i, S i → v.ownBlock ≠ some i) (hg : w.grownBy w' v.ownBlock) (hor : v'.ownBlock = v.ownBlock ∨ ∃ g, v'.ownBlock = some g ∧ w.heap.size ≤ g) :
    Held S w' φ ∧ ∀ i, S i → v'.ownBlock ≠ some i := by
  refine ⟨h.grown hg fun k hk hs => hn k hs hk, fun i hi e => ?_⟩
  rcases hor with h1 | ⟨g, h1, h2⟩
  · exact hn i hi (h1 ▸ e)
  · rw [h1] at e
    injection e with e
    have := h.1 i hi
    omega
def ruleText : ByteArray := ⟨#[114, 97, 110, 107, 32, 49, 32, 109, 111, 115, 116, 32, 51, 48, 10, 114, 97, 110, 107, 32, 50, 32, 108, 101, 97, 115, 116, 32, 53, 48, 10]⟩
def ruleOne : ByteArray := ⟨#[114, 97, 110, 107, 32, 49, 32, 109, 111, 115, 116, 32, 51, 48]⟩
def ruleTwo : ByteArray := ⟨#[114, 97, 110, 107, 32, 50, 32, 108, 101, 97, 115, 116, 32, 53, 48]⟩
def wordsOne : List ByteArray := [⟨#[114, 97, 110, 107]⟩, ⟨#[49]⟩, ⟨#[109, 111, 115, 116]⟩, ⟨#[51, 48]⟩]
def wordsTwo : List ByteArray := [⟨#[114, 97, 110, 107]⟩, ⟨#[50]⟩, ⟨#[108, 101, 97, 115, 116]⟩, ⟨#[53, 48]⟩]
theorem rule_pieces : countB ⟨#[114, 97, 110, 107, 32, 49, 32, 109, 111, 115, 116, 32, 51, 48, 10, 114, 97, 110, 107, 32, 50, 32, 108, 101, 97, 115, 116, 32, 53, 48, 10]⟩ ⟨#[10]⟩ = 2 ∧ splitB ⟨#[10]⟩ 0 2 ⟨#[114, 97, 110, 107, 32, 49, 32, 109, 111, 115, 116, 32, 51, 48, 10, 114, 97, 110, 107, 32, 50, 32, 108, 101, 97, 115, 116, 32, 53, 48, 10]⟩ = [⟨#[114, 97, 110, 107, 32, 49, 32, 109, 111, 115, 116, 32, 51, 48]⟩, ⟨#[114, 97, 110, 107, 32, 50, 32, 108, 101, 97, 115, 116, 32, 53, 48]⟩, ⟨#[]⟩] := by decide +kernel
theorem rule_one : goFieldsP spP ⟨#[114, 97, 110, 107, 32, 49, 32, 109, 111, 115, 116, 32, 51, 48]⟩ = wordsOne := by decide +kernel
theorem rule_two : goFieldsP spP ⟨#[114, 97, 110, 107, 32, 50, 32, 108, 101, 97, 115, 116, 32, 53, 48]⟩ = wordsTwo := by decide +kernel
theorem rule_nil : goFieldsP spP ⟨#[]⟩ = [] := by decide +kernel
/-- A line. -/
structure Ln where
  num : Int
  A : Nat
  ws : List ByteArray
def Ln.arr (l : Ln) : Array Value := #[.int .i64 l.num, .slice (some ⟨l.A, 0, none⟩) 4 4]
def lnCells (l : List Ln) : List Value := cellsOf Ln.arr l
def Ln.ok (l : Ln) (w : World) : Prop := l.A < w.heap.size ∧ ∀ j v, (l.ws.map Value.string)[j]? = some v → w.cell? ⟨l.A, j, none⟩ = some v
theorem slLn : SlT Tryz.prog 136 140 2 := slT_of (z := .agg #[.int .i64 0, .slice none 0 0]) (bytes := 32) Tryz.underlying136 (by kernel_rfl) rfl (by decide) (by decide)
theorem ln_held {w : World} {base A : Nat} {e : TypeId} {num : Int} {ws : List ByteArray} (h : w.ownsRow base e 1 (.slice (some ⟨A, 0, none⟩) 4 4) 4 (ws.map Value.string)) (_ : ws.length = 4) : Held (fun i => i = A) w (fun W => (⟨num, A, ws⟩ : Ln).ok W) := by
  have h1 := held_sl h
  refine (h1.imp fun W hs => ?_).wide (fun i hi => by simpa [Value.ownBlock] using hi.symm) (fun i hi => by subst hi; exact h1.1 _ rfl)
  obtain ⟨b, o, hA, hb, hc⟩ := hs.at_ (show 0 < 4 by omega)
  injection hA with hA
  injection hA with e1 e2
  subst e1 e2
  exact ⟨hb, fun j v hj => by simpa using hc j v hj⟩
def wantL : Nat → List (Int × List ByteArray)
  | 0 => []
  | 1 => [(1, wordsOne)]
  | _ => [(1, wordsOne), (2, wordsTwo)]
def LnsMade (w : World) (e : Ending) (w' : World) : Prop := ∃ (v : Value) (A B : Nat), e = .returned v ∧ w'.ownsRow w.heap.size 140 2 v 2 (lnCells [⟨1, A, wordsOne⟩, ⟨2, B, wordsTwo⟩]) ∧ (⟨1, A, wordsOne⟩ : Ln).ok w' ∧ (⟨2, B, wordsTwo⟩ : Ln).ok w' ∧ (w.heap.size ≤ A ∧ w.heap.size ≤ B) ∧ Below w.heap.size w w'
set_option maxHeartbeats 3200000 in
set_option maxRecDepth 20000 in
theorem lines_ok (m : Int) (w : World) (hm : w.cell? ⟨2, 0, none⟩ = some (.int .i64 m)) : Calls Tryz.prog 63 #[.string ⟨#[114, 97, 110, 107, 32, 49, 32, 109, 111, 115, 116, 32, 51, 48, 10, 114, 97, 110, 107, 32, 50, 32, 108, 101, 97, 115, 116, 32, 53, 48, 10]⟩] w (LnsMade w) := by
  have hC := Tryz.strings_Split ⟨#[114, 97, 110, 107, 32, 49, 32, 109, 111, 115, 116, 32, 51, 48, 10, 114, 97, 110, 107, 32, 50, 32, 108, 101, 97, 115, 116, 32, 53, 48, 10]⟩ ⟨#[10]⟩ m w (by decide) hm (by decide)
  rw [rule_pieces.1, rule_pieces.2] at hC
  simp only [List.map_cons, List.map_nil] at hC
  have HC := hide hC
  clear hC hm
  have HS0 := hide (fun W => split_any _ _ 4 (by decide) rule_one rfl W)
  have HS1 := hide (fun W => split_any _ _ 4 (by decide) rule_two rfl W)
  have HS2 := hide (fun W => split_any _ _ 0 (by decide) rule_nil rfl W)
  go_enter Tryz.func63, Tryz.ntmps63
  go_wp2_with fail
  refine HC.out.mono ?_
  rintro e w1 ⟨rfl, rfl⟩
  have q1 := Blk.new w 9 #[.string ⟨#[114, 97, 110, 107, 32, 49, 32, 109, 111, 115, 116, 32, 51, 48]⟩, .string ⟨#[114, 97, 110, 107, 32, 50, 32, 108, 101, 97, 115, 116, 32, 53, 48]⟩, .string ⟨#[]⟩]
  have hz1 : w.heap.size < (w.alloc (.cells #[.string ⟨#[114, 97, 110, 107, 32, 49, 32, 109, 111, 115, 116, 32, 51, 48]⟩, .string ⟨#[114, 97, 110, 107, 32, 50, 32, 108, 101, 97, 115, 116, 32, 53, 48]⟩, .string ⟨#[]⟩] 9)).heap.size := by simp
  have hB1 : Below w.heap.size w (w.alloc (.cells #[.string ⟨#[114, 97, 110, 107, 32, 49, 32, 109, 111, 115, 116, 32, 51, 48]⟩, .string ⟨#[114, 97, 110, 107, 32, 50, 32, 108, 101, 97, 115, 116, 32, 53, 48]⟩, .string ⟨#[]⟩] 9)) := bel1
  go_wp2_with fail
  generalize (w.alloc _) = w1 at *
  go_loopw [3, 10] (fun v3 v10 wr => ∃ (k : Nat) (ls : List Ln) (S : Nat → Prop) (vo : Value), vo = v3 ∧ k ≤ 3 ∧ v10 = .int .i64 k ∧ Hid (ls.map (fun l => (l.num, l.ws)) = wantL k) ∧ wr.ownsRow w1.heap.size 140 2 vo ls.length (lnCells ls) ∧ Held S wr (fun W => ∀ l ∈ ls, l.ok W) ∧ (∀ i, S i → vo.ownBlock ≠ some i) ∧ (∀ l ∈ ls, w1.heap.size ≤ l.A) ∧ Below w1.heap.size w1 wr) (fun _ i _ => 3 - (intOf i).toNat)
  case atStart => exact ⟨0, [], fun _ => False, _, rfl, by omega, rfl, hide rfl, World.ownsRow_nil _ _ _ _, held_true _ (fun _ l h => by cases h), fun i h => h.elim, (fun l h => by cases h), Below.refl _ _⟩
  case round =>
    obtain ⟨k, ls, S, vo, rfl, hk, rfl, hls, hv, hH, hn, hge, hb⟩ := hrel
    have q := q1.below hb hz1
    have c0 := q.facts.1 0
    have c1 := q.facts.1 1
    have c2 := q.facts.1 2
    simp only [List.getElem?_toArray, List.getElem?_cons_zero, List.getElem?_cons_succ] at c0 c1 c2
    have cz0 : ((0 : Nat) : Int) = 0 := rfl
    have cz1 : ((1 : Nat) : Int) = 1 := rfl
    have cz2 : ((2 : Nat) : Int) = 2 := rfl
    have cz3 : ((3 : Nat) : Int) = 3 := rfl
    by_cases hlt : k < 3
    · have hcs : k = 0 ∨ k = 1 ∨ k = 2 := by omega
      clear hlt hk
      rcases hcs with rfl | rfl | rfl
      · go_wp2_with fail
        refine (HS0.out wr).mono ?_
        rintro e w5 ⟨A, rfl, hA, ho, hb5⟩
        have hL := ln_held (num := 1) ho rfl
        have e0 := (hL.out).2 0 _ rfl
        have hnA : ∀ i, (S i ∨ i = A) → vo.ownBlock ≠ some i := fun i hi e => by
          rcases hi with hi | rfl
          · exact hn i hi e
          · have := (hv.lt i e).2; omega
        have hl0 : ls.length = 0 := by
          have := congrArg List.length hls.out
          simpa [wantL] using this
        have hz5 : w1.heap.size ≤ w5.heap.size := Nat.le_trans hb.size hb5.size
        have HH := hide ((hH.below hb5).both hL)
        have HV := hide (ownsRow_below hv hb5)
        have HN := hide hnA
        have HB := hide (bthr hb hb5 hb.size)
        have HGE := hide hge
        have HLS := hide hls.out
        have HAZ := hide (show w1.heap.size ≤ A by have := hb.size; omega)
        clear hb hb5 hH hv hn hnA ho hge hls q c0 c1 c2 hL
        go_wp2_with (at_builtin; refine wpList_push rfl _ _ _ rfl w1.heap.size _ _ slLn _ _ _ rfl HV.out _ _ rfl rfl rfl (by omega) hz5 ?_)
        intro v8 w8 hv8 hg8 hor8
        obtain ⟨hH8, hS8⟩ := held_pushL HH.out HN.out hg8 hor8
        have HB8 := hide (HB.out.trans (below_push HV.out hg8 hz5))
        have hv8' := own_cells hv8 (show lnCells ls ++ [.int .i64 1, .slice (some ⟨A, 0, none⟩) 4 4] = lnCells (ls ++ [(⟨1, A, wordsOne⟩ : Ln)]) by rw [lnCells, lnCells, cellsOf_append, cellsOf_one]; rfl)
        have HV8 := hide hv8'
        have HH8 := hide (hH8.imp (ψ := fun W => ∀ l ∈ ls ++ [(⟨1, A, wordsOne⟩ : Ln)], l.ok W) fun W h l hl => by
          rcases List.mem_append.1 hl with h1 | h1
          · exact h.1 l h1
          · rw [List.mem_singleton] at h1; subst h1; exact h.2)
        have HS8 := hide hS8
        have HG8 := hide (show ∀ l ∈ ls ++ [(⟨1, A, wordsOne⟩ : Ln)], w1.heap.size ≤ l.A from fun l hl => by
          rcases List.mem_append.1 hl with h1 | h1
          · exact HGE.out l h1
          · rw [List.mem_singleton] at h1; subst h1; exact HAZ.out)
        clear hv8 hv8' hg8 hor8 hH8 hS8
        go_wp2
        go_roundw
        case rel => exact ⟨1, ls ++ [(⟨1, A, wordsOne⟩ : Ln)], _, _, rfl, by omega, rfl, hide (by rw [List.map_append, HLS.out]; rfl), by rw [List.length_append, hl0]; exact HV8.out, HH8.out, HS8.out, HG8.out, HB8.out⟩
        case measure => decide

      · go_wp2_with fail
        refine (HS1.out wr).mono ?_
        rintro e w5 ⟨A, rfl, hA, ho, hb5⟩
        have hL := ln_held (num := 2) ho rfl
        have e0 := (hL.out).2 0 _ rfl
        have hnA : ∀ i, (S i ∨ i = A) → vo.ownBlock ≠ some i := fun i hi e => by
          rcases hi with hi | rfl
          · exact hn i hi e
          · have := (hv.lt i e).2; omega
        have hl1 : ls.length = 1 := by
          have := congrArg List.length hls.out
          simpa [wantL] using this
        have hz5 : w1.heap.size ≤ w5.heap.size := Nat.le_trans hb.size hb5.size
        have HH := hide ((hH.below hb5).both hL)
        have HV := hide (ownsRow_below hv hb5)
        have HN := hide hnA
        have HB := hide (bthr hb hb5 hb.size)
        have HGE := hide hge
        have HLS := hide hls.out
        have HAZ := hide (show w1.heap.size ≤ A by have := hb.size; omega)
        clear hb hb5 hH hv hn hnA ho hge hls q c0 c1 c2 hL
        go_wp2_with (at_builtin; refine wpList_push rfl _ _ _ rfl w1.heap.size _ _ slLn _ _ _ rfl HV.out _ _ rfl rfl rfl (by omega) hz5 ?_)
        intro v8 w8 hv8 hg8 hor8
        obtain ⟨hH8, hS8⟩ := held_pushL HH.out HN.out hg8 hor8
        have HB8 := hide (HB.out.trans (below_push HV.out hg8 hz5))
        have hv8' := own_cells hv8 (show lnCells ls ++ [.int .i64 2, .slice (some ⟨A, 0, none⟩) 4 4] = lnCells (ls ++ [(⟨2, A, wordsTwo⟩ : Ln)]) by rw [lnCells, lnCells, cellsOf_append, cellsOf_one]; rfl)
        have HV8 := hide hv8'
        have HH8 := hide (hH8.imp (ψ := fun W => ∀ l ∈ ls ++ [(⟨2, A, wordsTwo⟩ : Ln)], l.ok W) fun W h l hl => by
          rcases List.mem_append.1 hl with h1 | h1
          · exact h.1 l h1
          · rw [List.mem_singleton] at h1; subst h1; exact h.2)
        have HS8 := hide hS8
        have HG8 := hide (show ∀ l ∈ ls ++ [(⟨2, A, wordsTwo⟩ : Ln)], w1.heap.size ≤ l.A from fun l hl => by
          rcases List.mem_append.1 hl with h1 | h1
          · exact HGE.out l h1
          · rw [List.mem_singleton] at h1; subst h1; exact HAZ.out)
        clear hv8 hv8' hg8 hor8 hH8 hS8
        go_wp2
        go_roundw
        case rel => exact ⟨2, ls ++ [(⟨2, A, wordsTwo⟩ : Ln)], _, _, rfl, by omega, rfl, hide (by rw [List.map_append, HLS.out]; rfl), by rw [List.length_append, hl1]; exact HV8.out, HH8.out, HS8.out, HG8.out, HB8.out⟩
        case measure => decide

      · go_wp2_with fail
        refine (HS2.out wr).mono ?_
        rintro e w5 ⟨A, rfl, hA, ho, hb5⟩
        have HH := hide (hH.below hb5)
        have HV := hide (ownsRow_below hv hb5)
        have HN := hide hn
        have HB := hide (bthr hb hb5 hb.size)
        have HGE := hide hge
        have HLS := hide hls.out
        clear hb hb5 hH hv hn ho hge hls q c0 c1 c2
        go_wp2
        go_roundw
        case rel => exact ⟨3, ls, S, _, rfl, by omega, rfl, hide HLS.out, HV.out, HH.out, HN.out, HGE.out, HB.out⟩
        case measure => decide
    · obtain rfl : k = 3 := by omega
      have hw := hls.out
      obtain ⟨A, B, rfl⟩ : ∃ A B, ls = [⟨1, A, wordsOne⟩, ⟨2, B, wordsTwo⟩] := by
        match ls, hw with
        | [⟨a, A, x⟩, ⟨b, B, y⟩], hw =>
          simp [wantL] at hw
          obtain ⟨⟨rfl, rfl⟩, rfl, rfl⟩ := hw
          exact ⟨A, B, rfl⟩
      have HP := hide (show LnsMade w (.returned vo) wr from ⟨vo, A, B, rfl, ownsRow_base hv (Nat.le_of_lt hz1), hH.out (⟨1, A, wordsOne⟩ : Ln) (by simp), hH.out (⟨2, B, wordsTwo⟩ : Ln) (by simp), ⟨Nat.le_trans (Nat.le_of_lt hz1) (hge (⟨1, A, wordsOne⟩ : Ln) (by simp)), Nat.le_trans (Nat.le_of_lt hz1) (hge (⟨2, B, wordsTwo⟩ : Ln) (by simp))⟩, hB1.trans (hb.mono (Nat.le_of_lt hz1))⟩)
      clear hw hls hv hH hn hge hb q c0 c1 c2
      go_wp2
      go_ret
      exact HP.out
end Go.Proofs.YtodamjjlnagpjaaGreatDoor
namespace Go.Proofs.YtodamjjlnagpjaaGreatDoor
open Go.RowKit

/-- a text of digits -/
def Digs (s : ByteArray) : Prop := ∀ (j : Nat) b, s.data.toList[j]? = some b → (48 : Nat) ≤ b.toNat ∧ b.toNat ≤ 57
def digits : ByteArray := ⟨#[48, 49, 50, 51, 52, 53, 54, 55, 56, 57]⟩
set_option maxHeartbeats 2000000 in
set_option maxRecDepth 20000 in
theorem trimR_ok (s : ByteArray) (g : Nat) (w : World) (hs : s.size ≤ 1000) (hd : ∀ (j : Nat) b, s.data.toList[j]? = some b → w.cell? ⟨g, b.toNat, none⟩ = some (.bool true)) :
    Calls Tryz.prog 136 #[.string s, .pointer (some ⟨g, 0, none⟩)] w fun e w' => e = .returned (.string ⟨#[]⟩) ∧ w' = w := by
  have HD := hide hd
  clear hd
  go_enter Tryz.func136, Tryz.ntmps136
  go_wp2
  go_loop [0] (fun v => ∃ k : Nat, k ≤ s.size ∧ v = .string ⟨(s.data.toList.take k).toArray⟩) (fun v => Lib.strSize v)
  case atStart => exact ⟨s.size, Nat.le_refl _, by rw [Lib.size_eq, List.take_length, Lib.mk_data]⟩
  case round =>
    obtain ⟨k, hk, rfl⟩ := hrel
    have hkl : k ≤ s.data.toList.length := by rw [← Lib.size_eq]; exact hk
    have hts : (⟨(s.data.toList.take k).toArray⟩ : ByteArray).size = k := by rw [Lib.size_mk, List.length_take]; omega
    have hb0 : ∀ h, s.data.toList[k - 1]? = some ((⟨(s.data.toList.take k).toArray⟩ : ByteArray)[k - 1]'h) := by
      intro h
      rw [← Lib.getElem_mk (s.data.toList.take k) (k - 1) h, List.getElem?_take]
      rw [hts] at h
      rw [if_pos h]
    have hx1 : (⟨(s.data.toList.take k).toArray⟩ : ByteArray).extract 0 (k - 1) = ⟨(s.data.toList.take (k - 1)).toArray⟩ := by
      rw [Lib.extract_mk, List.drop_zero, List.take_take]
      congr 3
      omega
    have HKL := hide hkl
    clear hkl
    generalize ht : (⟨(s.data.toList.take k).toArray⟩ : ByteArray) = t at hts hb0 hx1 ⊢
    have HT := hide ht
    clear ht
    by_cases h0 : 0 < k
    · have h1 : k - 1 < t.size := by omega
      have hwr : ((k : Int) - 1 + 9223372036854775808) % 18446744073709551616 - 9223372036854775808 = ((k - 1 : Nat) : Int) := by omega
      have hbk := hb0 h1
      clear hb0
      have HC := hide (fun W (h : W = w) => Tryz.asciiSet_contains g (t[k - 1]'h1) true W (by rw [h]; exact HD.out _ _ hbk))
      clear hbk
      go_wp2_with fail
      refine (HC.out _ rfl).mono ?_
      rintro e w1 ⟨rfl, rfl⟩
      go_wp2
      refine ⟨⟨k - 1, by omega, rfl⟩, ?_⟩
      have hkl := HKL.out
      rw [Lib.strSize_string, Lib.strSize_string, Lib.size_mk, List.length_take]
      omega
    · clear hb0
      go_wp2
      go_ret
      refine ⟨?_, rfl⟩
      have ht' := HT.out
      have hk0 : k = 0 := by omega
      subst hk0
      rw [← ht']
      simp
set_option maxHeartbeats 2000000 in
set_option maxRecDepth 20000 in
theorem trimL_nil (v : Value) (w : World) :
    Calls Tryz.prog 135 #[.string ⟨#[]⟩, v] w fun e w' => e = .returned (.string ⟨#[]⟩) ∧ w' = w := by
  have hz : (⟨#[]⟩ : ByteArray).size = 0 := rfl
  go_enter Tryz.func135, Tryz.ntmps135
  go_wp2
  go_loop [0] (fun v => v = .string ⟨#[]⟩) (fun v => Lib.strSize v)
  case atStart => rfl
  case round =>
    obtain rfl := hrel
    go_wp2
    go_ret
    exact ⟨rfl, rfl⟩
theorem dig_in {b : UInt8} (h : (48 : Nat) ≤ b.toNat ∧ b.toNat ≤ 57) : [(48 : UInt8), 49, 50, 51, 52, 53, 54, 55, 56, 57].contains b = true := by
  have hc : b.toNat = 48 ∨ b.toNat = 49 ∨ b.toNat = 50 ∨ b.toNat = 51 ∨ b.toNat = 52 ∨ b.toNat = 53 ∨ b.toNat = 54 ∨ b.toNat = 55 ∨ b.toNat = 56 ∨ b.toNat = 57 := by omega
  rcases hc with e | e | e | e | e | e | e | e | e | e
  · rw [UInt8.toNat_inj.1 (show b.toNat = (48 : UInt8).toNat from e)]; decide
  · rw [UInt8.toNat_inj.1 (show b.toNat = (49 : UInt8).toNat from e)]; decide
  · rw [UInt8.toNat_inj.1 (show b.toNat = (50 : UInt8).toNat from e)]; decide
  · rw [UInt8.toNat_inj.1 (show b.toNat = (51 : UInt8).toNat from e)]; decide
  · rw [UInt8.toNat_inj.1 (show b.toNat = (52 : UInt8).toNat from e)]; decide
  · rw [UInt8.toNat_inj.1 (show b.toNat = (53 : UInt8).toNat from e)]; decide
  · rw [UInt8.toNat_inj.1 (show b.toNat = (54 : UInt8).toNat from e)]; decide
  · rw [UInt8.toNat_inj.1 (show b.toNat = (55 : UInt8).toNat from e)]; decide
  · rw [UInt8.toNat_inj.1 (show b.toNat = (56 : UInt8).toNat from e)]; decide
  · rw [UInt8.toNat_inj.1 (show b.toNat = (57 : UInt8).toNat from e)]; decide
set_option maxHeartbeats 4000000 in
set_option maxRecDepth 20000 in
/-- strings.Trim over the ten digits. -/
theorem trim_digits (s : ByteArray) (w : World) (h0 : 0 < s.size) (hs : s.size ≤ 1000) (hd : Digs s) :
    Calls Tryz.prog 119 #[.string s, .string ⟨#[48, 49, 50, 51, 52, 53, 54, 55, 56, 57]⟩] w fun e w' => e = .returned (.string ⟨#[]⟩) ∧ Below w.heap.size w w' := by
  have HD := hide hd
  have HM := hide (fun W => Tryz.strings_makeASCIISet (fun w => Tryz.zeroValue226 w) ⟨#[48, 49, 50, 51, 52, 53, 54, 55, 56, 57]⟩ W (by decide) (by
    intro j b hb
    have hj := List.mem_of_getElem? hb
    simp at hj
    rcases hj with rfl | rfl | rfl | rfl | rfl | rfl | rfl | rfl | rfl | rfl <;> decide))
  clear hd
  have hn0 : ¬ s.toList = [] := by
    intro h
    rw [Lib.size_eq, ← Lib.toList_data, h] at h0
    cases h0
  have hn1 : s.toList.isEmpty = false := by simpa using hn0
  have hsc := fun (w : World) => run_storeCells_new (P := Tryz.prog) w 226 Tryz.zeroCells226 (Lib.setCells [48, 49, 50, 51, 52, 53, 54, 55, 56, 57]) (by rw [Lib.setCells_size]; kernel_rfl) (by rw [Lib.setCells_size]; kernel_rfl) (Lib.setCells_one _)
  have HAT := hide (Lib.setCells_at [48, 49, 50, 51, 52, 53, 54, 55, 56, 57])
  have hsz := Lib.setCells_size [48, 49, 50, 51, 52, 53, 54, 55, 56, 57]
  simp only at HM
  generalize Lib.setCells [48, 49, 50, 51, 52, 53, 54, 55, 56, 57] = cs at *
  have HSC := hide hsc
  clear hsc
  go_enter Tryz.func119, Tryz.ntmps119
  go_wp2_with fail
  refine (HM.out w).mono ?_
  rintro e w1 ⟨rfl, rfl⟩
  go_wp2_with fail
  have hs1 := HSC.out (w.alloc (.cells cs 226))
  rw [World.size_alloc] at hs1
  rw [hs1]
  simp only [Result.andThen]
  rw [Oper.upon_skip]
  have hcell : ∀ (j : Nat) b, s.data.toList[j]? = some b → ((w.alloc (.cells cs 226)).alloc (.cells cs 226)).cell? ⟨w.heap.size + 1, b.toNat, none⟩ = some (.bool true) := by
    intro j b hb
    have h1 := HAT.out b
    rw [dig_in (HD.out j b hb)] at h1
    have hq := Blk.new (w.alloc (.cells cs 226)) 226 cs
    rw [World.size_alloc] at hq
    unfold Blk at hq
    simp only [World.cell?, hq]
    exact h1
  clear hs1
  go_wp2_with fail
  have HT := hide hcell
  have hB := (bel1 (w := w) (o := .cells cs 226)).alloc (by simp) (.cells cs 226)
  clear hcell
  refine (trimR_ok s (w.heap.size + 1) _ hs HT.out).mono ?_
  rintro e w1 ⟨rfl, rfl⟩
  go_wp2_with fail
  refine (trimL_nil _ _).mono ?_
  rintro e w1 ⟨rfl, rfl⟩
  go_wp2
  go_ret
  exact ⟨rfl, hB⟩
end Go.Proofs.YtodamjjlnagpjaaGreatDoor
