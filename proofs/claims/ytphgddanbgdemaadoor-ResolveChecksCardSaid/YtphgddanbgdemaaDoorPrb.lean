/-
  What the law of checked choices asks of both texts: Proved at any day, and that a choice's yields can still be read once the deck has been drawn from. Conditions: each condition is valid, there are 200 at most.
-/
import Derived.Test.YtphgddanbgdemaaDoorProg
import Derived.Test.YtphgddanbgdemaaDoorPrv
import Derived.Test.YtphgddanbgdemaaDoorChk
namespace Go.Proofs.YtphgddanbgdemaaDoor
open Go.RowKit

theorem prov_both (A : Option Addr) (n c : Nat) (cs : List Cd) (d lv bf g0 g1 : Int) (rl lo hi : Int) (B : Option Addr) (m c2 : Nat) (ys : List (Int × Int)) : ∃ pb : Bool,
    (∀ W : World, KT W → Sl W W.heap.size 7 A n c (cdCells cs) → Sl W W.heap.size 2 B m c2 (yCells ys) → Calls Tryd.prog 11 #[.slice A n c, .int .i64 d, .int .i64 lv, .int .i64 bf, .agg #[.int .i64 g0, .int .i64 g1], .agg #[.int .i64 rl, .int .i64 lo, .int .i64 hi, .slice B m c2]] W fun e w' => e = .returned (.bool pb) ∧ Below W.heap.size W w') ∧
    (∀ W : World, Sl W W.heap.size 7 A n c (cdCells cs) → Sl W W.heap.size 2 B m c2 (yCells ys) → Calls Tryd.prog 12 #[.slice A n c, .int .i64 d, .int .i64 lv, .int .i64 bf, .agg #[.int .i64 g0, .int .i64 g1], .agg #[.int .i64 rl, .int .i64 lo, .int .i64 hi, .slice B m c2]] W fun e w' => e = .returned (.bool pb) ∧ Below W.heap.size W w') := by
  by_cases h : chE n cs d lv bf g0 g1 0 = 0
  · obtain ⟨⟨h200, hg⟩, hd, hv, ⟨hbf, _, h0, h1⟩, hgg⟩ := chE_zero h
    exact ⟨prvB cs d lv bf g0 g1 rl ys, fun W hT hs hy => proved_any A B n c m c2 cs ys d lv bf g0 g1 rl lo hi W hT h200 hg hd hv hbf h0 h1 hgg hs hy,
      fun W hs hy => rproved_any A B n c m c2 cs ys d lv bf g0 g1 rl lo hi W h200 hg hd hv hbf h0 h1 hgg hs hy⟩
  · exact ⟨false, fun W _ hs _ => proved_bad A B n c m c2 cs d lv bf g0 g1 rl lo hi W h hs, fun W hs _ => rproved_bad A B n c m c2 cs d lv bf g0 g1 rl lo hi W h hs⟩
theorem check_both (A : Option Addr) (n c : Nat) (cs : List Cd) (d lv bf g0 g1 wn : Int) (hn : n = cs.length) (rl lo hi : Int) (B : Option Addr) (m c2 : Nat) (ys : List (Int × Int)) : ∃ V : Int,
    (∀ W : World, KT W → Sl W W.heap.size 7 A n c (cdCells cs) → Sl W W.heap.size 2 B m c2 (yCells ys) → Calls Tryd.prog 9 #[.slice A n c, .int .i64 d, .int .i64 lv, .int .i64 bf, .agg #[.int .i64 g0, .int .i64 g1], .int .i64 wn, .agg #[.int .i64 rl, .int .i64 lo, .int .i64 hi, .slice B m c2]] W fun e w' => e = .returned (.int .i64 V) ∧ Below W.heap.size W w') ∧
    (∀ W : World, Sl W W.heap.size 7 A n c (cdCells cs) → Sl W W.heap.size 2 B m c2 (yCells ys) → Calls Tryd.prog 10 #[.slice A n c, .int .i64 d, .int .i64 lv, .int .i64 bf, .agg #[.int .i64 g0, .int .i64 g1], .int .i64 wn, .agg #[.int .i64 rl, .int .i64 lo, .int .i64 hi, .slice B m c2]] W fun e w' => e = .returned (.int .i64 V) ∧ Below W.heap.size W w') := by
  obtain ⟨rl0, lo0, hi0, ys0, H1, H2, _, _⟩ := choose_both A n c cs d lv bf g0 g1 wn hn
  exact ⟨_, fun W hT hs hy => pchk A n c cs d lv bf g0 g1 wn _ rl0 lo0 hi0 ys0 H1 rl lo hi B m c2 ys W hT hs hy, fun W hs hy => rchk A n c cs d lv bf g0 g1 wn _ rl0 lo0 hi0 ys0 H2 rl lo hi B m c2 ys W hs hy⟩
/-- a deck and a list of yields do not share their block -/
theorem y_deck {W : World} {B b n c g o : Nat} {ys : List (Int × Int)} (hs : Sl W B 2 (some ⟨g, o, none⟩) n c (yCells ys)) (hn : 0 < n) (hD : Dk W b) : g ≠ b := by
  rintro rfl
  obtain ⟨b', o', e, _, hc⟩ := hs.2.2.2 (by omega)
  injection e with e
  injection e with e1 e2 _
  subst e1 e2
  have hl := hs.1
  rw [yCells_len] at hl
  have hy : 0 < ys.length := by omega
  obtain ⟨g0, g1⟩ := yCells_get ys 0 hy
  rw [Nat.zero_mul] at g0 g1
  have c0 := hc 0 _ g0
  have c1 := hc (0 + 1) _ g1
  obtain ⟨A, m, k, a, zs, hb, _⟩ := hD
  simp only [World.cell?, hb] at c0 c1
  rcases o with _ | _ | o
  · simp at c0
  · simp at c1
  · simp at c0
theorem sl_deckY {W W' : World} {b n c : Nat} {A : Option Addr} {ys : List (Int × Int)} (hs : Sl W W.heap.size 2 A n c (yCells ys)) (hD : Dk W b) (hg : W.grownBy W' (some b)) : Sl W' W'.heap.size 2 A n c (yCells ys) :=
  ⟨hs.1, hs.2.1, hs.2.2.1, fun hn => by
    obtain ⟨g, o, e, hb, hc⟩ := hs.2.2.2 hn
    subst e
    have hne := y_deck hs (by omega) hD
    exact ⟨g, o, rfl, Nat.lt_of_lt_of_le hb hg.size, fun j u hu => (World.cell?_of_block (hg.block g hb (fun e => hne (by injection e)))).trans (hc j u hu)⟩⟩
theorem ch_len {bf : Int} {cs : List Cd} : ∀ (xs : List Int) (s : Chs), (xs.foldl (chStep bf cs) s).ys.length ≤ s.ys.length + xs.length
  | [], s => by simp
  | x :: t, s => by
    rw [List.foldl_cons]
    have h1 := ch_len (bf := bf) (cs := cs) t (chStep bf cs s x)
    have h2 : (chStep bf cs s x).ys.length ≤ s.ys.length + 1 := by
      unfold chStep; split <;> simp
    simp only [List.length_cons]; omega
theorem chs_len {cs : List Cd} {d lv bf g0 g1 : Int} : (chAll bf cs g0 g1 (actC cs d lv)).ys.length ≤ cs.length := by
  have h1 := ch_len (bf := bf) (cs := cs) (actC cs d lv) ⟨g0, g1, -1, -1, [], 0, 0⟩
  have h2 := keepL_le (fun i => !appC cs d lv i) (ordC cs)
  rw [ordC_length] at h2
  unfold chAll
  unfold actC at h1 ⊢
  simp only [List.length_nil] at h1
  omega
end Go.Proofs.YtphgddanbgdemaaDoor
