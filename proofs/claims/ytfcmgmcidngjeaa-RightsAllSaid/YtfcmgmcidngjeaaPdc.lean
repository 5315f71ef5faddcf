/-
  Contracts of reversing a range and of breaking patterns in the library's pdqsort by a method value (with bits.Len, nextPowerOfTwo, xorshift). Condition: they exchange and do not compare; 200 elements at most.
-/
import Derived.Test.YtfcmgmcidngjeaaProg
import Derived.Test.YtfcmgmcidngjeaaPds
import Derived.Lib.Strings
import Derived.Lib.Slices
import Derived.Lib.Small
import Derived.Lib.Walk
import Derived.Lib.BitFns
import Derived.Sort.Walk7a
namespace Go.Proofs.Ytfcmgmcidngjeaa
open Go.RowKit
set_option maxHeartbeats 6400000 in
set_option maxRecDepth 20000 in
theorem rev_any (g : Nat) (kc : FuncId) (rv : Value) (f : Int → Int → Int) (ok : Int → Prop) (n c a b : Nat) (hab : a + 1 < b) (hb : b ≤ n) (xs : List Int) (hG : RowG f ok n xs) (w : World) (hx : IRow w g xs) :
    Calls Try.prog 52 #[.slice (some ⟨g, 0, none⟩) n c, .int .i64 (a : Int), .int .i64 (b : Int), .func (.func kc) #[rv] #[]] w fun e w' => ∃ ys, e = .returned (.tuple #[]) ∧ StS w g a b xs ys w' := by
  have hn := hG.le
  have HL := hide hG.len
  have HX0 := hide hx
  have HG0 := hide hG
  clear hx hG
  go_enter Try.func52, Try.ntmps52
  go_wp2
  go_loopw [8, 9] (fun vi vj wr => ∃ (i j : Nat) (ys : List Int), vi = .int .i64 (i : Int) ∧ vj = .int .i64 (j : Int) ∧ a ≤ i ∧ i ≤ j + 1 ∧ j < b ∧ Hid (StS w g a b xs ys wr)) (fun vi vj _ => (intOf vj + 1 - intOf vi).toNat)
  case atStart => exact ⟨a, b - 1, xs, rfl, by rw [show (b : Int) - 1 = ((b - 1 : Nat) : Int) by omega], Nat.le_refl _, by omega, by omega, hide (StS.start HX0.out)⟩
  case round =>
    obtain ⟨i, j, ys, rfl, rfl, hai, hij, hjb, HS⟩ := hrel
    have HG := hide (HG0.out.seg HS.out.seg)
    by_cases h0 : i < j
    · have h0z : (i : Int) < (j : Int) := by omega
      have i0 : (0 : Int) ≤ (i : Int) := by omega
      have i1 : (i : Int) < (n : Int) := by omega
      have i2 : (0 : Int) ≤ (j : Int) := by omega
      have i3 : (j : Int) < (n : Int) := by omega
      have hin : i < n := by omega
      have hjn : j < n := by omega
      obtain ⟨j, rfl⟩ : ∃ j', j = j' + 1 := ⟨j - 1, by omega⟩
      have hne1 : i ≠ j + 1 := by omega
      have hne2 : j + 1 ≠ i := by omega
      have dI := HS.out.row.cell (j := i) (by rw [HG.out.len]; omega)
      have dJ := HS.out.row.cell (j := j + 1) (by rw [HG.out.len]; omega)
      have fI := HS.out.row.frozen (i)
      have fJ := HS.out.row.frozen (j + 1)
      obtain ⟨uJ, dU⟩ : ∃ u, (World.setCell _ _ _).cell? ⟨g, j + 1, none⟩ = some u := ⟨_, (HS.out.row.set_ (i) (ys.getD (j + 1) 0)).cell (j := j + 1) (by rw [List.length_set, HG.out.len]; omega)⟩
      have HK := hide ((HS.out.swap HL.out hb (i := i) (j := j + 1) ⟨by omega, by omega⟩ ⟨by omega, by omega⟩).drewN 1)
      generalize ys.getD (i) 0 = xi at dI dU HK
      generalize ys.getD (j + 1) 0 = xj at dJ dU HK
      go_wp2
      go_region
      go_wp2
      go_roundw
      case rel => exact ⟨i + 1, j, swap2 ys i (j + 1), by go_num, by go_num, by omega, by omega, by omega, HK⟩
      case measure => simp [intOf]; omega
    · have h0z : ¬ (i : Int) < (j : Int) := by omega
      go_wp2
      go_end0
      exact ⟨rfl, ys, HS.out⟩
/-- What math/bits' table says of a length. -/
theorem len8_pow : ∀ m : Fin 256, 0 < m.val → ((Lib.len8tab[m.val]?).getD 0).toNat ≤ 8 ∧ m.val < 2 ^ ((Lib.len8tab[m.val]?).getD 0).toNat ∧ 2 ^ ((Lib.len8tab[m.val]?).getD 0).toNat ≤ 2 * m.val := by decide +kernel
set_option maxHeartbeats 1000000 in
set_option maxRecDepth 100000 in
theorem len64_v (x : Int) (w : World) (h0 : 0 ≤ x) (h1 : x ≤ 200) : Calls Try.prog 57 #[.int .u64 x] w fun e w' => e = .returned (.int .i64 (wrap64 (wrap64 (((Lib.len8tab[x.toNat]?).getD 0).toNat : Int)))) ∧ w = w' := by
  go_enter Try.func57, Try.ntmps57
  go_wp2
  go_ret
  have hx : x.toNat < Lib.len8tab.size := by rw [Lib.len8tab_size]; omega
  have e8 : (Lib.len8tab[x.toNat]?).getD 0 = Lib.len8tab[x.toNat] := by rw [getElem?_pos Lib.len8tab x.toNat hx]; rfl
  exact ⟨by rw [e8]; rfl, rfl⟩
theorem len_v (x : Int) (w : World) (h0 : 0 ≤ x) (h1 : x ≤ 200) : Calls Try.prog 41 #[.int .u64 x] w fun e w' => e = .returned (.int .i64 (wrap64 (wrap64 (((Lib.len8tab[x.toNat]?).getD 0).toNat : Int)))) ∧ w = w' := by
  go_enter Try.func41, Try.ntmps41
  go_wp2_with (go_at_call 57; refine (len64_v x _ h0 h1).mono ?_; rintro e w' ⟨rfl, rfl⟩)
  go_ret
  exact ⟨rfl, rfl⟩
theorem len_nat (m : Nat) (w : World) (h0 : 0 < m) (h1 : m ≤ 200) : Calls Try.prog 41 #[.int .u64 (m : Int)] w fun e w' => ∃ l : Nat, e = .returned (.int .i64 (l : Int)) ∧ l ≤ 8 ∧ m < 2 ^ l ∧ 2 ^ l ≤ 2 * m ∧ w = w' := by
  obtain ⟨h2, h3, h4⟩ := len8_pow ⟨m, by omega⟩ h0
  refine (len_v (m : Int) w (by omega) (by omega)).mono ?_
  rintro e w' ⟨rfl, rfl⟩
  refine ⟨_, ?_, h2, h3, h4, rfl⟩
  show Ending.returned (.int .i64 (wrap64 (wrap64 (((Lib.len8tab[((m : Int)).toNat]?).getD 0).toNat : Int)))) = _
  rw [Int.toNat_natCast]
  generalize ((Lib.len8tab[m]?).getD 0).toNat = l at h2 ⊢
  have e1 : wrap64 (l : Int) = (l : Int) := by unfold wrap64; omega
  rw [e1, e1]
set_option maxHeartbeats 1000000 in
set_option maxRecDepth 100000 in
theorem npow_any (m : Nat) (w : World) (h0 : 0 < m) (h1 : m ≤ 200) : Calls Try.prog 62 #[.int .i64 (m : Int)] w fun e w' => ∃ M : Nat, e = .returned (.int .u64 (M : Int)) ∧ m < M ∧ M ≤ 2 * m ∧ w = w' := by
  have wr : IntKind.u64.wrap (m : Int) = m := by rw [IntKind.wrap_u64]; omega
  go_enter Try.func62, Try.ntmps62
  go_wp2_with fail
  refine (len_nat m _ h0 h1).mono ?_
  rintro e w' ⟨l, rfl, hl, h2, h3, rfl⟩
  have hp := wrap_two_pow l (by omega)
  rw [Nat.one_shiftLeft] at hp
  have H23 := hide (show m < 2 ^ l ∧ 2 ^ l ≤ 2 * m from ⟨h2, h3⟩)
  clear h2 h3
  go_wp2
  go_ret
  exact ⟨2 ^ l, by simp, H23.out.1, H23.out.2, rfl⟩
theorem xor_any (X : Nat) (Y : Int) (hX : X < 18446744073709551616) (h0 : 0 ≤ Y) (h1 : Y < 18446744073709551616) : ∃ A : Nat, A < 18446744073709551616 ∧ bits .xor .u64 (X : Int) Y = (A : Int) := by
  obtain ⟨y, rfl⟩ : ∃ y : Nat, Y = (y : Int) := ⟨Y.toNat, by omega⟩
  exact ⟨X ^^^ y, Nat.xor_lt_two_pow (n := 64) (by omega) (by omega), bits_xor_u64_nat _ _ hX (by omega)⟩
theorem wrapu_bnd (x : Int) : 0 ≤ IntKind.u64.wrap x ∧ IntKind.u64.wrap x < 18446744073709551616 := by rw [IntKind.wrap_u64]; omega
set_option maxHeartbeats 3200000 in
set_option maxRecDepth 100000 in
theorem xsn_any (gs X : Nat) (hX : X < 18446744073709551616) (w : World) (hc : w.cell? ⟨gs, 0, none⟩ = some (.int .u64 (X : Int))) (hf : w.frozen? ⟨gs, 0, none⟩ = false) :
    Calls Try.prog 63 #[.pointer (some ⟨gs, 0, none⟩)] w fun e w' => ∃ v : Nat, e = .returned (.int .u64 (v : Int)) ∧ v < 18446744073709551616 ∧ w' = (w.setCell ⟨gs, 0, none⟩ (.int .u64 (v : Int))).drewN 3 := by
  obtain ⟨A, lA, e1⟩ := xor_any X (IntKind.u64.wrap ((X : Int) * 8192)) hX (wrapu_bnd _).1 (wrapu_bnd _).2
  obtain ⟨B, lB, e2⟩ := xor_any A ((A : Int) / 128) lA (by omega) (by omega)
  obtain ⟨C, lC, e3⟩ := xor_any B (IntKind.u64.wrap ((B : Int) * 131072)) lB (wrapu_bnd _).1 (wrapu_bnd _).2
  have hss : ∀ v v', (w.setCell ⟨gs, 0, none⟩ v).setCell ⟨gs, 0, none⟩ v' = w.setCell ⟨gs, 0, none⟩ v' := setCell_setCell w gs 0
  go_enter Try.func63, Try.ntmps63
  go_wp2
  go_region
  all_goals go_wp2
  all_goals go_region
  all_goals go_wp2
  all_goals go_region
  all_goals go_wp2
  go_ret
  exact ⟨C, rfl, lC, rfl⟩
/-- A box of a random number, apart from the row. -/
structure Rx (gs v : Nat) (W : World) : Prop where
  cell : W.cell? ⟨gs, 0, none⟩ = some (.int .u64 (v : Int))
  frz : W.frozen? ⟨gs, 0, none⟩ = false
theorem Rx.set_ {gs v : Nat} {W : World} (h : Rx gs v W) (u : Nat) : Rx gs u (W.setCell ⟨gs, 0, none⟩ (.int .u64 (u : Int))) :=
  ⟨World.cell?_setCell_same' _ _ _ (by rw [h.cell]; rfl), by rw [World.frozen?_setCell]; exact h.frz⟩
theorem Rx.far {gs v g i : Nat} {W : World} (h : Rx gs v W) (hne : g ≠ gs) (u : Value) : Rx gs v (W.setCell ⟨g, i, none⟩ u) :=
  ⟨by rw [World.cell?_setCell_far _ _ _ _ hne]; exact h.cell, by rw [World.frozen?_setCell]; exact h.frz⟩
theorem Rx.drewN {gs v : Nat} {W : World} (h : Rx gs v W) (k : Nat) : Rx gs v (W.drewN k) := ⟨h.cell, h.frz⟩
theorem StS.side {w wr : World} {g a b gs : Nat} {xs ys : List Int} (h : StS w g a b xs ys wr) (hne : g ≠ gs) (hge : w.heap.size ≤ gs) (u : Value) : StS w g a b xs ys (wr.setCell ⟨gs, 0, none⟩ u) :=
  ⟨h.seg, h.row.keep (Below.heap_setCell wr _ u g hne), grown_set h.grown (.inr hge) _⟩
theorem StS.alloc {w wr : World} {g a b : Nat} {xs ys : List Int} (h : StS w g a b xs ys wr) (o : Obj) : StS w g a b xs ys (wr.alloc o) := h.below ((Below.refl _ _).alloc (Nat.le_refl _) _)
theorem and_any (X M : Nat) (hX : X < 18446744073709551616) (h0 : 0 < M) (h1 : M ≤ 400) : ∃ O : Nat, O < M ∧ bits .and .u64 (X : Int) ((M : Int) - 1) = (O : Int) := by
  refine ⟨X &&& (M - 1), ?_, ?_⟩
  · have : X &&& (M - 1) ≤ M - 1 := Nat.and_le_right
    omega
  · rw [show ((M : Int) - 1) = ((M - 1 : Nat) : Int) by omega, bits_and_u64_nat _ _ hX (by omega)]
set_option maxHeartbeats 6400000 in
set_option maxRecDepth 20000 in
theorem brk_any (g : Nat) (kc : FuncId) (rv : Value) (f : Int → Int → Int) (ok : Int → Prop) (n c a b : Nat) (hab : a + 12 < b) (hb : b ≤ n) (hn2 : n ≤ 200) (xs : List Int) (hG : RowG f ok n xs) (w : World) (hx : IRow w g xs) :
    Calls Try.prog 50 #[.slice (some ⟨g, 0, none⟩) n c, .int .i64 (a : Int), .int .i64 (b : Int), .func (.func kc) #[rv] #[]] w fun e w' => ∃ ys, e = .returned (.tuple #[]) ∧ StS w g a b xs ys w' := by
  obtain ⟨L, hL⟩ : ∃ L, L = b - a := ⟨_, rfl⟩
  have eL : (b : Int) - (a : Int) = (L : Int) := by omega
  have hL8 : (8 : Int) ≤ (L : Int) := by omega
  have bL : 12 < L ∧ L ≤ 200 := by omega
  have hbL := hide (show a + L = b by omega)
  obtain ⟨q, eq⟩ : ∃ q : Nat, (a : Int) + (L : Int) / 4 * 2 = (q : Int) := ⟨a + L / 4 * 2, by omega⟩
  have bq : a + 1 < q ∧ q + 1 < b := by omega
  have HL := hide hG.len
  have hgw : g ≠ w.heap.size := by have := hx.lt; omega
  have NP := hide (fun W => npow_any L W (by omega) bL.2)
  have HS0 := hide ((StS.start (a := a) (b := b) hx).alloc (.cells #[.int .u64 (L : Int)] 82 (0, 0)))
  have HR0 : Hid (Rx w.heap.size L (w.alloc (.cells #[.int .u64 (L : Int)] 82 (0, 0)))) := hide ⟨by simp, by simp⟩
  have HG0 := hide hG
  have wL : IntKind.u64.wrap (L : Int) = (L : Int) := by rw [IntKind.wrap_u64]; omega
  obtain ⟨gs, hgs⟩ : ∃ gs, gs = w.heap.size := ⟨_, rfl⟩
  have HGE := hide (show w.heap.size ≤ gs by omega)
  clear hx hG hL hab
  go_enter Try.func50, Try.ntmps50
  go_wp2_with fail
  refine (NP.out _).mono ?_
  rintro e w1 ⟨M, rfl, hM1, hM2, rfl⟩
  rw [← hgs] at HR0 hgw ⊢
  generalize World.alloc w _ = w2 at HS0 HR0 ⊢
  clear NP hgs wL
  go_wp2
  go_loopw [11] (fun vi wr => ∃ (i v : Nat) (ys : List Int), vi = .int .i64 (i : Int) ∧ q ≤ i + 1 ∧ i ≤ q + 2 ∧ v < 18446744073709551616 ∧ Hid (Rx gs v wr) ∧ Hid (StS w g a b xs ys wr)) (fun vi _ => q + 2 - (intOf vi).toNat)
  case atStart => exact ⟨q - 1, L, xs, by rw [show (q : Int) - 1 = ((q - 1 : Nat) : Int) by omega], by omega, by omega, by omega, HR0, HS0⟩
  case round =>
    obtain ⟨i, v, ys, rfl, hi1, hi2, hv, HR, HS⟩ := hrel
    have HG := hide (HG0.out.seg HS.out.seg)
    by_cases h0 : i ≤ q + 1
    · have h0z : (i : Int) ≤ (q : Int) + 1 := by omega
      go_wp2_with fail
      refine (xsn_any gs v hv wr HR.out.cell HR.out.frz).mono ?_
      rintro e w3 ⟨u, rfl, hu, rfl⟩
      obtain ⟨O, hO, eO⟩ := and_any u M hu (by omega) (by omega)
      have S3 := hide ((HS.out.side hgw HGE.out (.int .u64 (u : Int))).drewN 3)
      have R3 := hide ((HR.out.set_ u).drewN 3)
      generalize World.drewN _ _ = w4 at S3 R3 ⊢
      clear HR HS
      have i0 : (0 : Int) ≤ (i : Int) := by omega
      have i1 : (i : Int) < (n : Int) := by omega
      have hin : i < n := by omega
      have hiab : a ≤ i ∧ i < b := by omega
      by_cases hLO : L ≤ O
      · have hLOz : (L : Int) ≤ (O : Int) := by omega
        obtain ⟨o, eo⟩ : ∃ o : Nat, (O : Int) - (L : Int) = (o : Int) := ⟨O - L, by omega⟩
        obtain ⟨p, ep⟩ : ∃ p : Nat, (a : Int) + (o : Int) = (p : Int) := ⟨a + o, by omega⟩
        have hpab : a ≤ p ∧ p < b := by have := hbL.out; omega
        have i2 : (0 : Int) ≤ (p : Int) := by omega
        have i3 : (p : Int) < (n : Int) := by omega
        have hpn : p < n := by omega
        have dI := S3.out.row.cell (j := i) (by rw [HG.out.len]; omega)
        have dJ := S3.out.row.cell (j := p) (by rw [HG.out.len]; omega)
        have fI := S3.out.row.frozen (i)
        have fJ := S3.out.row.frozen (p)
        obtain ⟨uJ, dU⟩ : ∃ u, (World.setCell _ _ _).cell? ⟨g, p, none⟩ = some u := ⟨_, (S3.out.row.set_ (i) (ys.getD (p) 0)).cell (j := p) (by rw [List.length_set, HG.out.len]; omega)⟩
        have HK := hide ((S3.out.swap HL.out hb (i := i) (j := p) hiab hpab).drewN 1)
        generalize ys.getD (i) 0 = xi at dI dU HK
        generalize ys.getD (p) 0 = xj at dJ dU HK
        have R5 := hide (((R3.out.far (i := i) hgw (.int .i64 xj)).far (i := p) hgw (.int .i64 xi)).drewN 1)
        go_wp2
        go_region
        go_wp2
        go_roundw
        case rel => exact ⟨i + 1, u, swap2 ys i p, by go_num, by omega, by omega, hu, R5, HK⟩
        case measure => simp [intOf]; omega
      · have hLOz : ¬ (L : Int) ≤ (O : Int) := by omega
        obtain ⟨p, ep⟩ : ∃ p : Nat, (a : Int) + (O : Int) = (p : Int) := ⟨a + O, by omega⟩
        have hpab : a ≤ p ∧ p < b := by have := hbL.out; omega
        have i2 : (0 : Int) ≤ (p : Int) := by omega
        have i3 : (p : Int) < (n : Int) := by omega
        have hpn : p < n := by omega
        have dI := S3.out.row.cell (j := i) (by rw [HG.out.len]; omega)
        have dJ := S3.out.row.cell (j := p) (by rw [HG.out.len]; omega)
        have fI := S3.out.row.frozen (i)
        have fJ := S3.out.row.frozen (p)
        obtain ⟨uJ, dU⟩ : ∃ u, (World.setCell _ _ _).cell? ⟨g, p, none⟩ = some u := ⟨_, (S3.out.row.set_ (i) (ys.getD (p) 0)).cell (j := p) (by rw [List.length_set, HG.out.len]; omega)⟩
        have HK := hide ((S3.out.swap HL.out hb (i := i) (j := p) hiab hpab).drewN 1)
        generalize ys.getD (i) 0 = xi at dI dU HK
        generalize ys.getD (p) 0 = xj at dJ dU HK
        have R5 := hide (((R3.out.far (i := i) hgw (.int .i64 xj)).far (i := p) hgw (.int .i64 xi)).drewN 1)
        go_wp2
        go_region
        go_wp2
        go_roundw
        case rel => exact ⟨i + 1, u, swap2 ys i p, by go_num, by omega, by omega, hu, R5, HK⟩
        case measure => simp [intOf]; omega
    · have h0z : ¬ (i : Int) ≤ (q : Int) + 1 := by omega
      go_wp2
      go_end0
      exact ⟨rfl, ys, HS.out⟩
end Go.Proofs.Ytfcmgmcidngjeaa
