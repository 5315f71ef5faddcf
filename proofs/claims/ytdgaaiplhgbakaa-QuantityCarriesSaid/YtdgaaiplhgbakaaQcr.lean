/-
  What is carried on loses nothing: the walk of QuantityCarries. Condition: its list can be read.
-/
import Derived.Test.YtdgaaiplhgbakaaProg
import Derived.Test.YtdgaaiplhgbakaaQsc
namespace Go.Proofs.Ytdgaaiplhgbakaa
open Go.RowKit

theorem ca_in {a n m c : Int} (ha : 0 ≤ a ∧ a < 1000) (hn : 1 ≤ n ∧ n ≤ 50) (hm : 1 ≤ m ∧ m ≤ 60) (hc : 0 ≤ c ∧ c < m) : caE a n m c = 0 := by
  have h : scE a n m = 0 := sc_ok (by rw [wit_of (by omega) (by omega), wit_of (by omega) (by omega)]; rfl) (by omega)
  unfold caE
  rw [if_neg (by omega), if_pos h, if_neg (by omega)]
/-- One step of carrying on: the sum's quotient and remainder. -/
theorem carry_step {m all c x : Int} (hm : 1 ≤ m) : m * (all + (x + c) / m) + (x + c) % m = m * all + c + x := by
  have := Int.mul_ediv_add_emod (x + c) m
  rw [Int.mul_add]; omega
theorem carry_fin {m all c s : Int} (hm : 1 ≤ m) (hc : 0 ≤ c ∧ c < m) (h : s = m * all + c) : s / m = all ∧ s % m = c := by
  subst h
  rw [Int.mul_add_ediv_left _ _ (by omega), Int.ediv_eq_zero_of_lt hc.1 hc.2, Int.mul_add_emod_self_left, Int.emod_eq_of_lt hc.1 hc.2]
  omega
set_option maxHeartbeats 1600000 in
set_option maxRecDepth 20000 in
theorem carries_walk {A : Option Addr} {n c : Nat} {zs : List Int} {w : World} (hs : Sl w w.heap.size 1 A n c (ints zs)) (a1 a2 : Int) : Calls Try.prog 7 #[.slice A n c, .int .i64 a1, .int .i64 a2] w fun e w' => e = .returned (.bool true) ∧ Below w.heap.size w w' := by
  have hl : n = zs.length := by have := hs.1; rw [ints_length] at this; omega
  have hm63 : n ≤ 9223372036854775807 := by have a1 := hs.2.1; have a2 := hs.2.2.1; unfold maxLen at a2; omega
  have HS := hide hs
  have HL := hide hl
  clear hs hl
  go_enter Try.func7, Try.ntmps7
  go_wp2_with (go_at_call 10; refine (mod_any _ _ (by omega) (by omega) _).mono ?_; rintro e w1 ⟨rfl, rfl⟩)
  obtain ⟨p, hp⟩ : ∃ p, p = a1 % 50 := ⟨_, rfl⟩
  obtain ⟨q, hq⟩ : ∃ q, q = a2 % 60 := ⟨_, rfl⟩
  have p0 : 0 ≤ p ∧ p < 50 := by omega
  have q0 : 0 ≤ q ∧ q < 60 := by omega
  rw [← hp, ← hq]
  clear hp hq
  have n0 : 1 ≤ 1 + p ∧ 1 + p ≤ 50 := by omega
  have m0 : 1 ≤ 1 + q ∧ 1 + q ≤ 60 := by omega
  generalize 1 + p = N at *
  generalize 1 + q = M at *
  clear p0 q0
  go_loopw [9, 10, 11, 12] (fun vc va vs i wr => ∃ (k : Nat) (cc all s : Int), k ≤ n ∧ k ≤ 40 ∧ vc = .int .i64 cc ∧ va = .int .i64 all ∧ vs = .int .i64 s ∧ i = .int .i64 k ∧ (0 ≤ cc ∧ cc < M) ∧ Hid (s = M * all + cc) ∧ (0 ≤ s ∧ s ≤ 50010 * k) ∧ (0 ≤ all ∧ all ≤ 50010 * k) ∧ Below w.heap.size w wr) (fun _ _ _ i _ => 40 - (intOf i).toNat)
  case atStart => exact ⟨0, 0, 0, 0, by omega, by omega, rfl, rfl, rfl, rfl, by omega, by simp [Hid], by omega, by omega, Below.refl _ _⟩
  case round =>
    obtain ⟨k, cc, all, s, hk, hk2, rfl, rfl, rfl, rfl, hc, he, hs, hall, hb⟩ := hrel
    by_cases hlt : k < n ∧ k < 40
    · obtain ⟨hl1, hl2⟩ := hlt
      obtain ⟨b, o, rfl, hb1, hcl⟩ := (HS.out.below hb).at_ hl1
      have hL := HL.out
      have hx := hcl k _ (ints_get zs k (by omega))
      clear hcl hL
      generalize zs.getD k 0 = z at *
      go_wp2_with fail
      refine (mod_any _ _ (by omega) (by omega) _).mono ?_
      rintro e w2 ⟨rfl, rfl⟩
      obtain ⟨x, hxe⟩ : ∃ x, x = z % 1000 := ⟨_, rfl⟩
      have x0 : 0 ≤ x ∧ x < 1000 := by omega
      rw [← hxe]
      clear hxe
      have HC := hide (ca_in x0 n0 m0 hc)
      have HST := hide (carry_step (m := M) (all := all) (c := cc) (x := x * N) m0.1)
      have r0 := Int.emod_nonneg (x * N + cc) (show M ≠ 0 by omega)
      have r1 := Int.emod_lt_of_pos (x * N + cc) (show 0 < M by omega)
      have y0 : 0 ≤ x * N := Int.mul_nonneg x0.1 (by omega)
      have y1 : x * N ≤ 49950 := by
        have := Int.mul_le_mul (show x ≤ 999 by omega) n0.2 (by omega) (by omega); omega
      have d0 : 0 ≤ (x * N + cc) / M := Int.ediv_nonneg (by omega) (by omega)
      have d1 := Int.ediv_le_self M (show 0 ≤ x * N + cc by omega)
      go_wp2_with fail
      refine (carry_ok x N M cc HC.out _).mono ?_
      rintro e w3 ⟨rfl, hb3⟩
      have hb4 := bthr hb hb3 hb.size
      clear hb hb3 hx
      have HE := hide (show s + x * N = M * (all + (x * N + cc) / M) + (x * N + cc) % M by rw [HST.out, he.out])
      generalize (x * N + cc) / M = qq at *
      generalize (x * N + cc) % M = rr at *
      go_wp2
      go_roundw
      case rel => exact ⟨k + 1, rr, all + qq, s + x * N, by omega, by omega, rfl, by go_num, by go_num, by go_num, ⟨r0, r1⟩, HE, by omega, by omega, hb4⟩
      case measure => simp [intOf]; omega
    · obtain ⟨hq1, hq2⟩ := carry_fin (s := s) m0.1 hc he.out
      have hq3 : (all == s / M) = true := by rw [hq1]; simp
      have hq4 : (cc == s % M) = true := by rw [hq2]; simp
      have hs0 := hs.1
      have hs1 : s ≤ 2000400 := by omega
      have hm1 := m0.1
      have hb0 := hide hb
      have hbs := hb.size
      clear hq3 hq4 he hs hall hc m0 n0 hb
      by_cases hl1 : k < n
      · obtain rfl : k = 40 := by omega
        go_wp2_with fail
        refine (awake_any _).mono ?_
        rintro e w2 ⟨rfl, hb2⟩
        go_wp2
        go_ret
        exact ⟨rfl, bthr hb0.out hb2 hbs⟩
      · obtain rfl : n = k := by omega
        go_wp2_with fail
        refine (awake_any _).mono ?_
        rintro e w2 ⟨rfl, hb2⟩
        go_wp2
        go_ret
        exact ⟨rfl, bthr hb0.out hb2 hbs⟩
end Go.Proofs.Ytdgaaiplhgbakaa
