/-
  With a greater release conditions that ask for more stay kept, with a lesser one those that ask for less: the walk of LicenceRises. Conditions: the list can be read, and the table of kinds holds what the program lays.
-/
import Derived.Test.YtkaafihlbhjgpaaDoorProg
import Derived.Test.YtkaafihlbhjgpaaDoorKpl
namespace Go.Proofs.YtkaafihlbhjgpaaDoor
open Go.RowKit

theorem own_ne {w : World} {base b : Nat} {e : TypeId} {size n : Nat} {v : Value} {xs : List Value} (h : w.ownsRow base e size v n xs) (hb : b < base) : v.ownBlock = none ∨ v.ownBlock ≠ some b := by
  cases hv : v.ownBlock with
  | none => exact .inl rfl
  | some g => exact .inr (fun e => by injection e with e; have := (h.lt g hv).1; omega)
theorem mem_snoc {zs : List Int} {k : Nat} {x : Int} (hk : k < zs.length) : (x ∈ zs.take (k + 1)) ↔ (x ∈ zs.take k ∨ x = zs.getD k 0) := by
  rw [List.take_succ_eq_append_getElem hk, List.mem_append, List.mem_singleton]
  simp [List.getD_eq_getElem?_getD, hk]
set_option maxRecDepth 20000 in
theorem has_any (A : Option Addr) (n c : Nat) (zs : List Int) (x : Int) (w : World) (hs : Sl w w.heap.size 1 A n c (ints zs)) :
    Calls Tryd.prog 28 #[.slice A n c, .int .i64 x] w fun e w' => e = .returned (.bool (decide (x ∈ zs))) ∧ w = w' := by
  have hl : n = zs.length := by have := hs.1; rw [ints_length] at this; omega
  have hm : n ≤ 9223372036854775807 := by have a1 := hs.2.1; have a2 := hs.2.2.1; unfold maxLen at a2; omega
  have HL := hide hl
  have HS := hide hs
  clear hl hs
  go_enter Tryd.func28, Tryd.ntmps28
  go_wp2
  go_loop [9] (fun i => ∃ k : Nat, k ≤ n ∧ i = .int .i64 k ∧ Hid (x ∉ zs.take k)) (fun i => n - (intOf i).toNat)
  case atStart => exact ⟨0, by omega, rfl, by simp [Hid]⟩
  case round =>
    obtain ⟨k, hk, rfl, hno⟩ := hrel
    by_cases hlt : k < n
    · obtain ⟨b, o, rfl, hb, hc⟩ := HS.out.at_ hlt
      have hlz := HL.out
      have hx := hc k _ (ints_get zs k (by omega))
      have HN := hide (mem_snoc (zs := zs) (x := x) (show k < zs.length by omega))
      have HM := hide (fun (e : x = zs.getD k 0) => show x ∈ zs from List.mem_of_mem_take ((mem_snoc (zs := zs) (x := x) (show k < zs.length by omega)).2 (.inr e)))
      clear hc hlz
      generalize zs.getD k 0 = v at *
      by_cases he : x = v
      · have HM2 := hide (HM.out he)
        have he2 : (x == v) = true := by rw [he]; exact beq_self_eq_true v
        clear HM HN he
        go_wp2
        go_ret
        exact ⟨ret_bool (by rw [decide_eq_true HM2.out]), rfl⟩
      · have HN2 := hide (show x ∉ zs.take (k + 1) from fun h => (HN.out.1 h).elim hno.out he)
        have he2 : (x == v) = false := beq_false_of_ne he
        clear HM HN he
        go_wp2
        go_round
        case rel => exact ⟨k + 1, by omega, by go_num, HN2⟩
        case measure => simp [intOf]; omega
    · obtain rfl : k = n := by omega
      have hno2 := hno.out
      rw [List.take_of_length_le (by have := HL.out; omega)] at hno2
      have HN := hide hno2
      clear hno2
      go_wp2
      go_ret
      exact ⟨ret_bool (by rw [decide_eq_false HN.out]), rfl⟩
theorem rise_has {cs : List Cd} {d lv bf rl more : Int} {k : Nat} (h : k < cs.length) (h0 : 0 ≤ rl) (h1 : rl ≤ more) (h2 : more ≤ 1073741824) :
    (((cs.getD k cd0).kind = 1 ∨ (cs.getD k cd0).kind = 4) → decide ((k : Int) ∈ keptL cs d lv bf rl) = true → decide ((k : Int) ∈ keptL cs d lv bf more) = true) ∧ (¬ ((cs.getD k cd0).kind = 1 ∨ (cs.getD k cd0).kind = 4) → decide ((k : Int) ∈ keptL cs d lv bf more) = true → decide ((k : Int) ∈ keptL cs d lv bf rl) = true) := by
  simp only [decide_eq_true_eq, keptL_mem, kepC, Int.toNat_natCast]
  exact ⟨fun hk h => ⟨h.1, kep_rise hk h.2 h1 h2⟩, fun hk h => ⟨h.1, kep_fall hk h.2 h1 h0⟩⟩
set_option maxHeartbeats 1600000 in
set_option maxRecDepth 20000 in
theorem rises_walk {A : Option Addr} {n c : Nat} {zs : List Int} {w : World} (hT : KT w) (hs : Sl w w.heap.size 1 A n c (ints zs)) (by_ : Int) : Calls Tryd.prog 7 #[.slice A n c, .int .i64 by_] w fun e w' => e = .returned (.bool true) ∧ Below w.heap.size w w' := by
  have hw0 := hT.pos
  go_enter Tryd.func7, Tryd.ntmps7
  go_wp2_with fail
  refine (new_any _ _ _ _ _ hs).mono ?_
  rintro e w1 ⟨rfl, hD1, hb1⟩
  have hw1 := hD1.lt
  clear hs
  go_wp2_with fail
  refine (conds_any _ _ hD1).mono ?_
  rintro e w2 ⟨v, cs, rfl, hcl, hcg, hv, hD2, hg2⟩
  have hB := below_grown hb1 hg2 hb1.size (Nat.le_refl _)
  clear hD1 hg2 hb1
  obtain ⟨m, hm⟩ : ∃ m, m = cs.length := ⟨_, rfl⟩
  rw [← hm] at hv hcl
  have HG := hide (fun x hx => good_err (hcg x hx))
  have HM := hide hm
  clear hcg hm
  go_wp2_with fail
  refine (next_any _ _ (by omega) _ hD2).mono ?_
  rintro e w3 ⟨d, rfl, hd0, hd1, hD3, hg3, _⟩
  have hB3 := below_grown hB hg3 hB.size (Nat.le_refl _)
  have hv3 := hv.kept hg3 (own_ne hv (by omega))
  clear hB hD2 hg3 hv
  have hd : 0 ≤ d ∧ d < 365 := by omega
  clear hd0 hd1
  go_wp2_with fail
  refine (next_any _ _ (by omega) _ hD3).mono ?_
  rintro e w4 ⟨lv, rfl, hl0, hl1, hD4, hg4, _⟩
  have hB4 := below_grown hB3 hg4 hB3.size (Nat.le_refl _)
  have hv4 := hv3.kept hg4 (own_ne hv3 (by omega))
  clear hB3 hD3 hg4 hv3
  have hl : 0 ≤ lv ∧ lv < 150 := by omega
  clear hl0 hl1
  go_wp2_with fail
  refine (next_any _ _ (by omega) _ hD4).mono ?_
  rintro e w5 ⟨bf, rfl, hb0, hb1, hD5, hg5, _⟩
  have hB5 := below_grown hB4 hg5 hB4.size (Nat.le_refl _)
  have hv5 := hv4.kept hg5 (own_ne hv4 (by omega))
  clear hB4 hD4 hg5 hv4
  have hbf : 0 ≤ bf ∧ bf < 30 := by omega
  clear hb0 hb1
  go_wp2_with fail
  refine (next_any _ _ (by omega) _ hD5).mono ?_
  rintro e w6 ⟨rl, rfl, hr0, hr1, hD6, hg6, _⟩
  have hB6 := below_grown hB5 hg6 hB5.size (Nat.le_refl _)
  have hv6 := hv5.kept hg6 (own_ne hv5 (by omega))
  clear hB5 hD5 hg6 hv5 hD6
  have hrl : 0 ≤ rl ∧ rl < 60 := by omega
  clear hr0 hr1
  obtain ⟨A2, c2, rfl, hsl⟩ := own_sl hv6
  clear hv6
  obtain ⟨y, hy⟩ : ∃ y, y = by_ % 20 := ⟨_, rfl⟩
  have y0 : 0 ≤ y ∧ y < 20 := by omega
  have HY := hide hy
  clear hy
  go_wp2_with (go_at_call 10; refine (mod_any _ _ (by omega) (by omega) _).mono ?_; rintro e w1 ⟨rfl, rfl⟩; rw [← HY.out])
  obtain ⟨more, hmore⟩ : ∃ more, more = rl + y := ⟨_, rfl⟩
  have hmo : rl ≤ more ∧ more ≤ 80 := by omega
  rw [← hmore]
  clear hmore HY
  with_reducible refine (kept_ok A2 m c2 cs d (80 + lv) bf rl w6 (hT.below hB6 hw0) (by omega) HG.out (wit_of (by omega) (by omega)) (wit_of (by omega) (by omega)) (by omega) (by omega) hsl).mono ?_
  rintro e w7 ⟨A7, c7, A8, c8, rfl, ha, _, hb7⟩
  have hB7 := bthr hB6 hb7 hB6.size
  have hsl7 := hsl.thr hb7
  clear hB6 hb7 hsl
  go_wp2_with fail
  with_reducible refine (kept_ok A2 m c2 cs d (80 + lv) bf more w7 (hT.below hB7 hw0) (by omega) HG.out (wit_of (by omega) (by omega)) (wit_of (by omega) (by omega)) (by omega) (by omega) hsl7).mono ?_
  rintro e w8 ⟨A9, c9, A10, c10, rfl, hb, _, hb8⟩
  have hB8 := bthr hB7 hb8 hB7.size
  have HS := hide (hsl7.thr hb8)
  have HA := hide (ha.thr hb8)
  have HBB := hide hb
  have HB8 := hide hB8
  have HT8 := hide (hT.below hB8 hw0)
  have HR := hide (fun (k : Nat) (h : k < m) => rise_has (cs := cs) (d := d) (lv := 80 + lv) (bf := bf) (rl := rl) (more := more) (k := k) (by have := HM.out; omega) (by omega) (by omega) (by omega))
  generalize keptL cs d (80 + lv) bf rl = xs at *
  generalize keptL cs d (80 + lv) bf more = ys at *
  clear hB7 hb8 hsl7 ha hb hB8 hd hl hbf hrl y0 hmo
  go_wp2
  go_loopw [66] (fun vi wr => ∃ i : Nat, i ≤ m ∧ vi = .int .i64 i ∧ Below w8.heap.size w8 wr) (fun vi _ => m - (intOf vi).toNat)
  case atStart => exact ⟨0, by omega, rfl, Below.refl _ _⟩
  case round =>
    obtain ⟨i, hi, rfl, hb⟩ := hrel
    by_cases hlt : i < m
    · have hM := HM.out
      obtain ⟨bl, ol, rfl, hbl, hcl2⟩ := (HS.out.thr hb).at_ hlt
      rcases ek : cs[i]'(by omega) with ⟨r, k1, v1, f1, t1, x1, y1⟩
      obtain ⟨e0, e1, e2, e3, e4, e5, e6⟩ := cd_cells (B := 0) (n := 0) (c := 0) hcl2 (by omega) ek
      obtain ⟨R1, R2⟩ := HR.out i hlt
      have hkd : (cs.getD i cd0).kind = k1 := by simp [List.getD_eq_getElem?_getD, show i < cs.length by omega, ek]
      rw [hkd] at R1 R2
      have HR1 := hide R1
      have HR2 := hide R2
      have HHA := hide (fun W (hW : Below w8.heap.size w8 W) => has_any _ _ _ _ (i : Int) W (HA.out.thr hW))
      have HHB := hide (fun W (hW : Below w8.heap.size w8 W) => has_any _ _ _ _ (i : Int) W (HBB.out.thr hW))
      have hb2 := hide (hb.trans ((bel1 (w := wr) (o := .cells #[.int .i64 r, .int .i64 k1, .int .i64 v1, .int .i64 f1, .int .i64 t1, .int .i64 x1, .int .i64 y1] 26)).mono hb.size))
      generalize decide ((i : Int) ∈ xs) = ba at *
      generalize decide ((i : Int) ∈ ys) = bb at *
      clear hM ek hkd hcl2 R1 R2 hb
      by_cases hr : k1 = 1 ∨ k1 = 4
      · have HQ := hide (HR1.out hr)
        clear HR1 HR2
        rcases hr with rfl | rfl
        all_goals
          cases ba
          · go_wp2_with fail
            refine (HHA.out _ hb2.out).mono ?_
            rintro e w9 ⟨rfl, rfl⟩
            go_wp2
            go_roundw
            case rel => exact ⟨i + 1, by omega, by go_num, hb2.out⟩
            case measure => simp [intOf]; omega
          · obtain rfl : bb = true := HQ.out rfl
            go_wp2_with fail
            refine (HHA.out _ hb2.out).mono ?_
            rintro e w9 ⟨rfl, rfl⟩
            go_wp2_with fail
            refine (HHB.out _ hb2.out).mono ?_
            rintro e w9 ⟨rfl, rfl⟩
            go_wp2
            go_roundw
            case rel => exact ⟨i + 1, by omega, by go_num, hb2.out⟩
            case measure => simp [intOf]; omega
      · have HQ := hide (HR2.out hr)
        have d1 : (k1 == 1) = false := beq_false_of_ne (fun e => hr (.inl e))
        have d4 : (k1 == 4) = false := beq_false_of_ne (fun e => hr (.inr e))
        clear HR1 HR2 hr
        cases bb
        · go_wp2_with fail
          refine (HHB.out _ hb2.out).mono ?_
          rintro e w9 ⟨rfl, rfl⟩
          go_wp2
          go_roundw
          case rel => exact ⟨i + 1, by omega, by go_num, hb2.out⟩
          case measure => simp [intOf]; omega
        · obtain rfl : ba = true := HQ.out rfl
          go_wp2_with fail
          refine (HHB.out _ hb2.out).mono ?_
          rintro e w9 ⟨rfl, rfl⟩
          go_wp2_with fail
          refine (HHA.out _ hb2.out).mono ?_
          rintro e w9 ⟨rfl, rfl⟩
          go_wp2
          go_roundw
          case rel => exact ⟨i + 1, by omega, by go_num, hb2.out⟩
          case measure => simp [intOf]; omega
    · obtain rfl : i = m := by omega
      have HB9 := hide (bthr HB8.out hb HB8.out.size)
      have HT9 := hide (HT8.out.below hb HT8.out.pos)
      clear hb
      go_wp2_with fail
      refine (awake_any _ HT9.out).mono ?_
      rintro e w7 ⟨rfl, hb7⟩
      go_wp2
      go_ret
      exact ⟨rfl, bthr HB9.out hb7 HB9.out.size⟩
end Go.Proofs.YtkaafihlbhjgpaaDoor
