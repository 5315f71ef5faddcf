/-
  The contract of unit.beyond: the least flow from a flow on that lies in none of the rough zones. Condition: the unit lies in memory and is valid.
  The contracts of unit.Check, runs, fits, Valid, may, May at valid units and states. Condition: the unit lies in memory and is valid.
  The contracts of unit.fits, Valid, may, May, Next and Power at valid units and states. Condition: the unit lies in memory and is valid.
-/
import Derived.Test.YtodamjjlnagpjaaGreatDoorProg
import Derived.Test.YtodamjjlnagpjaaGreatDoorTs4
import Derived.Deep.LoopGhost
import Derived.WalkMore
namespace Go.Proofs.YtodamjjlnagpjaaGreatDoor
open Go.RowKit

theorem Un.arr6 (u : Un) : u.arr = #[u.t.v, .int .i64 u.lo, .int .i64 u.hi, u.r.v, .int .i64 u.up, .int .i64 u.dn] := rfl
/-- What beyond gives. -/
def BeyP (zs : List Pt) (f : Int) (w : World) (e : Ending) (w' : World) : Prop := ∃ r : Int, e = .returned (.int .i64 r) ∧ (clearB zs f = true → r = f) ∧ (clearB zs f = false → f < r ∧ r ≤ 100) ∧ clearB zs r = true ∧ Below w.heap.size w w'
theorem clear_no {zs : List Pt} {f : Int} {z : Pt} (hz : z ∈ zs) (h : z.x < f ∧ f < z.y) : clearB zs f = false := by
  cases hc : clearB zs f
  · rfl
  · exact absurd h (clearB_iff.1 hc z hz)
theorem Cv.ok.cells {x : Cv} {w : World} (h : x.ok w) {k : Nat} (hk : k < x.n) : ∃ b o, x.A = some ⟨b, o, none⟩ ∧ b < w.heap.size ∧ ∀ (k : Nat) (hk : k < x.ps.length), w.cell? ⟨b, o + k * 2, none⟩ = some (.int .i64 x.ps[k].x) ∧ w.cell? ⟨b, o + k * 2 + 1, none⟩ = some (.int .i64 x.ps[k].y) :=
  h.block (by rw [← h.len]; omega)
set_option maxHeartbeats 1600000 in
set_option maxRecDepth 20000 in
theorem beyond_any (u : Un) (f : Int) (hf : 0 ≤ f) (hg : UnG u) (w : World) (hs : u.ok w) :
    Calls Tryz.prog 128 #[.agg u.arr, .int .i64 f] w (BeyP u.r.ps f w) := by
  have q0 := Blk.new w 90 u.arr
  have hb0 := bel1 (w := w) (o := .cells u.arr 90)
  have hs0 := hs.2.below hb0
  have HZ := hide hg.z
  have hzn := hg.zn
  have HL := hide hs.2.len
  rw [Un.arr6] at q0 hb0 hs0 ⊢
  generalize hr : u.r = r at *
  obtain ⟨A, n, c, zs⟩ := r
  simp only at HL HZ hzn
  unfold Cv.v at q0 hb0 hs0 ⊢
  simp only at q0 hb0 hs0 ⊢
  obtain ⟨c0, c1, c2, c3, c4, c5, cf⟩ := q0.facts6
  have hn10 : n ≤ 10 := by have := HL.out; omega
  clear hr hs
  go_enter Tryz.func128, Tryz.ntmps128
  go_upto_region 1 with fail
  clear c0 c1 c2 c3 c4 c5 cf
  generalize w.alloc _ = w1 at *
  go_step3
  go_wp2
  go_step3
  go_wp2
  go_loopg [1] (100 - f.toNat) (fun g v wr => ∃ x : Int, g = 100 - x.toNat ∧ v = .int .i64 x ∧ 0 ≤ x ∧ Hid (x = f ∨ clearB zs f = false ∧ f < x ∧ x ≤ 100) ∧ Below w1.heap.size w1 wr)
  case atStart => exact ⟨f, rfl, rfl, hf, hide (.inl rfl), Below.refl _ _⟩
  case round =>
    obtain ⟨x, hx, rfl, hx0, HX, hb2⟩ := hrel
    have q2 := q0.below hb2 q0.lt
    obtain ⟨c0, c1, c2, c3, c4, c5, cf⟩ := q2.facts6
    have HB2 := hide hb2
    have HGX := hide hx
    have hs2 := Cv.ok.below hs0 hb2
    clear hb2 hx
    go_wp2
    clear c0 c1 c2 c3 c4 c5 cf
    go_loopg [1, 10] n (fun g v1 v wr => ∃ j : Nat, g + j = n ∧ v = .int .i64 j ∧ v1 = .int .i64 x ∧ Hid (∀ i (hi : i < j) (h : i < zs.length), ¬ (zs[i].x < x ∧ x < zs[i].y)) ∧ Below w1.heap.size w1 wr)
    case atStart => exact ⟨0, by omega, rfl, rfl, hide (fun i hi => by omega), HB2.out⟩
    case round =>
      rename World => wr
      obtain ⟨j, hj, rfl, rfl, HP, hb3⟩ := hrel
      have HB3 := hide hb3
      by_cases hlt : j < n
      · have hjl : j < zs.length := by have := HL.out; omega
        have hji : (j : Int) < (n : Int) := by omega
        have hs3 := Cv.ok.below hs0 hb3
        obtain ⟨b, o, hA, hb, hc⟩ := hs3.cells (k := j) hlt
        simp only at hA hc
        subst hA
        obtain ⟨e0, e1⟩ := hc j hjl
        have hzb := HZ.out _ (List.getElem_mem hjl)
        have HNO := hide (fun (h : (zs[j]'hjl).x < x ∧ x < (zs[j]'hjl).y) => clear_no (List.getElem_mem hjl) h)
        have HPN := hide (fun (h : ¬ ((zs[j]'hjl).x < x ∧ x < (zs[j]'hjl).y)) => show ∀ i (hi : i < j + 1) (h : i < zs.length), ¬ (zs[i].x < x ∧ x < zs[i].y) from fun i hi h2 => by
          by_cases hij : i = j
          · subst hij; exact h
          · exact HP.out i (by omega) h2)
        generalize zs[j]'hjl = z at *
        obtain ⟨zx, zy⟩ := z
        simp only at e0 e1 hzb HNO HPN
        have q1 := Blk.new wr 45 #[.int .i64 zx, .int .i64 zy]
        have HB5 := hide (hb3.alloc hb3.size (.cells #[.int .i64 zx, .int .i64 zy] 45))
        clear HP hb3 hc hs3
        go_upto_region 4 with fail
        clear e0 e1
        generalize wr.alloc _ = w5 at *
        generalize wr.heap.size = g5 at *
        obtain ⟨x0, x1, xf⟩ := q1.facts2
        by_cases h1 : zx < x
        · by_cases h2 : x < zy
          · have h2d : decide (x < zy) = true := by simpa using h2
            have h1d : decide (zx < x) = true := by simpa using h1
            have HNX := hide (show clearB zs f = false ∧ f < zy ∧ zy ≤ 100 from by
              have := HNO.out ⟨h1, h2⟩
              rcases HX.out with h | h
              · subst h; exact ⟨this, by omega, by omega⟩
              · exact ⟨h.1, by omega, by omega⟩)
            have hz100 : zy ≤ 100 := by omega
            have hgx := HGX.out
            clear HNO HPN q1
            go_wp2
            go_roundg (100 - zy.toNat)
            case measure => omega
            case rel => exact ⟨zy, rfl, rfl, by omega, hide (.inr HNX.out), HB5.out⟩
          · have h2d : decide (x < zy) = false := by simpa using h2
            have h1d : decide (zx < x) = true := by simpa using h1
            have HP2 := hide (HPN.out (by omega))
            clear HNO HPN q1
            go_wp2
            go_roundg (n - (j + 1))
            case measure => omega
            case rel => exact ⟨j + 1, by omega, by go_num, rfl, HP2, HB5.out⟩
        · have h1d : decide (zx < x) = false := by simpa using h1
          have HP2 := hide (HPN.out (by omega))
          clear HNO HPN q1
          go_wp2
          go_roundg (n - (j + 1))
          case measure => omega
          case rel => exact ⟨j + 1, by omega, by go_num, rfl, HP2, HB5.out⟩
      · have hji : ¬ ((j : Int) < (n : Int)) := by omega
        have HCL := hide (show clearB zs x = true from clearB_iff.2 (fun z hz => by
          obtain ⟨i, hi, rfl⟩ := List.getElem_of_mem hz
          exact HP.out i (by have := HL.out; omega) hi))
        have HBZ := hide (hb0.trans (hb3.mono hb0.size))
        clear hb3 HP
        go_wp2
        go_ret
        refine ⟨x, rfl, fun h => ?_, fun h => ?_, HCL.out, HBZ.out⟩
        · rcases HX.out with h1 | h1
          · exact h1
          · rw [h] at h1; exact absurd h1.1 (by decide)
        · rcases HX.out with h1 | h1
          · subst h1; rw [h] at HCL; exact absurd HCL.out (by decide)
          · exact h1.2
end Go.Proofs.YtodamjjlnagpjaaGreatDoor
namespace Go.Proofs.YtodamjjlnagpjaaGreatDoor
open Go.RowKit

set_option maxHeartbeats 1600000 in
set_option maxRecDepth 20000 in
theorem ucheck_ok (u : Un) (hg : UnG u) (w : World) (hs : u.ok w) :
    Calls Tryz.prog 70 #[.agg u.arr] w fun e w' => e = .returned (.int .i64 0) ∧ Below w.heap.size w w' := by
  have q0 := Blk.new w 90 u.arr
  have hb0 := bel1 (w := w) (o := .cells u.arr 90)
  have hs0 := hs.below hb0
  have HK := hide (fun W h => cvck_ok u.t hg.t W h)
  have HZ := hide hg.z
  have hzn := hg.zn
  have HL := hide hs.2.len
  have hne := hg.t.ne
  have HT := hide hg.t
  obtain ⟨hlo1, hlo2, hhi⟩ := hg.lo
  obtain ⟨hup0, hup1⟩ := hg.up
  obtain ⟨hdn0, hdn1⟩ := hg.dn
  rw [Un.arr6] at q0 hb0 hs0 ⊢
  clear hs hg
  obtain ⟨t, lo, hi, ⟨A, n, c, zs⟩, up, dn⟩ := u
  simp only at HK HL HZ hzn hne HT hlo1 hlo2 hhi hup0 hup1 hdn0 hdn1
  unfold Cv.v at q0 hb0 hs0 ⊢
  simp only at q0 hb0 hs0 ⊢
  obtain ⟨tA, tn, tc, tps⟩ := t
  simp only at HK hne HT
  have hn10 : n ≤ 10 := by have := HL.out; omega
  obtain ⟨c0, c1, c2, c3, c4, c5, cf⟩ := q0.facts6
  simp only at c0
  go_enter Tryz.func70, Tryz.ntmps70
  go_wp2_with fail
  generalize w.alloc _ = w1 at *
  refine (HK.out w1 hs0.1).mono ?_
  rintro e w2 ⟨rfl, hb2⟩
  have q2 := q0.below hb2 q0.lt
  have ht2 := hs0.1.below hb2
  have hr2 := hs0.2.below hb2
  have hB2 := bthr hb0 hb2 hb0.size
  clear c0 c1 c2 c3 c4 c5 cf hs0 hb2 q0 hb0 HK
  obtain ⟨c0, c1, c2, c3, c4, c5, cf⟩ := q2.facts6
  obtain ⟨b, o, hA, hb, hc⟩ := ht2.block hne
  simp only at hA hc
  subst hA
  have htl := ht2.len
  simp only at htl
  obtain ⟨m, hm⟩ : ∃ m : Nat, tn = m + 1 := ⟨tn - 1, by omega⟩
  have hml : m < tps.length := by omega
  have hmi : (tn : Int) - 1 = (m : Int) := by omega
  have hmn : m < tn := by omega
  have hmni : (m : Int) < (tn : Int) := by omega
  obtain ⟨m0, m1⟩ := hc m hml
  have hmb := HT.out.at_ hml
  have htn : tn ≤ 100 := by have := HT.out.le; omega
  generalize tps[m]'hml = pm at *
  obtain ⟨xm, ym⟩ := pm
  simp only at m0 m1 hmb
  have hd1 : decide (1073741824 < ym) = false := by simp; omega
  have hd2 : decide (lo < 1) = false := by simp; omega
  have hd3 : decide (hi < lo) = false := by simp; omega
  have hd4 : decide (1073741824 < hi) = false := by simp; omega
  have hd5 : decide (10 < (n : Int)) = false := by simp; omega
  clear hc m0 HT htl hm ht2
  go_wp2
  go_loopw [47] (fun i wr => ∃ k : Nat, k ≤ n ∧ i = .int .i64 k ∧ Below w2.heap.size w2 wr) (fun i _ => n - (intOf i).toNat)
  case atStart => exact ⟨0, by omega, rfl, Below.refl _ _⟩
  case round =>
    obtain ⟨k, hk, rfl, hb3⟩ := hrel
    have q3 := q2.below hb3 q2.lt
    have HB3 := hide hb3
    clear c0 c1 c2 c3 c4 c5 cf m1
    obtain ⟨c0, c1, c2, c3, c4, c5, cf⟩ := q3.facts6
    by_cases hlt : k < n
    · have hkl : k < zs.length := by have := HL.out; omega
      have hki : (k : Int) < (n : Int) := by omega
      have hs3 := Cv.ok.below hr2 hb3
      obtain ⟨b', o', hA, hb', hc⟩ := hs3.cells (k := k) hlt
      simp only at hA hc
      subst hA
      obtain ⟨e0, e1⟩ := hc k hkl
      have hzb := HZ.out _ (List.getElem_mem hkl)
      generalize zs[k]'hkl = z at *
      obtain ⟨zx, zy⟩ := z
      simp only at e0 e1 hzb
      have q1 := Blk.new wr 45 #[.int .i64 zx, .int .i64 zy]
      have HB5 := hide (hb3.alloc hb3.size (.cells #[.int .i64 zx, .int .i64 zy] 45))
      clear hb3 hc hs3
      go_upto_region 13 with fail
      clear e0 e1 c0 c1 c2 c3 c4 c5 cf
      generalize wr.alloc _ = w5 at *
      generalize wr.heap.size = g5 at *
      obtain ⟨x0, x1, xf⟩ := q1.facts2
      go_wp2_with fail
      refine (within_true _ _ (by omega) (by omega) _).mono ?_
      rintro e w' ⟨rfl, rfl⟩
      go_wp2_with fail
      refine (within_true _ _ (by omega) (by omega) _).mono ?_
      rintro e w' ⟨rfl, rfl⟩
      have hd6 : decide (zy ≤ zx) = false := by simp; omega
      go_wp2
      go_roundw
      case rel => exact ⟨k + 1, by omega, by go_num, HB5.out⟩
      case measure => simp [intOf]; omega
    · have hki : ¬ ((k : Int) < (n : Int)) := by omega
      have HBZ := hide (bthr hB2 hb3 hB2.size)
      clear hb3
      go_wp2_with fail
      refine (within_true _ _ (by omega) (by omega) _).mono ?_
      rintro e w' ⟨rfl, rfl⟩
      go_wp2_with fail
      refine (within_true _ _ (by omega) (by omega) _).mono ?_
      rintro e w' ⟨rfl, rfl⟩
      go_wp2
      go_ret
      exact ⟨rfl, HBZ.out⟩
set_option maxRecDepth 20000 in
theorem runs_any (u : Un) (f : Int) (hg : UnG u) (w : World) (hs : u.ok w) :
    Calls Tryz.prog 115 #[.agg u.arr, .int .i64 f] w fun e w' => e = .returned (.bool (runsB u f)) ∧ Below w.heap.size w w' := by
  have q0 := Blk.new w 90 u.arr
  have hb0 := bel1 (w := w) (o := .cells u.arr 90)
  have hs0 := hs.below hb0
  have HK := hide (fun W (hf : 0 ≤ f) h => beyond_any u f hf hg W h)
  have HR := hide (runsB_iff (u := u) (f := f))
  obtain ⟨hlo1, hlo2, hhi⟩ := hg.lo
  rw [Un.arr6] at q0 hb0 hs0 HK ⊢
  generalize runsB u f = rb at *
  generalize u.r.ps = zs at *
  obtain ⟨c0, c1, c2, c3, c4, c5, cf⟩ := q0.facts6
  clear hs hg
  generalize u.lo = lo at *
  generalize u.hi = hi at *
  generalize u.t.v = tv at *
  generalize u.r.v = rv at *
  generalize u.up = up at *
  generalize u.dn = dn at *
  by_cases h1 : lo ≤ f
  · by_cases h2 : f ≤ hi
    · have h1d : decide (lo ≤ f) = true := by simpa using h1
      have h2d : decide (f ≤ hi) = true := by simpa using h2
      go_enter Tryz.func115, Tryz.ntmps115
      go_wp2_with fail
      generalize w.alloc _ = w1 at *
      refine (HK.out w1 (by omega) hs0).mono ?_
      rintro e w2 ⟨r, rfl, r1, r2, r3, hb2⟩
      have HB := hide (bthr hb0 hb2 hb0.size)
      have HX := hide (show (r == f) = rb from by
        cases hc : clearB zs f
        · have := r2 hc
          have e1 : rb = false := by
            cases rb
            · rfl
            · have := (HR.out.1 rfl).2; rw [hc] at this; cases this
          rw [e1]; simp; omega
        · have := r1 hc
          have e1 : rb = true := HR.out.2 ⟨⟨h1, h2⟩, hc⟩
          rw [e1]; simp; omega)
      clear c0 c1 c2 c3 c4 c5 cf hs0 hb2 q0 hb0 r1 r2 r3 HK
      go_wp2
      go_ret
      exact ⟨ret_bool HX.out, HB.out⟩
    · have h1d : decide (lo ≤ f) = true := by simpa using h1
      have h2d : decide (f ≤ hi) = false := by simpa using h2
      have HX := hide (show false = rb from by
        cases rb
        · rfl
        · have := (HR.out.1 rfl).1; omega)
      have HB := hide hb0
      go_enter Tryz.func115, Tryz.ntmps115
      go_wp2
      go_ret
      exact ⟨ret_bool HX.out, HB.out⟩
  · have h1d : decide (lo ≤ f) = false := by simpa using h1
    have HX := hide (show false = rb from by
      cases rb
      · rfl
      · have := (HR.out.1 rfl).1; omega)
    have HB := hide hb0
    go_enter Tryz.func115, Tryz.ntmps115
    go_wp2
    go_ret
    exact ⟨ret_bool HX.out, HB.out⟩
end Go.Proofs.YtodamjjlnagpjaaGreatDoor
namespace Go.Proofs.YtodamjjlnagpjaaGreatDoor
open Go.RowKit

theorem Blk.facts3 {w : World} {g : Nat} {t : TypeId} {a0 a1 a2 : Value} (h : Blk w g t #[a0, a1, a2]) : w.cell? ⟨g, 0, none⟩ = some a0 ∧ w.cell? ⟨g, 1, none⟩ = some a1 ∧ w.cell? ⟨g, 2, none⟩ = some a2 ∧ (∀ o, w.frozen? ⟨g, o, none⟩ = false) := by
  unfold Blk at h
  exact ⟨by simp [World.cell?, h], by simp [World.cell?, h], by simp [World.cell?, h], fun o => by simp [World.frozen?, h]⟩
theorem Blk.facts4 {w : World} {g : Nat} {t : TypeId} {a0 a1 a2 a3 : Value} (h : Blk w g t #[a0, a1, a2, a3]) : w.cell? ⟨g, 0, none⟩ = some a0 ∧ w.cell? ⟨g, 1, none⟩ = some a1 ∧ w.cell? ⟨g, 2, none⟩ = some a2 ∧ w.cell? ⟨g, 3, none⟩ = some a3 ∧ (∀ o, w.frozen? ⟨g, o, none⟩ = false) := by
  unfold Blk at h
  exact ⟨by simp [World.cell?, h], by simp [World.cell?, h], by simp [World.cell?, h], by simp [World.cell?, h], fun o => by simp [World.frozen?, h]⟩
/-- Two blocks laid one behind the other. -/
theorem blk_two (w : World) (t1 t2 : TypeId) (c1 c2 : Array Value) : Blk ((w.alloc (.cells c1 t1)).alloc (.cells c2 t2)) w.heap.size t1 c1 ∧ Blk ((w.alloc (.cells c1 t1)).alloc (.cells c2 t2)) (w.heap.size + 1) t2 c2 ∧ Below w.heap.size w ((w.alloc (.cells c1 t1)).alloc (.cells c2 t2)) := by
  refine ⟨(Blk.new _ _ _).alloc _, ?_, ((Below.refl _ _).alloc (Nat.le_refl _) _).alloc (by simp only [World.size_alloc]; omega) _⟩
  have := Blk.new (w.alloc (.cells c1 t1)) t2 c2
  rwa [World.size_alloc] at this
set_option maxRecDepth 20000 in
theorem ufits_ok (u : Un) (s : Us) (hg : UnG u) (hu : UsG u s) (w : World) (hs : u.ok w) :
    Calls Tryz.prog 98 #[.agg u.arr, .agg s.arr] w fun e w' => e = .returned (.bool true) ∧ Below w.heap.size w w' := by
  obtain ⟨q0, p0, hb0⟩ := blk_two w 90 93 u.arr s.arr
  have hs0 := hs.below hb0
  have HK := hide (fun W (f : Int) h => runs_any u f hg W h)
  obtain ⟨si0, si1⟩ := hu.si
  have HF := hide hu.fl
  rw [Un.arr6] at q0 p0 hb0 hs0 HK ⊢
  obtain ⟨fl, si, out⟩ := s
  unfold Us.arr at q0 p0 hb0 hs0 ⊢
  simp only at si0 si1 HF q0 p0 hb0 hs0 ⊢
  obtain ⟨c0, c1, c2, c3, c4, c5, cf⟩ := q0.facts6
  obtain ⟨d0, d1, d2, df⟩ := p0.facts3
  generalize u.lo = lo at *
  generalize u.hi = hi at *
  generalize u.t.v = tv at *
  generalize u.r.v = rv at *
  generalize u.up = up at *
  generalize u.dn = dn at *
  have HB0 := hide hb0
  clear hu hg hs
  go_enter Tryz.func98, Tryz.ntmps98
  go_wp2_with fail
  refine (within_true _ _ (by omega) (by omega) _).mono ?_
  rintro e w' ⟨rfl, rfl⟩
  by_cases hf : fl = 0
  · subst hf
    go_wp2
    go_ret
    exact ⟨rfl, HB0.out⟩
  · have hfd : (fl == 0) = false := by simpa using hf
    obtain ⟨ho, hr⟩ : out = false ∧ runsB u fl = true := by
      rcases HF.out with h | h
      · exact absurd h hf
      · exact h
    subst ho
    go_wp2_with fail
    refine (HK.out _ fl hs0).mono ?_
    rintro e w2 ⟨rfl, hb2⟩
    rw [hr]
    have HB := hide (bthr HB0.out hb2 HB0.out.size)
    clear c0 c1 c2 c3 c4 c5 cf d0 d1 d2 df hs0 hb0 hb2 q0 p0
    go_wp2
    go_ret
    exact ⟨rfl, HB.out⟩
set_option maxRecDepth 20000 in
theorem uvalid_ok (u : Un) (s : Us) (hg : UnG u) (hu : UsG u s) (w : World) (hs : u.ok w) :
    Calls Tryz.prog 73 #[.agg u.arr, .agg s.arr] w fun e w' => e = .returned (.bool true) ∧ Below w.heap.size w w' := by
  obtain ⟨q0, p0, hb0⟩ := blk_two w 90 93 u.arr s.arr
  have hs0 := hs.below hb0
  have HK := hide (fun W h => ucheck_ok u hg W h)
  have HF := hide (fun W h => ufits_ok u s hg hu W h)
  rw [Un.arr6] at q0 p0 hb0 hs0 HK HF ⊢
  obtain ⟨fl, si, out⟩ := s
  unfold Us.arr at q0 p0 hb0 hs0 HF ⊢
  simp only at q0 p0 hb0 hs0 HF ⊢
  obtain ⟨c0, c1, c2, c3, c4, c5, cf⟩ := q0.facts6
  obtain ⟨d0, d1, d2, df⟩ := p0.facts3
  clear hu hg hs
  go_enter Tryz.func73, Tryz.ntmps73
  go_wp2_with fail
  refine (HK.out _ hs0).mono ?_
  rintro e w2 ⟨rfl, hb2⟩
  have q2 := q0.below hb2 q0.lt
  have p2 := p0.below hb2 p0.lt
  have hs2 := hs0.below hb2
  have hB2 := bthr hb0 hb2 hb0.size
  clear c0 c1 c2 c3 c4 c5 cf d0 d1 d2 df hs0 hb0 hb2 q0 p0
  obtain ⟨c0, c1, c2, c3, c4, c5, cf⟩ := q2.facts6
  obtain ⟨d0, d1, d2, df⟩ := p2.facts3
  go_wp2_with fail
  refine (HF.out _ hs2).mono ?_
  rintro e w3 ⟨rfl, hb3⟩
  have HB := hide (bthr hB2 hb3 hB2.size)
  clear c0 c1 c2 c3 c4 c5 cf d0 d1 d2 df hs2 hB2 hb3 q2 p2
  go_wp2
  go_ret
  exact ⟨rfl, HB.out⟩
/-- What may says. -/
def MayQ (rb out : Bool) (f : Int) (w : World) (e : Ending) (w' : World) : Prop := ∃ m : Bool, e = .returned (.bool m) ∧ (m = true → f = 0 ∨ (rb = true ∧ out = false)) ∧ Below w.heap.size w w'
set_option maxRecDepth 20000 in
theorem umay_any (u : Un) (s : Us) (f : Int) (hg : UnG u) (w : World) (hs : u.ok w) :
    Calls Tryz.prog 114 #[.agg u.arr, .agg s.arr, .int .i64 f] w (MayQ (runsB u f) s.out f w) := by
  obtain ⟨q0, p0, hb0⟩ := blk_two w 90 93 u.arr s.arr
  have hs0 := hs.below hb0
  have HK := hide (fun W h => runs_any u f hg W h)
  rw [Un.arr6] at q0 p0 hb0 hs0 HK ⊢
  generalize runsB u f = rb at *
  obtain ⟨fl, si, out⟩ := s
  unfold Us.arr at q0 p0 hb0 hs0 ⊢
  simp only at q0 p0 hb0 hs0 ⊢
  obtain ⟨c0, c1, c2, c3, c4, c5, cf⟩ := q0.facts6
  obtain ⟨d0, d1, d2, df⟩ := p0.facts3
  generalize u.lo = lo at *
  generalize u.hi = hi at *
  generalize u.t.v = tv at *
  generalize u.r.v = rv at *
  generalize u.up = up at *
  generalize u.dn = dn at *
  have HB0 := hide hb0
  clear hg hs
  go_enter Tryz.func114, Tryz.ntmps114
  by_cases hf : f = 0
  · subst hf
    by_cases hfl : 0 < fl
    · have hfd : decide (0 < fl) = true := by simpa using hfl
      go_wp2
      go_ret
      exact ⟨_, rfl, fun _ => .inl rfl, HB0.out⟩
    · have hfd : decide (0 < fl) = false := by simpa using hfl
      go_wp2
      go_ret
      exact ⟨_, rfl, fun _ => .inl rfl, HB0.out⟩
  · have hfd : (f == 0) = false := by simpa using hf
    cases out
    · by_cases hfl : fl = 0
      · subst hfl
        by_cases hsi : si < dn
        · have hsd : decide (si < dn) = true := by simpa using hsi
          go_wp2
          go_ret
          exact ⟨_, rfl, fun h => (by cases h), HB0.out⟩
        · have hsd : decide (si < dn) = false := by simpa using hsi
          go_wp2_with fail
          refine (HK.out _ hs0).mono ?_
          rintro e w2 ⟨rfl, hb2⟩
          have HB := hide (bthr HB0.out hb2 HB0.out.size)
          clear c0 c1 c2 c3 c4 c5 cf d0 d1 d2 df hs0 hb0 hb2 q0 p0
          go_wp2
          go_ret
          exact ⟨_, rfl, fun h => .inr ⟨h, rfl⟩, HB.out⟩
      · have hfld : (fl == 0) = false := by simpa using hfl
        go_wp2_with fail
        refine (HK.out _ hs0).mono ?_
        rintro e w2 ⟨rfl, hb2⟩
        have HB := hide (bthr HB0.out hb2 HB0.out.size)
        clear c0 c1 c2 c3 c4 c5 cf d0 d1 d2 df hs0 hb0 hb2 q0 p0
        go_wp2
        go_ret
        exact ⟨_, rfl, fun h => .inr ⟨h, rfl⟩, HB.out⟩
    · go_wp2
      go_ret
      exact ⟨_, rfl, fun h => (by cases h), HB0.out⟩
set_option maxRecDepth 20000 in
theorem uMay_any (u : Un) (s : Us) (f : Int) (hg : UnG u) (hu : UsG u s) (w : World) (hs : u.ok w) :
    Calls Tryz.prog 147 #[.agg u.arr, .agg s.arr, .int .i64 f] w (MayQ (runsB u f) s.out f w) := by
  obtain ⟨q0, p0, hb0⟩ := blk_two w 90 93 u.arr s.arr
  have hs0 := hs.below hb0
  have HK := hide (fun W h => uvalid_ok u s hg hu W h)
  have HF := hide (fun W h => umay_any u s f hg W h)
  rw [Un.arr6] at q0 p0 hb0 hs0 HK HF ⊢
  generalize runsB u f = rb at *
  obtain ⟨fl, si, out⟩ := s
  unfold Us.arr at q0 p0 hb0 hs0 HF HK ⊢
  simp only at q0 p0 hb0 hs0 HF HK ⊢
  obtain ⟨c0, c1, c2, c3, c4, c5, cf⟩ := q0.facts6
  obtain ⟨d0, d1, d2, df⟩ := p0.facts3
  clear hu hg hs
  go_enter Tryz.func147, Tryz.ntmps147
  go_wp2_with fail
  refine (HK.out _ hs0).mono ?_
  rintro e w2 ⟨rfl, hb2⟩
  have q2 := q0.below hb2 q0.lt
  have p2 := p0.below hb2 p0.lt
  have hs2 := hs0.below hb2
  have hB2 := bthr hb0 hb2 hb0.size
  clear c0 c1 c2 c3 c4 c5 cf d0 d1 d2 df hs0 hb0 hb2 q0 p0
  obtain ⟨c0, c1, c2, c3, c4, c5, cf⟩ := q2.facts6
  obtain ⟨d0, d1, d2, df⟩ := p2.facts3
  go_wp2_with fail
  refine (HF.out _ hs2).mono ?_
  rintro e w3 ⟨m, rfl, hm, hb3⟩
  have HM := hide hm
  have HB := hide (bthr hB2 hb3 hB2.size)
  clear c0 c1 c2 c3 c4 c5 cf d0 d1 d2 df hs2 hB2 hb3 q2 p2 hm
  go_wp2
  go_ret
  exact ⟨_, rfl, HM.out, HB.out⟩
end Go.Proofs.YtodamjjlnagpjaaGreatDoor
