/-
  The walk of RightsSplit: it answers true. Condition: its list can be read.
-/
import Derived.Test.YtbkadeoganaemaaProg
import Derived.Test.YtbkadeoganaemaaRgx
import Derived.Test.YtbkadeoganaemaaRgow
import Derived.Test.YtbkadeoganaemaaExt
import Derived.Laws.OwnMore
namespace Go.Proofs.Ytbkadeoganaemaa
open Go.RowKit

theorem rtCells_one : ∀ (rs : List Rt) (u : Value), u ∈ rtCells rs → u.oneCell' = true
  | [], u, h => by simp [rtCells] at h
  | r :: t, u, h => by
    have e : rtCells (r :: t) = [.int .i64 r.date, .int .i64 r.flow, .int .i64 r.f, .int .i64 r.t] ++ rtCells t := by simp [rtCells, Rt.arr]
    rw [e] at h
    rcases List.mem_append.1 h with h | h
    · simp at h
      rcases h with rfl | rfl | rfl | rfl <;> rfl
    · exact rtCells_one t u h
theorem rtCells_set : ∀ (rs : List Rt) (i : Nat) (r : Rt) (k : Int), rs[i]? = some r → rtCells (rs.set i (withFl r k)) = (rtCells rs).set (i * 4 + 1) (.int .i64 k)
  | [], i, r, k, h => by simp at h
  | y :: t, 0, r, k, h => by
    simp at h
    subst h
    simp [rtCells, Rt.arr, withFl]
  | y :: t, i + 1, r, k, h => by
    have e : ∀ (y : Rt) (t : List Rt), rtCells (y :: t) = .int .i64 y.date :: .int .i64 y.flow :: .int .i64 y.f :: .int .i64 y.t :: rtCells t := fun y t => by simp [rtCells, Rt.arr]
    rw [List.set_cons_succ, e, e, rtCells_set t i r k (by simpa using h), show (i + 1) * 4 + 1 = (i * 4 + 1) + 1 + 1 + 1 + 1 by omega]
    rfl
theorem own_keep {w w' : World} {base n : Nat} {e : TypeId} {size : Nat} {v : Value} {xs : List Value} (h : w.ownsRow base e size v n xs) (hk : ∀ g, v.ownBlock = some g → w'.heap[g]? = w.heap[g]?) : w'.ownsRow base e size v n xs := by
  obtain ⟨h1, h2⟩ := h
  refine ⟨h1, ?_⟩
  rcases h2 with h | ⟨g', cap, cur, hv, hb, hh, hr⟩
  · exact .inl h
  · exact .inr ⟨g', cap, cur, hv, hb, (hk g' (by rw [hv]; rfl)).trans hh, hr⟩
theorem blk_setS {w : World} {g : Nat} {t : TypeId} {cs : Array Value} (h : Blk w g t cs) (i : Nat) (u : Value) : Blk (w.setCell ⟨g, i, none⟩ u) g t (cs.setIfInBounds i u) := by
  unfold Blk at h ⊢
  simp [World.setCell, Array.getElem?_modify, h]
theorem blk_farS {w : World} {g : Nat} {t : TypeId} {cs : Array Value} (h : Blk w g t cs) {p : Addr} (hp : g ≠ p.block) (u : Value) : Blk (w.setCell p u) g t cs := (Below.heap_setCell w p u g hp).trans h
/-- the row of rights and the box of the split one, behind the two stores -/
theorem split_stores {w : World} {base g gb m c i : Nat} {rs : List Rt} {r : Rt} {k x : Int} (ho : w.ownsRow base 31 4 (.slice (some ⟨g, 0, none⟩) m c) m (rtCells rs)) (hq : Blk w gb 31 #[.int .i64 r.date, .int .i64 r.flow, .int .i64 r.f, .int .i64 r.t]) (hne : g ≠ gb) (hr : rs[i]? = some r) :
    ((w.setCell ⟨g, i * 4 + 1, none⟩ (.int .i64 k)).setCell ⟨gb, 1, none⟩ (.int .i64 x)).ownsRow base 31 4 (.slice (some ⟨g, 0, none⟩) m c) m (rtCells (rs.set i (withFl r k))) ∧
    Blk ((w.setCell ⟨g, i * 4 + 1, none⟩ (.int .i64 k)).setCell ⟨gb, 1, none⟩ (.int .i64 x)) gb 31 #[.int .i64 r.date, .int .i64 x, .int .i64 r.f, .int .i64 r.t] := by
  have h1 := (ho.stored (i * 4 + 1) (.int .i64 k)).1
  rw [← rtCells_set rs i r k hr] at h1
  refine ⟨own_keep h1 (fun g' hg' => ?_), ?_⟩
  · have e : g' = g := by simp only [Value.ownBlock, Option.some.injEq] at hg'; exact hg'.symm
    subst e
    exact Below.heap_setCell _ _ _ _ hne
  · exact blk_setS (blk_farS hq (fun e => hne e.symm) _) 1 _
set_option maxHeartbeats 1600000 in
set_option maxRecDepth 20000 in
theorem rsplit_walk {A : Option Addr} {n c : Nat} {zs : List Int} {w : World} (hs : Sl w w.heap.size 1 A n c (ints zs)) (at_ pv av dy : Int) : Calls Try.prog 4 #[.slice A n c, .int .i64 at_, .int .i64 pv, .int .i64 av, .int .i64 dy] w fun e w' => e = .returned (.bool true) ∧ Below w.heap.size w w' := by
  go_enter Try.func4, Try.ntmps4
  go_wp2_with fail
  refine (new_any _ _ _ _ _ hs).mono ?_
  rintro e w1 ⟨rfl, hD1, hb1⟩
  have HB1 := hide hb1
  clear hs hb1
  go_wp2_with fail
  refine (rights_any _ _ hD1).mono ?_
  rintro e w2 ⟨Ar, cr, rs, rfl, hl6, hgd, hor, _, hg2⟩
  obtain ⟨m, hm⟩ : ∃ m, rs.length = m := ⟨_, rfl⟩
  rw [hm] at hor hl6
  have hck := good_ck hgd (by omega)
  have hsr := sl_ownv hor
  have HB2 := hide (below_grown HB1.out hg2 HB1.out.size (Nat.le_refl _))
  have HM := hide hm
  try simp only [hm]
  clear hD1 hg2 HB1 hgd hor hm
  by_cases hm0 : m = 0
  · subst hm0
    clear hck hsr
    go_wp2_with fail
    refine (awake_any _).mono ?_
    rintro e wz ⟨rfl, hbz⟩
    have HBY := hide (bthr HB2.out hbz HB2.out.size)
    clear hbz
    go_wp2
    go_ret
    exact ⟨rfl, HBY.out⟩
  · have hmp : 0 < m := by omega
    obtain ⟨a, ha⟩ : ∃ a, av % 60 = a := ⟨_, rfl⟩
    obtain ⟨d, hd⟩ : ∃ d, dy % 365 = d := ⟨_, rfl⟩
    have ha0 : 0 ≤ a ∧ a < 60 := by omega
    have hd0 : 0 ≤ d ∧ d < 365 := by omega
    obtain ⟨i, hi⟩ : ∃ i : Nat, at_ % (m : Int) = (i : Int) := ⟨(at_ % (m : Int)).toNat, by have := Int.emod_nonneg at_ (show (m : Int) ≠ 0 by omega); omega⟩
    have him : i < m := by have := Int.emod_lt_of_pos at_ (show (0 : Int) < m by omega); omega
    have hir : i < rs.length := by have := HM.out; omega
    have hgi := getR_at (rs := rs) hir
    have hri : rs[i]? = some (rs[i]'hir) := List.getElem?_eq_getElem hir
    obtain ⟨rd, hrd⟩ : ∃ x, (rs[i]'hir).date = x := ⟨_, rfl⟩
    obtain ⟨rq, hrq⟩ : ∃ x, (rs[i]'hir).flow = x := ⟨_, rfl⟩
    obtain ⟨rf, hrf⟩ : ∃ x, (rs[i]'hir).f = x := ⟨_, rfl⟩
    obtain ⟨rt, hrt⟩ : ∃ x, (rs[i]'hir).t = x := ⟨_, rfl⟩
    have her : rs[i]'hir = ⟨rd, rq, rf, rt⟩ := by rw [← hrd, ← hrq, ← hrf, ← hrt]
    have HEQ := hide (show getR rs (i : Int) = ⟨rd, rq, rf, rt⟩ from hgi.trans her)
    have HRI := hide (show rs[i]? = some ⟨rd, rq, rf, rt⟩ from hri.trans (by rw [her]))
    have HER := hide her
    have hfl := flowR_in hck (i : Int)
    rw [flowR_get, HEQ.out] at hfl
    obtain ⟨hq0, hq1⟩ : 0 ≤ rq ∧ rq ≤ 10000 := hfl
    obtain ⟨k, hk⟩ : ∃ k, pv % (rq + 1) = k := ⟨_, rfl⟩
    have hk0 : 0 ≤ k := by have := Int.emod_nonneg pv (show rq + 1 ≠ 0 by omega); omega
    have hk1 : k ≤ rq := by have := Int.emod_lt_of_pos pv (show 0 < rq + 1 by omega); omega
    have HA := hide ha
    have HD := hide hd
    have HI := hide hi
    have HK := hide hk
    have HMP := hide hmp
    have hb0 : ((m : Int) == 0) = false := by simp; omega
    have hwd : wit d 364 = true := wit_of (by omega) (by omega)
    have h12 : (actF rs d rs.length).length ≤ 12 := by have := actF_len rs d rs.length; have := HM.out; omega
    have hck2 := split_ck (k := k) hck (by have := HM.out; omega) hir (by rw [HEQ.out]; exact ⟨hk0, hk1⟩)
    have h12b : (actF (splitR rs i k) d (splitR rs i k).length).length ≤ 12 := by have := actF_len (splitR rs i k) d (splitR rs i k).length; have := split_len (rs := rs) (i := i) (k := k); have := HM.out; omega
    have HAL := hide (fun (W : World) (hW : Below w2.heap.size w2 W) => Allot_any Ar m cr rs d a W (hsr.thr hW) hck hwd ⟨ha0.1, by omega⟩ h12)
    have HAL2 := hide (fun (A16 : Option Addr) (m1 c16 : Nat) (W : World) (hW : Sl W W.heap.size 4 A16 m1 c16 (rtCells (splitR rs i k))) => Allot_any A16 m1 c16 (splitR rs i k) d a W hW hck2 hwd ⟨ha0.1, by omega⟩ h12b)
    have HS := hide hsr
    have HOTH := hide (fun (j : Nat) (hj : j < m) (hne : dateR rs (j : Int) ≠ dateR rs (i : Int)) => split_other (day := d) (a := a) hck hck2 ha0.1 hir (j := j) (by have := HM.out; omega) hne)
    have HOWN := hide (split_own (day := d) (a := a) hck hck2 ha0.1 hir)
    have HL1 := hide (alloc_len (day := d) (flowR_in hck) ha0.1)
    have HL2 := hide ((alloc_len (day := d) (flowR_in hck2) ha0.1).trans split_len)
    have HV := hide (fun (j : Nat) (hj : j < rs.length) => show 0 ≤ (allotR rs d a).getD j 0 ∧ (allotR rs d a).getD j 0 ≤ 10000 from by
      have h1 := got_in (day := d) hck ha0.1 hj
      have h2 := flowR_in hck (j : Int)
      have h3 : inV rs d j ≤ 10000 := by unfold inV; split <;> omega
      omega)
    have HV2 := hide (fun (j : Nat) (hj : j < (splitR rs i k).length) => show 0 ≤ (allotR (splitR rs i k) d a).getD j 0 ∧ (allotR (splitR rs i k) d a).getD j 0 ≤ 10000 from by
      have h1 := got_in (day := d) hck2 ha0.1 hj
      have h2 := flowR_in hck2 (j : Int)
      have h3 : inV (splitR rs i k) d j ≤ 10000 := by unfold inV; split <;> omega
      omega)
    obtain ⟨br, or_, rfl, _, hc⟩ := hsr.at_ him
    obtain ⟨e0, e1, e2, e3⟩ := rt_cells hc hir her
    have himi : (i : Int) < (m : Int) := by omega
    have hi0i : (0 : Int) ≤ (i : Int) := by omega
    have hm4 : 0 + m < 549755813888 := by omega
    clear ha hd hi hk hgi hri hrd hrq hrf hrt her hck hck2 h12 h12b hsr hc hm0 hwd
    go_upto_region 7 with (go_at_call 11; refine (mod_any _ _ (by omega) (by omega) _).mono ?_; rintro e w' ⟨rfl, rfl⟩; first | rw [HA.out] | rw [HD.out] | rw [HI.out] | rw [HK.out])
    clear e0 e1 e2 e3
    go_wp2_with (at_builtin; refine wpList_ext rfl _ _ _ rfl w2.heap.size _ _ slRt _ 0 [] rfl (World.ownsRow_nil _ _ _ _) _ _ _ _ _ rfl HS.out (rtCells_one rs) hm4 (Nat.le_refl _) ?_)
    intro v16 w3 hv3 hg3 _
    have hb3 : Below w2.heap.size w2 w3 := (Below.refl _ _).grown hg3 (Nat.le_refl _) (fun g hg => by cases hg)
    obtain ⟨g16, c16, rfl, hg16, hg16b⟩ := hv3.form hmp
    obtain ⟨y0, y1, y2, y3⟩ := (show w3.cell? ⟨br, or_ + i * 4, none⟩ = some (.int .i64 rd) ∧ w3.cell? ⟨br, or_ + i * 4 + 1, none⟩ = some (.int .i64 rq) ∧ w3.cell? ⟨br, or_ + i * 4 + 2, none⟩ = some (.int .i64 rf) ∧ w3.cell? ⟨br, or_ + i * 4 + 3, none⟩ = some (.int .i64 rt) from by
      obtain ⟨_, _, hA3, _, hc3⟩ := (HS.out.thr hb3).at_ him
      injection hA3 with hA3
      injection hA3 with eA1 eA2 _
      subst eA1 eA2
      exact rt_cells hc3 hir HER.out)
    have q7 := Blk.new w3 31 #[.int .i64 rd, .int .i64 rq, .int .i64 rf, .int .i64 rt]
    have hb4 := hb3.alloc hb3.size (.cells #[.int .i64 rd, .int .i64 rq, .int .i64 rf, .int .i64 rt] 31)
    have o4 := hv3.alloc (.cells #[.int .i64 rd, .int .i64 rq, .int .i64 rf, .int .i64 rt] 31)
    have hne : g16 ≠ w3.heap.size := by omega
    have hg7 : w2.heap.size ≤ w3.heap.size := hb3.size
    have HB3 := hide hb3
    clear hv3 hg3 hb3
    go_upto_region 9 with fail
    clear y0 y1 y2 y3
    generalize w3.alloc _ = w4 at *
    generalize w3.heap.size = g7 at *
    obtain ⟨-, y1⟩ := (show w4.cell? ⟨br, or_ + i * 4, none⟩ = some (.int .i64 rd) ∧ w4.cell? ⟨br, or_ + i * 4 + 1, none⟩ = some (.int .i64 rq) from by
      obtain ⟨_, _, hA3, _, hc3⟩ := (HS.out.thr hb4).at_ him
      injection hA3 with hA3
      injection hA3 with eA1 eA2 _
      subst eA1 eA2
      have h := rt_cells hc3 hir HER.out
      exact ⟨h.1, h.2.1⟩)
    have z1 := o4.cellAt (i * 4 + 1) (by omega)
    rw [(rtCells_get rs i hir).2.1, HER.out] at z1
    have z2 := o4.frozenAt (i * 4 + 1)
    obtain ⟨c0, c1, c2, c3, cf⟩ := q7.facts4
    obtain ⟨ho5, hq5⟩ := split_stores (k := k) (x := rq - k) o4 q7 hne HRI.out
    have hb5 : Below w2.heap.size w2 ((w4.setCell ⟨g16, i * 4 + 1, none⟩ (.int .i64 k)).setCell ⟨g7, 1, none⟩ (.int .i64 (rq - k))) := (hb4.setCell (p := ⟨g16, i * 4 + 1, none⟩) hg16 _).setCell (p := ⟨g7, 1, none⟩) hg7 _
    have HO5 := hide ho5
    have HQ5 := hide hq5
    have HB5 := hide hb5
    clear o4 q7 ho5 hq5 hb5 hb4
    go_upto_region 10 with fail
    clear y1 z1 z2 c0 c1 c2 c3 cf
    generalize (w4.setCell _ _).setCell _ _ = w5 at *
    obtain ⟨c0, c1, c2, c3, cf⟩ := HQ5.out.facts4
    have hml : m < 549755813888 := by omega
    go_wp2_with (at_builtin; refine wpList_push rfl _ _ _ rfl w2.heap.size _ _ slRt _ _ _ rfl HO5.out _ _ rfl rfl rfl hml HB5.out.size ?_)
    intro v6 w6 hv6 hg6 _
    have hb6 := HB5.out.grown hg6 HB5.out.size (fun g hg => (HO5.out.lt g hg).1)
    obtain ⟨A16, c6, rfl, hs6⟩ := own_sl hv6
    have hs6b : Sl w6 w6.heap.size 4 A16 (m + 1) c6 (rtCells (splitR rs i k)) := by
      have e : rtCells (splitR rs i k) = rtCells (rs.set i (withFl ⟨rd, rq, rf, rt⟩ k)) ++ [.int .i64 rd, .int .i64 (rq - k), .int .i64 rf, .int .i64 rt] := by
        unfold splitR
        rw [HEQ.out, rtCells_append]; rfl
      rw [e]; exact hs6
    obtain ⟨m1, hm1⟩ : ∃ m1, m + 1 = m1 := ⟨_, rfl⟩
    rw [hm1] at hs6b
    simp only [hm1]
    have HM1 := hide hm1
    have HS6 := hide hs6b
    have HB6 := hide hb6
    clear c0 c1 c2 c3 cf hv6 hg6 hb6 hs6 hs6b hm1
    go_wp2_with fail
    refine (HAL.out w6 HB6.out).mono ?_
    rintro e w7 ⟨v, rfl, hv, hb7⟩
    obtain ⟨Aa, ca, rfl, hsa⟩ := own_sl hv
    have HB7 := hide (bthr HB6.out hb7 HB6.out.size)
    have HS7 := hide (HS6.out.thr hb7)
    clear hv hb7 HAL
    go_wp2_with fail
    refine (HAL2.out A16 m1 c6 w7 HS7.out).mono ?_
    rintro e w8 ⟨v, rfl, hv, hb8⟩
    obtain ⟨Ab, cb, rfl, hsb⟩ := own_sl hv
    have HB8 := hide (bthr HB7.out hb8 HB7.out.size)
    have HSA := hide (hsa.thr hb8)
    have HSB := hide hsb
    have HSR := hide (HS.out.thr HB8.out)
    clear hv hb8 HAL2 hsa hsb
    have hmm : ((m : Int) != (m : Int)) = false := by simp
    have hmm1 : ((m1 : Int) != (m1 : Int)) = false := by simp
    generalize allotR rs d a = ga at *
    generalize allotR (splitR rs i k) d a = gb at *
    have him1 : i < m1 := by have := HM1.out; omega
    have hmm2 : m < m1 := by have := HM1.out; omega
    have hm1l : m1 ≤ 7 := by have := HM1.out; omega
    go_wp2_with fail
    go_loopw [22, 105] (fun v22 v105 wx => ∃ j ct : Nat, j ≤ m ∧ ct ≤ j ∧ (i < j → 1 ≤ ct) ∧ v105 = .int .i64 j ∧ v22 = .int .i64 ct ∧ Below w8.heap.size w8 wx) (fun _ v105 _ => m - (intOf v105).toNat)
    case atStart => exact ⟨0, 0, by omega, by omega, by omega, rfl, rfl, Below.refl _ _⟩
    case round =>
      obtain ⟨j, ct, hj, hcj, hij, rfl, rfl, hbx⟩ := hrel
      rename World => wx
      by_cases hjm : j < m
      · have hsx := HSR.out.thr hbx
        obtain ⟨r0, -⟩ := rt_at hsx him
        obtain ⟨r1, -⟩ := rt_at hsx hjm
        have HO := hide (HOTH.out j hjm)
        have HIJ := hide (show i = j → dateR rs (j : Int) = dateR rs (i : Int) from fun e => by rw [e])
        obtain ⟨ba, oa, rfl, _, hca⟩ := (HSA.out.thr hbx).at_ hjm
        obtain ⟨bb, ob, rfl, _, hcb⟩ := (HSB.out.thr hbx).at_ (show j < m1 by omega)
        have xa := hca j _ (ints_get ga j (by have := HL1.out; have := HM.out; omega))
        have xb := hcb j _ (ints_get gb j (by have := HL2.out; have := HM.out; omega))
        have hjmi : (j : Int) < (m : Int) := by omega
        have hj0i : (0 : Int) ≤ (j : Int) := by omega
        have hjm1 : (j : Int) < (m1 : Int) := by omega
        have HBX := hide hbx
        generalize dateR rs (j : Int) = dj at *
        generalize dateR rs (i : Int) = di at *
        clear hca hcb hbx hsx
        by_cases hdd : dj = di
        · have q1 : (dj == di) = true := by simp [hdd]
          have hij2 : i < j + 1 → 1 ≤ ct + 1 := by omega
          have HIJ2 := hide hij2
          clear hdd hij hij2 HIJ HO xa xb
          go_wp2_with fail
          go_quiet (fail)
          go_wp2
          go_roundw
          case rel => exact ⟨j + 1, ct + 1, by omega, by omega, HIJ2.out, by go_num, by go_num, below_drewN HBX.out _⟩
          case measure => simp [intOf]; omega
        · have q1 : (dj == di) = false := by simp [hdd]
          have hne : i ≠ j := fun e => hdd (HIJ.out e)
          have HIJ2 := hide (show i < j + 1 → 1 ≤ ct from fun h => hij (by omega))
          rw [HO.out hdd] at xb
          generalize ga.getD j 0 = x at *
          have hxx : (x != x) = false := by simp
          clear hdd hij hne HIJ HO
          go_wp2_with fail
          go_quiet (fail)
          go_wp2_with fail
          go_quiet (fail)
          go_wp2
          go_roundw
          case rel => exact ⟨j + 1, ct, by omega, by omega, HIJ2.out, by go_num, by go_num, below_drewN HBX.out _⟩
          case measure => simp [intOf]; omega
      · have hjm2 : j = m := by omega
        have hct : 1 ≤ ct := hij (by omega)
        have hct2 : ct ≤ 6 := by omega
        have hown := HOWN.out
        have hvi := HV.out i hir
        have hvi2 := HV2.out i (by have := split_len (rs := rs) (i := i) (k := k); omega)
        have hvn2 := HV2.out rs.length (by have := split_len (rs := rs) (i := i) (k := k); omega)
        rw [HM.out] at hown hvn2
        obtain ⟨ba, oa, rfl, _, hca⟩ := (HSA.out.thr hbx).at_ him
        obtain ⟨bb, ob, rfl, _, hcb⟩ := (HSB.out.thr hbx).at_ him1
        have xa := hca i _ (ints_get ga i (by have := HL1.out; have := HM.out; omega))
        have xb := hcb i _ (ints_get gb i (by have := HL2.out; have := HM.out; omega))
        have xn := hcb m _ (ints_get gb m (by have := HL2.out; have := HM.out; omega))
        have hjmi : ¬ ((j : Int) < (m : Int)) := by omega
        have him1i : (i : Int) < (m1 : Int) := by omega
        have hmm1i : (m : Int) < (m1 : Int) := by omega
        have hm0i : (0 : Int) ≤ (m : Int) := by omega
        have HBX := hide (bthr (bthr HB2.out HB8.out HB2.out.size) hbx (bthr HB2.out HB8.out HB2.out.size).size)
        generalize ga.getD i 0 = p1 at *
        generalize gb.getD i 0 = p2 at *
        generalize gb.getD m 0 = p3 at *
        clear hca hcb hbx hij hjm2 hcj HOTH HV HV2 HOWN
        go_wp2_with fail
        go_quiet (fail)
        go_upto_region 25 with fail
        obtain ⟨z, hz⟩ : ∃ z, p2 + p3 - p1 = z := ⟨_, rfl⟩
        rw [hz] at hown
        simp only [hz]
        have q1 : decide (z ≤ (ct : Int) + 1) = true := by simp; omega
        have q2 : decide (-z ≤ (ct : Int) + 1) = true := by simp; omega
        clear hz hvi hvi2 hvn2 xa xb xn
        go_wp2_with fail
        refine (awake_any _).mono ?_
        rintro e wz ⟨rfl, hbz⟩
        have HBY := hide (bthr (below_drewN HBX.out _) hbz (below_drewN HBX.out _).size)
        clear hbz
        go_wp2
        go_ret
        exact ⟨rfl, HBY.out⟩
end Go.Proofs.Ytbkadeoganaemaa
