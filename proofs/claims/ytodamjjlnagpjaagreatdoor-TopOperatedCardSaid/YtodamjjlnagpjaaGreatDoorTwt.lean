/-
  The contract of (work).turbines. Condition: the dam and its state lie in memory and are valid.
-/
import Derived.Test.YtodamjjlnagpjaaGreatDoorProg
import Derived.Test.YtodamjjlnagpjaaGreatDoorTwg
import Derived.Test.YtodamjjlnagpjaaGreatDoorTbe
namespace Go.Proofs.YtodamjjlnagpjaaGreatDoor
open Go.RowKit

def UsIn (us : List Un) (zs : List Us) : Prop := ∀ (i : Nat) (u : Un) (s : Us), us[i]? = some u → zs[i]? = some s → UsG u s
theorem UsIn.snoc {us : List Un} {zs : List Us} {k : Nat} {u : Un} {s : Us} (h : UsIn us zs) (hk : zs.length = k) (hg : us[k]? = some u) (hs : UsG u s) : UsIn us (zs ++ [s]) := by
  intro i u' s' h1 h2
  by_cases hi : i < zs.length
  · rw [List.getElem?_append_left hi] at h2; exact h i u' s' h1 h2
  · rw [List.getElem?_append_right (by omega)] at h2
    have hi0 : i - zs.length = 0 := by
      cases hq : i - zs.length with
      | zero => rfl
      | succ n => rw [hq] at h2; simp at h2
    rw [hi0] at h2
    have hik : i = k := by omega
    rw [hik, hg] at h1
    injection h1 with h1
    injection h2 with h2
    rw [← h1, ← h2]; exact hs
def NextCut2 (un : Un) (y : Nat) (w5 wx : World) : Prop := ∃ (s : Us), UsG un s ∧ Blk wx y 93 s.arr ∧ Below w5.heap.size w5 wx
theorem slUs : SlT Tryz.prog 32 93 3 := slT_of (z := .agg #[.int .i64 0, .int .i64 0, .bool false]) (bytes := 24) Tryz.underlying32 (by kernel_rfl) rfl (by decide) (by decide)
def NextCut (un : Un) (w5 : World) (v8 v9 v10 : Value) (wx : World) : Prop := ∃ (y : Nat) (s : Us) (st : Bool) (er : Int), v8 = .pointer (some ⟨y, 0, none⟩) ∧ v9 = .bool st ∧ v10 = .int .i64 er ∧ w5.heap.size ≤ y ∧ (er = 0 → UsG un s) ∧ Blk wx y 93 s.arr ∧ Below w5.heap.size w5 wx
def TurbQ (x : Wk) (B : Nat) (w : World) (F : Int) (w' : World) : Prop := ∃ (A : Option Addr) (n c : Nat) (tu pw st : Int) (zs : List Us), (0 ≤ tu ∧ tu ≤ x.rl ∧ tu ≤ F ∧ (x.d.us = [] → tu = 0)) ∧ n = x.d.us.length ∧ zs.length = x.d.us.length ∧ UsIn x.d.us zs ∧
  WkAt w' B { x with nu := .slice A n c, tu := tu, pw := pw, st := st } ∧ w'.ownsRow w.heap.size 93 3 (.slice A n c) n (usCells zs) ∧ w.grownBy w' (some B)
def TurbP (x : Wk) (B : Nat) (w : World) (e : Ending) (w' : World) : Prop := e = .returned (.tuple #[]) ∧ TurbQ x B w (freeV x.d x.lf) w'
theorem sum_take_le {fs : List Int} (h : ∀ f ∈ fs, 0 ≤ f) : ∀ k, 0 ≤ (fs.take k).sum ∧ (fs.take k).sum ≤ fs.sum := by
  induction fs with
  | nil => intro k; simp
  | cons a t ih =>
    intro k
    have ha := h a (by simp)
    have ih := ih fun f hf => h f (List.mem_cons_of_mem _ hf)
    cases k with
    | zero => have := ih t.length; simp only [List.take_length] at this; simp; omega
    | succ k => have := ih k; simp; omega
theorem sum_take_succ : ∀ (fs : List Int) (k : Nat), k < fs.length → (fs.take (k + 1)).sum = (fs.take k).sum + fs.getD k 0
  | a :: t, 0, _ => by simp
  | a :: t, k + 1, h => by
    have ih := sum_take_succ t k (by simpa using h)
    simp only [List.take_succ_cons, List.sum_cons, ih, List.getD_cons_succ]
    omega
theorem flows_of {w3 : World} {z un : Nat} {v : Value} {er M : Int} {fs : List Int} (hM : 0 ≤ M) (h : er = 0 → fs.length = un ∧ w3.ownsRow z 3 1 v un (ints fs) ∧ (∀ f ∈ fs, 0 ≤ f) ∧ fs.sum ≤ M) :
    ∃ gs : List Int, gs.length = un ∧ (∀ f ∈ gs, 0 ≤ f) ∧ gs.sum ≤ M ∧ ((er = 0 ∧ (0 < un → ∃ bf cf, v = .slice (some ⟨bf, 0, none⟩) un cf ∧ z ≤ bf ∧ bf < w3.heap.size ∧ ∀ k, k < un → w3.cell? ⟨bf, k, none⟩ = some (.int .i64 (gs.getD k 0)))) ∨ (er ≠ 0 ∧ ∀ k, k < un → gs.getD k 0 = 0)) := by
  by_cases he : er = 0
  · obtain ⟨hl, hr, hp, hs⟩ := h he
    refine ⟨fs, hl, hp, hs, .inl ⟨he, fun hn => ?_⟩⟩
    obtain ⟨g, cap, rfl, hz, hg⟩ := hr.form hn
    exact ⟨g, cap, rfl, hz, hg, fun k hk => (hr.cellAt k (by omega)).trans (ints_get fs k (by omega))⟩
  · refine ⟨List.replicate un 0, by simp, fun f hf => by rw [List.eq_of_mem_replicate hf]; omega, ?_, .inr ⟨he, fun k hk => by simp [List.getD_eq_getElem?_getD, hk]⟩⟩
    have e : ∀ n : Nat, (List.replicate n (0 : Int)).sum = 0 := fun n => by
      induction n with
      | zero => rfl
      | succ n ih => rw [List.replicate_succ, List.sum_cons, ih]; rfl
    rw [e]; exact hM
theorem cell_of_grown {w w' : World} {B : Nat} (h : w.grownBy w' (some B)) {bf k : Nat} (hl : bf < w.heap.size) (hn : bf ≠ B) : w'.cell? ⟨bf, k, none⟩ = w.cell? ⟨bf, k, none⟩ :=
  World.cell?_of_block (h.block bf hl fun e => hn (by injection e))
theorem sl_us {W : World} {g : Nat} {x y z : Value} (h : Blk W g 93 #[x, y, z]) : Sl W W.heap.size 3 (some ⟨g, 0, none⟩) 1 1 [x, y, z] := by
  refine ⟨rfl, Nat.le_refl _, by unfold maxLen; omega, fun _ => ⟨g, 0, rfl, h.lt, fun j u hu => ?_⟩⟩
  rw [h.facts.1, Nat.zero_add, ← hu]
  simp
theorem min3 (a b c : Int) (W : World) : (Builtin.min_ #[3, 3, 3] 3 #[.int .i64 a, .int .i64 b, .int .i64 c]).run Tryz.prog W = .ok (.int .i64 (min a (min b c))) W := by
  have e : min a (min b c) = (if c < (if b < a then b else a) then c else (if b < a then b else a)) := by
    split <;> split at * <;> omega
  rw [e]
  simp [Builtin.min_, Builtin.min2]
set_option maxHeartbeats 1600000 in
set_option maxRecDepth 20000 in
theorem wturb_any (u : FrameMode) (x : Wk) (B : Nat) (hg : DmG x.d) (hsg : DsG x.d x.s) (w0 w : World) (hs : x.d.ok w0) (ht : x.s.ok w0) (hb : Below w0.heap.size w0 w) (hB : w0.heap.size ≤ B) (hw : WkAt w B x) (hl : 0 ≤ x.lf ∧ x.lf ≤ 1099511627776) (hr : 0 ≤ x.rl ∧ x.rl ≤ 1073741824) (htu : x.tu = 0) (hnu : x.nu = .slice none 0 0) :
    CallsD Tryz.prog 57 #[.pointer (some ⟨B, 0, none⟩)] u w fun e u' w' => u' = u ∧ TurbP x B w e w' := by
  have hfv := freeV_in hg hl.1
  have HF := hide (fun (W : World) (hW : Below w0.heap.size w0 W) (hy : WkAt W B x) => (free_any x B hg W (hs.below hW) hy (by omega)))
  have HBE := hide (fun (W : World) (hW : Below w0.heap.size w0 W) (wa : Int) (hwa : 0 ≤ wa ∧ wa ≤ 1073741824) => best_any ⟨x.d.uA, x.d.un, x.d.uc, x.d.us, x.s.uA, x.s.un, x.s.uc, x.s.us⟩ x.d.gr wa hg.gr hwa ⟨hg.un, hsg.ul, hg.u, hsg.u⟩ W ⟨(hs.below hW).2.1.1, (hs.below hW).2.1.2, (ht.below hW).1⟩)
  simp only at HBE
  unfold TurbP
  obtain ⟨l0, l1⟩ := hl
  obtain ⟨r0, r1⟩ := hr
  obtain ⟨gr0, gr1⟩ := hg.gr
  generalize hF : freeV x.d x.lf = F at *
  clear hF
  have c24 := hw.c_rl
  have c8 := hw.c_gr
  have hwd : WkAt w.drew B x := hw
  have hwr1 : IntKind.i64.wrap (200 * x.d.gr) = 200 * x.d.gr := by rw [IntKind.wrap_i64]; omega
  have hmn := min3
  go_enter_d Tryz.func57, Tryz.ntmps57
  go_wp2_with fail
  go_region_held3 (fun w' => w'.cell? ⟨B, 24, none⟩ = some (.int .i64 x.rl) ∧ w'.cell? ⟨B, 8, none⟩ = some (.int .i64 x.d.gr))
    (first | exact ⟨c24, c8⟩ | exact ⟨d24, d8⟩)
    (first | (go_at_call 84; (with_reducible refine (HF.out w.drew hb.drew hwd).mono ?_); rintro e w2 ⟨rfl, h2⟩; have hb2 := bthr hb.drew h2 hb.size; have hw2 := hwd.below h2; have d24 := hw2.c_rl; have d8 := hw2.c_gr))
  have hz2 : w.heap.size ≤ w2.heap.size := h2.size
  have hg2 : w.grownBy w2 (some B) := grown_trans (grown_drewN (grown_refl w (some B)) 1) (grown_below h2 (some B))
  clear d24 c24 c8 HF h2 hwd
  have c6 := hw2.c_us
  have c11 := hw2.c_sus
  have hmM : 0 ≤ min x.rl (min F (200 * x.d.gr)) ∧ min x.rl (min F (200 * x.d.gr)) ≤ 1073741824 := by omega
  obtain ⟨M, hM⟩ : ∃ M, min x.rl (min F (200 * x.d.gr)) = M := ⟨_, rfl⟩
  have hMr : M ≤ x.rl ∧ M ≤ F := by omega
  rw [hM] at hmM
  go_wp2_with fail
  rw [hM]
  clear hM hwr1 hmn
  go_region_held3 (fun w' => w'.cell? ⟨B, 6, none⟩ = some (.slice x.d.uA x.d.un x.d.uc) ∧ w'.cell? ⟨B, 11, none⟩ = some (.slice x.s.uA x.s.un x.s.uc) ∧ w'.cell? ⟨B, 8, none⟩ = some (.int .i64 x.d.gr))
    (first | exact ⟨c6, c11, d8⟩ | exact ⟨e6, e11, e8⟩)
    (first | (go_at_call 85; (with_reducible refine (HBE.out w2.drew hb2.drew _ hmM).mono ?_); rintro e w3 ⟨v, er, fs, rfl, hbs, h3⟩; have hbs' := hide hbs; clear hbs; have hw3 := (show WkAt w2.drew B x from hw2).below h3; have e6 := hw3.c_us; have e11 := hw3.c_sus; have e8 := hw3.c_gr))
  have hBw := hw.lt
  have hz3 : w2.heap.size ≤ w3.heap.size := h3.size
  have hg3 := hide (grown_trans (grown_drewN hg2 1) (grown_below h3 (some B)))
  have hb3 := hide (bthr hb2.drew h3 hb2.size)
  obtain ⟨gs, hgl, hgp, hgM, hcase⟩ := flows_of hmM.1 hbs'.out
  have HGP := hide (sum_take_le hgp)
  have HGS := hide (fun k hk => sum_take_succ gs k hk)
  have HCA := hide hcase
  clear hcase hgp
  have hun : x.d.un = x.d.us.length := (hs.lenU)
  have HAU := hide (fun (W : World) (hW : Below w0.heap.size w0 W) (k : Nat) (hk : k < x.d.un) => And.intro (Dm.unit (hs.below hW) hg hk) (Ds.unit (ht.below hW) hsg (k := k) (by have := hs.lenU; omega)))
  have hzB : B < w2.heap.size := Nat.lt_of_lt_of_le hBw hz2
  clear c6 c11 d8 e8 e11 hbs' h3 hw2 hb2 hg2 HBE hz2
  have hun' := hide hun
  have hu6 : x.d.un ≤ 6 := by have := hg.un; omega
  have HSU := hide (show x.s.un = x.d.un by have := ht.lenU; have := hsg.ul; omega)
  clear hun
  generalize huA : x.d.uA = uA at *
  generalize hsA : x.s.uA = sA at *
  have HUA := hide huA
  have HSA := hide hsA
  clear huA hsA
  go_wp2
  go_loopw [52] (fun i wr => ∃ (k : Nat) (nu : Value) (tu pw st : Int) (zs : List Us), k ≤ x.d.un ∧ i = .int .i64 k ∧ WkAt wr B { x with nu := nu, tu := tu, pw := pw, st := st } ∧ Hid (tu = (gs.take k).sum) ∧ zs.length = k ∧ UsIn x.d.us zs ∧ wr.ownsRow w3.heap.size 93 3 nu k (usCells zs) ∧ w3.grownBy wr (some B)) (fun i _ => x.d.un - (intOf i).toNat)
  case atStart => exact ⟨0, .slice none 0 0, 0, x.pw, x.st, [], by omega, rfl, by rw [← htu, ← hnu]; exact hw3, hide (by simp), rfl, fun i u s h1 h2 => by simp at h2, World.ownsRow_nil _ _ _ _, grown_refl _ _⟩
  case round =>
    obtain ⟨k, nu, tu, pw, st, zs, hk, rfl, hwk, htk, hzl, hin, hrow, hgr⟩ := hrel
    have HIN := hide hin
    have HZL := hide hzl
    have HROW := hide hrow
    have HGR := hide hgr
    have hzr := hgr.size
    have HBR := hide (below_grown hb3.out hgr hb3.out.size hB)
    clear hin hzl hrow hgr
    by_cases hlt : k < x.d.un
    · have hki : (k : Int) < (x.d.un : Int) := by omega
      have hki2 : (k : Int) < (x.s.un : Int) := by rw [HSU.out]; exact hki
      obtain ⟨⟨b, o, un, hA, hu1, huo, hug, e0, e1, e2, e3, e4, e5⟩, b2, o2, u', us, hA2, hu2, hus, hus1, g0, g1, g2⟩ := HAU.out wr HBR.out k hlt
      obtain rfl : un = u' := by rw [hu1] at hu2; injection hu2
      obtain rfl : uA = some ⟨b, o, none⟩ := hA
      obtain rfl : sA = some ⟨b2, o2, none⟩ := hA2
      have HU1 := hide hu1
      unfold Cv.v at e0 e3
      have q1 := Blk.new wr 90 un.arr
      have hb1 := bel1 (w := wr) (o := .cells un.arr 90)
      have HB5 := hide (bthr HBR.out hb1 HBR.out.size)
      have HR5 := hide (HROW.out.alloc (.cells un.arr 90))
      have HG5 := hide (grown_trans HGR.out (grown_below hb1 (some B)))
      have hw5 := hwk.below hb1
      have hu5 := huo.below hb1
      have g0' := cell_thr hb1 g0
      have g1' := cell_thr hb1 g1
      have g2' := cell_thr hb1 g2
      have hsz5 : wr.heap.size < (wr.alloc (.cells un.arr 90)).heap.size := by simp
      obtain ⟨fk, hfk⟩ : ∃ f, gs.getD k 0 = f := ⟨_, rfl⟩
      have HFK := hide hfk
      clear hfk
      have HPN := hide (fun W hW => unext_any un us fk hug hus W hW)
      have HPP := hide (fun W hW => upower_any un fk hug W hW)
      rw [Un.arr7] at q1 hb1 HB5 HR5 HG5 hw5 hu5 g0' g1' g2' hsz5 HPN HPP
      unfold Us.arr at HPN
      clear hu1 hu2 hus1 huo g0 g1 g2
      go_upto_if 58 with fail
      clear e0 e1 e2 e3 e4 e5
      generalize wr.alloc _ = w5 at *
      go_cut [7] (fun vv wx => vv = .int .i64 fk ∧ wx = w5)
      case first =>
        rcases HCA.out with ⟨he, hf⟩ | ⟨he, hf⟩
        · subst he
          obtain ⟨bf, cf, rfl, hz, hbf, hcf⟩ := hf (by omega)
          have hc5 := (cell_of_grown HG5.out hbf (by have h9 : w2.heap.size ≤ bf := hz; omega)).trans (hcf k hlt)
          rw [HFK.out] at hc5
          clear hcf hf
          go_wp2
          go_meet
          exact ⟨rfl, rfl⟩
        · have hbe : (er == 0) = false := by simpa using he
          have hfk := (HFK.out).symm.trans (hf k hlt)
          clear hf
          go_wp2
          go_meet
          exact ⟨by rw [hfk], rfl⟩
      case rest =>
        obtain ⟨rfl, rfl⟩ := hcut
        rename World => wc
        obtain ⟨c0, c1, c2, c3, c4, c5, cf⟩ := q1.facts6
        have c11 := hw5.c_sus
        simp only at c11
        rw [HSA.out] at c11
        have hbd : Below wc.heap.size wc wc.drew := (Below.refl _ _).drew
        have hS : ∀ w' : World, Below wc.heap.size wc w' → w'.cell? ⟨wr.heap.size, 0, none⟩ = some (.slice un.t.A un.t.n un.t.c) ∧ w'.cell? ⟨wr.heap.size, 1, none⟩ = some (.int .i64 un.lo) ∧ w'.cell? ⟨wr.heap.size, 2, none⟩ = some (.int .i64 un.hi) ∧ w'.cell? ⟨wr.heap.size, 3, none⟩ = some (.slice un.r.A un.r.n un.r.c) ∧ w'.cell? ⟨wr.heap.size, 4, none⟩ = some (.int .i64 un.up) ∧ w'.cell? ⟨wr.heap.size, 5, none⟩ = some (.int .i64 un.dn) ∧ w'.cell? ⟨B, 11, none⟩ = some (.slice (some ⟨b2, o2, none⟩) x.s.un x.s.uc) ∧ w'.cell? ⟨b2, o2 + k * 3, none⟩ = some (.int .i64 us.fl) ∧ w'.cell? ⟨b2, o2 + k * 3 + 1, none⟩ = some (.int .i64 us.si) ∧ w'.cell? ⟨b2, o2 + k * 3 + 2, none⟩ = some (.bool us.out) := fun w' hw' => ⟨cell_thr hw' c0, cell_thr hw' c1, cell_thr hw' c2, cell_thr hw' c3, cell_thr hw' c4, cell_thr hw' c5, cell_thr hw' c11, cell_thr hw' g0', cell_thr hw' g1', cell_thr hw' g2'⟩
        have HSS := hide hS
        have hq2 : ∀ X, Below wc.heap.size wc (wc.alloc X).drew := fun X => ((Below.refl _ _).alloc (Nat.le_refl _) X).drew
        have hu5d := hu5.below hbd
        have hu5a := fun X => hu5.below (hq2 X)
        clear hS
        go_wp2_with fail
        go_cut [8, 9, 10] (fun v8 v9 v10 wx => NextCut un wc v8 v9 v10 wx)
        -- <8
        case first =>
          go_region_held3 (fun w' => w'.cell? ⟨wr.heap.size, 0, none⟩ = some (.slice un.t.A un.t.n un.t.c) ∧ w'.cell? ⟨wr.heap.size, 1, none⟩ = some (.int .i64 un.lo) ∧ w'.cell? ⟨wr.heap.size, 2, none⟩ = some (.int .i64 un.hi) ∧ w'.cell? ⟨wr.heap.size, 3, none⟩ = some (.slice un.r.A un.r.n un.r.c) ∧ w'.cell? ⟨wr.heap.size, 4, none⟩ = some (.int .i64 un.up) ∧ w'.cell? ⟨wr.heap.size, 5, none⟩ = some (.int .i64 un.dn) ∧ w'.cell? ⟨B, 11, none⟩ = some (.slice (some ⟨b2, o2, none⟩) x.s.un x.s.uc) ∧ w'.cell? ⟨b2, o2 + k * 3, none⟩ = some (.int .i64 us.fl) ∧ w'.cell? ⟨b2, o2 + k * 3 + 1, none⟩ = some (.int .i64 us.si) ∧ w'.cell? ⟨b2, o2 + k * 3 + 2, none⟩ = some (.bool us.out))
            (first | exact HSS.out _ hbd | exact HSS.out _ (hq2 _) | exact HSS.out _ hb6 | exact HSS.out _ (hb6.alloc hb6.size _) | exact HSS.out _ (((hb6.setCell (p := ⟨wc.heap.size, 0, none⟩) (Nat.le_refl _) _).setCell (p := ⟨wc.heap.size, 1, none⟩) (Nat.le_refl _) _).setCell (p := ⟨wc.heap.size, 2, none⟩) (Nat.le_refl _) _))
            (first | (go_at_call 86; (with_reducible refine (HPN.out wc.drew hu5d).mono ?_); rintro e w6 ⟨s9, st9, er9, rfl, hus6, h6⟩; have hb6 := bthr hbd h6 hbd.size; have hus7 := hide hus6; clear hus6; have hn9 := hide (show NextCut un wc (.pointer (some ⟨w6.heap.size, 0, none⟩)) (.bool st9) (.int .i64 er9) (w6.alloc (.cells s9.arr 93)) from ⟨_, s9, st9, er9, rfl, rfl, rfl, hb6.size, hus7.out, Blk.new _ _ _, hb6.alloc hb6.size _⟩); unfold Us.arr at hn9 ⊢) | (go_at_call 86; (with_reducible refine (HPN.out (wc.alloc (.cells #[.int .i64 0, .int .i64 0, .bool false] 93)).drew (hu5a _)).mono ?_); rintro e w6 ⟨s9, st9, er9, rfl, hus6, h6⟩; have hb6 := bthr (hq2 _) h6 (hq2 _).size; have hus7 := hide hus6; clear hus6; have hz5 : Blk (wc.alloc (.cells #[.int .i64 0, .int .i64 0, .bool false] 93)).drew wc.heap.size 93 #[.int .i64 0, .int .i64 0, .bool false] := Blk.new wc 93 _; have hz6 := hz5.below h6 hz5.lt; obtain ⟨z0, z1, z2, zf⟩ := hz6.facts3; have hb7 := (((hb6.setCell (p := ⟨wc.heap.size, 0, none⟩) (Nat.le_refl _) (.int .i64 s9.fl)).setCell (p := ⟨wc.heap.size, 1, none⟩) (Nat.le_refl _) (.int .i64 s9.si)).setCell (p := ⟨wc.heap.size, 2, none⟩) (Nat.le_refl _) (.bool s9.out)); have hn9 := hide (show NextCut un wc (.pointer (some ⟨wc.heap.size, 0, none⟩)) (.bool st9) (.int .i64 er9) (((w6.setCell ⟨wc.heap.size, 0, none⟩ (.int .i64 s9.fl)).setCell ⟨wc.heap.size, 1, none⟩ (.int .i64 s9.si)).setCell ⟨wc.heap.size, 2, none⟩ (.bool s9.out)) from ⟨_, s9, st9, er9, rfl, rfl, rfl, Nat.le_refl _, hus7.out, ((Blk.set (Blk.set (Blk.set hz6 0 (.int .i64 s9.fl)) 1 (.int .i64 s9.si)) 2 (.bool s9.out))), hb7⟩); unfold Us.arr))
          all_goals
            go_wp2_with fail
            go_meet
            first | exact hn9.out | (trace_state; fail)
        -- 8>
        case rest =>
          rename World => w6
          obtain ⟨y, s9, st9, er9, rfl, rfl, rfl, hy, hus9, hby, hb6⟩ := hcut
          have HUS9 := hide hus9
          have hBc := hw5.lt
          have hgm2 := cell_thr hb6 g2'
          have e11 := (hw5.below hb6).c_sus
          simp only at e11
          rw [HSA.out] at e11
          obtain ⟨y0, y1, y2, yf⟩ := hby.facts3
          have HB6 := hide hb6
          have HBY := hide hby
          clear hus9 hbd HSS hq2 hu5d hu5a hb6
          go_upto_if 79 with fail
          go_cut [] (fun wx => NextCut2 un y wc wx)
          case first =>
            by_cases he : er9 = 0
            · have hbe : (er9 != 0) = false := by simpa using he
              have hR : NextCut2 un y wc w6 := ⟨s9, HUS9.out he, HBY.out, HB6.out⟩
              go_wp2
              go_meet
              exact hR
            · have hbe : (er9 != 0) = true := by simpa using he
              have hR : NextCut2 un y wc (((w6.setCell ⟨y, 0, none⟩ (.int .i64 0)).setCell ⟨y, 1, none⟩ (.int .i64 1)).setCell ⟨y, 2, none⟩ (.bool us.out)) :=
                ⟨⟨0, 1, us.out⟩, ⟨⟨by simp, by simp⟩, .inl rfl⟩, Blk.set (Blk.set (Blk.set HBY.out 0 (.int .i64 0)) 1 (.int .i64 1)) 2 (.bool us.out), ((HB6.out.setCell (p := ⟨y, 0, none⟩) hy _).setCell (p := ⟨y, 1, none⟩) hy _).setCell (p := ⟨y, 2, none⟩) hy _⟩
              go_wp2
              go_meet
              exact hR
          case rest =>
            rename World => w7
            obtain ⟨sn, hsn, hby7, hb7⟩ := hcut
            have HSN := hide hsn
            have hw7 := hw5.below hb7
            have q7 := q1.below hb7 q1.lt
            have hu7 := hu5.below hb7
            have HR7 := hide (ownsRow_agree (w' := w7) HR5.out (fun g hg => hb7.block g (HR5.out.lt g hg).2))
            have HG7 := hide (grown_trans HG5.out (grown_below hb7 (some B)))
            have HBZ7 := hide (bthr HB5.out hb7 HB5.out.size)
            have hsz7 : wr.heap.size < w7.heap.size := Nat.lt_of_lt_of_le hsz5 hb7.size
            clear c0 c1 c2 c3 c4 c5 cf c11 e11 y0 y1 y2 yf hgm2 HUS9 HB6 HBY hw5 q1 hu5 HR5 HG5 HB5 hsz5 g0' g1' g2' hsn
            obtain ⟨c0, c1, c2, c3, c4, c5, cf⟩ := q7.facts6
            go_wp2_with fail
            refine (HPP.out w7 hu7).mono ?_
            rintro e w8 ⟨pp, pe, rfl, h8⟩
            have hw8 := hw7.below h8
            have hby8 := hby7.below h8 hby7.lt
            have HR8 := hide (ownsRow_agree (w' := w8) HR7.out (fun g hg => h8.block g (HR7.out.lt g hg).2))
            have HG8 := hide (grown_trans HG7.out (grown_below h8 (some B)))
            have HBZ8 := hide (bthr HBZ7.out h8 HBZ7.out.size)
            have hsz8 : wr.heap.size < w8.heap.size := Nat.lt_of_lt_of_le hsz7 h8.size
            clear c0 c1 c2 c3 c4 c5 cf q7 hu7 HR7 HG7 HBZ7 hsz7 h8 hw7 hby7 hb7 HPP HPN
            have c19 := hw8.c_tu
            have c22 := hw8.c_pw
            have f19 := hw8.frozen 19
            have f22 := hw8.frozen 22
            simp only at c19 c22
            obtain ⟨pw2, hpw2⟩ : ∃ q, IntKind.i64.wrap (pw + pp) = q := ⟨_, rfl⟩
            obtain ⟨t2, ht2⟩ : ∃ q, tu + fk = q := ⟨_, rfl⟩
            have htk2 : t2 = (gs.take (k + 1)).sum := by rw [← ht2, htk.out, HGS.out k (by rw [hgl]; exact hlt), HFK.out]
            have ht2b : 0 ≤ t2 ∧ t2 ≤ M := by have := HGP.out (k + 1); omega
            have hwt : IntKind.i64.wrap t2 = t2 := by rw [IntKind.wrap_i64]; omega
            have HTK2 := hide htk2
            have k1 := hw8.set (y := { x with nu := nu, tu := t2, pw := pw, st := st }) 19 (.int .i64 t2) rfl
            have k2 := k1.set (y := { x with nu := nu, tu := t2, pw := pw2, st := st }) 22 (.int .i64 pw2) rfl
            have g9 := grown_drewN (grown_set (grown_set (grown_refl w8 (some B)) (p := ⟨B, 19, none⟩) (.inl rfl) (.int .i64 t2)) (p := ⟨B, 22, none⟩) (.inl rfl) (.int .i64 pw2)) 1
            have m22 := k1.c_pw
            have mf22 := k1.frozen 22
            simp only at m22
            clear htk2
            go_wp2_with fail
            go_cut [] (fun wx => WkAt wx B { x with nu := nu, tu := t2, pw := pw2, st := st } ∧ w8.grownBy wx (some B))
            -- <12
            case first =>
              go_region_law (fail)
              all_goals
                go_wp2_with fail
                go_meet
                first | exact ⟨k2.drew, g9⟩ | (trace_state; fail)
            -- 12>
            case rest =>
              rename World => w9
              obtain ⟨hw9, hg9⟩ := hcut
              have hby9 := hby8.only hg9 (by have := hw8.lt; omega)
              have HR9 := hide (ownsRow_agree (w' := w9) HR8.out (fun g hg => hg9.block g (HR8.out.lt g hg).2 (fun e => by injection e with e; have := (HR8.out.lt g hg).1; omega)))
              have HG9 := hide (grown_trans HG8.out hg9)
              have HBZ9 := hide (below_grown HBZ8.out hg9 HBZ8.out.size hB)
              have hsz9 : wr.heap.size < w9.heap.size := Nat.lt_of_lt_of_le hsz8 hg9.size
              clear c19 c22 f19 f22 m22 mf22 k1 k2 g9 HR8 HG8 HBZ8 hsz8 hg9 hw8 hby8 hwt
              have c23 := hw9.c_sta
              have f23 := hw9.frozen 23
              simp only at c23
              go_upto_if 118 with fail
              go_cut [] (fun wx => ∃ st2, WkAt wx B { x with nu := nu, tu := t2, pw := pw2, st := st2 } ∧ w9.grownBy wx (some B))
              -- <14
              case first =>
                obtain ⟨sq, hsq⟩ : ∃ q, IntKind.i64.wrap (st + 1) = q := ⟨_, rfl⟩
                have hka := hide (hw9.set (y := { x with nu := nu, tu := t2, pw := pw2, st := sq }) 23 (.int .i64 sq) rfl)
                cases st9
                · go_wp2
                  go_meet
                  exact ⟨st, hw9, grown_refl _ _⟩
                · go_wp2
                  go_meet
                  exact ⟨_, hka.out, grown_set (grown_refl w9 (some B)) (p := ⟨B, 23, none⟩) (.inl rfl) _⟩
              -- 14>
              case rest =>
                rename World => w10
                obtain ⟨st2, hw10, hg10⟩ := hcut
                have hby10 := hby9.only hg10 (by omega)
                have HR10 := hide (ownsRow_agree (w' := w10) HR9.out (fun g hg => hg10.block g (HR9.out.lt g hg).2 (fun e => by injection e with e; have := (HR9.out.lt g hg).1; omega)))
                have HG10 := hide (grown_trans HG9.out hg10)
                have HBZ10 := hide (below_grown HBZ9.out hg10 HBZ9.out.size hB)
                have hsz10 : wr.heap.size < w10.heap.size := Nat.lt_of_lt_of_le hsz9 hg10.size
                clear c23 f23 HR9 HG9 HBZ9 hsz9 hg10 hw9 hby9
                have c15 := hw10.c_nu
                simp only at c15
                obtain ⟨y0, y1, y2, yf⟩ := hby10.facts3
                have hrA : ((w10.alloc (.cells #[.int .i64 sn.fl, .int .i64 sn.si, .bool sn.out] 93)).drew).ownsRow w3.heap.size 93 3 nu k (usCells zs) := World.ownsRow.drew (World.ownsRow.alloc HR10.out _)
                have hwA : WkAt ((w10.alloc (.cells #[.int .i64 sn.fl, .int .i64 sn.si, .bool sn.out] 93)).drew) B { x with nu := nu, tu := t2, pw := pw2, st := st2 } := Blk.alloc hw10 _
                have hgA := grown_push (grown_drewN (grown_alloc HG10.out (.cells #[.int .i64 sn.fl, .int .i64 sn.si, .bool sn.out] 93)) 1) (grown_refl _ none) (fun k h => by cases h)
                have hzA : w3.heap.size ≤ ((w10.alloc (.cells #[.int .i64 sn.fl, .int .i64 sn.si, .bool sn.out] 93)).drew).heap.size := hgA.size
                have hsA : Sl ((w10.alloc (.cells #[.int .i64 sn.fl, .int .i64 sn.si, .bool sn.out] 93)).drew) ((w10.alloc (.cells #[.int .i64 sn.fl, .int .i64 sn.si, .bool sn.out] 93)).drew).heap.size 3 (some ⟨w10.heap.size, 0, none⟩) 1 1 [.int .i64 sn.fl, .int .i64 sn.si, .bool sn.out] := sl_us (Blk.new w10 93 #[.int .i64 sn.fl, .int .i64 sn.si, .bool sn.out])
                have c15a := cell_thr (bel1 (w := w10) (o := .cells #[.int .i64 sn.fl, .int .i64 sn.si, .bool sn.out] 93)) c15
                have HRA := hide hrA
                have HWA := hide hwA
                have HGA := hide hgA
                have HZA := hide hzA
                have HSA2 := hide hsA
                clear hrA hwA hgA hzA hsA
                go_wp2_with fail
                go_region_law (refine step_ext (w := (w10.alloc (.cells #[.int .i64 sn.fl, .int .i64 sn.si, .bool sn.out] 93)).drew) rfl (.tmp 133) (.tmp 135) 32 rfl w3.heap.size _ _ slUs nu k (usCells zs) (by simp [Act.eval]) HRA.out _ _ _ _ _ (by simp [Act.eval]) HSA2.out (by simp [Value.oneCell']) (by omega) HZA.out ?_; intro v' w11 hv11 hg11 _; obtain ⟨gv, cv, rfl, hgv, _⟩ := hv11.form (by omega); have hw11 : WkAt w11 B { x with nu := nu, tu := t2, pw := pw2, st := st2 } := (hg11.block B HWA.out.lt (fun e => by have := (HRA.out.lt B e.symm).1; omega)).trans HWA.out; have d15 := hw11.c_nu; simp only at d15; have f15 := hw11.frozen 15)
                all_goals
                  have k12 := hide (hw11.set (y := { x with nu := .slice (some ⟨gv, 0, none⟩) (k + 1) cv, tu := t2, pw := pw2, st := st2 }) 15 (.slice (some ⟨gv, 0, none⟩) (k + 1) cv) rfl)
                  have g12 := hide (grown_set (grown_push HGA.out hg11 (fun j hj => (HRA.out.lt j hj).1)) (p := ⟨B, 15, none⟩) (.inl rfl) (.slice (some ⟨gv, 0, none⟩) (k + 1) cv))
                  have r12 := hide (own_set hv11 (p := ⟨B, 15, none⟩) (fun e => by simp only [Value.ownBlock, Option.some.injEq] at e; omega) (.slice (some ⟨gv, 0, none⟩) (k + 1) cv))
                  clear hv11 hg11 hw11 d15 f15 c15 c15a y0 y1 y2 yf HRA HWA HGA HZA HSA2 HR10 HG10 HBZ10 hw10 hby10
                  go_wp2
                  go_roundw
                  case rel => exact ⟨k + 1, _, t2, pw2, st2, zs ++ [sn], by omega, by go_num, k12.out, HTK2, by rw [List.length_append, HZL.out]; rfl, HIN.out.snoc HZL.out HU1.out HSN.out, own_cells r12.out (by rw [usCells, usCells, cellsOf_append, cellsOf_one]; rfl), g12.out⟩
                  case measure => simp [intOf]; omega
    · have hki : ¬ ((k : Int) < (x.d.un : Int)) := by omega
      have hkn : k = x.d.un := by omega
      obtain ⟨A9, c9, rfl, _⟩ := own_sl HROW.out
      have hR : TurbQ x B w F wr := ⟨A9, k, c9, tu, pw, st, zs, ⟨by have := HGP.out k; have := htk.out; omega, by have := HGP.out k; have := htk.out; omega, by have := HGP.out k; have := htk.out; omega, fun h0 => by have h1 := htk.out; have h2 : k = 0 := (by rw [hkn, hun'.out, h0]; rfl); rw [h2] at h1; simpa using h1⟩, by rw [hkn]; exact hun'.out, by rw [HZL.out, hkn]; exact hun'.out, HIN.out, hwk, own_mono HROW.out hg3.out.size, grown_trans hg3.out HGR.out⟩
      go_wp2
      go_end0
      exact ⟨rfl, hR⟩
end Go.Proofs.YtodamjjlnagpjaaGreatDoor
