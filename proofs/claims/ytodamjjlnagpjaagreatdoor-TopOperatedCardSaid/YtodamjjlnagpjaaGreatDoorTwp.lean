/-
  The contract of (work).run: the three deferred parts, the last one first. Condition: the dam and its state lie in memory and are valid.
  The contract of dam.Step at valid dams and states. Condition: the dam and its state lie in memory and are valid; the three numbers are flows.
-/
import Derived.Test.YtodamjjlnagpjaaGreatDoorProg
import Derived.Test.YtodamjjlnagpjaaGreatDoorTwt
import Derived.Defers
import Derived.Deep.RegionHeld3
import Derived.Test.YtodamjjlnagpjaaGreatDoorFind
namespace Go.Proofs.YtodamjjlnagpjaaGreatDoor
open Go.RowKit

/-- What a step under way has become. -/
structure RunQ (x : Wk) (B : Nat) (w w' : World) (L T S : Int) (y : Wk) : Prop where
  lo : L = min x.lo (x.s.vo + x.inf)
  t : 0 ≤ T ∧ T ≤ x.rl ∧ T ≤ freeV x.d (x.s.vo + x.inf - L) ∧ (x.d.us = [] → T = 0)
  sp : 0 ≤ S ∧ S ≤ freeV x.d (x.s.vo + x.inf - L) - T
  su : ∃ su, SuP x.d.gs x.s.gs x.lv (min x.rl (freeV x.d (x.s.vo + x.inf - L)) - T) su ∧ S = min su (freeV x.d (x.s.vo + x.inf - L) - T)
  at_ : WkAt w' B y
  eq : ∃ pw st uA un uc gA gn gc, y = overW { x with lo := L, tu := T, sp := S, pw := pw, st := st, lf := x.s.vo + x.inf - L, nu := .slice uA un uc, ng := .slice gA gn gc } ∧
    ∃ (zs : List Us) (ss : List Gs), un = x.d.us.length ∧ zs.length = x.d.us.length ∧ UsIn x.d.us zs ∧ gn = x.d.gs.length ∧ ss.length = x.d.gs.length ∧ StIn x.d.gs ss ∧
    w'.ownsRow w.heap.size 93 3 (.slice uA un uc) un (usCells zs) ∧ w'.ownsRow w.heap.size 99 2 (.slice gA gn gc) gn (gsCells ss)
  gr : w.grownBy w' (some B)
set_option maxHeartbeats 1600000 in
set_option maxRecDepth 20000 in
theorem wrun_any (x : Wk) (B : Nat) (hg : DmG x.d) (hsg : DsG x.d x.s) (w0 w : World) (hs : x.d.ok w0) (ht : x.s.ok w0) (hb : Below w0.heap.size w0 w) (hB : w0.heap.size ≤ B) (hw : WkAt w B x) (hi : 0 ≤ x.inf ∧ x.inf ≤ 1073741824) (hl : 0 ≤ x.lo ∧ x.lo ≤ 1073741824) (hr : 0 ≤ x.rl ∧ x.rl ≤ 1073741824) (htu : x.tu = 0) (hnu : x.nu = .slice none 0 0) (hlv : 0 ≤ x.lv ∧ x.lv ≤ 16777216) :
    Calls Tryz.prog 31 #[.pointer (some ⟨B, 0, none⟩)] w fun e w' => e = .returned (.tuple #[]) ∧ ∃ L T S y, RunQ x B w w' L T S y := by
  have hcv := (val_in hg.r.st x.d.r.cr).2
  have hvo : 0 ≤ x.s.vo ∧ x.s.vo ≤ 274877906944 := ⟨hsg.vo.1, by have := hsg.vo.2; unfold crestV at this; omega⟩
  go_enter_defers Tryz.func31, Tryz.ntmps31
  go_wp2_with fail
  have c9 := hw.c_svo
  have c17 := hw.c_inf
  have c25 := hw.c_lf
  have f25 := hw.frozen 25
  obtain ⟨V, hV⟩ : ∃ V, x.s.vo + x.inf = V := ⟨_, rfl⟩
  have hV1 : 0 ≤ V ∧ V ≤ 549755813888 := by omega
  have hwV : IntKind.i64.wrap V = V := by rw [IntKind.wrap_i64]; omega
  have k1 := hide (hw.set (y := { x with lf := V }) 25 (.int .i64 V) rfl)
  have g1 := hide (grown_drewN (grown_set (grown_refl w (some B)) (p := ⟨B, 25, none⟩) (.inl rfl) (.int .i64 V)) 1)
  go_cut [] from 5 to 18 (fun wx => WkAt wx B { x with lf := V } ∧ w.grownBy wx (some B))
  case first =>
    refine wp_region_noPanic ?_
    go_region_law (fail)
    all_goals
      refine NoPanic.normal ?_
      go_wp2_with fail
      go_meet
      first | exact ⟨k1.out.drew, g1.out⟩ | (trace_state; fail)
  case rest =>
    rename World => w1
    obtain ⟨hw1, hg1⟩ := hcut
    have c18 := hw1.c_lo
    have c25 := hw1.c_lf
    have f18 := hw1.frozen 18
    simp only at c18 c25
    obtain ⟨L, hL⟩ : ∃ L, min x.lo V = L := ⟨_, rfl⟩
    have hL1 : 0 ≤ L ∧ L ≤ V ∧ L ≤ x.lo := by omega
    have HL := hide hL
    have k2 := hide (hw1.set (y := { x with lo := L, lf := V }) 18 (.int .i64 L) rfl)
    have g2 := hide (grown_drewN (grown_set (grown_refl w1 (some B)) (p := ⟨B, 18, none⟩) (.inl rfl) (.int .i64 L)) 1)
    have HG1 := hide hg1
    clear c9 c17 f25 k1 g1 hwV hg1
    go_wp2_with fail
    go_cut [] from 19 to 32 (fun wx => WkAt wx B { x with lo := L, lf := V } ∧ w1.grownBy wx (some B))
    case first =>
      refine wp_region_noPanic ?_
      go_region_law (fail)
      all_goals
        refine NoPanic.normal ?_
        go_wp2_with fail
        go_meet
        first | exact ⟨k2.out.drew, g2.out⟩ | (trace_state; fail)
    case rest =>
      rename World => w2
      obtain ⟨hw2, hg2⟩ := hcut
      have d18 := hw2.c_lo
      have d25 := hw2.c_lf
      have f25 := hw2.frozen 25
      simp only at d18 d25
      have hwR : IntKind.i64.wrap (V - L) = V - L := by rw [IntKind.wrap_i64]; omega
      have k3 := hide (show WkAt ((w2.setCell ⟨B, 25, none⟩ (.int .i64 (V - L))).drew) B { x with lo := L, lf := V - L } from hw2.set (y := { x with lo := L, lf := V - L }) 25 (.int .i64 (V - L)) rfl)
      have g3 := hide (show w.grownBy ((w2.setCell ⟨B, 25, none⟩ (.int .i64 (V - L))).drew) (some B) from grown_trans (grown_trans HG1.out hg2) (grown_drewN (grown_set (grown_refl w2 (some B)) (p := ⟨B, 25, none⟩) (.inl rfl) (.int .i64 (V - L))) 1))
      clear c18 c25 f18 k2 g2 HG1 hg2 hL
      go_wp2_with fail
      have hBw := hw.lt
      have hb3 := hide (below_grown hb g3.out hb.size hB)
      refine wp_region_noPanic ?_
      go_region_law (fail)
      all_goals
        refine NoPanic.normal ?_
        generalize World.drew _ = w3 at *
        have hw3 := k3.out
        clear d18 d25 f25 hwR k3
        go_wp2
        refine leaves_cons (f := 57) (args := #[.pointer (some ⟨B, 0, none⟩)]) (by simp) (by simp [go_sem]) ?_
        refine (wturb_any _ { x with lo := L, lf := V - L } B hg hsg w0 w3 hs ht hb3.out hB hw3 ⟨by simp only; omega, by simp only; omega⟩ hr htu hnu).mono ?_
        rintro e u' w4 ⟨rfl, rfl, uA, un, uc, T, pw, st, zs, ⟨t0, t1, t2, t3⟩, hun, hzl, hin, hw4, hr4, hg4⟩
        have hb4 := below_grown hb3.out hg4 hb3.out.size hB
        have hf4 := freeV_in hg (l := V - L) (by omega)
        refine leaves_cons (f := 56) (args := #[.pointer (some ⟨B, 0, none⟩)]) (by simp [settle]) (by simp [go_sem]) ?_
        refine (wgates_any _ { x with lo := L, lf := V - L, nu := .slice uA un uc, tu := T, pw := pw, st := st } B hg hsg w0 w4 hs ht hb4 hB hw4 ⟨by simp only; omega, by simp only; omega⟩ hr ⟨t0, t1, t2⟩ hlv).mono ?_
        rintro e u' w5 ⟨rfl, rfl, gA, gn, gc, su, ss, hsu, hgn, hsl, hgi, hw5, hr5, hg5⟩
        have hb5 := below_grown hb4 hg5 hb4.size hB
        simp only at t1 t2 hgn hsl hgi hun hzl hin
        obtain ⟨S, hS⟩ : ∃ S, min su (freeV x.d (V - L) - T) = S := ⟨_, rfl⟩
        simp only [hS] at hw5
        have hsu0 := hsu.nn
        have hS1 : 0 ≤ S ∧ S ≤ freeV x.d (V - L) - T := by omega
        refine leaves_cons (f := 55) (args := #[.pointer (some ⟨B, 0, none⟩)]) (by simp [settle]) (by simp [go_sem]) ?_
        refine (over_any _ { x with lo := L, lf := V - L, nu := .slice uA un uc, ng := .slice gA gn gc, tu := T, sp := S, pw := pw, st := st } B hg w0 w5 hs hb5 hB hw5 ⟨by simp only; omega, by simp only; omega⟩ ⟨by simp only; omega, by simp only; omega⟩ ⟨by simp only; omega, by simp only; omega⟩).mono ?_
        rintro e u' w6 ⟨rfl, rfl, hw6, hg6⟩
        have hz3 := g3.out.size
        have hz4 := hg4.size
        have hQ : ∃ L T S y, RunQ x B w w6 L T S y := by
          refine ⟨L, T, S, _, ⟨by rw [hV]; exact HL.out.symm, by rw [hV]; exact ⟨t0, t1, t2, t3⟩, by rw [hV]; exact hS1, ⟨su, by rw [hV]; exact hsu, by rw [hV]; exact hS.symm⟩, hw6, ⟨pw, st, uA, un, uc, gA, gn, gc, by rw [hV], zs, ss, hun, hzl, hin, hgn, hsl, hgi, ?_, ?_⟩, grown_trans (grown_trans (grown_trans g3.out hg4) hg5) hg6⟩⟩
          · have h5 := ownsRow_agree (w' := w5) hr4 (fun g hg => hg5.block g (hr4.lt g hg).2 (fun e => by injection e with e; have := (hr4.lt g hg).1; omega))
            exact own_mono (ownsRow_agree (w' := w6) h5 (fun g hg => hg6.block g (h5.lt g hg).2 (fun e => by injection e with e; have := (h5.lt g hg).1; omega))) hz3
          · exact own_mono (ownsRow_agree (w' := w6) hr5 (fun g hg => hg6.block g (hr5.lt g hg).2 (fun e => by injection e with e; have := (hr5.lt g hg).1; omega))) (Nat.le_trans hz3 hz4)
        simpa [Leaves, settle, results, Tryz.results31, go_sem] using hQ
end Go.Proofs.YtodamjjlnagpjaaGreatDoor
namespace Go.Proofs.YtodamjjlnagpjaaGreatDoor
open Go.RowKit

/-- What a step gives. -/
structure StepQ (d : Dm) (s : Ds) (inf lo rl L T S O : Int) (s2 : Ds) : Prop where
  l : L = min lo (s.vo + inf)
  t : 0 ≤ T ∧ T ≤ rl ∧ T ≤ freeV d (s.vo + inf - L) ∧ (d.us = [] → T = 0)
  sp : 0 ≤ S ∧ S ≤ freeV d (s.vo + inf - L) - T
  su : ∃ su, SuP d.gs s.gs (lastX d.r.st.ps s.vo) (min rl (freeV d (s.vo + inf - L)) - T) su ∧ S = min su (freeV d (s.vo + inf - L) - T)
  o : O = max (s.vo + inf - L - (T + S) - crestV d) 0
  vo : s2.vo = s.vo + inf - L - (T + S) - O
  re : s2.re = min (T + S) 1073741824
  g : DsG d s2
def KeepBut (R T : Nat) (a w : World) : Prop := ∀ i, i ≠ R → i ≠ T → w.heap[i]? = a.heap[i]?
theorem KeepBut.refl (R T : Nat) (a : World) : KeepBut R T a a := fun _ _ _ => rfl
theorem KeepBut.set {R T : Nat} {a w : World} (h : KeepBut R T a w) {p : Addr} (hp : p.block = R ∨ p.block = T) (u : Value) : KeepBut R T a (w.setCell p u) := fun i h1 h2 => (Below.heap_setCell w p u i (fun e => by rcases hp with hp | hp <;> omega)).trans (h i h1 h2)
theorem KeepBut.row {R T z n : Nat} {a w : World} {e : TypeId} {size : Nat} {v : Value} {xs : List Value} (h : KeepBut R T a w) (hr : a.ownsRow z e size v n xs) (h1 : R < z) (h2 : T < z) : w.ownsRow z e size v n xs :=
  ownsRow_agree hr fun g hg => by
    have := (hr.lt g hg).1
    exact h g (by omega) (by omega)
def StepP (d : Dm) (s : Ds) (inf lo rl : Int) (w : World) (e : Ending) (w' : World) : Prop := ∃ (L T S O pw st : Int) (s2 : Ds), e = .returned (.tuple #[.agg s2.arr, .agg #[.int .i64 inf, .int .i64 L, .int .i64 T, .int .i64 S, .int .i64 O, .int .i64 pw, .int .i64 st], .int .i64 0]) ∧ StepQ d s inf lo rl L T S O s2 ∧
  w'.ownsRow w.heap.size 93 3 (.slice s2.uA s2.un s2.uc) s2.un (usCells s2.us) ∧ w'.ownsRow w.heap.size 99 2 (.slice s2.gA s2.gn s2.gc) s2.gn (gsCells s2.gs) ∧ Below w.heap.size w w'
theorem facts7 {w : World} {g : Nat} {t : TypeId} {a0 a1 a2 a3 a4 a5 a6 : Value} (h : Blk w g t #[a0, a1, a2, a3, a4, a5, a6]) : w.cell? ⟨g, 0, none⟩ = some a0 ∧ w.cell? ⟨g, 1, none⟩ = some a1 ∧ w.cell? ⟨g, 2, none⟩ = some a2 ∧ w.cell? ⟨g, 3, none⟩ = some a3 ∧ w.cell? ⟨g, 4, none⟩ = some a4 ∧ w.cell? ⟨g, 5, none⟩ = some a5 ∧ w.cell? ⟨g, 6, none⟩ = some a6 ∧ ∀ o, w.frozen? ⟨g, o, none⟩ = false := by
  obtain ⟨c, f⟩ := Blk.facts h
  exact ⟨c 0, c 1, c 2, c 3, c 4, c 5, c 6, f⟩
structure StepQP (Q : Int → Int → Int → Int → Ds → Prop) (s2 : Ds) (R T : Nat) (w W : World) (rc tc : Array Value) (L T' S O : Int) : Prop where
  q : Q L T' S O s2
  r : Blk W R 35 rc
  t : Blk W T 53 tc
  u : W.ownsRow w.heap.size 93 3 (.slice s2.uA s2.un s2.uc) s2.un (usCells s2.us)
  g : W.ownsRow w.heap.size 99 2 (.slice s2.gA s2.gn s2.gc) s2.gn (gsCells s2.gs)
  b : Below w.heap.size w W
theorem step1_any (v : Int) (w : World) : Calls Tryz.prog 29 #[.int .i64 v] w fun e w' => e = .returned (.bool (!wit v 1073741824)) ∧ w = w' := by
  go_enter Tryz.func29, Tryz.ntmps29
  go_wp2_with fail
  refine (within_any _ _ _).mono ?_
  rintro e w' ⟨rfl, rfl⟩
  go_wp2
  go_ret
  exact ⟨rfl, rfl⟩
theorem cfStep1 (a : Array Value) (W : World) : (callFunc 29 a).run Tryz.prog W = .ok (.enter 29 a) W := by kernel_rfl
theorem wit_in {v : Int} (h : 0 ≤ v ∧ v ≤ 1073741824) : wit v 1073741824 = true := by
  unfold wit
  simp
  omega
theorem blk_four (w : World) (t1 t2 t3 t4 : TypeId) (c1 c2 c3 c4 : Array Value) : Blk ((((w.alloc (.cells c1 t1)).alloc (.cells c2 t2)).alloc (.cells c3 t3)).alloc (.cells c4 t4)) w.heap.size t1 c1 ∧ Blk ((((w.alloc (.cells c1 t1)).alloc (.cells c2 t2)).alloc (.cells c3 t3)).alloc (.cells c4 t4)) (w.heap.size + 1) t2 c2 ∧ Blk ((((w.alloc (.cells c1 t1)).alloc (.cells c2 t2)).alloc (.cells c3 t3)).alloc (.cells c4 t4)) (w.heap.size + 1 + 1) t3 c3 ∧ Blk ((((w.alloc (.cells c1 t1)).alloc (.cells c2 t2)).alloc (.cells c3 t3)).alloc (.cells c4 t4)) (w.heap.size + 1 + 1 + 1) t4 c4 ∧ Below w.heap.size w ((((w.alloc (.cells c1 t1)).alloc (.cells c2 t2)).alloc (.cells c3 t3)).alloc (.cells c4 t4)) := by
  obtain ⟨h1, h2, h3, h4⟩ := blk_three w t1 t2 t3 c1 c2 c3
  refine ⟨h1.alloc _, h2.alloc _, h3.alloc _, ?_, h4.alloc (by simp only [World.size_alloc]; omega) _⟩
  have := Blk.new (((w.alloc (.cells c1 t1)).alloc (.cells c2 t2)).alloc (.cells c3 t3)) t4 c4
  rwa [World.size_alloc, World.size_alloc, World.size_alloc] at this
theorem crestV_in {d : Dm} (hg : DmG d) : 0 ≤ crestV d ∧ crestV d ≤ 2000 := val_in hg.r.st d.r.cr
/-- From the step under way to what the step gives. -/
theorem step_of {d : Dm} {s : Ds} {inf lo rl : Int} (hg : DmG d) (hsg : DsG d s) (_ : 0 ≤ inf) {B : Nat} {w w' : World} {L T S : Int} {x y : Wk} (hx : x = ⟨d, s, 0, 0, .slice none 0 0, .slice none 0 0, inf, lo, 0, 0, 0, 0, 0, rl, 0, lastX d.r.st.ps s.vo⟩) (_ : 0 ≤ lo) (h : RunQ x B w w' L T S y) :
    ∃ (O pw st : Int) (s2 : Ds), StepQ d s inf lo rl L T S O s2 ∧ y.d = d ∧ (y.nv = s2.vo ∧ y.nr = s2.re ∧ y.nu = .slice s2.uA s2.un s2.uc ∧ y.ng = .slice s2.gA s2.gn s2.gc) ∧ (y.inf = inf ∧ y.lo = L ∧ y.tu = T ∧ y.sp = S ∧ y.ov = O ∧ y.pw = pw ∧ y.st = st) ∧
      w'.ownsRow w.heap.size 93 3 (.slice s2.uA s2.un s2.uc) s2.un (usCells s2.us) ∧ w'.ownsRow w.heap.size 99 2 (.slice s2.gA s2.gn s2.gc) s2.gn (gsCells s2.gs) := by
  subst hx
  obtain ⟨hL, hT, hS, hSU, _, ⟨pw, st, uA, un, uc, gA, gn, gc, rfl, zs, ss, hun, hzl, hin, hgn, hsl, hgi, hr1, hr2⟩, _⟩ := h
  simp only at hL hT hS hSU hun hzl hin hgn hsl hgi
  have hcr := crestV_in hg
  have hv0 := hsg.vo
  have hV : 0 ≤ s.vo + inf - L := by omega
  have hfv := freeV_in hg hV
  refine ⟨_, pw, st, ⟨s.vo + inf - L - (T + S) - max (s.vo + inf - L - (T + S) - crestV d) 0, min (T + S) 1073741824, uA, un, uc, zs, gA, gn, gc, ss⟩, ⟨hL, hT, hS, hSU, rfl, rfl, rfl, ?_⟩, rfl, ⟨rfl, rfl, rfl, rfl⟩, ⟨rfl, rfl, rfl, rfl, rfl, rfl, rfl⟩, hr1, hr2⟩
  refine ⟨by simp only; omega, by simp only; omega, hzl, fun i h => hin i _ _ (List.getElem?_eq_getElem h) (List.getElem?_eq_getElem _), hsl, fun i h => hgi i _ _ (List.getElem?_eq_getElem h) (List.getElem?_eq_getElem _)⟩
set_option maxHeartbeats 1600000 in
set_option maxRecDepth 20000 in
theorem step_any (d : Dm) (s : Ds) (hg : DmG d) (hsg : DsG d s) (inf lo rl : Int) (hi : 0 ≤ inf ∧ inf ≤ 1073741824) (hl : 0 ≤ lo ∧ lo ≤ 1073741824) (hr : 0 ≤ rl ∧ rl ≤ 1073741824) (w : World) (hs : d.ok w) (ht : s.ok w) :
    Calls Tryz.prog 12 #[.agg d.arr, .agg s.arr, .int .i64 inf, .int .i64 lo, .int .i64 rl] w (StepP d s inf lo rl w) := by
  obtain ⟨q0, p0, r0, t0, hb0⟩ := blk_four w 31 35 35 53 d.arr s.arr #[.int .i64 0, .int .i64 0, .slice none 0 0, .slice none 0 0] #[.int .i64 0, .int .i64 0, .int .i64 0, .int .i64 0, .int .i64 0, .int .i64 0, .int .i64 0]
  have hlx := lastX_in hg.r.st s.vo
  have HC := hide (fun (W : World) (hW : Below w.heap.size w W) => dlevel_any d s hg hsg W (hs.below hW) (ht.below hW))
  have hany : [inf, lo, rl].any (fun v => !wit v 1073741824) = false := by simp [wit_in hi, wit_in hl, wit_in hr]
  have HF := hide (fun (W : World) (A : Option Addr) (c : Nat) (hS : Sl W W.heap.size 1 A 3 c (ints [inf, lo, rl])) => (contains_func0 29 cfStep1 (fun v => !wit v 1073741824) A 3 c [inf, lo, rl] W hS (fun v => step1_any v W)).mono (R' := fun e w' => e = .returned (.bool false) ∧ W = w') (fun _ _ h => ⟨by rw [h.1, hany], h.2⟩))
  have HR := hide (fun (B : Nat) (W : World) (hW : Below w.heap.size w W) (hB : w.heap.size ≤ B) (hw : WkAt W B ⟨d, s, 0, 0, .slice none 0 0, .slice none 0 0, inf, lo, 0, 0, 0, 0, 0, rl, 0, lastX d.r.st.ps s.vo⟩) => wrun_any ⟨d, s, 0, 0, .slice none 0 0, .slice none 0 0, inf, lo, 0, 0, 0, 0, 0, rl, 0, lastX d.r.st.ps s.vo⟩ B hg hsg w W hs ht hW hB hw hi hl hr rfl rfl ⟨hlx.1, by have := hlx.2; simp only; omega⟩)
  have HST := hide (fun (B : Nat) (W W' : World) (L T S : Int) (y : Wk) (h : RunQ ⟨d, s, 0, 0, .slice none 0 0, .slice none 0 0, inf, lo, 0, 0, 0, 0, 0, rl, 0, lastX d.r.st.ps s.vo⟩ B W W' L T S y) => step_of hg hsg hi.1 rfl hl.1 h)
  unfold StepP
  generalize hQ : StepQ d s inf lo rl = Q at *
  clear hQ hs ht hg hsg hany hlx
  generalize hLV : lastX d.r.st.ps s.vo = LV at *
  clear hLV
  obtain ⟨vo, re, sUA, sun, suc, sus, sGA, sgn, sgc, sgs⟩ := s
  obtain ⟨⟨⟨sA, sn, sc, sps⟩, de, lw, fu, su, cr⟩, uA, un, uc, us, gA, gn, gc, gs, gr⟩ := d
  unfold Dm.arr at q0 p0 r0 t0 hb0 HC ⊢
  unfold Cv.v at q0 p0 r0 t0 hb0 HC ⊢
  unfold Ds.arr at q0 p0 r0 t0 hb0 HC ⊢
  simp only at q0 p0 r0 t0 hb0 HC ⊢
  go_enter Tryz.func12, Tryz.ntmps12
  go_upto_region 1 with fail
  generalize (((w.alloc _).alloc _).alloc _).alloc _ = w1 at *
  obtain ⟨c0, c1, c2, c3, c4, c5, c6, c7, c8, cf⟩ := Blk.facts9 q0
  obtain ⟨f0, f1, f2, f3, ff⟩ := p0.facts4
  go_wp2_with fail
  refine (HC.out w1 hb0).mono ?_
  rintro e w2 ⟨rfl, h2⟩
  replace q0 := q0.below h2 q0.lt
  replace p0 := p0.below h2 p0.lt
  replace r0 := r0.below h2 r0.lt
  replace t0 := t0.below h2 t0.lt
  replace hb0 := bthr hb0 h2 hb0.size
  clear c0 c1 c2 c3 c4 c5 c6 c7 c8 cf h2 f0 f1 f2 f3 ff
  go_wp2_with fail
  have hb3 := bthr hb0 (bel1 (w := w2) (o := .cells #[.int .i64 inf, .int .i64 lo, .int .i64 rl] 3)) hb0.size
  have hsl : Sl (w2.alloc (.cells #[.int .i64 inf, .int .i64 lo, .int .i64 rl] 3)) (w2.alloc (.cells #[.int .i64 inf, .int .i64 lo, .int .i64 rl] 3)).heap.size 1 (some ⟨w2.heap.size, 0, none⟩) 3 3 (ints [inf, lo, rl]) := by
    have hq := Blk.new w2 3 #[.int .i64 inf, .int .i64 lo, .int .i64 rl]
    refine ⟨rfl, Nat.le_refl _, by unfold maxLen; omega, fun _ => ⟨w2.heap.size, 0, rfl, hq.lt, fun j u hu => ?_⟩⟩
    rw [hq.facts.1, Nat.zero_add, ← hu]
    simp [ints]
  refine (HF.out _ _ _ hsl).mono ?_
  rintro e w3 ⟨rfl, rfl⟩
  replace q0 := q0.alloc (.cells #[.int .i64 inf, .int .i64 lo, .int .i64 rl] 3)
  replace p0 := p0.alloc (.cells #[.int .i64 inf, .int .i64 lo, .int .i64 rl] 3)
  replace r0 := r0.alloc (.cells #[.int .i64 inf, .int .i64 lo, .int .i64 rl] 3)
  replace t0 := t0.alloc (.cells #[.int .i64 inf, .int .i64 lo, .int .i64 rl] 3)
  clear hsl hb0 HF HC
  generalize w2.alloc _ = w4 at *
  obtain ⟨c0, c1, c2, c3, c4, c5, c6, c7, c8, cf⟩ := Blk.facts9 q0
  obtain ⟨f0, f1, f2, f3, ff⟩ := p0.facts4
  go_wp2_with fail
  have hx := Blk.new w4 86 #[.slice sA sn sc, .int .i64 de, .int .i64 lw, .int .i64 fu, .int .i64 su, .int .i64 cr, .slice uA un uc, .slice gA gn gc, .int .i64 gr, .int .i64 vo, .int .i64 re, .slice sUA sun suc, .slice sGA sgn sgc, .int .i64 0, .int .i64 0, .slice none 0 0, .slice none 0 0, .int .i64 inf, .int .i64 lo, .int .i64 0, .int .i64 0, .int .i64 0, .int .i64 0, .int .i64 0, .int .i64 rl, .int .i64 0, .int .i64 LV]
  have hbx := bthr hb3 (bel1 (w := w4) (o := .cells #[.slice sA sn sc, .int .i64 de, .int .i64 lw, .int .i64 fu, .int .i64 su, .int .i64 cr, .slice uA un uc, .slice gA gn gc, .int .i64 gr, .int .i64 vo, .int .i64 re, .slice sUA sun suc, .slice sGA sgn sgc, .int .i64 0, .int .i64 0, .slice none 0 0, .slice none 0 0, .int .i64 inf, .int .i64 lo, .int .i64 0, .int .i64 0, .int .i64 0, .int .i64 0, .int .i64 0, .int .i64 rl, .int .i64 0, .int .i64 LV] 86)) hb3.size
  have hrB := r0.lt
  have htB := t0.lt
  replace r0 := r0.alloc (.cells #[.slice sA sn sc, .int .i64 de, .int .i64 lw, .int .i64 fu, .int .i64 su, .int .i64 cr, .slice uA un uc, .slice gA gn gc, .int .i64 gr, .int .i64 vo, .int .i64 re, .slice sUA sun suc, .slice sGA sgn sgc, .int .i64 0, .int .i64 0, .slice none 0 0, .slice none 0 0, .int .i64 inf, .int .i64 lo, .int .i64 0, .int .i64 0, .int .i64 0, .int .i64 0, .int .i64 0, .int .i64 rl, .int .i64 0, .int .i64 LV] 86)
  replace t0 := t0.alloc (.cells #[.slice sA sn sc, .int .i64 de, .int .i64 lw, .int .i64 fu, .int .i64 su, .int .i64 cr, .slice uA un uc, .slice gA gn gc, .int .i64 gr, .int .i64 vo, .int .i64 re, .slice sUA sun suc, .slice sGA sgn sgc, .int .i64 0, .int .i64 0, .slice none 0 0, .slice none 0 0, .int .i64 inf, .int .i64 lo, .int .i64 0, .int .i64 0, .int .i64 0, .int .i64 0, .int .i64 0, .int .i64 rl, .int .i64 0, .int .i64 LV] 86)
  have hz4 := hb3.size
  clear c0 c1 c2 c3 c4 c5 c6 c7 c8 cf f0 f1 f2 f3 ff q0 p0 hb3
  have hw4 : ∃ B, B = w4.heap.size := ⟨_, rfl⟩
  obtain ⟨B, hB⟩ := hw4
  rw [← hB] at hx hrB htB hz4 ⊢
  generalize w4.alloc _ = w5 at *
  refine (HR.out B w5 hbx hz4 hx).mono ?_
  rintro e w6 ⟨rfl, L, T, S, y, hq⟩
  obtain ⟨O, pw, st, s2, hQ, _, ⟨y1, y2, y3, y4⟩, ⟨y5, y6, y7, y8, y9, y10, y11⟩, hro1, hro2⟩ := HST.out B w5 w6 L T S y hq
  have hg6 := hq.gr
  have hy := hq.at_
  have e13 := hy.c_nv
  have e14 := hy.c_nr
  have e15 := hy.c_nu
  have e16 := hy.c_ng
  have e17 := hy.c_inf
  have e18 := hy.c_lo
  have e19 := hy.c_tu
  have e20 := hy.c_sp
  have e21 := hy.c_ov
  have e22 := hy.c_pw
  have e23 := hy.c_sta
  rw [y1] at e13
  rw [y2] at e14
  rw [y3] at e15
  rw [y4] at e16
  rw [y5] at e17
  rw [y6] at e18
  rw [y7] at e19
  rw [y8] at e20
  rw [y9] at e21
  rw [y10] at e22
  rw [y11] at e23
  replace r0 := r0.only hg6 (by omega)
  replace t0 := t0.only hg6 (by omega)
  have hb6 := below_grown hbx hg6 hbx.size hz4
  have HRO1 := hide hro1
  have HRO2 := hide hro2
  have hz5 := hbx.size
  have hB5 := hx.lt
  have HQ := hide hQ
  clear y1 y2 y3 y4 y5 y6 y7 y8 y9 y10 y11 hq hy hQ hro1 hro2 hg6 hbx hx HR HST
  clear hB
  obtain ⟨z0, z1, z2, z3, zf⟩ := r0.facts4
  obtain ⟨v0, v1, v2, v3, v4, v5, v6, vf⟩ := facts7 t0
  have rF := (((((((((((r0.set_ 0 (.int .i64 s2.vo)).set_ 1 (.int .i64 s2.re)).set_ 2 (.slice s2.uA s2.un s2.uc)).set_ 3 (.slice s2.gA s2.gn s2.gc)).far (p := ⟨w.heap.size + 1 + 1 + 1, 0, none⟩) (by simp) (.int .i64 inf)).far (p := ⟨w.heap.size + 1 + 1 + 1, 1, none⟩) (by simp) (.int .i64 L)).far (p := ⟨w.heap.size + 1 + 1 + 1, 2, none⟩) (by simp) (.int .i64 T)).far (p := ⟨w.heap.size + 1 + 1 + 1, 3, none⟩) (by simp) (.int .i64 S)).far (p := ⟨w.heap.size + 1 + 1 + 1, 4, none⟩) (by simp) (.int .i64 O)).far (p := ⟨w.heap.size + 1 + 1 + 1, 5, none⟩) (by simp) (.int .i64 pw)).far (p := ⟨w.heap.size + 1 + 1 + 1, 6, none⟩) (by simp) (.int .i64 st))
  have tF := (((((((((((t0.far (p := ⟨w.heap.size + 1 + 1, 0, none⟩) (by simp) (.int .i64 s2.vo)).far (p := ⟨w.heap.size + 1 + 1, 1, none⟩) (by simp) (.int .i64 s2.re)).far (p := ⟨w.heap.size + 1 + 1, 2, none⟩) (by simp) (.slice s2.uA s2.un s2.uc)).far (p := ⟨w.heap.size + 1 + 1, 3, none⟩) (by simp) (.slice s2.gA s2.gn s2.gc)).set_ 0 (.int .i64 inf)).set_ 1 (.int .i64 L)).set_ 2 (.int .i64 T)).set_ 3 (.int .i64 S)).set_ 4 (.int .i64 O)).set_ 5 (.int .i64 pw)).set_ 6 (.int .i64 st))
  have kF := ((((((((((((KeepBut.refl (w.heap.size + 1 + 1) (w.heap.size + 1 + 1 + 1) w6).set (p := ⟨w.heap.size + 1 + 1, 0, none⟩) (.inl rfl) (.int .i64 s2.vo)).set (p := ⟨w.heap.size + 1 + 1, 1, none⟩) (.inl rfl) (.int .i64 s2.re)).set (p := ⟨w.heap.size + 1 + 1, 2, none⟩) (.inl rfl) (.slice s2.uA s2.un s2.uc)).set (p := ⟨w.heap.size + 1 + 1, 3, none⟩) (.inl rfl) (.slice s2.gA s2.gn s2.gc)).set (p := ⟨w.heap.size + 1 + 1 + 1, 0, none⟩) (.inr rfl) (.int .i64 inf)).set (p := ⟨w.heap.size + 1 + 1 + 1, 1, none⟩) (.inr rfl) (.int .i64 L)).set (p := ⟨w.heap.size + 1 + 1 + 1, 2, none⟩) (.inr rfl) (.int .i64 T)).set (p := ⟨w.heap.size + 1 + 1 + 1, 3, none⟩) (.inr rfl) (.int .i64 S)).set (p := ⟨w.heap.size + 1 + 1 + 1, 4, none⟩) (.inr rfl) (.int .i64 O)).set (p := ⟨w.heap.size + 1 + 1 + 1, 5, none⟩) (.inr rfl) (.int .i64 pw)).set (p := ⟨w.heap.size + 1 + 1 + 1, 6, none⟩) (.inr rfl) (.int .i64 st))
  have bF := (((((((((((hb6.setCell (p := ⟨w.heap.size + 1 + 1, 0, none⟩) (by simp only; omega) (.int .i64 s2.vo)).setCell (p := ⟨w.heap.size + 1 + 1, 1, none⟩) (by simp only; omega) (.int .i64 s2.re)).setCell (p := ⟨w.heap.size + 1 + 1, 2, none⟩) (by simp only; omega) (.slice s2.uA s2.un s2.uc)).setCell (p := ⟨w.heap.size + 1 + 1, 3, none⟩) (by simp only; omega) (.slice s2.gA s2.gn s2.gc)).setCell (p := ⟨w.heap.size + 1 + 1 + 1, 0, none⟩) (by simp only; omega) (.int .i64 inf)).setCell (p := ⟨w.heap.size + 1 + 1 + 1, 1, none⟩) (by simp only; omega) (.int .i64 L)).setCell (p := ⟨w.heap.size + 1 + 1 + 1, 2, none⟩) (by simp only; omega) (.int .i64 T)).setCell (p := ⟨w.heap.size + 1 + 1 + 1, 3, none⟩) (by simp only; omega) (.int .i64 S)).setCell (p := ⟨w.heap.size + 1 + 1 + 1, 4, none⟩) (by simp only; omega) (.int .i64 O)).setCell (p := ⟨w.heap.size + 1 + 1 + 1, 5, none⟩) (by simp only; omega) (.int .i64 pw)).setCell (p := ⟨w.heap.size + 1 + 1 + 1, 6, none⟩) (by simp only; omega) (.int .i64 st))
  simp only [List.setIfInBounds_toArray, List.set_cons_zero, List.set_cons_succ] at rF tF
  have rU := own_mono (kF.row HRO1.out (by omega) (by omega)) hz5
  have rG := own_mono (kF.row HRO2.out (by omega) (by omega)) hz5
  have hP : ∀ W, W = (((((((((((w6.setCell ⟨w.heap.size + 1 + 1, 0, none⟩ (.int .i64 s2.vo)).setCell ⟨w.heap.size + 1 + 1, 1, none⟩ (.int .i64 s2.re)).setCell ⟨w.heap.size + 1 + 1, 2, none⟩ (.slice s2.uA s2.un s2.uc)).setCell ⟨w.heap.size + 1 + 1, 3, none⟩ (.slice s2.gA s2.gn s2.gc)).setCell ⟨w.heap.size + 1 + 1 + 1, 0, none⟩ (.int .i64 inf)).setCell ⟨w.heap.size + 1 + 1 + 1, 1, none⟩ (.int .i64 L)).setCell ⟨w.heap.size + 1 + 1 + 1, 2, none⟩ (.int .i64 T)).setCell ⟨w.heap.size + 1 + 1 + 1, 3, none⟩ (.int .i64 S)).setCell ⟨w.heap.size + 1 + 1 + 1, 4, none⟩ (.int .i64 O)).setCell ⟨w.heap.size + 1 + 1 + 1, 5, none⟩ (.int .i64 pw)).setCell ⟨w.heap.size + 1 + 1 + 1, 6, none⟩ (.int .i64 st)).drew → StepQP Q s2 (w.heap.size + 1 + 1) (w.heap.size + 1 + 1 + 1) w W #[.int .i64 s2.vo, .int .i64 s2.re, .slice s2.uA s2.un s2.uc, .slice s2.gA s2.gn s2.gc] #[.int .i64 inf, .int .i64 L, .int .i64 T, .int .i64 S, .int .i64 O, .int .i64 pw, .int .i64 st] L T S O := fun W hW => by
    subst hW
    exact ⟨HQ.out, rF.drew, tF.drew, World.ownsRow.drew rU, World.ownsRow.drew rG, bF.drew⟩
  have HP := hide hP
  clear hP rF tF kF bF rU rG r0 t0 hb6
  go_wp2_with fail
  go_region_law (fail)
  all_goals
    have hPP := HP.out _ rfl
    clear HP z0 z1 z2 z3 zf v0 v1 v2 v3 v4 v5 v6 vf e13 e14 e15 e16 e17 e18 e19 e20 e21 e22 e23
    generalize World.drew _ = w9 at *
    obtain ⟨a0, a1, a2, a3, af⟩ := hPP.r.facts4
    obtain ⟨b0, b1, b2, b3, b4, b5, b6, bf⟩ := facts7 hPP.t
    have HE := hide (show ∃ (L' T' S' O' pw' st' : Int) (s3 : Ds), Ending.returned (.tuple #[.agg #[.int .i64 s2.vo, .int .i64 s2.re, .slice s2.uA s2.un s2.uc, .slice s2.gA s2.gn s2.gc], .agg #[.int .i64 inf, .int .i64 L, .int .i64 T, .int .i64 S, .int .i64 O, .int .i64 pw, .int .i64 st], .int .i64 0]) = .returned (.tuple #[.agg #[.int .i64 s3.vo, .int .i64 s3.re, .slice s3.uA s3.un s3.uc, .slice s3.gA s3.gn s3.gc], .agg #[.int .i64 inf, .int .i64 L', .int .i64 T', .int .i64 S', .int .i64 O', .int .i64 pw', .int .i64 st'], .int .i64 0]) ∧ Q L' T' S' O' s3 ∧ w9.ownsRow w.heap.size 93 3 (.slice s3.uA s3.un s3.uc) s3.un (usCells s3.us) ∧ w9.ownsRow w.heap.size 99 2 (.slice s3.gA s3.gn s3.gc) s3.gn (gsCells s3.gs) ∧ Below w.heap.size w w9 from
      ⟨L, T, S, O, pw, st, s2, rfl, hPP.q, hPP.u, hPP.g, hPP.b⟩)
    clear hPP HQ HRO1 HRO2
    go_wp2
    refine bodyPost_ret (v := .tuple #[.agg #[.int .i64 s2.vo, .int .i64 s2.re, .slice s2.uA s2.un s2.uc, .slice s2.gA s2.gn s2.gc], .agg #[.int .i64 inf, .int .i64 L, .int .i64 T, .int .i64 S, .int .i64 O, .int .i64 pw, .int .i64 st], .int .i64 0]) (by simp [results, Tryz.results12, go_sem, a0, a1, a2, a3, b0, b1, b2, b3, b4, b5, b6]) rfl HE.out
end Go.Proofs.YtodamjjlnagpjaaGreatDoor
