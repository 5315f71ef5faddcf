/-
  A step of a dam under way: its record in memory. The contract of (work).free. Condition: the dam lies in memory and is valid.
  The contract of (work).over. Condition: the dam lies in memory and is valid.
  The contract of (work).gates. Condition: the dam and its state lie in memory and are valid.
-/
import Derived.Test.YtodamjjlnagpjaaGreatDoorProg
import Derived.Test.YtodamjjlnagpjaaGreatDoorTdd
namespace Go.Proofs.YtodamjjlnagpjaaGreatDoor
open Go.RowKit

/-- A step under way. -/
structure Wk where
  d : Dm
  s : Ds
  nv : Int
  nr : Int
  nu : Value
  ng : Value
  inf : Int
  lo : Int
  tu : Int
  sp : Int
  ov : Int
  pw : Int
  st : Int
  rl : Int
  lf : Int
  lv : Int
def Wk.arr (x : Wk) : Array Value := #[x.d.r.st.v, .int .i64 x.d.r.de, .int .i64 x.d.r.lw, .int .i64 x.d.r.fu, .int .i64 x.d.r.su, .int .i64 x.d.r.cr, .slice x.d.uA x.d.un x.d.uc, .slice x.d.gA x.d.gn x.d.gc, .int .i64 x.d.gr,
  .int .i64 x.s.vo, .int .i64 x.s.re, .slice x.s.uA x.s.un x.s.uc, .slice x.s.gA x.s.gn x.s.gc, .int .i64 x.nv, .int .i64 x.nr, x.nu, x.ng,
  .int .i64 x.inf, .int .i64 x.lo, .int .i64 x.tu, .int .i64 x.sp, .int .i64 x.ov, .int .i64 x.pw, .int .i64 x.st, .int .i64 x.rl, .int .i64 x.lf, .int .i64 x.lv]
/-- The record lies at block B. -/
def WkAt (w : World) (B : Nat) (x : Wk) : Prop := Blk w B 86 x.arr
theorem WkAt.cell {w : World} {B : Nat} {x : Wk} (h : WkAt w B x) (o : Nat) : w.cell? ⟨B, o, none⟩ = x.arr[o]? := (Blk.facts h).1 o
theorem WkAt.frozen {w : World} {B : Nat} {x : Wk} (h : WkAt w B x) (o : Nat) : w.frozen? ⟨B, o, none⟩ = false := (Blk.facts h).2 o
theorem WkAt.c_st {w : World} {B : Nat} {x : Wk} (h : WkAt w B x) : w.cell? ⟨B, 0, none⟩ = some (x.d.r.st.v) := h.cell 0
theorem WkAt.c_de {w : World} {B : Nat} {x : Wk} (h : WkAt w B x) : w.cell? ⟨B, 1, none⟩ = some (.int .i64 x.d.r.de) := h.cell 1
theorem WkAt.c_us {w : World} {B : Nat} {x : Wk} (h : WkAt w B x) : w.cell? ⟨B, 6, none⟩ = some (.slice x.d.uA x.d.un x.d.uc) := h.cell 6
theorem WkAt.c_gs {w : World} {B : Nat} {x : Wk} (h : WkAt w B x) : w.cell? ⟨B, 7, none⟩ = some (.slice x.d.gA x.d.gn x.d.gc) := h.cell 7
theorem WkAt.c_gr {w : World} {B : Nat} {x : Wk} (h : WkAt w B x) : w.cell? ⟨B, 8, none⟩ = some (.int .i64 x.d.gr) := h.cell 8
theorem WkAt.c_svo {w : World} {B : Nat} {x : Wk} (h : WkAt w B x) : w.cell? ⟨B, 9, none⟩ = some (.int .i64 x.s.vo) := h.cell 9
theorem WkAt.c_sre {w : World} {B : Nat} {x : Wk} (h : WkAt w B x) : w.cell? ⟨B, 10, none⟩ = some (.int .i64 x.s.re) := h.cell 10
theorem WkAt.c_sus {w : World} {B : Nat} {x : Wk} (h : WkAt w B x) : w.cell? ⟨B, 11, none⟩ = some (.slice x.s.uA x.s.un x.s.uc) := h.cell 11
theorem WkAt.c_sgs {w : World} {B : Nat} {x : Wk} (h : WkAt w B x) : w.cell? ⟨B, 12, none⟩ = some (.slice x.s.gA x.s.gn x.s.gc) := h.cell 12
theorem WkAt.c_nv {w : World} {B : Nat} {x : Wk} (h : WkAt w B x) : w.cell? ⟨B, 13, none⟩ = some (.int .i64 x.nv) := h.cell 13
theorem WkAt.c_nr {w : World} {B : Nat} {x : Wk} (h : WkAt w B x) : w.cell? ⟨B, 14, none⟩ = some (.int .i64 x.nr) := h.cell 14
theorem WkAt.c_nu {w : World} {B : Nat} {x : Wk} (h : WkAt w B x) : w.cell? ⟨B, 15, none⟩ = some (x.nu) := h.cell 15
theorem WkAt.c_ng {w : World} {B : Nat} {x : Wk} (h : WkAt w B x) : w.cell? ⟨B, 16, none⟩ = some (x.ng) := h.cell 16
theorem WkAt.c_inf {w : World} {B : Nat} {x : Wk} (h : WkAt w B x) : w.cell? ⟨B, 17, none⟩ = some (.int .i64 x.inf) := h.cell 17
theorem WkAt.c_lo {w : World} {B : Nat} {x : Wk} (h : WkAt w B x) : w.cell? ⟨B, 18, none⟩ = some (.int .i64 x.lo) := h.cell 18
theorem WkAt.c_tu {w : World} {B : Nat} {x : Wk} (h : WkAt w B x) : w.cell? ⟨B, 19, none⟩ = some (.int .i64 x.tu) := h.cell 19
theorem WkAt.c_sp {w : World} {B : Nat} {x : Wk} (h : WkAt w B x) : w.cell? ⟨B, 20, none⟩ = some (.int .i64 x.sp) := h.cell 20
theorem WkAt.c_ov {w : World} {B : Nat} {x : Wk} (h : WkAt w B x) : w.cell? ⟨B, 21, none⟩ = some (.int .i64 x.ov) := h.cell 21
theorem WkAt.c_pw {w : World} {B : Nat} {x : Wk} (h : WkAt w B x) : w.cell? ⟨B, 22, none⟩ = some (.int .i64 x.pw) := h.cell 22
theorem WkAt.c_sta {w : World} {B : Nat} {x : Wk} (h : WkAt w B x) : w.cell? ⟨B, 23, none⟩ = some (.int .i64 x.st) := h.cell 23
theorem WkAt.c_rl {w : World} {B : Nat} {x : Wk} (h : WkAt w B x) : w.cell? ⟨B, 24, none⟩ = some (.int .i64 x.rl) := h.cell 24
theorem WkAt.c_lf {w : World} {B : Nat} {x : Wk} (h : WkAt w B x) : w.cell? ⟨B, 25, none⟩ = some (.int .i64 x.lf) := h.cell 25
theorem WkAt.c_lv {w : World} {B : Nat} {x : Wk} (h : WkAt w B x) : w.cell? ⟨B, 26, none⟩ = some (.int .i64 x.lv) := h.cell 26
theorem Blk.set {w : World} {g : Nat} {t : TypeId} {cs : Array Value} (h : Blk w g t cs) (o : Nat) (u : Value) : Blk (w.setCell ⟨g, o, none⟩ u) g t (cs.setIfInBounds o u) := by
  unfold Blk at *
  simp [World.setCell, Array.getElem?_modify, h]
/-- What was free in the reservoir. -/
def freeV (d : Dm) (lf : Int) : Int := max (lf - val d.r.st.ps d.r.de) 0
set_option maxHeartbeats 1600000 in
set_option maxRecDepth 20000 in
theorem free_any (x : Wk) (B : Nat) (hg : DmG x.d) (w : World) (hs : x.d.ok w) (hw : WkAt w B x) (hl : -1099511627776 ≤ x.lf ∧ x.lf ≤ 1099511627776) :
    Calls Tryz.prog 84 #[.pointer (some ⟨B, 0, none⟩)] w fun e w' => e = .returned (.int .i64 (freeV x.d x.lf)) ∧ Below w.heap.size w w' := by
  obtain ⟨l0, l1⟩ := hl
  have hvi := val_in hg.r.st x.d.r.de
  have hv := value_any x.d.r.st x.d.r.de hg.r.st
  have HV := hide (fun (y : InW (fun W => Below w.heap.size w W)) => hv y.val (hs.1.below y.ok))
  have e0 := inv_cell hw.c_st
  have e1 := inv_cell hw.c_de
  have e25 := inv_cell hw.c_lf
  unfold freeV
  generalize val x.d.r.st.ps x.d.r.de = V at *
  have hmx : max (x.lf - V) 0 = (if x.lf - V < 0 then 0 else x.lf - V) := by omega
  have HMX := hide hmx
  clear hv hmx hs hg hw
  have hne : Nonempty (InW fun W => Below w.heap.size w W) := ⟨⟨w, Below.refl _ _⟩⟩
  go_enter Tryz.func84, Tryz.ntmps84
  go_upto_region 1 with fail
  refine wp_region_inv (I := fun W => Below w.heap.size w W) (by kernel_rfl) (by kernel_rfl) (Below.refl _ _).drew ?_
  repeat (go_big_quiet_step (first | (go_at_call 24; with_reducible refine inv_call (inv_closed w) (HV.out _))))
  trace_state
  refine wpQuiet_nil ?_
  rintro _ ⟨⟨w9, h9⟩, rfl⟩
  go_wp2
  go_ret
  exact ⟨rfl, h9⟩
end Go.Proofs.YtodamjjlnagpjaaGreatDoor
namespace Go.Proofs.YtodamjjlnagpjaaGreatDoor
open Go.RowKit

def overW (x : Wk) : Wk := { x with lf := x.lf - (x.tu + x.sp), ov := max (x.lf - (x.tu + x.sp) - crestV x.d) 0, nv := x.lf - (x.tu + x.sp) - max (x.lf - (x.tu + x.sp) - crestV x.d) 0, nr := min (x.tu + x.sp) 1073741824 }
theorem WkAt.drew {w : World} {B : Nat} {x : Wk} (h : WkAt w B x) : WkAt w.drew B x := h
theorem WkAt.lt {w : World} {B : Nat} {x : Wk} (h : WkAt w B x) : B < w.heap.size := Blk.lt h
theorem WkAt.below {w w' : World} {B : Nat} {x : Wk} (h : WkAt w B x) (hb : Below w.heap.size w w') : WkAt w' B x := Blk.below h hb h.lt
theorem WkAt.set {w : World} {B : Nat} {x y : Wk} (h : WkAt w B x) (o : Nat) (u : Value) (e : x.arr.setIfInBounds o u = y.arr) : WkAt (w.setCell ⟨B, o, none⟩ u) B y := by
  have := Blk.set h o u
  rw [e] at this
  exact this
set_option maxHeartbeats 1600000 in
set_option maxRecDepth 20000 in
theorem over_any (u : FrameMode) (x : Wk) (B : Nat) (hg : DmG x.d) (w0 w : World) (hs : x.d.ok w0) (hb : Below w0.heap.size w0 w) (hB : w0.heap.size ≤ B) (hw : WkAt w B x) (hl : 0 ≤ x.lf ∧ x.lf ≤ 1099511627776) (ht : 0 ≤ x.tu ∧ x.tu ≤ 1099511627776) (hsp : 0 ≤ x.sp ∧ x.sp ≤ 1099511627776) :
    CallsD Tryz.prog 55 #[.pointer (some ⟨B, 0, none⟩)] u w fun e u' w' => u' = u ∧ (e = .returned (.tuple #[]) ∧ WkAt w' B (overW x) ∧ w.grownBy w' (some B)) := by
  obtain ⟨l0, l1⟩ := hl
  obtain ⟨t0, t1⟩ := ht
  obtain ⟨s0, s1⟩ := hsp
  have hcr : 0 ≤ crestV x.d ∧ crestV x.d ≤ 2000 := val_in hg.r.st x.d.r.cr
  have c25 := hw.c_lf
  have c19 := hw.c_tu
  have c20 := hw.c_sp
  have f25 := hw.frozen 25
  have k1 := hw.set (y := { x with lf := x.lf - (x.tu + x.sp) }) 25 (.int .i64 (x.lf - (x.tu + x.sp))) rfl
  have hb1 := below_grown hb (grown_set (grown_refl w (some B)) (p := ⟨B, 25, none⟩) (.inl rfl) (.int .i64 (x.lf - (x.tu + x.sp)))) hb.size hB
  have hgr := grown_drewN (grown_set (grown_refl w (some B)) (p := ⟨B, 25, none⟩) (.inl rfl) (.int .i64 (x.lf - (x.tu + x.sp)))) 1
  go_enter_d Tryz.func55, Tryz.ntmps55
  have hwr1 : IntKind.i64.wrap (x.tu + x.sp) = x.tu + x.sp := by rw [IntKind.wrap_i64]; omega
  have hwr2 : IntKind.i64.wrap (x.lf - (x.tu + x.sp)) = x.lf - (x.tu + x.sp) := by rw [IntKind.wrap_i64]; omega
  go_wp2_with fail
  go_cut [] (fun wx => WkAt wx B { x with lf := x.lf - (x.tu + x.sp) } ∧ w.grownBy wx (some B))
  case first =>
    go_region_law (fail)
    all_goals
      go_wp2_with fail
      go_meet
      first | exact ⟨k1.drew, hgr⟩ | (trace_state; fail)
  case rest =>
    rename World => w1
    obtain ⟨hw1, hg1⟩ := hcut
    have hb1' := below_grown hb hg1 hb.size hB
    clear k1 hb1 hgr c25 c19 c20 f25
    have HC := hide (fun (W : World) (hW : Below w0.heap.size w0 W) => crest_any x.d hg W (hs.below hW))
    unfold Dm.arr at HC
    have e0 := hw1.c_st
    have e1 := hw1.c_de
    have e2 : w1.cell? ⟨B, 2, none⟩ = some (.int .i64 x.d.r.lw) := hw1.cell 2
    have e3 : w1.cell? ⟨B, 3, none⟩ = some (.int .i64 x.d.r.fu) := hw1.cell 3
    have e4 : w1.cell? ⟨B, 4, none⟩ = some (.int .i64 x.d.r.su) := hw1.cell 4
    have e5 : w1.cell? ⟨B, 5, none⟩ = some (.int .i64 x.d.r.cr) := hw1.cell 5
    have e6 := hw1.c_us
    have e7 := hw1.c_gs
    have e8 := hw1.c_gr
    have e25 := hw1.c_lf
    simp only at e0 e1 e2 e3 e4 e5 e6 e7 e8 e25
    go_wp2_with fail
    go_cut [] (fun wx => WkAt wx B { x with lf := x.lf - (x.tu + x.sp), ov := max (x.lf - (x.tu + x.sp) - crestV x.d) 0 } ∧ w1.grownBy wx (some B))
    case first =>
      go_region_law (go_simp; go_at_call 72; refine (HC.out w1.drew hb1'.drew).mono ?_; rintro e w2 ⟨rfl, h2⟩; have hw2 := hw1.drew.below h2; have g25 := hw2.c_lf; simp only at g25; have g21 := hw2.frozen 21; have g22 := hw2.c_ov; simp only at g22; have hwr3 : IntKind.i64.wrap (x.lf - (x.tu + x.sp) - crestV x.d) = x.lf - (x.tu + x.sp) - crestV x.d := (by rw [IntKind.wrap_i64]; omega); have hk := hw2.set (y := { x with lf := x.lf - (x.tu + x.sp), ov := max (x.lf - (x.tu + x.sp) - crestV x.d) 0 }) 21 (.int .i64 (max (x.lf - (x.tu + x.sp) - crestV x.d) 0)) rfl; have hgk := grown_trans (grown_drewN (grown_refl w1 (some B)) 1) (grown_set (grown_below h2 (some B)) (p := ⟨B, 21, none⟩) (.inl rfl) (.int .i64 (max (x.lf - (x.tu + x.sp) - crestV x.d) 0))))
      all_goals
        go_wp2_with fail
        go_meet
        first | exact ⟨hk, hgk⟩ | (trace_state; fail)
    case rest =>
      rename World => w2
      obtain ⟨hw2, hg2⟩ := hcut
      have HG2 := hide (grown_trans hg1 hg2)
      clear e0 e1 e2 e3 e4 e5 e6 e7 e8 e25 HC hw1 hg1 hg2
      have e25 := hw2.c_lf
      have e21 := hw2.c_ov
      have e13 := hw2.c_nv
      have f13 := hw2.frozen 13
      generalize hO : max (x.lf - (x.tu + x.sp) - crestV x.d) 0 = O at *
      have hO1 : 0 ≤ O ∧ O ≤ 2199023255552 := by omega
      have hwr3 : IntKind.i64.wrap (x.lf - (x.tu + x.sp) - O) = x.lf - (x.tu + x.sp) - O := by rw [IntKind.wrap_i64]; omega
      have k2 := hw2.set (y := { x with lf := x.lf - (x.tu + x.sp), ov := O, nv := x.lf - (x.tu + x.sp) - O }) 13 (.int .i64 (x.lf - (x.tu + x.sp) - O)) rfl
      have g2 := grown_drewN (grown_set (grown_refl w2 (some B)) (p := ⟨B, 13, none⟩) (.inl rfl) (.int .i64 (x.lf - (x.tu + x.sp) - O))) 1
      simp only at e25 e21 e13
      have HO := hide hO
      clear hO hO1 hcr
      go_wp2_with fail
      go_cut [] (fun wx => WkAt wx B { x with lf := x.lf - (x.tu + x.sp), ov := O, nv := x.lf - (x.tu + x.sp) - O } ∧ w2.grownBy wx (some B))
      case first =>
        go_region_law (fail)
        all_goals
          go_wp2_with fail
          go_meet
          first | exact ⟨k2, g2⟩ | (trace_state; fail)
      case rest =>
        rename World => w3
        obtain ⟨hw3, hg3⟩ := hcut
        have HG3 := hide (grown_trans HG2.out hg3)
        clear e25 e21 e13 f13 k2 g2 hwr2 hwr3 HG2 hg3 hw2
        have e19 := hw3.c_tu
        have e20 := hw3.c_sp
        have e14 := hw3.c_nr
        have f14 := hw3.frozen 14
        simp only at e19 e20 e14
        have k3 := hw3.set (y := overW x) 14 (.int .i64 (min (x.tu + x.sp) 1073741824)) (by unfold overW; rw [HO.out]; rfl)
        have g3 := grown_drewN (grown_set (grown_refl w3 (some B)) (p := ⟨B, 14, none⟩) (.inl rfl) (.int .i64 (min (x.tu + x.sp) 1073741824))) 1
        have k4 := grown_trans HG3.out g3
        go_wp2_with fail
        go_region_law (fail)
        all_goals
          go_wp2
          go_end0
          exact ⟨rfl, k3, k4⟩
end Go.Proofs.YtodamjjlnagpjaaGreatDoor
namespace Go.Proofs.YtodamjjlnagpjaaGreatDoor
open Go.RowKit

theorem own_mono {w : World} {base base' : Nat} {e : TypeId} {size n : Nat} {v : Value} {xs : List Value} (h : w.ownsRow base e size v n xs) (hb : base' ≤ base) : w.ownsRow base' e size v n xs := ⟨h.1, h.2.imp id fun ⟨g, cap, cur, hv, hg, r⟩ => ⟨g, cap, cur, hv, Nat.le_trans hb hg, r⟩⟩
def GatesP (x : Wk) (B : Nat) (w : World) (e : Ending) (w' : World) : Prop := e = .returned (.tuple #[]) ∧ ∃ (A : Option Addr) (n c : Nat) (su : Int) (ss : List Gs), SuP x.d.gs x.s.gs x.lv (min x.rl (freeV x.d x.lf) - x.tu) su ∧ n = x.d.gs.length ∧ ss.length = x.d.gs.length ∧ StIn x.d.gs ss ∧
  WkAt w' B { x with ng := .slice A n c, sp := min su (freeV x.d x.lf - x.tu) } ∧ w'.ownsRow w.heap.size 99 2 (.slice A n c) n (gsCells ss) ∧ w.grownBy w' (some B)
theorem freeV_in {d : Dm} (hg : DmG d) {l : Int} (hl : 0 ≤ l) : 0 ≤ freeV d l ∧ freeV d l ≤ l := by
  have := val_in hg.r.st d.r.de
  unfold freeV
  omega
set_option maxHeartbeats 1600000 in
set_option maxRecDepth 20000 in
theorem wgates_any (u : FrameMode) (x : Wk) (B : Nat) (hg : DmG x.d) (hsg : DsG x.d x.s) (w0 w : World) (hs : x.d.ok w0) (ht : x.s.ok w0) (hb : Below w0.heap.size w0 w) (hB : w0.heap.size ≤ B) (hw : WkAt w B x) (hl : 0 ≤ x.lf ∧ x.lf ≤ 1099511627776) (hr : 0 ≤ x.rl ∧ x.rl ≤ 1073741824) (htu : 0 ≤ x.tu ∧ x.tu ≤ x.rl ∧ x.tu ≤ freeV x.d x.lf) (hlv : 0 ≤ x.lv ∧ x.lv ≤ 16777216) :
    CallsD Tryz.prog 56 #[.pointer (some ⟨B, 0, none⟩)] u w fun e u' w' => u' = u ∧ GatesP x B w e w' := by
  have hfv := freeV_in hg hl.1
  have HF := hide (fun (y : Wk) (W : World) (hW : Below w0.heap.size w0 W) (hd : y.d = x.d) (hlf : y.lf = x.lf) (hy : WkAt W B y) => (free_any y B (hd ▸ hg) W (hd ▸ hs.below hW) hy (by rw [hlf]; omega)).mono (R' := fun e w' => e = .returned (.int .i64 (freeV x.d x.lf)) ∧ Below W.heap.size W w') (by rw [hd, hlf]; exact fun _ _ h => h))
  have HS := hide (fun (W : World) (hW : Below w0.heap.size w0 W) (wa : Int) (hwa : 0 ≤ wa ∧ wa ≤ 1073741824) => set_any ⟨x.d.gA, x.d.gn, x.d.gc, x.d.gs, x.s.gA, x.s.gn, x.s.gc, x.s.gs⟩ x.lv wa hlv hwa ⟨hg.gn, hsg.gl, hg.g, hsg.g⟩ W ⟨(hs.below hW).2.2.1, (hs.below hW).2.2.2, (ht.below hW).2⟩)
  simp only at HS
  unfold GatesP
  obtain ⟨l0, l1⟩ := hl
  obtain ⟨r0, r1⟩ := hr
  obtain ⟨t0, t1, t2⟩ := htu
  generalize hF : freeV x.d x.lf = F at *
  clear hF
  have hm0 : 0 ≤ min x.rl F - x.tu ∧ min x.rl F - x.tu ≤ 1073741824 := by omega
  have hm1 : 0 ≤ min x.rl F ∧ min x.rl F ≤ 1073741824 := by omega
  have hwr1 : IntKind.i64.wrap (min x.rl F - x.tu) = min x.rl F - x.tu := by rw [IntKind.wrap_i64]; omega
  have hwr2 : IntKind.i64.wrap (F - x.tu) = F - x.tu := by rw [IntKind.wrap_i64]; omega
  have c7 := hw.c_gs
  have c12 := hw.c_sgs
  have c26 := hw.c_lv
  have c24 := hw.c_rl
  have c19 := hw.c_tu
  have hwd : WkAt w.drew B x := hw
  go_enter_d Tryz.func56, Tryz.ntmps56
  go_wp2_with fail
  go_region_held3 (fun w' => w'.cell? ⟨B, 7, none⟩ = some (.slice x.d.gA x.d.gn x.d.gc) ∧ w'.cell? ⟨B, 12, none⟩ = some (.slice x.s.gA x.s.gn x.s.gc) ∧ w'.cell? ⟨B, 26, none⟩ = some (.int .i64 x.lv) ∧ w'.cell? ⟨B, 24, none⟩ = some (.int .i64 x.rl) ∧ w'.cell? ⟨B, 19, none⟩ = some (.int .i64 x.tu))
    (first | exact ⟨c7, c12, c26, c24, c19⟩ | exact ⟨d7, d12, d26, d24, d19⟩ | exact ⟨e7, e12, e26, e24, e19⟩)
    (first | (go_at_call 84; (with_reducible refine (HF.out x w.drew hb.drew rfl rfl hwd).mono ?_); rintro e w2 ⟨rfl, h2⟩; have hb2 := bthr hb.drew h2 hb.size; have hw2 := hwd.below h2; have d7 := hw2.c_gs; have d12 := hw2.c_sgs; have d26 := hw2.c_lv; have d24 := hw2.c_rl; have d19 := hw2.c_tu) | (go_at_call 83; (with_reducible refine (HS.out w2 hb2 _ hm0).mono ?_); rintro e w3 ⟨A, n, c, su, ss, rfl, hsu, hn, hss, hrow, hin, h3⟩; have hn' := hide hn; have hss' := hide hss; clear hn hss; have hw3 := hw2.below h3; have e7 := hw3.c_gs; have e12 := hw3.c_sgs; have e26 := hw3.c_lv; have e24 := hw3.c_rl; have e19 := hw3.c_tu))
  have hz2 : w.heap.size ≤ w2.heap.size := h2.size
  have hz3 : w2.heap.size ≤ w3.heap.size := h3.size
  have hBw := hw.lt
  have e16 := hw3.c_ng
  have f16 := hw3.frozen 16
  have hg3 : w.grownBy w3 (some B) := grown_trans (grown_trans (grown_drewN (grown_refl w (some B)) 1) (grown_below h2 (some B))) (grown_below h3 (some B))
  have hnB : (Value.slice A n c).ownBlock ≠ some B := fun e => by have := (hrow.lt B e).1; omega
  have k4 := hw3.set (y := { x with ng := .slice A n c }) 16 (.slice A n c) rfl
  have g4 := grown_set hg3 (p := ⟨B, 16, none⟩) (.inl rfl) (.slice A n c)
  have r4 := own_set (own_mono hrow hz2) (p := ⟨B, 16, none⟩) hnB (.slice A n c)
  clear c7 c12 c26 c24 c19 d7 d12 d26 d24 d19 e7 e12 e26 e24 e19 HS hm0 hm1 hwr1 hw2 hw3 h2 h3 hb2 hwd hrow hg3
  go_upto_region 2 with fail
  generalize World.setCell _ _ _ = w4 at *
  have hb4 := below_grown hb g4 hb.size hB
  have c19 := k4.c_tu
  have c20 := k4.c_sp
  have f20 := k4.frozen 20
  simp only at c19 c20
  have k4d : WkAt w4.drew B { x with ng := .slice A n c } := k4
  clear e16 f16
  have hin' := hide hin
  clear hin
  go_region_held3 (fun w' => w'.cell? ⟨B, 19, none⟩ = some (.int .i64 x.tu))
    (first | exact c19 | exact d19 | exact m19)
    (first | (go_at_call 84; (with_reducible refine (HF.out { x with ng := .slice A n c } w4.drew hb4.drew rfl rfl k4d).mono ?_); rintro e w5 ⟨rfl, h5⟩; have hw5 := k4d.below h5; have d19 := hw5.c_tu; have d20 := hw5.c_sp; have f20 := hw5.frozen 20; simp only at d19 d20; have k6 := hw5.set (y := { x with ng := .slice A n c, sp := min su (F - x.tu) }) 20 (.int .i64 (min su (F - x.tu))) rfl; have m19 := k6.c_tu; simp only at m19; have g6 := grown_set (grown_trans (grown_drewN g4 1) (grown_below h5 (some B))) (p := ⟨B, 20, none⟩) (.inl rfl) (.int .i64 (min su (F - x.tu))); have r6 := own_set (ownsRow_agree (w' := w5) r4 (fun g hg => h5.block g (r4.lt g hg).2)) (p := ⟨B, 20, none⟩) hnB (.int .i64 (min su (F - x.tu)))))
  all_goals
    clear HF k4d
    go_wp2
    go_end0
    exact ⟨rfl, A, n, c, su, ss, hsu, hn'.out, hss'.out, hin'.out, k6, r6, g6⟩
end Go.Proofs.YtodamjjlnagpjaaGreatDoor
