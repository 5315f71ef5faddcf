/-
  Contracts of Asked and Active at valid conditions, 20 at most. Conditions: these, and a valid day and level.
-/
import Derived.Test.YtegjihcokndemaaDoorProg
import Derived.Test.YtegjihcokndemaaDoorOrd
import Derived.Test.YtegjihcokndemaaDoorDel
import Derived.Test.YtegjihcokndemaaDoorFind
namespace Go.Proofs.YtegjihcokndemaaDoor
open Go.RowKit

theorem cfA1 : ∀ (a : Array Value) (W : World), (callFunc 73 a).run Tryd.prog W = .ok (.enter 73 a) W := fun _ _ => by kernel_rfl
theorem cfV1 : ∀ (a : Array Value) (W : World), (callFunc 45 a).run Tryd.prog W = .ok (.enter 45 a) W := fun _ _ => by kernel_rfl
theorem aflow_any (v : Int) (w : World) : Calls Tryd.prog 73 #[.int .i64 v] w fun e w' => e = .returned (.bool (!wit v 1073741824)) ∧ w = w' := by
  go_enter Tryd.func73, Tryd.ntmps73
  go_wp2_with (go_at_call 50; refine (within_any _ _ _).mono ?_; rintro e w' ⟨rfl, rfl⟩)
  go_ret
  exact ⟨rfl, rfl⟩
set_option maxRecDepth 20000 in
theorem asked_ok (A : Option Addr) (n c : Nat) (cs : List Cd) (d lv : Int) (F : Option Addr) (m k : Nat) (zs : List Int) (w : World) (hn : n ≤ 200) (hg : ∀ x ∈ cs, x.err = 0) (hd : wit d 364 = true) (hv : wit lv 16777216 = true) (hz : ∀ z ∈ zs, 0 ≤ z ∧ z ≤ 1073741824) (hs : Sl w w.heap.size 7 A n c (cdCells cs)) (hf : Sl w w.heap.size 1 F m k (ints zs)) :
    Calls Tryd.prog 43 #[.slice A n c, .int .i64 d, .int .i64 lv, .slice F m k] w fun e w' => e = .returned (.int .i64 0) ∧ Below w.heap.size w w' := by
  have HZ := hide (show zs.any (fun v => !wit v 1073741824) = false by
    rw [Bool.eq_false_iff]; intro h
    obtain ⟨x, hx, h2⟩ := List.any_eq_true.1 h
    simp [wit_of (hz x hx).1 (hz x hx).2] at h2)
  have HD := hide hd
  have HV := hide hv
  have HF := hide hf
  have HC := hide (check_ok A n c cs w hn hg hs)
  clear hz hd hv hf hs hg
  go_enter Tryd.func43, Tryd.ntmps43
  go_wp2_with fail
  refine HC.out.mono ?_
  rintro e w1 ⟨rfl, hb1⟩
  have HB := hide hb1
  have HF1 := hide (HF.out.thr hb1)
  clear hb1
  go_wp2_with (first | (go_at_call 71; refine (is_any _ _).mono ?_; rintro e w' ⟨rfl, rfl⟩; rw [HD.out]) | (go_at_call 50; refine (within_any _ _ _).mono ?_; rintro e w' ⟨rfl, rfl⟩; rw [HV.out]))
  refine (contains_func0 _ cfA1 (fun v => !wit v 1073741824) F m k zs _ HF1.out (fun v => aflow_any v _)).mono ?_
  rintro e w2 ⟨rfl, rfl⟩
  rw [HZ.out]
  go_wp2
  go_ret
  exact ⟨rfl, HB.out⟩
def appC (cs : List Cd) (d lv : Int) (x : Int) : Bool := inB (cs.getD x.toNat cd0).from_ (cs.getD x.toNat cd0).to_ d && decide ((cs.getD x.toNat cd0).above ≤ lv) && decide (lv ≤ (cs.getD x.toNat cd0).below)
def actC (cs : List Cd) (d lv : Int) : List Int := keepL (fun x => !appC cs d lv x) (ordC cs)
set_option maxRecDepth 20000 in
theorem apred_any (cs : List Cd) (hg : ∀ x ∈ cs, x.err = 0) (A : Option Addr) (n c g3 g4 g5 B : Nat) (d lv x : Int) (W : World) (hs : Sl W B 7 A n c (cdCells cs)) (hx : 0 ≤ x ∧ x < n)
    (c3 : W.cell? ⟨g3, 0, none⟩ = some (.slice A n c)) (c4 : W.cell? ⟨g4, 0, none⟩ = some (.int .i64 d)) (c5 : W.cell? ⟨g5, 0, none⟩ = some (.int .i64 lv)) :
    Calls Tryd.prog 45 #[.int .i64 x, .pointer (some ⟨g3, 0, none⟩), .pointer (some ⟨g4, 0, none⟩), .pointer (some ⟨g5, 0, none⟩)] W fun e w' => e = .returned (.bool (!appC cs d lv x)) ∧ Below W.heap.size W w' := by
  have hl : n = cs.length := by have := hs.1; rw [cdCells_length] at this; omega
  obtain ⟨i, rfl⟩ : ∃ i : Nat, x = (i : Int) := ⟨x.toNat, by omega⟩
  obtain ⟨b, o, rfl, _, hc⟩ := hs.at_ (k := i) (by omega)
  have hi : i < cs.length := by omega
  have he := hg _ (List.getElem_mem hi)
  have HR := hide (show appC cs d lv i = (inB (cs[i]'hi).from_ (cs[i]'hi).to_ d && decide ((cs[i]'hi).above ≤ lv) && decide (lv ≤ (cs[i]'hi).below)) by
    unfold appC; simp [List.getD_eq_getElem?_getD, hi])
  rcases ei : cs[i]'hi with ⟨r, k1, v1, f1, t1, x1, y1⟩
  rw [ei] at HR he
  obtain ⟨e0, e1, e2, e3, e4, e5, e6⟩ := cd_cells (B := 0) (n := 0) (c := 0) hc hi ei
  have HA := hide (fun W => applies_ok ⟨r, k1, v1, f1, t1, x1, y1⟩ d lv W he)
  unfold Cd.arr at HA
  obtain ⟨bb, hbb⟩ : ∃ bb, bb = (inB f1 t1 d && decide (x1 ≤ lv) && decide (lv ≤ y1)) := ⟨_, rfl⟩
  have HE := hide (HR.out.trans hbb.symm)
  have HA2 := hide (fun W => show Calls Tryd.prog 23 #[.agg #[.int .i64 r, .int .i64 k1, .int .i64 v1, .int .i64 f1, .int .i64 t1, .int .i64 x1, .int .i64 y1], .int .i64 d, .int .i64 lv] W fun e w' => e = .returned (.bool bb) ∧ Below W.heap.size W w' by
    rw [hbb]; exact HA.out W)
  obtain ⟨hx0, hx1⟩ := hx
  clear hs hc ei HR hl HA hbb he hg
  have hne : Nonempty (InW fun w => Below W.heap.size W w) := ⟨⟨W, Below.refl _ _⟩⟩
  replace c3 := inv_cell c3
  replace c4 := inv_cell c4
  replace c5 := inv_cell c5
  replace e0 := inv_cell e0
  replace e1 := inv_cell e1
  replace e2 := inv_cell e2
  replace e3 := inv_cell e3
  replace e4 := inv_cell e4
  replace e5 := inv_cell e5
  replace e6 := inv_cell e6
  go_enter Tryd.func45, Tryd.ntmps45
  go_wp2_with fail
  refine wp_region_inv (I := fun w => Below W.heap.size W w) (by kernel_rfl) (by kernel_rfl) (Below.refl _ _).drew ?_
  repeat (go_big_quiet_step (first | (go_at_call 23; refine inv_call (inv_closed W) (HA2.out _))))
  refine wpQuiet_nil ?_
  rintro _ ⟨⟨w9, h9⟩, rfl⟩
  clear c3 c4 c5 e0 e1 e2 e3 e4 e5 e6 hne
  go_wp2
  go_ret
  exact ⟨ret_bool (by rw [HE.out]), h9⟩
end Go.Proofs.YtegjihcokndemaaDoor
