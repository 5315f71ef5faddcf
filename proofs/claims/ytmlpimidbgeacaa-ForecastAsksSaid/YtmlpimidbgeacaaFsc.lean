/-
  Bundles of scenarios in memory, and the contracts of scenario, Check, live, covers and step: the first error. Condition: the bundle can be read.
-/
import Derived.Test.YtmlpimidbgeacaaProg
import Derived.Test.YtmlpimidbgeacaaMem
import Derived.Test.YtmlpimidbgeacaaFind
import Derived.Test.YtmlpimidbgeacaaExt
import Derived.Deep.DeepCutAuto
namespace Go.Proofs.Ytmlpimidbgeacaa
open Go.RowKit

/-- A scenario: its weight, and its flows. -/
structure Sc where
  wt : Int
  A : Option Addr
  n : Nat
  c : Nat
  fl : List Int
def Sc.arr (s : Sc) : Array Value := #[.int .i64 s.wt, .slice s.A s.n s.c]
def scCells (ss : List Sc) : List Value := ss.flatMap fun s => s.arr.toList
def Sc.ok (w : World) (B : Nat) (s : Sc) : Prop := Sl w B 1 s.A s.n s.c (ints s.fl)
/-- A slice of scenarios, each with its flows. -/
def ScsOk (w : World) (B : Nat) (A : Option Addr) (n c : Nat) (ss : List Sc) : Prop := Sl w B 2 A n c (scCells ss) ∧ ∀ s ∈ ss, s.ok w B
/-- A bundle. -/
structure Bd where
  fr : Int
  A : Option Addr
  n : Nat
  c : Nat
  ss : List Sc
  wd : Bool
def Bd.arr (b : Bd) : Array Value := #[.int .i64 b.fr, .slice b.A b.n b.c, .bool b.wd]
def Bd.ok (w : World) (B : Nat) (b : Bd) : Prop := ScsOk w B b.A b.n b.c b.ss
section
variable {w w' : World} {B B' n c : Nat} {A : Option Addr} {ss : List Sc} {b : Bd} {s : Sc}
theorem scCells_append (x y : List Sc) : scCells (x ++ y) = scCells x ++ scCells y := by simp [scCells]
theorem scCells_len (ss : List Sc) : (scCells ss).length = ss.length * 2 := by
  induction ss with
  | nil => rfl
  | cons a t ih =>
    have e : scCells (a :: t) = [.int .i64 a.wt, .slice a.A a.n a.c] ++ scCells t := by simp [scCells, Sc.arr]
    rw [e, List.length_append, ih]; simp; omega
theorem scCells_get : ∀ (ss : List Sc) (k : Nat) (h : k < ss.length), (scCells ss)[k * 2]? = some (.int .i64 ss[k].wt) ∧ (scCells ss)[k * 2 + 1]? = some (.slice ss[k].A ss[k].n ss[k].c)
  | a :: t, 0, _ => by simp [scCells, Sc.arr]
  | a :: t, k + 1, h => by
    have e : scCells (a :: t) = [.int .i64 a.wt, .slice a.A a.n a.c] ++ scCells t := by simp [scCells, Sc.arr]
    have ih := scCells_get t k (by simpa using h)
    rw [e, List.getElem?_append_right (by simp; omega), List.getElem?_append_right (by simp; omega)]
    rw [show (k + 1) * 2 - [Value.int .i64 a.wt, Value.slice a.A a.n a.c].length = k * 2 by simp; omega, show (k + 1) * 2 + 1 - [Value.int .i64 a.wt, Value.slice a.A a.n a.c].length = k * 2 + 1 by simp; omega]
    exact ih
theorem sc_cells {g o : Nat} (hc : ∀ j u, (scCells ss)[j]? = some u → w.cell? ⟨g, o + j, none⟩ = some u) {k : Nat} (hk : k < ss.length) (he : ss[k] = s) :
    w.cell? ⟨g, o + k * 2, none⟩ = some (.int .i64 s.wt) ∧ w.cell? ⟨g, o + k * 2 + 1, none⟩ = some (.slice s.A s.n s.c) := by
  have h := scCells_get ss k hk
  rw [he] at h
  exact ⟨hc _ _ h.1, hc _ _ h.2⟩
theorem ScsOk.len (h : ScsOk w B A n c ss) : n = ss.length := by have := h.1.1; rw [scCells_len] at this; omega
theorem ScsOk.below (h : ScsOk w B A n c ss) (hb : Below B w w') : ScsOk w' B A n c ss := ⟨h.1.below hb, fun s hs => (h.2 s hs).below hb⟩
theorem ScsOk.more (h : ScsOk w B A n c ss) (hB : B ≤ B') : ScsOk w B' A n c ss := ⟨h.1.more hB, fun s hs => (h.2 s hs).more hB⟩
theorem ScsOk.thr (h : ScsOk w w.heap.size A n c ss) (hb : Below w.heap.size w w') : ScsOk w' w'.heap.size A n c ss := ⟨h.1.thr hb, fun s hs => (h.2 s hs).thr hb⟩
theorem Bd.ok.thr (h : b.ok w w.heap.size) (hb : Below w.heap.size w w') : b.ok w' w'.heap.size := ScsOk.thr h hb
end
theorem Blk.facts3 {w : World} {g : Nat} {t : TypeId} {a b c : Value} (h : Blk w g t #[a, b, c]) : w.cell? ⟨g, 0, none⟩ = some a ∧ w.cell? ⟨g, 1, none⟩ = some b ∧ w.cell? ⟨g, 2, none⟩ = some c ∧ (∀ o, w.frozen? ⟨g, o, none⟩ = false) := by
  have hf := h.facts
  exact ⟨hf.1 0, hf.1 1, hf.1 2, hf.2⟩
/-- A scenario's first error, in a bundle of so many steps. -/
def scErr (s : Sc) (m : Nat) : Int := if s.wt < 1 ∨ 10000 < s.wt then 1 else if s.n = 0 ∨ s.n ≠ m then 3 else if 1000 < m then 10 else if s.fl.any (fun v => !wit v 1073741824) then 1 else 0
theorem cfS1 : ∀ (a : Array Value) (W : World), (callFunc 55 a).run Try.prog W = .ok (.enter 55 a) W := fun _ _ => by kernel_rfl
theorem sflow_any (v : Int) (w : World) : Calls Try.prog 55 #[.int .i64 v] w fun e w' => e = .returned (.bool (!wit v 1073741824)) ∧ w = w' := by
  go_enter Try.func55, Try.ntmps55
  go_wp2_with (go_at_call 41; refine (within_any _ _ _).mono ?_; rintro e w' ⟨rfl, rfl⟩)
  go_ret
  exact ⟨rfl, rfl⟩
set_option maxHeartbeats 1600000 in
set_option maxRecDepth 20000 in
theorem scenario_any (s : Sc) (m : Nat) (hm : m ≤ 9223372036854775807) (w : World) (hs : s.ok w w.heap.size) :
    Calls Try.prog 42 #[.agg s.arr, .int .i64 (m : Int)] w fun e w' => e = .returned (.int .i64 (scErr s m)) ∧ Below w.heap.size w w' := by
  obtain ⟨wt, A, n, c, fl⟩ := s
  have q0 := Blk.new w 32 #[.int .i64 wt, .slice A n c]
  have hB := bel1 (w := w) (o := .cells #[.int .i64 wt, .slice A n c] 32)
  have HS := hide (show Sl w w.heap.size 1 A n c (ints fl) from hs)
  have hn63 : n ≤ 9223372036854775807 := by have a1 := HS.out.2.1; have a2 := HS.out.2.2.1; unfold maxLen at a2; omega
  have HE := hide (show scErr ⟨wt, A, n, c, fl⟩ m = if wt < 1 ∨ 10000 < wt then 1 else if n = 0 ∨ n ≠ m then 3 else if 1000 < m then 10 else if fl.any (fun v => !wit v 1073741824) then 1 else 0 from rfl)
  generalize scErr ⟨wt, A, n, c, fl⟩ m = er at *
  unfold Sc.arr
  simp only
  obtain ⟨c0, c1, _⟩ := q0.facts2
  have hs2 := HS.out.thr hB
  have HCF := hide (fun W hs3 => contains_func0 55 cfS1 (fun v => !wit v 1073741824) A n c fl W hs3 (fun v => sflow_any v W))
  clear q0 hs
  go_enter Try.func42, Try.ntmps42
  by_cases h1 : wt < 1
  · have HX := hide (HE.out.trans (if_pos (.inl h1)))
    clear HCF HE
    go_wp2
    go_ret
    exact ⟨by rw [HX.out]; first | done | rfl, hB⟩
  · by_cases h2 : 10000 < wt
    · have HX := hide (HE.out.trans (if_pos (.inr h2)))
      clear HCF HE
      go_wp2
      go_ret
      exact ⟨by rw [HX.out]; first | done | rfl, hB⟩
    · have HE2 := hide (HE.out.trans (if_neg (by omega)))
      clear HE
      by_cases h3 : n = 0
      · have HX := hide (HE2.out.trans (if_pos (.inl h3)))
        have hn0 : ((n : Int) == 0) = true := by simp [h3]
        clear HCF HE2 h3
        go_wp2
        go_ret
        exact ⟨by rw [HX.out]; first | done | rfl, hB⟩
      · have hn0 : ((n : Int) == 0) = false := by simp; omega
        by_cases h4 : n = m
        · have hnm : ((n : Int) != (m : Int)) = false := by simp [h4]
          have HE3 := hide (HE2.out.trans (if_neg (by omega)))
          clear HE2 h4
          by_cases h5 : 1000 < m
          · have HX := hide (HE3.out.trans (if_pos h5))
            have h5i : (1000 : Int) < (m : Int) := by omega
            clear HCF HE3 h3
            go_wp2
            go_ret
            exact ⟨by rw [HX.out]; first | done | rfl, hB⟩
          · have h5i : ¬ (1000 : Int) < (m : Int) := by omega
            have HE4 := hide (HE3.out.trans (if_neg h5))
            clear HE3 h3 h5
            cases ha : fl.any (fun v => !wit v 1073741824)
            · have HX := hide (HE4.out.trans (if_neg (by rw [ha]; simp)))
              have HCG := hide (fun W hs3 => HCF.out W hs3)
              rw [ha] at HCG
              clear HCF HE4 ha
              go_wp2_with fail
              refine (HCG.out _ hs2).mono ?_
              rintro e w2 ⟨rfl, rfl⟩
              clear hs2 HCG
              go_wp2
              go_ret
              exact ⟨by rw [HX.out]; first | done | rfl, hB⟩
            · have HX := hide (HE4.out.trans (if_pos ha))
              have HCG := hide (fun W hs3 => HCF.out W hs3)
              rw [ha] at HCG
              clear HCF HE4 ha
              go_wp2_with fail
              refine (HCG.out _ hs2).mono ?_
              rintro e w2 ⟨rfl, rfl⟩
              clear hs2 HCG
              go_wp2
              go_ret
              exact ⟨by rw [HX.out]; first | done | rfl, hB⟩
        · have hnm : ((n : Int) != (m : Int)) = true := by simp; omega
          have HX := hide (HE2.out.trans (if_pos (.inr h4)))
          clear HCF HE2 h3 h4
          go_wp2
          go_ret
          exact ⟨by rw [HX.out]; first | done | rfl, hB⟩
/-- The first error of some scenarios. -/
def scsErr (m : Nat) : List Sc → Int
  | [] => 0
  | s :: t => if scErr s m = 0 then scsErr m t else scErr s m
def stepsOf (ss : List Sc) : Nat := match ss with | [] => 0 | s :: _ => s.n
/-- A bundle's first error. -/
def Bd.err (b : Bd) : Int := if wit b.fr 16777216 = false then 6 else if b.n = 0 then 3 else if 50 < b.n then 10 else scsErr (stepsOf b.ss) b.ss
theorem scsErr_at (m : Nat) : ∀ (ss : List Sc) (k : Nat) (h : k < ss.length), (∀ j (hj : j < k), scErr (ss[j]'(by omega)) m = 0) → scErr ss[k] m ≠ 0 → scsErr m ss = scErr ss[k] m
  | s :: t, 0, _, _, hk => by unfold scsErr; exact if_neg hk
  | s :: t, k + 1, h, hp, hk => by
    have h0 : scErr s m = 0 := hp 0 (by omega)
    unfold scsErr
    rw [if_pos h0]
    exact scsErr_at m t k (by simpa using h) (fun j hj => hp (j + 1) (by omega)) hk
theorem scsErr_zero (m : Nat) : ∀ (ss : List Sc), scsErr m ss = 0 ↔ ∀ s ∈ ss, scErr s m = 0
  | [] => by simp [scsErr]
  | s :: t => by
    unfold scsErr
    by_cases h : scErr s m = 0
    · rw [if_pos h, scsErr_zero m t]; simp [h]
    · rw [if_neg h]; simp [h]
set_option maxHeartbeats 1600000 in
set_option maxRecDepth 20000 in
theorem fcheck_any (b : Bd) (w : World) (hb : b.ok w w.heap.size) :
    Calls Try.prog 18 #[.agg b.arr] w fun e w' => e = .returned (.int .i64 b.err) ∧ Below w.heap.size w w' := by
  obtain ⟨fr, A, n, c, ss, wd⟩ := b
  have q0 := Blk.new w 27 #[.int .i64 fr, .slice A n c, .bool wd]
  have hB := bel1 (w := w) (o := .cells #[.int .i64 fr, .slice A n c, .bool wd] 27)
  have HS := hide (ScsOk.thr (show ScsOk w w.heap.size A n c ss from hb) hB)
  have HE := hide (show Bd.err ⟨fr, A, n, c, ss, wd⟩ = if wit fr 16777216 = false then 6 else if n = 0 then 3 else if 50 < n then 10 else scsErr (stepsOf ss) ss from rfl)
  have hn63 : n ≤ 9223372036854775807 := by have a1 := HS.out.1.2.1; have a2 := HS.out.1.2.2.1; unfold maxLen at a2; omega
  generalize Bd.err ⟨fr, A, n, c, ss, wd⟩ = er at *
  have HWI := hide (fun W => within_any fr 16777216 W)
  unfold Bd.arr
  simp only
  obtain ⟨c0, c1, c2, _⟩ := q0.facts3
  clear hb
  go_enter Try.func18, Try.ntmps18
  go_wp2_with fail
  generalize w.alloc _ = w1 at *
  refine (HWI.out _).mono ?_
  rintro e w' ⟨rfl, rfl⟩
  cases hw : wit fr 16777216
  · have HX := hide (HE.out.trans (if_pos hw))
    clear HE hw HS q0
    go_wp2
    go_ret
    exact ⟨by rw [HX.out]; first | done | rfl, hB⟩
  · have HE2 := hide (HE.out.trans (if_neg (by rw [hw]; simp)))
    clear HE hw
    by_cases h0 : n = 0
    · have HX := hide (HE2.out.trans (if_pos h0))
      have hn0 : ((n : Int) == 0) = true := by simp [h0]
      clear HE2 HS q0 h0
      go_wp2
      go_ret
      exact ⟨by rw [HX.out]; first | done | rfl, hB⟩
    · have hn0 : ((n : Int) == 0) = false := by simp; omega
      have HE3 := hide (HE2.out.trans (if_neg h0))
      clear HE2
      by_cases h50 : 50 < n
      · have HX := hide (HE3.out.trans (if_pos h50))
        have h5i : (50 : Int) < (n : Int) := by omega
        clear HE3 HS q0 h0
        go_wp2
        go_ret
        exact ⟨by rw [HX.out]; first | done | rfl, hB⟩
      · have h5i : ¬ (50 : Int) < (n : Int) := by omega
        have HE4 := hide (HE3.out.trans (if_neg h50))
        have HQ := hide q0
        have HB := hide hB
        clear HE3 q0 hB
        go_wp2
        clear c0 c1 c2
        go_loopw [24] (fun i wr => ∃ k : Nat, k ≤ n ∧ i = .int .i64 k ∧ Hid (∀ j (hj : j < k) (h : j < ss.length), scErr ss[j] (stepsOf ss) = 0) ∧ Below w1.heap.size w1 wr) (fun i _ => n - (intOf i).toNat)
        case atStart => exact ⟨0, by omega, rfl, hide (fun j hj => by omega), Below.refl _ _⟩
        case round =>
          obtain ⟨k, hk, rfl, HP, hb⟩ := hrel
          by_cases hlt : k < n
          · have hl := HS.out.len
            have HSk := HS.out.thr hb
            obtain ⟨bl, ol, rfl, _, hcl⟩ := HSk.1.at_ hlt
            rcases ek : ss[k]'(by omega) with ⟨wt, A1, n1, c1, fl⟩
            obtain ⟨e0, e1⟩ := sc_cells hcl (by omega) ek
            simp only at e0 e1
            rcases e0' : ss[0]'(by omega) with ⟨wt', A1', n1', c1', fl'⟩
            obtain ⟨-, d1⟩ := sc_cells hcl (show 0 < ss.length by omega) e0'
            simp only [Nat.zero_mul, Nat.add_zero] at d1
            have hst : stepsOf ss = n1' := by
              cases ss with
              | nil => simp at hl; omega
              | cons a t => simp at e0'; simp [stepsOf, e0']
            have hok := HSk.2 _ (List.getElem_mem (show k < ss.length by omega))
            have hok' := HSk.2 _ (List.getElem_mem (show 0 < ss.length by omega))
            rw [ek] at hok
            rw [e0'] at hok'
            have hn1 : n1' ≤ 9223372036854775807 := by have a1 := hok'.2.1; have a2 := hok'.2.2.1; unfold maxLen at a2; simp only at a1 a2; omega
            have HER := hide (fun (h : scErr (ss[k]'(by omega)) (stepsOf ss) ≠ 0) => scsErr_at (stepsOf ss) ss k (by omega) (fun j hj => HP.out j hj (by omega)) h)
            have HPN := hide (fun (h : scErr (ss[k]'(by omega)) (stepsOf ss) = 0) => show ∀ j (hj : j < k + 1) (h : j < ss.length), scErr ss[j] (stepsOf ss) = 0 from fun j hj h2 => by
              by_cases hjk : j = k
              · subst hjk; exact h
              · exact HP.out j (by omega) h2)
            rw [ek] at HER HPN
            have hb2 := hb.alloc hb.size (.cells #[.int .i64 wt, .slice A1 n1 c1] 32)
            have hbx := bel1 (w := wr) (o := .cells #[.int .i64 wt, .slice A1 n1 c1] 32)
            have HSC := hide (fun W (hW : Below wr.heap.size wr W) => scenario_any ⟨wt, A1, n1, c1, fl⟩ n1' hn1 W (Sl.thr hok hW))
            unfold Sc.arr at HSC
            simp only at HSC
            rw [← hst] at HSC
            rw [← hst] at d1
            generalize scErr ⟨wt, A1, n1, c1, fl⟩ (stepsOf ss) = se at *
            generalize stepsOf ss = m at *
            have q1 := Blk.new wr 32 #[.int .i64 wt, .slice A1 n1 c1]
            have hQw := HQ.out.below hb2 HQ.out.lt
            have hki : (k : Int) < (n : Int) := by omega
            have hn0i : (0 : Int) < (n : Int) := by omega
            have HB2 := hide hb2
            have HBX := hide hbx
            have hgs := hbx.size
            replace d1 := cell_thr hbx d1
            clear hcl ek e0' hok hok' hst hl HSk hb hb2 hbx HP
            go_upto_region 10 with fail
            clear e0 e1
            generalize wr.alloc _ = w5 at *
            generalize wr.heap.size = g5 at *
            obtain ⟨x0, x1, _⟩ := q1.facts2
            obtain ⟨y0, y1, y2, _⟩ := hQw.facts3
            have hne : Nonempty (InW fun W => Below w5.heap.size w5 W) := ⟨⟨w5, Below.refl _ _⟩⟩
            replace x0 := inv_cell x0
            replace x1 := inv_cell x1
            replace y1 := inv_cell y1
            replace d1 := inv_cell d1
            have HSC2 := hide (fun W (hW : Below w5.heap.size w5 W) => HSC.out W (bthr HBX.out hW hgs))
            clear y0 y2 q1 hQw
            refine wp_region_inv (I := fun W => Below w5.heap.size w5 W) (by kernel_rfl) (by kernel_rfl) (Below.refl _ _).drew ?_
            repeat (go_big_quiet_step (first | (go_at_call 42; refine inv_call (inv_closed w5) (HSC2.out _ (InW.ok _)))))
            refine wpQuiet_nil ?_
            rintro _ ⟨⟨w6, h6⟩, rfl⟩
            have HB6 := hide (HB2.out.trans (h6.mono HB2.out.size))
            clear h6 hne x0 x1 y1 d1 HSC HSC2
            by_cases hse : se = 0
            · have hq : (se != 0) = false := by simp [hse]
              have HP2 := hide (HPN.out hse)
              clear HPN HER hse
              go_wp2
              go_roundw
              case rel => exact ⟨k + 1, by omega, by go_num, HP2, HB6.out⟩
              case measure => simp [intOf]; omega
            · have hq : (se != 0) = true := by simp [hse]
              have HX := hide (HE4.out.trans (HER.out hse))
              have HBZ := hide (bthr HB.out HB6.out HB.out.size)
              clear HPN HER hse
              go_wp2
              go_ret
              exact ⟨by rw [HX.out]; first | done | rfl, HBZ.out⟩
          · have hki : ¬ ((k : Int) < (n : Int)) := by omega
            have HX := hide (HE4.out.trans ((scsErr_zero (stepsOf ss) ss).2 (fun s hs => by
              obtain ⟨j, hj, rfl⟩ := List.getElem_of_mem hs
              exact HP.out j (by have := HS.out.len; omega) hj)))
            have HBZ := hide (bthr HB.out hb HB.out.size)
            clear hb HP
            go_wp2
            go_ret
            exact ⟨by rw [HX.out]; first | done | rfl, HBZ.out⟩
end Go.Proofs.Ytmlpimidbgeacaa
