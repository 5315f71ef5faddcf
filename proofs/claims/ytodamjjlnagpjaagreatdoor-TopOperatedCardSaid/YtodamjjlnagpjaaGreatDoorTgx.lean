/-
  The contract of sort.Search at a function that answers: a number from 0 to n. Condition: the function answers at every number from 0 to n - 1, in memory of its own.
  The contracts of gate.enough, of the functions that Set and least hand on, and of gate.least: an opening within the bounds. Conditions: the curve lies in memory and is none or valid; the function answers.
  The contract of gate.least: an opening within the bounds. Condition: the function answers at each opening within them.
  Stronger words of sort.Search, gate.enough and gate.least: what the function answers at the number that is found. Condition: as in the texts that they sharpen.
-/
import Derived.Test.YtodamjjlnagpjaaGreatDoorProg
import Derived.Test.YtodamjjlnagpjaaGreatDoorTge
import Derived.Laws.EntriesVeiled
namespace Go.Proofs.YtodamjjlnagpjaaGreatDoor
open Go.RowKit

def SeaP (n : Int) (w : World) (e : Ending) (w' : World) : Prop := ∃ r : Int, e = .returned (.int .i64 r) ∧ 0 ≤ r ∧ r ≤ n ∧ Below w.heap.size w w'
def AnsB (W : World) (e : Ending) (w' : World) : Prop := ∃ b : Bool, e = .returned (.bool b) ∧ Below W.heap.size W w'
set_option maxHeartbeats 1600000 in
set_option maxRecDepth 20000 in
theorem search_any (kf : FuncId) (cap : Array Value) (n : Int) (hn : 0 ≤ n ∧ n ≤ 100000) (w : World) (hcf : ∀ (a : Array Value) (W : World), (callFunc kf a).run Tryz.prog W = .ok (.enter kf a) W)
    (hf : ∀ (h : Int) (W : World), 0 ≤ h → h < n → Below w.heap.size w W → Calls Tryz.prog kf (#[.int .i64 h] ++ cap) W (AnsB W)) :
    Calls Tryz.prog 124 #[.int .i64 n, .func (.func kf) #[] cap] w (SeaP n w) := by
  obtain ⟨n0, n1⟩ := hn
  have HF := hide hf
  have HCF := hide hcf
  clear hf hcf
  go_enter Tryz.func124, Tryz.ntmps124
  go_wp2
  go_loopw [5, 6] (fun v1 v2 wr => ∃ i j : Int, v1 = .int .i64 i ∧ v2 = .int .i64 j ∧ (0 ≤ i ∧ i ≤ j ∧ j ≤ n) ∧ Below w.heap.size w wr) (fun v1 v2 _ => (intOf v2 - intOf v1).toNat)
  case atStart => exact ⟨0, n, rfl, rfl, by omega, Below.refl _ _⟩
  case round =>
    obtain ⟨i, j, rfl, rfl, ⟨hi0, hij, hjn⟩, hb⟩ := hrel
    have HB := hide hb
    by_cases hlt : i < j
    · have hltd : decide (i < j) = true := by simpa using hlt
      clear hb
      obtain ⟨h, hh⟩ : ∃ h : Int, (i + j) / 2 = h := ⟨_, rfl⟩
      have hh0 : i ≤ h ∧ h < j := by omega
      have hcf := HCF.out
      go_wp2_with fail
      refine (HF.out h wr (by omega) (by omega) HB.out).mono ?_
      rintro e w2 ⟨b, rfl, hb2⟩
      have HB2 := hide (bthr HB.out hb2 HB.out.size)
      clear hb2 hcf hh
      cases b
      · go_wp2
        go_roundw
        case rel => exact ⟨h + 1, j, rfl, rfl, by omega, HB2.out⟩
        case measure => simp [intOf]; omega
      · go_wp2
        go_roundw
        case rel => exact ⟨i, h, rfl, rfl, by omega, HB2.out⟩
        case measure => simp [intOf]; omega
    · have hltd : decide (i < j) = false := by simpa using hlt
      clear hb
      go_wp2
      go_ret
      exact ⟨i, rfl, hi0, by omega, HB.out⟩
end Go.Proofs.YtodamjjlnagpjaaGreatDoor
namespace Go.Proofs.YtodamjjlnagpjaaGreatDoor
open Go.RowKit

theorem cfEno : ∀ (a : Array Value) (W : World), (callFunc 105 a).run Tryz.prog W = .ok (.enter 105 a) W := fun _ _ => by kernel_rfl
theorem cfSet1 : ∀ (a : Array Value) (W : World), (callFunc 110 a).run Tryz.prog W = .ok (.enter 110 a) W := fun _ _ => by kernel_rfl
theorem cfLea1 : ∀ (a : Array Value) (W : World), (callFunc 125 a).run Tryz.prog W = .ok (.enter 125 a) W := fun _ _ => by kernel_rfl
set_option maxHeartbeats 800000 in
set_option maxRecDepth 20000 in
theorem enough_any (cv : Cv) (wn op : Int) (hcv : CvN cv) (w : World) (hs : cv.ok w) :
    Calls Tryz.prog 105 #[.agg #[.slice cv.A cv.n cv.c, .int .i64 wn], .int .i64 op] w (AnsB w) := by
  have q0 := Blk.new w 186 #[.slice cv.A cv.n cv.c, .int .i64 wn]
  have hb0 := bel1 (w := w) (o := .cells #[.slice cv.A cv.n cv.c, .int .i64 wn] 186)
  have hs0 := hs.below hb0
  have HF := hide (fun W h => flow_any cv wn op hcv W h)
  generalize vflow cv op = vf at *
  obtain ⟨c0, c1, cf⟩ := q0.facts2
  obtain ⟨A, n, c, ps⟩ := cv
  simp only at *
  clear hcv hs
  go_enter Tryz.func105, Tryz.ntmps105
  go_upto_region 1 with fail
  generalize w.alloc _ = w1 at *
  have hne : Nonempty (InW fun w => Below w1.heap.size w1 w) := ⟨⟨w1, Below.refl _ _⟩⟩
  have HF2 := hide (fun (y : InW (fun w => Below w1.heap.size w1 w)) => HF.out y.val (Cv.ok.below hs0 y.ok))
  replace c0 := inv_cell c0
  replace c1 := inv_cell c1
  refine wp_region_inv (I := fun w => Below w1.heap.size w1 w) (by kernel_rfl) (by kernel_rfl) (Below.refl _ _).drew ?_
  repeat (go_big_quiet_step (first | (go_at_call 108; refine inv_call (inv_closed w1) (HF2.out _))))
  refine wpQuiet_nil ?_
  rintro _ ⟨⟨w9, h9⟩, rfl⟩
  have HB9 := hide (bthr hb0 h9 hb0.size)
  clear c0 c1 cf hb0 h9 hs0 q0
  go_wp2
  go_ret
  exact ⟨_, rfl, HB9.out⟩
set_option maxRecDepth 20000 in
theorem set1_any (cv : Cv) (wn op : Int) (hcv : CvN cv) (g h : Nat) (w : World) (hs : cv.ok w) (c0 : w.cell? ⟨g, 0, none⟩ = some (.func (.func 105) #[] #[])) (d0 : w.cell? ⟨h, 0, none⟩ = some (.slice cv.A cv.n cv.c)) (d1 : w.cell? ⟨h, 1, none⟩ = some (.int .i64 wn)) :
    Calls Tryz.prog 110 #[.int .i64 op, .pointer (some ⟨g, 0, none⟩), .pointer (some ⟨h, 0, none⟩)] w (AnsB w) := by
  have HE := hide (enough_any cv wn op hcv w hs)
  have hcf := cfEno
  clear hs hcv
  go_enter Tryz.func110, Tryz.ntmps110
  go_wp2_with fail
  refine HE.out.mono ?_
  rintro e w2 ⟨b, rfl, hb2⟩
  have HB := hide hb2
  clear hb2 c0 d0 d1 hcf
  go_wp2
  go_ret
  exact ⟨_, rfl, HB.out⟩
set_option maxRecDepth 20000 in
theorem least1_any (kf : FuncId) (cap : Array Value) (op lo _ : Int) (ho : 0 ≤ op ∧ op ≤ 100000) (hl : 0 ≤ lo ∧ lo ≤ 100000) (g h : Nat) (w : World) (hcf : ∀ (a : Array Value) (W : World), (callFunc kf a).run Tryz.prog W = .ok (.enter kf a) W)
    (hf : Calls Tryz.prog kf (#[.int .i64 (lo + op)] ++ cap) w (AnsB w)) (c0 : w.cell? ⟨g, 0, none⟩ = some (.func (.func kf) #[] cap)) (d0 : w.cell? ⟨h, 0, none⟩ = some (.int .i64 lo)) :
    Calls Tryz.prog 125 #[.int .i64 op, .pointer (some ⟨g, 0, none⟩), .pointer (some ⟨h, 0, none⟩)] w (AnsB w) := by
  have HE := hide hf
  obtain ⟨o0, o1⟩ := ho
  obtain ⟨l0, l1⟩ := hl
  clear hf
  go_enter Tryz.func125, Tryz.ntmps125
  go_wp2_with fail
  refine HE.out.mono ?_
  rintro e w2 ⟨b, rfl, hb2⟩
  have HB := hide hb2
  clear hb2 c0 d0 hcf
  go_wp2
  go_ret
  exact ⟨_, rfl, HB.out⟩
end Go.Proofs.YtodamjjlnagpjaaGreatDoor
namespace Go.Proofs.YtodamjjlnagpjaaGreatDoor
open Go.RowKit

def LeaP (lo hi : Int) (w : World) (e : Ending) (w' : World) : Prop := ∃ r : Int, e = .returned (.int .i64 r) ∧ lo ≤ r ∧ r ≤ hi ∧ Below w.heap.size w w'
set_option maxHeartbeats 1600000 in
set_option maxRecDepth 20000 in
theorem least_any (kf : FuncId) (cap : Array Value) (lo hi : Int) (hl : 0 ≤ lo ∧ lo ≤ hi ∧ hi ≤ 1000) (w : World) (hcf : ∀ (a : Array Value) (W : World), (callFunc kf a).run Tryz.prog W = .ok (.enter kf a) W)
    (hf : ∀ (op : Int) (W : World), lo ≤ op → op ≤ hi → Below w.heap.size w W → Calls Tryz.prog kf (#[.int .i64 op] ++ cap) W (AnsB W)) :
    Calls Tryz.prog 109 #[.agg #[.int .i64 lo, .int .i64 hi], .func (.func kf) #[] cap] w (LeaP lo hi w) := by
  obtain ⟨q0, p0, hb0⟩ := blk_two w 45 83 #[.int .i64 lo, .int .i64 hi] #[.func (.func kf) #[] cap]
  obtain ⟨l0, l1, l2⟩ := hl
  obtain ⟨c0, c1, cf⟩ := q0.facts2
  have hmf : ∀ (fn : Fn) (first cap : Array Value) (w : World), (Instr.makeFunc fn first cap).run Tryz.prog w = .ok (.func fn first cap) w := fun _ _ _ _ => rfl
  have d0 : ((w.alloc (.cells #[.int .i64 lo, .int .i64 hi] 45)).alloc (.cells #[.func (.func kf) #[] cap] 83)).cell? ⟨w.heap.size + 1, 0, none⟩ = some (.func (.func kf) #[] cap) := by rw [p0.facts.1]; rfl
  have HF := hide hf
  have HCF := hide hcf
  clear hf hcf q0 p0
  go_enter Tryz.func109, Tryz.ntmps109
  go_upto_region 1 with fail
  generalize (w.alloc _).alloc _ = w1 at *
  have hd1 : Below w1.heap.size w1 w1.drew := (Below.refl _ _).drew
  have HS := hide (search_any 125 #[.pointer (some ⟨w.heap.size + 1, 0, none⟩), .pointer (some ⟨w.heap.size, 0, none⟩)] (hi - lo + 1) (by omega) w1.drew cfLea1 (fun h W h0 h1 hb => by
    have hb' : Below w1.heap.size w1 W := hd1.trans (hb.mono hd1.size)
    exact least1_any kf cap h lo hi (by omega) (by omega) (w.heap.size + 1) w.heap.size W HCF.out (HF.out (lo + h) W (by omega) (by omega) (bthr hb0 hb' hb0.size)) (cell_thr hb' d0) (cell_thr hb' c0)))
  have hw1 : IntKind.i64.wrap (hi - lo) = hi - lo := by rw [IntKind.wrap_i64]; omega
  have hw2 : IntKind.i64.wrap (hi - lo + 1) = hi - lo + 1 := by rw [IntKind.wrap_i64]; omega
  go_region_held3 (fun w' => w'.cell? ⟨w.heap.size, 0, none⟩ = some (.int .i64 lo) ∧ w'.cell? ⟨w.heap.size, 1, none⟩ = some (.int .i64 hi))
    (first | exact ⟨c0, c1⟩ | exact ⟨c0', c1'⟩)
    (first | (go_at_call 124; refine HS.out.mono ?_; rintro e w6 ⟨r, rfl, hr0, hr1, hb6⟩; have hb6' := hd1.trans (hb6.mono hd1.size); have c0' := cell_thr hb6' c0; have c1' := cell_thr hb6' c1; have hw3 : IntKind.i64.wrap (lo + r) = lo + r := (by rw [IntKind.wrap_i64]; omega)))
  all_goals
    obtain ⟨z, hz, z0, z1⟩ : ∃ z : Int, min (lo + r) hi = z ∧ lo ≤ z ∧ z ≤ hi := ⟨_, rfl, by omega, by omega⟩
    rw [hz]
    go_wp2
    go_ret
    exact ⟨z, rfl, z0, z1, bthr hb0 hb6' hb0.size⟩
end Go.Proofs.YtodamjjlnagpjaaGreatDoor
namespace Go.Proofs.YtodamjjlnagpjaaGreatDoor
open Go.RowKit

def SeaF (f : Int → Bool) (n : Int) (w : World) (e : Ending) (w' : World) : Prop := ∃ r : Int, e = .returned (.int .i64 r) ∧ 0 ≤ r ∧ r ≤ n ∧ (0 < r → f (r - 1) = false) ∧ (r < n → f r = true) ∧ Below w.heap.size w w'
def AnsF (b : Bool) (W : World) (e : Ending) (w' : World) : Prop := e = .returned (.bool b) ∧ Below W.heap.size W w'
def LeaF (f : Int → Bool) (lo hi : Int) (w : World) (e : Ending) (w' : World) : Prop := ∃ r : Int, e = .returned (.int .i64 r) ∧ lo ≤ r ∧ r ≤ hi ∧ ((f r = true ∧ (lo < r → f (r - 1) = false)) ∨ f hi = false) ∧ Below w.heap.size w w'
set_option maxHeartbeats 1600000 in
set_option maxRecDepth 20000 in
theorem search_f (f : Int → Bool) (kf : FuncId) (cap : Array Value) (n : Int) (hn : 0 ≤ n ∧ n ≤ 100000) (w : World) (hcf : ∀ (a : Array Value) (W : World), (callFunc kf a).run Tryz.prog W = .ok (.enter kf a) W)
    (hf : ∀ (h : Int) (W : World), 0 ≤ h → h < n → Below w.heap.size w W → Calls Tryz.prog kf (#[.int .i64 h] ++ cap) W (AnsF (f h) W)) :
    Calls Tryz.prog 124 #[.int .i64 n, .func (.func kf) #[] cap] w (SeaF f n w) := by
  obtain ⟨n0, n1⟩ := hn
  have HF := hide hf
  have HCF := hide hcf
  clear hf hcf
  go_enter Tryz.func124, Tryz.ntmps124
  go_wp2
  go_loopw [5, 6] (fun v1 v2 wr => ∃ i j : Int, v1 = .int .i64 i ∧ v2 = .int .i64 j ∧ (0 ≤ i ∧ i ≤ j ∧ j ≤ n) ∧ Hid ((0 < i → f (i - 1) = false) ∧ (j < n → f j = true)) ∧ Below w.heap.size w wr) (fun v1 v2 _ => (intOf v2 - intOf v1).toNat)
  case atStart => exact ⟨0, n, rfl, rfl, by omega, hide ⟨fun h => absurd h (by omega), fun h => absurd h (by omega)⟩, Below.refl _ _⟩
  case round =>
    obtain ⟨i, j, rfl, rfl, ⟨hi0, hij, hjn⟩, HFA, hb⟩ := hrel
    have HB := hide hb
    by_cases hlt : i < j
    · have hltd : decide (i < j) = true := by simpa using hlt
      clear hb
      obtain ⟨h, hh⟩ : ∃ h : Int, (i + j) / 2 = h := ⟨_, rfl⟩
      have hh0 : i ≤ h ∧ h < j := by omega
      have hcf := HCF.out
      go_wp2_with fail
      refine (HF.out h wr (by omega) (by omega) HB.out).mono ?_
      rintro e w2 ⟨rfl, hb2⟩
      have HFH := hide (show f h = f h from rfl)
      obtain ⟨b, hbf⟩ : ∃ b, f h = b := ⟨_, rfl⟩
      rw [hbf]
      have HBF := hide hbf
      have HB2 := hide (bthr HB.out hb2 HB.out.size)
      clear hb2 hcf hh hbf HFH
      cases b
      · go_wp2
        go_roundw
        case rel => exact ⟨h + 1, j, rfl, rfl, by omega, hide ⟨fun _ => by rw [show h + 1 - 1 = h by omega]; exact HBF.out, HFA.out.2⟩, HB2.out⟩
        case measure => simp [intOf]; omega
      · go_wp2
        go_roundw
        case rel => exact ⟨i, h, rfl, rfl, by omega, hide ⟨HFA.out.1, fun _ => HBF.out⟩, HB2.out⟩
        case measure => simp [intOf]; omega
    · have hltd : decide (i < j) = false := by simpa using hlt
      clear hb
      go_wp2
      go_ret
      exact ⟨i, rfl, hi0, by omega, HFA.out.1, (by have h := HFA.out.2; rwa [show j = i by omega] at h), HB.out⟩
set_option maxHeartbeats 800000 in
set_option maxRecDepth 20000 in
theorem enough_f (cv : Cv) (wn op : Int) (hcv : CvN cv) (w : World) (hs : cv.ok w) :
    Calls Tryz.prog 105 #[.agg #[.slice cv.A cv.n cv.c, .int .i64 wn], .int .i64 op] w (AnsF (decide (wn ≤ vflow cv op)) w) := by
  have q0 := Blk.new w 186 #[.slice cv.A cv.n cv.c, .int .i64 wn]
  have hb0 := bel1 (w := w) (o := .cells #[.slice cv.A cv.n cv.c, .int .i64 wn] 186)
  have hs0 := hs.below hb0
  have HF := hide (fun W h => flow_any cv wn op hcv W h)
  generalize vflow cv op = vf at *
  obtain ⟨c0, c1, cf⟩ := q0.facts2
  obtain ⟨A, n, c, ps⟩ := cv
  simp only at *
  clear hcv hs
  go_enter Tryz.func105, Tryz.ntmps105
  go_upto_region 1 with fail
  generalize w.alloc _ = w1 at *
  have hne : Nonempty (InW fun w => Below w1.heap.size w1 w) := ⟨⟨w1, Below.refl _ _⟩⟩
  have HF2 := hide (fun (y : InW (fun w => Below w1.heap.size w1 w)) => HF.out y.val (Cv.ok.below hs0 y.ok))
  replace c0 := inv_cell c0
  replace c1 := inv_cell c1
  refine wp_region_inv (I := fun w => Below w1.heap.size w1 w) (by kernel_rfl) (by kernel_rfl) (Below.refl _ _).drew ?_
  repeat (go_big_quiet_step (first | (go_at_call 108; with_reducible refine inv_call (inv_closed w1) (HF2.out _))))
  refine wpQuiet_nil ?_
  rintro _ ⟨⟨w9, h9⟩, rfl⟩
  have HB9 := hide (bthr hb0 h9 hb0.size)
  clear c0 c1 cf hb0 h9 hs0 q0
  go_wp2
  go_ret
  exact ⟨rfl, HB9.out⟩
set_option maxRecDepth 20000 in
theorem set1_f (cv : Cv) (wn op : Int) (hcv : CvN cv) (g h : Nat) (w : World) (hs : cv.ok w) (c0 : w.cell? ⟨g, 0, none⟩ = some (.func (.func 105) #[] #[])) (d0 : w.cell? ⟨h, 0, none⟩ = some (.slice cv.A cv.n cv.c)) (d1 : w.cell? ⟨h, 1, none⟩ = some (.int .i64 wn)) :
    Calls Tryz.prog 110 #[.int .i64 op, .pointer (some ⟨g, 0, none⟩), .pointer (some ⟨h, 0, none⟩)] w (AnsF (decide (wn ≤ vflow cv op)) w) := by
  have HE := hide (enough_f cv wn op hcv w hs)
  have hcf := cfEno
  clear hs hcv
  go_enter Tryz.func110, Tryz.ntmps110
  go_wp2_with fail
  refine HE.out.mono ?_
  rintro e w2 ⟨rfl, hb2⟩
  have HB := hide hb2
  clear hb2 c0 d0 d1 hcf
  go_wp2
  go_ret
  exact ⟨rfl, HB.out⟩
set_option maxRecDepth 20000 in
theorem least1_f (bv : Bool) (kf : FuncId) (cap : Array Value) (op lo _ : Int) (ho : 0 ≤ op ∧ op ≤ 100000) (hl : 0 ≤ lo ∧ lo ≤ 100000) (g h : Nat) (w : World) (hcf : ∀ (a : Array Value) (W : World), (callFunc kf a).run Tryz.prog W = .ok (.enter kf a) W)
    (hf : Calls Tryz.prog kf (#[.int .i64 (lo + op)] ++ cap) w (AnsF bv w)) (c0 : w.cell? ⟨g, 0, none⟩ = some (.func (.func kf) #[] cap)) (d0 : w.cell? ⟨h, 0, none⟩ = some (.int .i64 lo)) :
    Calls Tryz.prog 125 #[.int .i64 op, .pointer (some ⟨g, 0, none⟩), .pointer (some ⟨h, 0, none⟩)] w (AnsF bv w) := by
  have HE := hide hf
  obtain ⟨o0, o1⟩ := ho
  obtain ⟨l0, l1⟩ := hl
  clear hf
  go_enter Tryz.func125, Tryz.ntmps125
  go_wp2_with fail
  refine HE.out.mono ?_
  rintro e w2 ⟨rfl, hb2⟩
  have HB := hide hb2
  clear hb2 c0 d0 hcf
  go_wp2
  go_ret
  exact ⟨rfl, HB.out⟩
set_option maxHeartbeats 1600000 in
set_option maxRecDepth 20000 in
theorem least_f (f : Int → Bool) (kf : FuncId) (cap : Array Value) (lo hi : Int) (hl : 0 ≤ lo ∧ lo ≤ hi ∧ hi ≤ 1000) (w : World) (hcf : ∀ (a : Array Value) (W : World), (callFunc kf a).run Tryz.prog W = .ok (.enter kf a) W)
    (hf : ∀ (op : Int) (W : World), lo ≤ op → op ≤ hi → Below w.heap.size w W → Calls Tryz.prog kf (#[.int .i64 op] ++ cap) W (AnsF (f op) W)) :
    Calls Tryz.prog 109 #[.agg #[.int .i64 lo, .int .i64 hi], .func (.func kf) #[] cap] w (LeaF f lo hi w) := by
  obtain ⟨q0, p0, hb0⟩ := blk_two w 45 83 #[.int .i64 lo, .int .i64 hi] #[.func (.func kf) #[] cap]
  obtain ⟨l0, l1, l2⟩ := hl
  obtain ⟨c0, c1, cf⟩ := q0.facts2
  have hmf : ∀ (fn : Fn) (first cap : Array Value) (w : World), (Instr.makeFunc fn first cap).run Tryz.prog w = .ok (.func fn first cap) w := fun _ _ _ _ => rfl
  have d0 : ((w.alloc (.cells #[.int .i64 lo, .int .i64 hi] 45)).alloc (.cells #[.func (.func kf) #[] cap] 83)).cell? ⟨w.heap.size + 1, 0, none⟩ = some (.func (.func kf) #[] cap) := by rw [p0.facts.1]; rfl
  have HF := hide hf
  have HCF := hide hcf
  clear hf hcf q0 p0
  go_enter Tryz.func109, Tryz.ntmps109
  go_upto_region 1 with fail
  generalize (w.alloc _).alloc _ = w1 at *
  have hd1 : Below w1.heap.size w1 w1.drew := (Below.refl _ _).drew
  have HS := hide (search_f (fun h => f (lo + h)) 125 #[.pointer (some ⟨w.heap.size + 1, 0, none⟩), .pointer (some ⟨w.heap.size, 0, none⟩)] (hi - lo + 1) (by omega) w1.drew cfLea1 (fun h W h0 h1 hb => by
    have hb' : Below w1.heap.size w1 W := hd1.trans (hb.mono hd1.size)
    exact least1_f (f (lo + h)) kf cap h lo hi (by omega) (by omega) (w.heap.size + 1) w.heap.size W HCF.out (HF.out (lo + h) W (by omega) (by omega) (bthr hb0 hb' hb0.size)) (cell_thr hb' d0) (cell_thr hb' c0)))
  have hw1 : IntKind.i64.wrap (hi - lo) = hi - lo := by rw [IntKind.wrap_i64]; omega
  have hw2 : IntKind.i64.wrap (hi - lo + 1) = hi - lo + 1 := by rw [IntKind.wrap_i64]; omega
  go_region_held3 (fun w' => w'.cell? ⟨w.heap.size, 0, none⟩ = some (.int .i64 lo) ∧ w'.cell? ⟨w.heap.size, 1, none⟩ = some (.int .i64 hi))
    (first | exact ⟨c0, c1⟩ | exact ⟨c0', c1'⟩)
    (first | (go_at_call 124; refine HS.out.mono ?_; rintro e w6 ⟨r, rfl, hr0, hr1, hr2, hr3, hb6⟩; have hb6' := hd1.trans (hb6.mono hd1.size); have c0' := cell_thr hb6' c0; have c1' := cell_thr hb6' c1; have hw3 : IntKind.i64.wrap (lo + r) = lo + r := (by rw [IntKind.wrap_i64]; omega)))
  all_goals
    obtain ⟨z, hz, z0, z1⟩ : ∃ z : Int, min (lo + r) hi = z ∧ lo ≤ z ∧ z ≤ hi := ⟨_, rfl, by omega, by omega⟩
    have HZF := hide (show (f z = true ∧ (lo < z → f (z - 1) = false)) ∨ f hi = false by
      by_cases hrn : r < hi - lo + 1
      · have hzr : z = lo + r := by omega
        subst hzr
        exact .inl ⟨hr3 hrn, fun h => by have h9 := hr2 (by omega); rwa [show lo + (r - 1) = lo + r - 1 by omega] at h9⟩
      · have hre : r = hi - lo + 1 := by omega
        have h9 := hr2 (by omega)
        rw [show lo + (r - 1) = hi by omega] at h9
        exact .inr h9)
    clear hr2 hr3
    rw [hz]
    go_wp2
    go_ret
    exact ⟨z, rfl, z0, z1, HZF.out, bthr hb0 hb6' hb0.size⟩
end Go.Proofs.YtodamjjlnagpjaaGreatDoor
