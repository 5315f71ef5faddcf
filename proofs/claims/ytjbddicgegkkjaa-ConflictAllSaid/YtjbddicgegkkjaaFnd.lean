/-
  Contracts of all, Find and Ever: the pairs of conditions that are asked for, in order. Conditions: each condition is valid, there are 200 at most, and the function that asks only reads.
-/
import Derived.Test.YtjbddicgegkkjaaProg
import Derived.Test.YtjbddicgegkkjaaPairc
import Derived.Test.YtjbddicgegkkjaaApp
import Derived.Test.YtjbddicgegkkjaaCds
import Derived.Test.YtjbddicgegkkjaaPushN
import Derived.Deep.LoopGhost
import Derived.WalkMore
namespace Go.Proofs.Ytjbddicgegkkjaa
open Go.RowKit

def rowP (f : Nat → Nat → Bool) (i k : Nat) : List (Int × Int) := ((List.range k).filter fun b => decide (i < b) && f i b).map fun b : Nat => ((i : Int), (b : Int))
def allP (f : Nat → Nat → Bool) (n i : Nat) : List (Int × Int) := (List.range i).flatMap fun a => rowP f a n
theorem rowP_in {f : Nat → Nat → Bool} {i k : Nat} (h : i < k) (hf : f i k = true) : rowP f i (k + 1) = rowP f i k ++ [((i : Int), (k : Int))] := by
  unfold rowP; rw [List.range_succ, List.filter_append, List.map_append]
  congr 1
  simp [h, hf]
theorem rowP_out {f : Nat → Nat → Bool} {i k : Nat} (hf : f i k = false) : rowP f i (k + 1) = rowP f i k := by
  unfold rowP; rw [List.range_succ, List.filter_append, List.map_append]
  simp [hf]
theorem rowP_start (f : Nat → Nat → Bool) (i : Nat) : rowP f i (i + 1) = [] := by
  unfold rowP
  rw [List.map_eq_nil_iff, List.filter_eq_nil_iff]
  intro a ha
  simp at ha ⊢
  omega
theorem allP_succ (f : Nat → Nat → Bool) (n i : Nat) : allP f n (i + 1) = allP f n i ++ rowP f i n := by
  unfold allP; rw [List.range_succ, List.flatMap_append]; simp
theorem allP_mem {f : Nat → Nat → Bool} {n i : Nat} {q : Int × Int} : q ∈ allP f n i ↔ ∃ a b : Nat, a < i ∧ a < b ∧ b < n ∧ f a b = true ∧ q = ((a : Int), (b : Int)) := by
  unfold allP rowP
  simp only [List.mem_flatMap, List.mem_range, List.mem_map, List.mem_filter, Bool.and_eq_true, decide_eq_true_eq]
  constructor
  · rintro ⟨a, ha, b, ⟨hb, h1, h2⟩, rfl⟩; exact ⟨a, b, ha, h1, hb, h2, rfl⟩
  · rintro ⟨a, b, ha, h1, hb, h2, rfl⟩; exact ⟨a, ha, b, ⟨hb, h1, h2⟩, rfl⟩
theorem rowP_len (f : Nat → Nat → Bool) (i k : Nat) : (rowP f i k).length ≤ k := by
  unfold rowP; rw [List.length_map]
  have := List.length_filter_le (fun b => decide (i < b) && f i b) (List.range k)
  rwa [List.length_range] at this
theorem allP_len (f : Nat → Nat → Bool) (n : Nat) : ∀ i, (allP f n i).length ≤ i * n
  | 0 => by simp [allP]
  | i + 1 => by
    rw [allP_succ, List.length_append, Nat.succ_mul]
    have h1 := allP_len f n i
    have h2 := rowP_len f i n
    omega
def pCells (ys : List (Int × Int)) : List Value := ys.flatMap fun y => [.int .i64 y.1, .int .i64 y.2]
theorem pCells_append (a b : List (Int × Int)) : pCells (a ++ b) = pCells a ++ pCells b := by simp [pCells]
theorem slPairT : SlT Try.prog 43 48 2 := slT_of (z := .agg #[.int .i64 0, .int .i64 0]) (bytes := 16) Try.underlying43 (by kernel_rfl) rfl (by decide) (by decide)
def cdn : Cd := ⟨0, 0, 0, 0, 0, 0, 0⟩
def askF (wf : Bool → Bool → Bool) (cs : List Cd) (a b : Nat) : Bool := wf (mayB (cs.getD a cdn) (cs.getD b cdn)) (everB (cs.getD a cdn) (cs.getD b cdn))
def AllPost (w : World) (ps : List (Int × Int)) (e : Ending) (w' : World) : Prop := ∃ v, e = .returned (.tuple #[v, .int .i64 0]) ∧ w'.ownsRow w.heap.size 48 2 v ps.length (pCells ps) ∧ Below w.heap.size w w'
set_option maxHeartbeats 3200000 in
set_option maxRecDepth 20000 in
theorem all_ok (kf : FuncId) (hcf : ∀ (a : Array Value) (W : World), (callFunc kf a).run Try.prog W = .ok (.enter kf a) W) (wf : Bool → Bool → Bool) (hf : ∀ (m e : Bool) (W : World), Calls Try.prog kf #[.bool m, .bool e] W fun x w' => x = .returned (.bool (wf m e)) ∧ W = w')
    (A : Option Addr) (n c : Nat) (cs : List Cd) (w : World) (hn : n ≤ 200) (hg : ∀ x ∈ cs, x.err = 0) (hs : Sl w w.heap.size 7 A n c (cdCells cs)) :
    Calls Try.prog 36 #[.slice A n c, .func (.func kf) #[] #[]] w (AllPost w (allP (askF wf cs) n n)) := by
  have hl : n = cs.length := by have := hs.1; rw [cdCells_length] at this; omega
  have HL := hide hl
  have HG := hide hg
  have HF := hide hf
  have HCF := hide hcf
  clear hl hg hf hcf
  obtain ⟨F, hF⟩ : ∃ F, F = askF wf cs := ⟨_, rfl⟩
  have HFF := hide hF
  rw [← hF]
  clear hF
  go_enter Try.func36, Try.ntmps36
  go_wp2
  go_step3
  go_wp2_with fail
  refine (check_ok A n c cs w hn HG.out hs).mono ?_
  rintro e w1 ⟨rfl, hb1⟩
  have HS := hide (hs.thr hb1)
  have HB1 := hide hb1
  clear hs hb1
  go_wp2
  go_step3
  go_wp2
  go_loopg [7, 17] n (fun g v i wr => ∃ a : Nat, g + a = n ∧ i = .int .i64 a ∧ wr.ownsRow w1.heap.size 48 2 v (allP F n a).length (pCells (allP F n a)) ∧ Below w1.heap.size w1 wr)
  case atStart => exact ⟨0, by omega, rfl, World.ownsRow_nil _ _ _ _, Below.refl _ _⟩
  case round =>
    obtain ⟨a, ha, rfl, hv, hb⟩ := hrel
    by_cases hlt : a < n
    · have HV := hide hv
      have HB := hide hb
      have HGA := hide ha
      clear hv hb ha
      go_wp2
      go_loopg [7, 9] (n - (a + 1)) (fun g v i wq => ∃ b : Nat, g + b = n ∧ a < b ∧ i = .int .i64 b ∧ wq.ownsRow w1.heap.size 48 2 v (allP F n a ++ rowP F a b).length (pCells (allP F n a ++ rowP F a b)) ∧ Below w1.heap.size w1 wq)
      case atStart => exact ⟨a + 1, by omega, by omega, by go_num, by rw [rowP_start, List.append_nil]; exact HV.out, HB.out⟩
      case round =>
        obtain ⟨b, hbn, hab, rfl, hv, hb⟩ := hrel
        by_cases hlt2 : b < n
        · have hL := HL.out
          obtain ⟨bl, ol, rfl, _, hcl⟩ := (HS.out.below hb).at_ hlt
          rcases ea : cs[a]'(by omega) with ⟨r, kd, vv, f, t, x, y⟩
          rcases eb : cs[b]'(by omega) with ⟨r2, kd2, vv2, f2, t2, x2, y2⟩
          obtain ⟨e0, e1, e2, e3, e4, e5, e6⟩ := cd_cells (B := 0) (n := 0) (c := 0) hcl (by omega) ea
          obtain ⟨d0, d1, d2, d3, d4, d5, d6⟩ := cd_cells (B := 0) (n := 0) (c := 0) hcl (by omega) eb
          have ga := HG.out _ (List.getElem_mem (show a < cs.length by omega))
          have gb := HG.out _ (List.getElem_mem (show b < cs.length by omega))
          rw [ea] at ga
          rw [eb] at gb
          have hFab : F a b = wf (mayB ⟨r, kd, vv, f, t, x, y⟩ ⟨r2, kd2, vv2, f2, t2, x2, y2⟩) (everB ⟨r, kd, vv, f, t, x, y⟩ ⟨r2, kd2, vv2, f2, t2, x2, y2⟩) := by
            rw [HFF.out]; unfold askF; simp [List.getD_eq_getElem?_getD, show a < cs.length by omega, show b < cs.length by omega, ea, eb]
          have HP := hide (fun W => show Calls Try.prog 33 #[.agg #[.int .i64 r, .int .i64 kd, .int .i64 vv, .int .i64 f, .int .i64 t, .int .i64 x, .int .i64 y], .agg #[.int .i64 r2, .int .i64 kd2, .int .i64 vv2, .int .i64 f2, .int .i64 t2, .int .i64 x2, .int .i64 y2]] W fun e w' => e = .returned (.tuple #[.bool (mayB ⟨r, kd, vv, f, t, x, y⟩ ⟨r2, kd2, vv2, f2, t2, x2, y2⟩), .bool (everB ⟨r, kd, vv, f, t, x, y⟩ ⟨r2, kd2, vv2, f2, t2, x2, y2⟩)]) ∧ Below W.heap.size W w' from pair_all _ _ W ga gb)
          generalize mayB ⟨r, kd, vv, f, t, x, y⟩ ⟨r2, kd2, vv2, f2, t2, x2, y2⟩ = bm at *
          generalize everB ⟨r, kd, vv, f, t, x, y⟩ ⟨r2, kd2, vv2, f2, t2, x2, y2⟩ = be at *
          have HW := hide (fun W => HF.out bm be W)
          have HI := hide (fun (h : F a b = true) => rowP_in hab h)
          have HU := hide (fun (h : F a b = false) => rowP_out (i := a) (k := b) h)
          have hl1 : (allP F n a ++ rowP F a b).length ≤ 41000 := by
            have h1 := allP_len F n a
            have h2 := rowP_len F a b
            have h3 : a * n ≤ 200 * 200 := Nat.mul_le_mul (by omega) hn
            rw [List.length_append]; omega
          rw [hFab] at HI HU
          generalize wf bm be = bw at *
          have HV2 := hide hv
          have HB2 := hide hb
          have hne : Nonempty (InW fun w => Below wr.heap.size wr w) := ⟨⟨wr, Below.refl _ _⟩⟩
          clear hcl ea eb ga gb hFab hL hv hb
          replace e0 := inv_cell e0
          replace e1 := inv_cell e1
          replace e2 := inv_cell e2
          replace e3 := inv_cell e3
          replace e4 := inv_cell e4
          replace e5 := inv_cell e5
          replace e6 := inv_cell e6
          replace d0 := inv_cell d0
          replace d1 := inv_cell d1
          replace d2 := inv_cell d2
          replace d3 := inv_cell d3
          replace d4 := inv_cell d4
          replace d5 := inv_cell d5
          replace d6 := inv_cell d6
          have hcf := HCF.out
          have a0 : (0 : Int) ≤ (a : Int) := by omega
          have a1 : (a : Int) < (n : Int) := by omega
          have b0 : (0 : Int) ≤ (b : Int) := by omega
          have b1 : (b : Int) < (n : Int) := by omega
          go_wp2_with fail
          refine wp_region_inv (I := fun w => Below wr.heap.size wr w) (by kernel_rfl) (by kernel_rfl) (Below.refl _ _).drew ?_
          repeat (go_big_quiet_step (first | (go_at_call 33; refine inv_call (inv_closed wr) (HP.out _)) | (refine inv_same (HW.out _))))
          refine wpQuiet_nil ?_
          rintro _ ⟨⟨w9, h9⟩, rfl⟩
          have hz9 := Nat.le_trans HB2.out.size h9.size
          have hB9 := HB2.out.trans (h9.mono HB2.out.size)
          have hv9 := ownsRow_below HV2.out h9
          clear e0 e1 e2 e3 e4 e5 e6 d0 d1 d2 d3 d4 d5 d6 hne h9 hcf HP HW
          cases bw
          · have A1 := hide (HU.out rfl)
            have HB9 := hide hB9
            have HV9 := hide hv9
            clear HI HU hB9 hv9
            go_wp2
            go_roundg (n - (b + 1))
            case measure => omega
            case rel => exact ⟨b + 1, by omega, by omega, by go_num, by rw [A1.out]; exact HV9.out, HB9.out⟩
          · have A1 := hide (HI.out rfl)
            clear HI HU
            go_wp2_with (at_builtin; refine wpList_push rfl _ _ _ rfl w1.heap.size _ _ slPairT _ _ _ rfl hv9 _ _ rfl rfl rfl (by omega) hz9 ?_)
            intro v' w6 hv6 hg6 hn6
            have hB6 := hide (hB9.trans (below_push hv9 hg6 hz9))
            have hv7 := hide (own_cells hv6 (ys := pCells (allP F n a ++ rowP F a (b + 1))) (by rw [A1.out]; simp [pCells]))
            clear hv9 hv6 hg6 hn6 hB9
            go_wp2
            go_roundg (n - (b + 1))
            case measure => omega
            case rel => exact ⟨b + 1, by omega, by omega, by go_num, by rw [show (allP F n a ++ rowP F a (b + 1)).length = (allP F n a).length + (rowP F a b).length + 1 by rw [A1.out]; simp; omega]; exact hv7.out, hB6.out⟩
        · obtain rfl : b = n := by omega
          have HV2 := hide hv
          have HB2 := hide hb
          clear hv hb
          go_wp2
          go_roundg (b - (a + 1))
          case measure => have := HGA.out; omega
          case rel => exact ⟨a + 1, by omega, by go_num, by rw [allP_succ]; exact HV2.out, HB2.out⟩
    · obtain rfl : a = n := by omega
      have HV := hide (ownsRow_base hv HB1.out.size)
      have HB2 := hide (bthr HB1.out hb HB1.out.size)
      clear hv hb
      go_wp2
      try rw [Exit.noGoto_ret]
      go_ret2
      exact ⟨_, rfl, HV.out, HB2.out⟩
theorem cfF1 : ∀ (a : Array Value) (W : World), (callFunc 37 a).run Try.prog W = .ok (.enter 37 a) W := fun _ _ => by kernel_rfl
theorem find1_any (m e : Bool) (w : World) : Calls Try.prog 37 #[.bool m, .bool e] w fun x w' => x = .returned (.bool m) ∧ w = w' := by
  go_enter Try.func37, Try.ntmps37
  go_wp2
  go_ret
  exact ⟨rfl, rfl⟩
def mayF (cs : List Cd) : Nat → Nat → Bool := askF (fun m _ => m) cs
set_option maxRecDepth 20000 in
theorem find_ok (A : Option Addr) (n c : Nat) (cs : List Cd) (w : World) (hn : n ≤ 200) (hg : ∀ x ∈ cs, x.err = 0) (hs : Sl w w.heap.size 7 A n c (cdCells cs)) :
    Calls Try.prog 16 #[.slice A n c] w (AllPost w (allP (mayF cs) n n)) := by
  have H := hide (all_ok 37 cfF1 (fun m _ => m) find1_any A n c cs w hn hg hs)
  clear hg hs
  go_enter Try.func16, Try.ntmps16
  go_wp2_with fail
  refine H.out.mono ?_
  rintro e w1 ⟨v, rfl, hv, hb⟩
  have HV := hide hv
  have HB := hide hb
  clear hv hb
  go_wp2
  go_ret2
  exact ⟨v, rfl, HV.out, HB.out⟩
end Go.Proofs.Ytjbddicgegkkjaa
