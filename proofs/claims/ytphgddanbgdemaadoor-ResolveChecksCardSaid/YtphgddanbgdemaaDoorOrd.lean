/-
  The contract of Order: the numbers of at most 1000 conditions, sorted stably by rank. Condition: the list can be read.
-/
import Derived.Test.YtphgddanbgdemaaDoorProg
import Derived.Test.YtphgddanbgdemaaDoorStf
import Derived.Test.YtphgddanbgdemaaDoorSrt
import Derived.Test.YtphgddanbgdemaaDoorCds
import Derived.Laws.OwnMore
namespace Go.Proofs.YtphgddanbgdemaaDoor
open Go.RowKit

theorem isnan_any (x : Int) (w : World) : Calls Tryd.prog 72 #[.int .i64 x] w fun e w' => e = .returned (.bool false) ∧ w = w' := by
  go_enter Tryd.func72, Tryd.ntmps72
  go_wp2
  go_ret
  exact ⟨rfl, rfl⟩
def cmp3 (x y : Int) : Int := if x < y then -1 else if y < x then 1 else 0
theorem compare_any (x y : Int) (w : World) : Calls Tryd.prog 67 #[.int .i64 x, .int .i64 y] w fun e w' => e = .returned (.int .i64 (cmp3 x y)) ∧ w = w' := by
  have HC := hide (show (x < y → cmp3 x y = -1) ∧ (¬ x < y → y < x → cmp3 x y = 1) ∧ (¬ x < y → ¬ y < x → cmp3 x y = 0) by
    unfold cmp3; refine ⟨fun h => if_pos h, fun h h2 => by rw [if_neg h, if_pos h2], fun h h2 => by rw [if_neg h, if_neg h2]⟩)
  by_cases h1 : x < y
  · have HE := hide (HC.out.1 h1)
    go_enter Tryd.func67, Tryd.ntmps67
    go_wp2_with (go_at_call 72; refine (isnan_any _ _).mono ?_; rintro e w' ⟨rfl, rfl⟩)
    go_ret
    exact ⟨ret_int HE.out.symm, rfl⟩
  · by_cases h2 : y < x
    · have HE := hide (HC.out.2.1 h1 h2)
      go_enter Tryd.func67, Tryd.ntmps67
      go_wp2_with (go_at_call 72; refine (isnan_any _ _).mono ?_; rintro e w' ⟨rfl, rfl⟩)
      go_ret
      exact ⟨ret_int HE.out.symm, rfl⟩
    · have HE := hide (HC.out.2.2 h1 h2)
      go_enter Tryd.func67, Tryd.ntmps67
      go_wp2_with (go_at_call 72; refine (isnan_any _ _).mono ?_; rintro e w' ⟨rfl, rfl⟩)
      go_ret
      exact ⟨ret_int HE.out.symm, rfl⟩
def cd0 : Cd := ⟨0, 0, 0, 0, 0, 0, 0⟩
def rankC (cs : List Cd) (i : Int) : Int := (cs.getD i.toNat cd0).rank
def cmpC (cs : List Cd) (i k : Int) : Int := cmp3 (rankC cs i) (rankC cs k)
def idxs (n : Nat) : List Int := (List.range n).map fun k : Nat => (k : Int)
def ordC (cs : List Cd) : List Int := sortK (cmpC cs) (idxs cs.length)
theorem cfO1 : ∀ (a : Array Value) (W : World), (callFunc 66 a).run Tryd.prog W = .ok (.enter 66 a) W := fun _ _ => by kernel_rfl
set_option maxRecDepth 20000 in
theorem ocmp_any (cs : List Cd) (A : Option Addr) (n c g1 B : Nat) (x y : Int) (W : World) (hs : Sl W B 7 A n c (cdCells cs)) (hx : 0 ≤ x ∧ x < n) (hy : 0 ≤ y ∧ y < n) (c1 : W.cell? ⟨g1, 0, none⟩ = some (.slice A n c)) :
    Calls Tryd.prog 66 #[.int .i64 x, .int .i64 y, .pointer (some ⟨g1, 0, none⟩)] W fun e w' => e = .returned (.int .i64 (cmpC cs x y)) ∧ Below W.heap.size W w' := by
  have hl : n = cs.length := by have := hs.1; rw [cdCells_length] at this; omega
  obtain ⟨i, rfl⟩ : ∃ i : Nat, x = (i : Int) := ⟨x.toNat, by omega⟩
  obtain ⟨j, rfl⟩ : ∃ j : Nat, y = (j : Int) := ⟨y.toNat, by omega⟩
  obtain ⟨b, o, rfl, _, hc⟩ := hs.at_ (k := i) (by omega)
  have hi : i < cs.length := by omega
  have hj : j < cs.length := by omega
  have HR := hide (show cmpC cs i j = cmp3 (cs[i]'hi).rank (cs[j]'hj).rank by
    unfold cmpC rankC; simp [List.getD_eq_getElem?_getD, hi, hj])
  rcases ei : cs[i]'hi with ⟨r, k1, v1, f1, t1, x1, y1⟩
  rcases ej : cs[j]'hj with ⟨s, k2, v2, f2, t2, x2, y2⟩
  rw [ei, ej] at HR
  have ci := (cd_cells (B := 0) (n := 0) (c := 0) hc hi ei).1
  have cj := (cd_cells (B := 0) (n := 0) (c := 0) hc hj ej).1
  have HE := hide HR.out
  obtain ⟨hx0, hx1⟩ := hx
  obtain ⟨hy0, hy1⟩ := hy
  clear hs hc ei ej HR hl
  have hne : Nonempty (InW fun w => Below W.heap.size W w) := ⟨⟨W, Below.refl _ _⟩⟩
  replace ci := inv_cell ci
  replace cj := inv_cell cj
  replace c1 := inv_cell c1
  go_enter Tryd.func66, Tryd.ntmps66
  go_wp2_with fail
  refine wp_region_inv (I := fun w => Below W.heap.size W w) (by kernel_rfl) (by kernel_rfl) (Below.refl _ _).drew ?_
  repeat (go_big_quiet_step (first | (go_at_call 67; refine inv_same (compare_any _ _ _))))
  refine wpQuiet_nil ?_
  rintro _ ⟨⟨w9, h9⟩, rfl⟩
  go_wp2
  go_ret
  exact ⟨ret_int HE.out.symm, h9⟩
theorem ins_nil (kc : FuncId) (cap : Array Value) (w : World) : Calls Tryd.prog 73 #[.slice none 0 0, .int .i64 0, .int .i64 0, .func (.func kc) #[] cap] w fun e w' => e = .returned (.tuple #[]) ∧ w = w' := by
  go_enter Tryd.func73, Tryd.ntmps73
  go_wp2
  refine wp_loop_rounds 1 ?_
  rw [rounds_succ]
  go_wp2
  go_end0
  exact ⟨rfl, rfl⟩
theorem stb_nil (kc : FuncId) (cap : Array Value) (w : World) : Calls Tryd.prog 71 #[.slice none 0 0, .int .i64 0, .func (.func kc) #[] cap] w fun e w' => e = .returned (.tuple #[]) ∧ w = w' := by
  go_enter Tryd.func71, Tryd.ntmps71
  go_wp2
  refine wp_loop_rounds 1 ?_
  rw [rounds_succ]
  go_wp2_with fail
  refine (ins_nil _ _ _).mono ?_
  rintro e w1 ⟨rfl, rfl⟩
  go_wp2
  refine wp_loop_rounds 1 ?_
  rw [rounds_succ]
  go_wp2
  go_end0
  exact ⟨rfl, rfl⟩
theorem sst_nil (kc : FuncId) (cap : Array Value) (w : World) : Calls Tryd.prog 65 #[.slice none 0 0, .func (.func kc) #[] cap] w fun e w' => e = .returned (.tuple #[]) ∧ w = w' := by
  go_enter Tryd.func65, Tryd.ntmps65
  go_wp2_with fail
  refine (stb_nil _ _ _).mono ?_
  rintro e w1 ⟨rfl, rfl⟩
  go_wp2
  go_end0
  exact ⟨rfl, rfl⟩
theorem idxs_len (n : Nat) : (idxs n).length = n := by simp [idxs]
theorem idxs_mem {n : Nat} {i : Int} : i ∈ idxs n ↔ 0 ≤ i ∧ i < n := by
  unfold idxs
  rw [List.mem_map]
  constructor
  · rintro ⟨k, hk, rfl⟩; rw [List.mem_range] at hk; omega
  · rintro ⟨h1, h2⟩; exact ⟨i.toNat, by rw [List.mem_range]; omega, by omega⟩
theorem own_cap {w : World} {base n c : Nat} {e : TypeId} {size : Nat} {A : Option Addr} {xs : List Value} (h : w.ownsRow base e size (.slice A n c) n xs) : n ≤ c ∧ c ≤ maxLen := by
  obtain ⟨A', c', he, hs⟩ := own_sl h
  injection he with _ _ h3
  subst h3
  exact ⟨hs.2.1, hs.2.2.1⟩
/-- A row of integers at a block's head, beyond block number B; nil where it is empty. -/
def Row0 (w : World) (B : Nat) (v : Value) (n : Nat) (xs : List Int) : Prop := xs.length = n ∧ ((n = 0 ∧ v = .slice none 0 0) ∨ (0 < n ∧ ∃ g c, v = .slice (some ⟨g, 0, none⟩) n c ∧ n ≤ c ∧ c ≤ maxLen ∧ B ≤ g ∧ IRow w g xs))
theorem Row0.sl {w : World} {B n : Nat} {v : Value} {xs : List Int} (h : Row0 w B v n xs) : ∃ A c, v = .slice A n c ∧ Sl w w.heap.size 1 A n c (ints xs) := by
  obtain ⟨hl, ⟨rfl, rfl⟩ | ⟨_, g, c, rfl, h1, h2, _, hr⟩⟩ := h
  · obtain rfl := List.eq_nil_of_length_eq_zero hl
    exact ⟨none, 0, rfl, Sl.none_ _ _ _⟩
  · refine ⟨_, c, rfl, by rw [ints_length]; omega, h1, h2, fun _ => ⟨g, 0, rfl, hr.lt, fun j u hu => ?_⟩⟩
    have hj : j < xs.length := by have := (List.getElem?_eq_some_iff.1 hu).1; rwa [ints_length] at this
    rw [ints_get xs j hj] at hu
    injection hu with hu
    subst hu
    rw [Nat.zero_add]; exact hr.cell hj
theorem Row0.below {w w' : World} {B n : Nat} {v : Value} {xs : List Int} (h : Row0 w B v n xs) (hb : Below w.heap.size w w') : Row0 w' B v n xs := by
  obtain ⟨hl, h | ⟨h0, g, c, e, h1, h2, h3, hr⟩⟩ := h
  · exact ⟨hl, .inl h⟩
  · exact ⟨hl, .inr ⟨h0, g, c, e, h1, h2, h3, hr.below hb⟩⟩
theorem ordC_length (cs : List Cd) : (ordC cs).length = cs.length := by unfold ordC sortK; rw [insK_length, idxs_len]
def Rk (cs : List Cd) (x y : Int) : Prop := rankC cs x < rankC cs y ∨ rankC cs x = rankC cs y ∧ x < y
theorem idxs_lt (n : Nat) : (idxs n).Pairwise fun x z => x < z := by
  unfold idxs
  rw [List.pairwise_map]
  exact List.pairwise_lt_range.imp fun h => by omega
theorem cmp3_neg {x y : Int} : cmp3 x y < 0 ↔ x < y := by
  unfold cmp3
  split
  · omega
  · split <;> omega
theorem ordC_fits (cs : List Cd) (n : Nat) : (idxs n).Pairwise (Fits (cmpC cs) (Rk cs)) := (idxs_lt n).imp fun {x z} h => by
  simp only [Fits, Rk, cmpC, cmp3_neg]; omega
theorem ordC_spec (cs : List Cd) : (ordC cs).Pairwise (Rk cs) ∧ (ordC cs).Perm (idxs cs.length) := by
  refine sortK_sorted (fun x y z _ _ _ h1 h2 => ?_) (ordC_fits cs _)
  simp only [Rk] at *; omega
theorem ordC_one {cs : List Cd} {zs : List Int} {n : Nat} (hn : n = cs.length) (h1 : zs.Perm (idxs n)) (h2 : zs.Pairwise (Rk cs)) : zs = ordC cs := by
  subst hn
  exact perm_sorted_eq (R := Rk cs) (fun x y a b => by simp only [Rk] at a b; omega) (h1.trans (ordC_spec cs).2.symm) h2 (ordC_spec cs).1
def OrdPost (w : World) (n : Nat) (cs : List Cd) (e : Ending) (w' : World) : Prop := ∃ v, e = .returned v ∧ Row0 w' w.heap.size v n (ordC cs) ∧ Below w.heap.size w w'
set_option maxHeartbeats 1600000 in
set_option maxRecDepth 20000 in
theorem order_any (A : Option Addr) (n c : Nat) (cs : List Cd) (w : World) (hn : n ≤ 1000) (hs : Sl w w.heap.size 7 A n c (cdCells cs)) : Calls Tryd.prog 46 #[.slice A n c] w (OrdPost w n cs) := by
  have hmf : ∀ (fn : Fn) (first cap : Array Value) (w : World), (Instr.makeFunc fn first cap).run Tryd.prog w = .ok (.func fn first cap) w := fun _ _ _ _ => rfl
  have hl : n = cs.length := by have := hs.1; rw [cdCells_length] at this; omega
  have HS := hide hs
  have HL := hide hl
  have h1 := Blk.new w 31 #[.slice A n c]
  have hB := bel1 (w := w) (o := .cells #[.slice A n c] 31)
  clear hs hl
  go_enter Tryd.func46, Tryd.ntmps46
  have c1 := h1.facts.1 0
  simp only [List.getElem?_toArray, List.getElem?_cons_zero] at c1
  go_wp2
  generalize w.alloc _ = w2 at *
  go_loopw [3, 7] (fun v i wr => ∃ k : Nat, k ≤ n ∧ i = .int .i64 k ∧ wr.ownsRow w2.heap.size 3 1 v k (ints ((idxs n).take k)) ∧ (k = 0 → v = .slice none 0 0) ∧ Below w2.heap.size w2 wr) (fun _ i _ => n - (intOf i).toNat)
  case atStart => exact ⟨0, by omega, rfl, World.ownsRow_nil _ _ _ _, fun _ => rfl, Below.refl _ _⟩
  case round =>
    obtain ⟨k, hk, rfl, hv, hv0, hb⟩ := hrel
    by_cases hlt : k < n
    · have HN := hide (show (idxs n).take (k + 1) = (idxs n).take k ++ [(k : Int)] by
        rw [List.take_succ_eq_append_getElem (by rw [idxs_len]; omega)]
        simp [idxs])
      have hz := hb.size
      go_wp2_with (at_builtin; refine wpList_push rfl _ _ _ rfl w2.heap.size _ _ slInt _ _ _ rfl hv _ _ rfl rfl rfl (by omega) hz ?_)
      intro v' w5 hv5 hg5 _
      have hb5 := hb.trans (below_push hv hg5 hz)
      have hv6 := hide (own_cells hv5 (ys := ints ((idxs n).take (k + 1))) (by rw [HN.out, ints_append]; rfl))
      clear hv hv5 hg5 hb
      go_wp2
      go_roundw
      case rel => exact ⟨k + 1, by omega, by go_num, hv6.out, fun h => by omega, hb5⟩
      case measure => simp [intOf]; omega
    · obtain rfl : n = k := by omega
      rw [List.take_of_length_le (by rw [idxs_len]; omega)] at hv
      have d1 := cell_thr hb c1
      have hB5 := bthr hB hb hB.size
      have HSl := hide (HS.out.below hB5)
      have hzz := hB.size
      have hL := HL.out
      by_cases hn0 : n = 0
      · obtain rfl := hv0 hn0
        subst hn0
        have HB5 := hide hB5
        clear hv hb hL
        go_wp2_with fail
        refine (sst_nil _ _ _).mono ?_
        rintro e w5 ⟨rfl, rfl⟩
        go_wp2
        go_ret
        exact ⟨_, rfl, ⟨by rw [ordC_length]; exact HL.out.symm, .inl ⟨rfl, rfl⟩⟩, HB5.out⟩
      · obtain ⟨g, cq, rfl, g0, g1⟩ := hv.form (by omega)
        have HC := hide (show CmpSays wr g 66 #[.pointer (some ⟨w.heap.size, 0, none⟩)] (cmpC cs) (fun i => 0 ≤ i ∧ i < n) from ⟨cfO1, fun x y W hx hy hW => by
          have hW4 := below_grown hb hW hb.size g0
          exact ocmp_any cs A n c w.heap.size w.heap.size x y W (HS.out.below (bthr hB hW4 hB.size)) hx hy ((hW4.cell (p := ⟨w.heap.size, 0, none⟩) (World.block_lt_of_cell? _ _ c1)).trans c1)⟩)
        have HR := hide (IRow.of_own hv)
        have hcq := own_cap hv
        have HBR := hide hb
        have HO := hide (fun (zs : List Int) h1 h2 => ordC_one (zs := zs) hL h1 h2)
        clear hL hv hb
        go_wp2_with fail
        refine (sortstable_any wr g _ _ (cmpC cs) _ HC.out (Rk cs) (fun x y z h1 h2 => by simp only [Rk] at *; omega) n cq (by omega) (idxs n) (idxs_len n) (fun x hx => idxs_mem.1 hx) (ordC_fits cs n) wr (grown_refl _ _) HR.out).mono ?_
        rintro e w5 ⟨zs, rfl, hz1, hz2, hr5, hg5⟩
        rw [HO.out zs hz1 hz2] at hr5
        clear hz1 hz2
        have HB5 := hide (below_grown HBR.out hg5 HBR.out.size g0)
        have HR5 := hide hr5
        have HG5 := hide hg5
        clear hr5 hg5
        go_wp2
        go_ret
        exact ⟨_, rfl, ⟨by rw [ordC_length]; exact HL.out.symm, .inr ⟨by omega, g, cq, rfl, hcq.1, hcq.2, by omega, HR5.out⟩⟩, bthr hB HB5.out hB.size⟩
end Go.Proofs.YtphgddanbgdemaaDoor
