/-
  The contract of quantity.Share at valid weights, 20 at most, and a valid amount: the walk. Conditions: these.
-/
import Derived.Test.YtfcmgmcidngjeaaProg
import Derived.Test.YtfcmgmcidngjeaaSha
namespace Go.Proofs.Ytfcmgmcidngjeaa
open Go.RowKit

theorem sum_snoc (ws : List Int) (k : Nat) (h : k < ws.length) : (ws.take (k + 1)).sum = (ws.take k).sum + ws.getD k 0 := by
  rw [List.take_succ_eq_append_getElem h, List.sum_append]
  simp [List.getD_eq_getElem?_getD, h]
theorem sum_take {ws : List Int} (hw : ∀ w ∈ ws, 0 ≤ w ∧ w ≤ 10000) (k : Nat) : 0 ≤ (ws.take k).sum ∧ (ws.take k).sum ≤ k * 10000 := by
  induction k with
  | zero => simp
  | succ k ih =>
    by_cases h : k < ws.length
    · rw [sum_snoc ws k h]
      have : 0 ≤ ws.getD k 0 ∧ ws.getD k 0 ≤ 10000 := by
        rw [List.getD_eq_getElem?_getD, List.getElem?_eq_getElem h]; exact hw _ (List.getElem_mem _)
      omega
    · rw [List.take_of_length_le (by omega)] at ih ⊢
      omega
theorem own_cells {w : World} {base : Nat} {e : TypeId} {size n : Nat} {v : Value} {xs ys : List Value} (h : w.ownsRow base e size v n xs) (he : xs = ys) : w.ownsRow base e size v n ys := he ▸ h
theorem sum_takeM {M : Int} {l : List Int} (h0 : 0 ≤ M) (hw : ∀ w ∈ l, 0 ≤ w ∧ w ≤ M) (k : Nat) : 0 ≤ (l.take k).sum ∧ (l.take k).sum ≤ k * M := by
  induction k with
  | zero => simp
  | succ k ih =>
    rw [Int.natCast_succ, Int.add_mul]
    by_cases h : k < l.length
    · rw [sum_snoc l k h]
      have : 0 ≤ l.getD k 0 ∧ l.getD k 0 ≤ M := by
        rw [List.getD_eq_getElem?_getD, List.getElem?_eq_getElem h]; exact hw _ (List.getElem_mem _)
      omega
    · rw [List.take_of_length_le (by omega)] at ih ⊢
      omega
theorem flo_in {a S : Int} {ws : List Int} (ha : 0 ≤ a ∧ a ≤ 274877906944) (hS : 0 < S) (hw : ∀ w ∈ ws, 0 ≤ w ∧ w ≤ 10000) : ∀ y ∈ floA a S ws, 0 ≤ y ∧ y ≤ 2748779069440000 := by
  intro y hy
  obtain ⟨x, hx, rfl⟩ := List.mem_map.1 hy
  obtain ⟨p0, p1⟩ := prod_in ha (hw x hx)
  exact ⟨Int.ediv_nonneg p0 (by omega), Int.le_trans (Int.ediv_le_self _ p0) p1⟩
theorem ints_set (l : List Int) (m : Nat) (v : Int) : ints (l.set m v) = (ints l).set m (.int .i64 v) := by simp [ints]
theorem ord_get {a S : Int} {ws : List Int} {k : Nat} (hk : k < ws.length) : 0 ≤ (ordA a S ws).getD k 0 ∧ (ordA a S ws).getD k 0 < ws.length := by
  have hp := (ordA_spec a S ws).2
  have hl : k < (ordA a S ws).length := by rw [hp.length_eq, idxs_length]; exact hk
  rw [List.getD_eq_getElem?_getD, List.getElem?_eq_getElem hl]
  exact idxs_mem.1 (hp.mem_iff.1 (List.getElem_mem hl))
theorem inc_in {a S M : Int} {ws : List Int} (hf : ∀ y ∈ floA a S ws, 0 ≤ y ∧ y ≤ M) (k : Nat) : (((ordA a S ws).take k).foldl incAt (floA a S ws)).length = ws.length ∧ ∀ m, m < ws.length → 0 ≤ (((ordA a S ws).take k).foldl incAt (floA a S ws)).getD m 0 ∧ (((ordA a S ws).take k).foldl incAt (floA a S ws)).getD m 0 ≤ M + 1 := by
  have hp := (ordA_spec a S ws).2
  have hfl : (floA a S ws).length = ws.length := by simp [floA]
  obtain ⟨h1, _, h3⟩ := foldl_inc ((ordA a S ws).take k) (floA a S ws) ((hp.nodup_iff.2 (idxs_nodup _)).sublist (List.take_sublist _ _)) (fun i hi => by
    have := idxs_mem.1 (hp.mem_iff.1 (List.mem_of_mem_take hi))
    rw [hfl]; exact this)
  refine ⟨h1.trans hfl, fun m hm => ?_⟩
  rw [h3 m (by omega)]
  have hg : 0 ≤ (floA a S ws).getD m 0 ∧ (floA a S ws).getD m 0 ≤ M := by
    rw [List.getD_eq_getElem?_getD, List.getElem?_eq_getElem (by omega)]; exact hf _ (List.getElem_mem _)
  split <;> omega
theorem inc_snoc {a S : Int} {ws : List Int} {k : Nat} (hk : k < ws.length) : ((ordA a S ws).take (k + 1)).foldl incAt (floA a S ws) = incAt (((ordA a S ws).take k).foldl incAt (floA a S ws)) ((ordA a S ws).getD k 0) := by
  have hl : k < (ordA a S ws).length := by rw [(ordA_spec a S ws).2.length_eq, idxs_length]; exact hk
  rw [List.take_succ_eq_append_getElem hl, List.foldl_append]
  simp [List.getD_eq_getElem?_getD, hl]
theorem own_cap {w : World} {base n c : Nat} {e : TypeId} {size : Nat} {A : Option Addr} {xs : List Value} (h : w.ownsRow base e size (.slice A n c) n xs) : n ≤ c ∧ c ≤ maxLen := by
  obtain ⟨A', c', he, hs⟩ := own_sl h
  injection he with _ _ h3
  subst h3
  exact ⟨hs.2.1, hs.2.2.1⟩
/-- Two own rows that share no block. -/
def Apart (v q : Value) : Prop := ∀ g, v.ownBlock = some g → q.ownBlock ≠ some g
theorem Apart.left {v v' q : Value} {N : Nat} (h : Apart v q) (hq : ∀ k, q.ownBlock = some k → k < N) (h' : v'.ownBlock = v.ownBlock ∨ ∃ g, v'.ownBlock = some g ∧ N ≤ g) : Apart v' q := by
  intro g hg hk
  rcases h' with h' | ⟨g', h', hN⟩
  · exact h g (h'.symm.trans hg) hk
  · rw [h'] at hg; injection hg with hg; have := hq g hk; omega
theorem Apart.right {v q q' : Value} {N : Nat} (h : Apart v q) (hv : ∀ k, v.ownBlock = some k → k < N) (h' : q'.ownBlock = q.ownBlock ∨ ∃ g, q'.ownBlock = some g ∧ N ≤ g) : Apart v q' := by
  intro g hg hk
  rcases h' with h' | ⟨g', h', hN⟩
  · exact h g hg (h'.symm.trans hk)
  · rw [h'] at hk; injection hk with hk; have := hv g hg; omega
theorem Apart.symm {v q : Value} (h : Apart v q) : Apart q v := fun g hg hk => h g hk hg
theorem Apart.or {v q : Value} (h : Apart v q) : v.ownBlock = none ∨ v.ownBlock ≠ q.ownBlock := by
  cases hv : v.ownBlock with
  | none => exact .inl rfl
  | some g => exact .inr fun e => h g hv e.symm
def shE (a : Int) (ws : List Int) : Int := if ws.sum = 0 then (if 0 < a then 2 else 0) else 0
def shV (a : Int) (ws : List Int) : List Int := if ws.sum = 0 then (if 0 < a then [] else List.replicate ws.length 0) else shareL a ws
def ShaPost (w : World) (a : Int) (ws : List Int) (e : Ending) (w' : World) : Prop := ∃ v, e = .returned (.tuple #[v, .int .i64 (shE a ws)]) ∧ w'.ownsRow w.heap.size 3 1 v (shV a ws).length (ints (shV a ws)) ∧ Below w.heap.size w w'
theorem get_in {ws : List Int} (hw : ∀ w ∈ ws, 0 ≤ w ∧ w ≤ 10000) {k : Nat} (h : k < ws.length) : 0 ≤ ws.getD k 0 ∧ ws.getD k 0 ≤ 10000 := by
  rw [List.getD_eq_getElem?_getD, List.getElem?_eq_getElem h]; exact hw _ (List.getElem_mem _)
theorem make_ints (w : World) (base n : Nat) (hn : n ≤ 4096) (hb : base ≤ w.heap.size) : ∃ w', (Instr.makeSlice 27 (.int .i64 (n : Int)) (.int .i64 (n : Int))).run Try.prog w = .ok (.slice (some ⟨w.heap.size, 0, none⟩) n n) w' ∧ w'.ownsRow base 3 1 (.slice (some ⟨w.heap.size, 0, none⟩) n n) n (ints (List.replicate n 0)) ∧ w.grownBy w' none := by
  obtain ⟨i, hi, h1, h2, h3⟩ := info_parts (P := Try.prog) (e := 3) (z := .int .i64 0) (size := 1) (bytes := 8) rfl
  obtain ⟨w', r1, r2, r3⟩ := run_make_full (P := Try.prog) w base 27 3 i (.int .i64 0) 1 (by kernel_rfl) hi h1 h2 .i64 .i64 n (by rw [h3]; omega) (by unfold maxLen; omega) hb
  refine ⟨w', r1, own_cells r2 ?_, r3⟩
  show (madeCells #[.int .i64 0] (n * 1)).toList = _
  rw [toList_madeCells_one]
  simp [ints]
set_option maxHeartbeats 1600000 in
set_option maxRecDepth 20000 in
theorem share_any (a : Int) (ws : List Int) (A : Option Addr) (n c : Nat) (w : World) (hn : n ≤ 20) (ha : 0 ≤ a ∧ a ≤ 274877906944) (hw : ∀ w ∈ ws, 0 ≤ w ∧ w ≤ 10000) (hs : Sl w w.heap.size 1 A n c (ints ws)) :
    Calls Try.prog 39 #[.int .i64 a, .slice A n c] w (ShaPost w a ws) := by
  have hmf : ∀ (fn : Fn) (first cap : Array Value) (w : World), (Instr.makeFunc fn first cap).run Try.prog w = .ok (.func fn first cap) w := fun _ _ _ _ => rfl
  have hl : n = ws.length := by have := hs.1; rw [ints_length] at this; omega
  have HA := hide (wit_of ha.1 ha.2)
  have HW := hide (show ws.any (fun v => !wit v 10000) = false by
    rw [Bool.eq_false_iff]; intro h
    obtain ⟨x, hx, h2⟩ := List.any_eq_true.1 h
    simp [wit_of (hw x hx).1 (hw x hx).2] at h2)
  have HS := hide hs
  have HI := hide (fun (k : Nat) (h : k < ws.length) => get_in hw h)
  have HT := hide (fun k => sum_take hw k)
  have HL := hide hl
  have HWW := hide hw
  clear hs hw hl
  go_enter Try.func39, Try.ntmps39
  go_wp2_with fail
  refine (within_any _ _ _).mono ?_
  rintro e w1 ⟨rfl, rfl⟩
  rw [HA.out]
  go_wp2_with fail
  refine (contains_func0 _ cfS1 (fun v => !wit v 10000) A n c ws _ ((HS.out.allocw _).allocw _) (fun v => wrong_any v _)).mono ?_
  rintro e w1 ⟨rfl, rfl⟩
  rw [HW.out]
  go_wp2
  have h2 := ((Blk.new w 3 #[.int .i64 a]).alloc (.cells #[.slice A n c] 27)).alloc (.cells #[.int .i64 0] 3)
  have h3 := (Blk.new (w.alloc (.cells #[.int .i64 a] 3)) 27 #[.slice A n c]).alloc (.cells #[.int .i64 0] 3)
  have h7 := Blk.new ((w.alloc (.cells #[.int .i64 a] 3)).alloc (.cells #[.slice A n c] 27)) 3 #[.int .i64 0]
  have hB := ((bel1 (w := w) (o := .cells #[.int .i64 a] 3)).alloc (by simp) (.cells #[.slice A n c] 27)).alloc (by simp only [World.size_alloc]; omega) (.cells #[.int .i64 0] 3)
  have hz := h7.lt
  simp only [World.size_alloc] at h3 h7
  simp only [World.size_alloc] at hz
  generalize (((w.alloc _).alloc _).alloc _) = w3 at *
  go_loopw [30] (fun i wr => ∃ k : Nat, k ≤ n ∧ i = .int .i64 k ∧ Blk wr (w.heap.size + 1 + 1) 3 #[.int .i64 (ws.take k).sum] ∧ w3.grownBy wr (some (w.heap.size + 1 + 1))) (fun i _ => n - (intOf i).toNat)
  case atStart => exact ⟨0, by omega, rfl, h7, grown_refl _ _⟩
  case round =>
    obtain ⟨k, hk, rfl, hq, hg⟩ := hrel
    obtain ⟨f7, z7⟩ := hq.facts
    have c7 := f7 0
    by_cases hlt : k < n
    · have hSl := HS.out.below (below_grown hB hg hB.size (by omega))
      obtain ⟨b, o, rfl, hb, hc⟩ := hSl.at_ hlt
      have hL := HL.out
      have cx := hc k _ (ints_get ws k (by omega))
      have HQ := hide (sum_snoc ws k (by omega))
      obtain ⟨u0, u1⟩ := HI.out k (by omega)
      obtain ⟨v0, v1⟩ := HT.out k
      clear hc hL hSl
      simp only [List.getElem?_toArray, List.getElem?_cons_zero] at c7
      have HX := hide (fun (s : Int) => hq.set_ 0 (.int .i64 s))
      clear hq f7
      generalize ws.getD k 0 = x at *
      generalize (ws.take k).sum = y at *
      go_wp2
      go_roundw
      case rel => exact ⟨k + 1, by omega, by go_num, by rw [HQ.out]; exact HX.out _, grown_set hg (.inl rfl) _⟩
      case measure => simp [intOf]; omega
    · obtain rfl : n = k := by omega
      have hL := HL.out
      rw [List.take_of_length_le (by omega)] at hq c7
      have HI0 := HT.out ws.length
      rw [List.take_length] at HI0
      have h2' : Blk wr w.heap.size 3 #[.int .i64 a] := h2.only hg (by omega)
      have h3' : Blk wr (w.heap.size + 1) 27 #[.slice A n c] := h3.only hg (by omega)
      have hB' := below_grown hB hg hB.size (by omega)
      have c2 := h2'.facts.1 0
      have c3 := h3'.facts.1 0
      simp only [List.getElem?_toArray, List.getElem?_cons_zero] at c7 c2 c3
      by_cases hS0 : ws.sum = 0
      · rw [hS0] at c7
        by_cases ha0 : 0 < a
        · have HE := hide (show shE a ws = 2 by simp [shE, hS0, ha0])
          have HV := hide (show shV a ws = [] by simp [shV, hS0, ha0])
          clear f7 hL hS0
          go_wp2
          refine bodyPost_ret (v := .tuple #[.slice none 0 0, .int .i64 2]) (by simp [results, Try.results39, go_sem]) rfl ⟨_, by rw [HE.out], ?_, hB'⟩
          rw [HV.out]
          exact World.ownsRow_nil _ _ _ _
        · have HE := hide (show shE a ws = 0 by simp [shE, hS0, ha0])
          have HV := hide (show shV a ws = List.replicate n 0 by simp [shV, hS0, ha0, hL])
          obtain ⟨w4, hmk, hown, hg4⟩ := make_ints wr w.heap.size n (by omega) hB'.size
          have HL1 := hide hL
          clear f7 hL hS0
          go_wp2
          refine bodyPost_ret (v := .tuple #[.slice (some ⟨wr.heap.size, 0, none⟩) n n, .int .i64 0]) (by simp [results, Try.results39, go_sem]) rfl ⟨_, by rw [HE.out], ?_, hB'.grown hg4 hB'.size (by simp)⟩
          rw [HV.out, List.length_replicate]
          exact hown
      · obtain ⟨w4, rfl⟩ : ∃ wo : World, wo = wr := ⟨_, rfl⟩
        have HL1 := hide hL
        have HV := hide (show shV a ws = shareL a ws by simp [shV, hS0])
        have HE := hide (show shE a ws = 0 by simp [shE, hS0])
        have HSl := hide (HS.out.below hB')
        have hS1 : 0 < ws.sum := by omega
        have hS2 : ws.sum ≤ 200000 := by omega
        have HP := hide (shareL_spec (a := a) hS1)
        clear h2 h3 h7 hB hg h3' h2' hq f7 hS0
        have HFB := hide (fun k => sum_takeM (by omega) (flo_in ha hS1 HWW.out) k)
        have HIN := hide (fun k => inc_in (flo_in ha hS1 HWW.out) k)
        have Hdef := hide (show shareL a ws = ((ordA a ws.sum ws).take (leftA a ws.sum ws).toNat).foldl incAt (floA a ws.sum ws) from rfl)
        have Hlft := hide (show leftA a ws.sum ws = a - (floA a ws.sum ws).sum from rfl)
        have Hflo := hide (fun (k : Nat) (h : k < n) => show (floA a ws.sum ws).take (k + 1) = (floA a ws.sum ws).take k ++ [a * ws.getD k 0 / ws.sum] by
          rw [List.take_succ_eq_append_getElem (by simp [floA]; omega)]
          simp [floA, List.getD_eq_getElem?_getD, show k < ws.length by omega])
        generalize hSS : ws.sum = S at *
        clear hL
        have hb0 : (S == 0) = false := by simp; omega
        go_wp2
        (try simp only [hb0])
        go_loopw [10, 11, 12, 48] (fun l v q i wr => ∃ k : Nat, k ≤ n ∧ i = .int .i64 k ∧ l = .int .i64 (a - ((floA a S ws).take k).sum) ∧ wr.ownsRow w4.heap.size 3 1 v k (ints ((floA a S ws).take k)) ∧ wr.ownsRow w4.heap.size 3 1 q k (ints ((idxs n).take k)) ∧ Apart v q ∧ Below w4.heap.size w4 wr) (fun _ _ _ i _ => n - (intOf i).toNat)
        case atStart => exact ⟨0, by omega, rfl, by simp, World.ownsRow_nil _ _ _ _, World.ownsRow_nil _ _ _ _, (fun g hg => by simp [Value.ownBlock] at hg), Below.refl _ _⟩
        case round =>
          obtain ⟨k, hk, rfl, rfl, hv, hq, hne, hbr⟩ := hrel
          by_cases hlt : k < n
          · have hL := HL1.out
            obtain ⟨b, o, rfl, hb, hc⟩ := HSl.out.at_ hlt
            have cx := (hbr.cell (p := ⟨b, o + k, none⟩) (by show b < _; have := hB'.size; omega)).trans (hc k _ (ints_get ws k (by omega)))
            have d2 := (hbr.cell (p := ⟨w.heap.size, 0, none⟩) (World.block_lt_of_cell? _ _ c2)).trans c2
            have d7 := (hbr.cell (p := ⟨w.heap.size + 1 + 1, 0, none⟩) (World.block_lt_of_cell? _ _ c7)).trans c7
            have hx := HI.out k (by omega)
            obtain ⟨p0, p1⟩ := prod_in ha hx
            have HF := hide (Hflo.out k hlt)
            have HN := hide (show (idxs n).take (k + 1) = (idxs n).take k ++ [(k : Int)] by
              rw [List.take_succ_eq_append_getElem (by rw [idxs_length]; omega)]
              simp [idxs])
            have hz2 := hbr.size
            clear hc hL
            generalize ws.getD k 0 = x at *
            go_wp2_with (at_builtin; refine wpList_push rfl _ _ _ rfl w4.heap.size _ _ slInt _ _ _ rfl hv _ _ rfl rfl rfl (by omega) hz2 ?_)
            intro v' w5 hv5 hg5 hn5
            have hq5 := hq.kept hg5 hne.symm.or
            have hne5 := hne.left (fun k hk => (hq.lt k hk).2) hn5
            have hb5 := hbr.trans (below_push hv hg5 hz2)
            have hz5 := hb5.size
            clear hv hq hg5 hne hbr cx
            go_wp2_with (at_builtin; refine wpList_push rfl _ _ _ rfl w4.heap.size _ _ slInt _ _ _ rfl hq5 _ _ rfl rfl rfl (by omega) hz5 ?_)
            intro q' w6 hq6 hg6 hn6
            have hv6 := hv5.kept hg6 hne5.or
            have hne6 := hne5.right (fun k hk => (hv5.lt k hk).2) hn6
            have hb6 := hb5.trans (below_push hq5 hg6 hz5)
            clear hq5 hv5 hg6 hne5 hb5
            have hv7 := own_cells hv6 (ys := ints ((floA a S ws).take (k + 1))) (by rw [HF.out, ints_append]; rfl)
            have hq7 := own_cells hq6 (ys := ints ((idxs n).take (k + 1))) (by rw [HN.out, ints_append]; rfl)
            clear hv6 hq6
            obtain ⟨gv, cv, rfl, _, _⟩ := hv7.form (by omega)
            have hcv : w6.cell? ⟨gv, k, none⟩ = some (.int .i64 (a * x / S)) := by
              rw [hv7.cellAt k (by omega), HF.out, ints_append, List.getElem?_append_right (by simp [ints, floA]; omega)]
              simp [ints, floA, HL1.out ▸ Nat.le_of_lt hlt]
            obtain ⟨f0, f1⟩ := HFB.out k
            have HG := hide (show ((floA a S ws).take (k + 1)).sum = ((floA a S ws).take k).sum + a * x / S by rw [HF.out, List.sum_append]; simp)
            have e0 : 0 ≤ a * x / S := Int.ediv_nonneg p0 (by omega)
            have e1 : a * x / S ≤ 2748779069440000 := Int.le_trans (Int.ediv_le_self _ p0) p1
            have HV7 := hide hv7
            have HQ7 := hide hq7
            clear hv7 hq7
            generalize a * x / S = z at *
            generalize ((floA a S ws).take k).sum = y at *
            go_wp2
            go_roundw
            case rel => exact ⟨k + 1, by omega, by go_num, by rw [HG.out]; go_num, HV7.out, HQ7.out, hne6, hb6⟩
            case measure => simp [intOf]; omega
          · obtain rfl : n = k := by omega
            have hL := HL1.out
            rw [List.take_of_length_le (by simp [floA]; omega)] at hv
            rw [List.take_of_length_le (by rw [idxs_length]; omega)] at hq
            rw [List.take_of_length_le (by simp [floA]; omega)]
            have hn0 : 0 < n := by
              rcases Nat.eq_zero_or_pos n with h | h
              · rw [List.eq_nil_of_length_eq_zero (l := ws) (by omega)] at hSS; simp at hSS; omega
              · exact h
            obtain ⟨gv, cv, rfl, v0, v1⟩ := hv.form hn0
            obtain ⟨gq, cq, rfl, q0, q1⟩ := hq.form hn0
            have hgg : gv ≠ gq := fun e => hne gv rfl (by rw [e]; rfl)
            rw [← Hlft.out]
            obtain ⟨l0, ln⟩ : 0 ≤ leftA a S ws ∧ leftA a S ws < n := ⟨by rw [← hSS]; exact HP.out.left0, by rw [← hSS, hL]; exact HP.out.leftn⟩
            have hz2 := hbr.size
            have HC := hide (show CmpSays wr gq 47 #[.pointer (some ⟨w.heap.size, 0, none⟩), .pointer (some ⟨w.heap.size + 1, 0, none⟩), .pointer (some ⟨w.heap.size + 1 + 1, 0, none⟩)] (cmpA a S ws) (fun i => 0 ≤ i ∧ i < n) from ⟨cfS2, fun x y W hx hy hW => by
              have hW4 := below_grown hbr hW hz2 q0
              exact scmp_any a S ws A n c _ _ _ w.heap.size x y W ha ⟨hS1, by omega⟩ HWW.out (HSl.out.keep fun b o hb => hW4.cell (p := ⟨b, o, none⟩) (by show b < _; have := hB'.size; omega)) hx hy ((hW4.cell (p := ⟨w.heap.size, 0, none⟩) (World.block_lt_of_cell? _ _ c2)).trans c2) ((hW4.cell (p := ⟨w.heap.size + 1, 0, none⟩) (World.block_lt_of_cell? _ _ c3)).trans c3) ((hW4.cell (p := ⟨w.heap.size + 1 + 1, 0, none⟩) (World.block_lt_of_cell? _ _ c7)).trans c7)⟩)
            have HO := hide (show sortK (cmpA a S ws) (idxs n) = ordA a S ws by rw [hL]; rfl)
            have HR := hide (IRow.of_own hq)
            have hcq := (own_cap hq).1
            have HV1 := hide hv
            have HBR := hide hbr
            have HG2 := hide (fun (k : Nat) (h : k < n) => ord_get (a := a) (S := S) (ws := ws) (k := k) (by omega))
            have HIS := hide (fun (k : Nat) (h : k < n) => inc_snoc (a := a) (S := S) (ws := ws) (k := k) (by omega))
            have HLen := hide (show (ordA a S ws).length = n by rw [(ordA_spec a S ws).2.length_eq, idxs_length]; omega)
            have hSz := hB'.size
            have hLN := hide hL
            clear hv hq hbr hne hL c2 c3 c7
            obtain ⟨L, hLL⟩ : ∃ L : Nat, leftA a S ws = (L : Int) := ⟨(leftA a S ws).toNat, by omega⟩
            rw [hLL] at Hdef l0 ln ⊢
            simp only [Int.toNat_natCast] at Hdef
            have hLn : L < n := by omega
            clear hLL l0 ln
            go_wp2_with fail
            refine (sstable_any wr gq _ _ (cmpA a S ws) _ HC.out n cq hn (idxs n) (idxs_length n) (fun x hx => idxs_mem.1 hx) wr (grown_refl _ _) HR.out).mono ?_
            rintro e w5 ⟨rfl, hr5, hg5⟩
            rw [HO.out] at hr5
            have hv5 := HV1.out.kept hg5 (.inr (by simp [Value.ownBlock]; exact fun e => hgg e))
            have hb5 := below_grown HBR.out hg5 hz2 q0
            clear HR HV1 HBR hg5 HC HO
            have hLc : (L : Int) ≤ (cq : Int) := by omega
            go_wp2
            go_loopw [79] (fun i wr => ∃ k : Nat, k ≤ L ∧ i = .int .i64 k ∧ IRow wr gq (ordA a S ws) ∧ wr.ownsRow w4.heap.size 3 1 (.slice (some ⟨gv, 0, none⟩) n cv) n (ints (((ordA a S ws).take k).foldl incAt (floA a S ws))) ∧ Below w4.heap.size w4 wr) (fun i _ => L - (intOf i).toNat)
            case atStart => exact ⟨0, by omega, rfl, hr5, hv5, hb5⟩
            case round =>
              obtain ⟨k, hk, rfl, hr, hv, hb⟩ := hrel
              by_cases hlt : k < L
              · have hx := hr.cell (j := k) (by rw [HLen.out]; omega)
                obtain ⟨i0, i1⟩ := HG2.out k (by omega)
                have hS3 := HIS.out k (by omega)
                obtain ⟨m, hm⟩ : ∃ m : Nat, (ordA a S ws).getD k 0 = (m : Int) := ⟨((ordA a S ws).getD k 0).toNat, by omega⟩
                rw [hm] at hx hS3 i1
                obtain ⟨n1, n2⟩ := HIN.out k
                have hmn : m < n := by have := hLN.out; omega
                obtain ⟨b0, b1⟩ := n2 m (by omega)
                have hy := (hv.cellAt m (by omega)).trans (ints_get _ m (by rw [n1]; omega))
                have hz9 := hv.frozenAt m
                have HST := hide (fun v : Int => hv.stored m (.int .i64 v))
                have HRR := hide (fun v : Int => (hr.keep (w' := wr.setCell ⟨gv, m, none⟩ (.int .i64 v)) (Below.heap_setCell wr _ _ gq (fun e => hgg e.symm))))
                have HB9 := hide hb
                have HT9 := hide (show incAt (((ordA a S ws).take k).foldl incAt (floA a S ws)) m = (((ordA a S ws).take k).foldl incAt (floA a S ws)).set m ((((ordA a S ws).take k).foldl incAt (floA a S ws)).getD m 0 + 1) by simp [incAt])
                rw [← hS3] at HT9
                have hwz := hv.lt
                have HZ2 := hide (hb.size)
                clear hm n1 n2 i0 i1 hr hv hb hS3 hwz
                generalize ((ordA a S ws).take k).foldl incAt (floA a S ws) = xs at *
                generalize xs.getD m 0 = y at *
                go_wp2
                go_roundw
                case rel =>
                  refine ⟨k + 1, by omega, by go_num, HRR.out _, ?_, ?_⟩
                  · rw [HT9.out, ints_set]; exact (HST.out _).1
                  · exact HB9.out.grown (HST.out _).2 HZ2.out (fun k hk => by injection hk; omega)
                case measure => simp [intOf]; omega
              · obtain rfl : L = k := by omega
                have hv9 := ownsRow_base (own_cells hv (congrArg ints Hdef.out.symm)) hSz
                have HPL := HP.out.len
                have hb9 := bthr hB' hb hSz
                clear hr hv hb hr5 hv5 hb5
                go_wp2
                refine bodyPost_ret (v := .tuple #[.slice (some ⟨gv, 0, none⟩) n cv, .int .i64 0]) (by simp [results, Try.results39, go_sem]) rfl ⟨_, by rw [HE.out], ?_, hb9⟩
                rw [HV.out, HPL, ← hLN.out]
                exact hv9
end Go.Proofs.Ytfcmgmcidngjeaa
