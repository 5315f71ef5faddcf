/-
  The contract of rights.allot: what each right gets. Conditions: the list can be read, its flows are valid, at most two hundred of its rights are active.
-/
import Derived.Test.YtfcmgmcidngjeaaProg
import Derived.Test.YtfcmgmcidngjeaaRgp
import Derived.Test.YtfcmgmcidngjeaaShg
import Derived.Laws.OwnMore
namespace Go.Proofs.Ytfcmgmcidngjeaa
open Go.RowKit

/-- a slice of integers in a block from lo on -/
def SlF (w : World) (lo : Nat) (A : Option Addr) (n c : Nat) (xs : List Int) : Prop := xs.length = n ∧ n ≤ c ∧ c ≤ maxLen ∧ (0 < n → ∃ b o, A = some ⟨b, o, none⟩ ∧ lo ≤ b ∧ b < w.heap.size ∧ ∀ j, j < n → w.cell? ⟨b, o + j, none⟩ = some (.int .i64 (xs.getD j 0)))
section
variable {w w' : World} {lo n c : Nat} {A : Option Addr} {xs : List Int}
theorem slF_of (h : Sl w w.heap.size 1 A n c (ints xs)) (hlo : ∀ b o s, A = some ⟨b, o, s⟩ → lo ≤ b) : SlF w lo A n c xs := by
  have hl := h.1
  rw [ints_length] at hl
  refine ⟨by omega, h.2.1, h.2.2.1, fun hn => ?_⟩
  obtain ⟨b, o, rfl, hb, hc⟩ := h.at_ hn
  exact ⟨b, o, rfl, hlo _ _ _ rfl, hb, fun j hj => hc j _ (ints_get xs j (by omega))⟩
theorem SlF.grown (h : SlF w lo A n c xs) {g : Nat} (hg : w.grownBy w' (some g)) (hlt : g < lo) : SlF w' lo A n c xs := by
  refine ⟨h.1, h.2.1, h.2.2.1, fun hn => ?_⟩
  obtain ⟨b, o, hA, h1, h2, h3⟩ := h.2.2.2 hn
  exact ⟨b, o, hA, h1, Nat.lt_of_lt_of_le h2 hg.size, fun j hj => (World.cell?_of_block (w := w) (hg.block b h2 (fun e => by injection e with e; omega))).trans (h3 j hj)⟩
theorem SlF.below (h : SlF w lo A n c xs) (hb : Below w.heap.size w w') : SlF w' lo A n c xs := by
  refine ⟨h.1, h.2.1, h.2.2.1, fun hn => ?_⟩
  obtain ⟨b, o, hA, h1, h2, h3⟩ := h.2.2.2 hn
  exact ⟨b, o, hA, h1, Nat.lt_of_lt_of_le h2 hb.size, fun j hj => (hb.cell (p := ⟨b, o + j, none⟩) h2).trans (h3 j hj)⟩
theorem SlF.drop {b o k : Nat} (h : SlF w lo (some ⟨b, o, none⟩) n c xs) (hk : k ≤ n) (hc : k < c) : SlF w lo (some ⟨b, o + k, none⟩) (n - k) (c - k) (xs.drop k) := by
  have h0 := h.1
  have h1 := h.2.1
  have h2 := h.2.2.1
  refine ⟨by rw [List.length_drop]; omega, by omega, by omega, fun hn => ?_⟩
  obtain ⟨b', o', hA, h3, h4, h5⟩ := h.2.2.2 (by omega)
  injection hA with hA
  injection hA with e1 e2 _
  subst e1 e2
  refine ⟨b, o + k, rfl, h3, h4, fun j hj => ?_⟩
  rw [Nat.add_assoc, h5 (k + j) (by omega)]
  simp [List.getD_eq_getElem?_getD, List.getElem?_drop]
theorem slF_empty (w : World) (lo : Nat) (A : Option Addr) {c : Nat} (hc : c ≤ maxLen) {xs : List Int} (h : xs = []) : SlF w lo A 0 c xs := ⟨by rw [h]; rfl, Nat.zero_le _, hc, fun h => absurd h (Nat.lt_irrefl _)⟩
end
def slLen : Value → Nat | .slice _ k _ => k | _ => 0
theorem getD_nat {l : List Int} {n k : Nat} (h : ∀ x ∈ l, 0 ≤ x ∧ x < n) (hk : k < l.length) : ∃ i : Nat, l.getD k 0 = (i : Int) ∧ i < n := by
  have e : l.getD k 0 = l[k] := by simp [List.getD_eq_getElem?_getD, hk]
  have := h _ (List.getElem_mem hk)
  exact ⟨l[k].toNat, by rw [e]; omega, by omega⟩
theorem take_map_snoc {f : Int → Int} {l : List Int} {k : Nat} (hk : k < l.length) : (l.take (k + 1)).map f = (l.take k).map f ++ [f (l.getD k 0)] := by
  rw [List.take_succ_eq_append_getElem hk, List.map_append]
  simp [List.getD_eq_getElem?_getD, hk]
theorem sum_bnd {l : List Int} (h : ∀ x ∈ l, 0 ≤ x ∧ x ≤ 10000) : 0 ≤ l.sum ∧ l.sum ≤ l.length * 10000 := by
  induction l with
  | nil => simp
  | cons x t ih =>
    have h1 := ih (fun y hy => h y (by simp [hy]))
    have h2 := h x (by simp)
    simp only [List.sum_cons, List.length_cons]
    omega
/-- the rights' cells, by their numbers -/
theorem rt_at {W : World} {B n c : Nat} {br or_ : Nat} {rs : List Rt} (hs : Sl W B 4 (some ⟨br, or_, none⟩) n c (rtCells rs)) {i : Nat} (hi : i < n) : W.cell? ⟨br, or_ + i * 4, none⟩ = some (.int .i64 (dateR rs i)) ∧ W.cell? ⟨br, or_ + i * 4 + 1, none⟩ = some (.int .i64 (flowR rs i)) := by
  have hl := rlen hs
  obtain ⟨b, o, hA, _, hc⟩ := hs.at_ hi
  injection hA with hA
  injection hA with e1 e2 _
  subst e1 e2
  have hi2 : i < rs.length := by omega
  rcases er : rs[i]'hi2 with ⟨d, q, f, t⟩
  obtain ⟨h0, h1, _⟩ := rt_cells hc hi2 er
  have e : rs.getD i rt0 = ⟨d, q, f, t⟩ := by simp [List.getD_eq_getElem?_getD, hi2, er]
  unfold dateR flowR
  rw [Int.toNat_natCast, e]
  exact ⟨h0, h1⟩
theorem own_from {w : World} {base n c : Nat} {e : TypeId} {A : Option Addr} {xs : List Value} (h : w.ownsRow base e 1 (.slice A n c) n xs) {b o : Nat} {s : Option Nat} (hA : A = some ⟨b, o, s⟩) : base ≤ b := by
  rcases h.2 with ⟨h1, _⟩ | ⟨g, cap, cur, h1, h2, _⟩
  · injection h1 with h1; rw [hA] at h1; cases h1
  · injection h1 with h1; rw [hA] at h1; injection h1 with h1; injection h1 with h1; omega
theorem ints_setO (l : List Int) (m : Nat) (v : Int) : ints (l.set m v) = (ints l).set m (.int .i64 v) := by simp [ints]
set_option maxHeartbeats 3200000 in
set_option maxRecDepth 20000 in
theorem allot_any (A : Option Addr) (n c : Nat) (rs : List Rt) (day a : Int) (w : World) (hs : Sl w w.heap.size 4 A n c (rtCells rs)) (h12 : (actF rs day rs.length).length ≤ 200) (hn : n ≤ 4096) (ha : 0 ≤ a ∧ a ≤ 1073741824) (hf : ∀ r ∈ rs, 0 ≤ r.flow ∧ r.flow ≤ 10000) :
    Calls Try.prog 31 #[.slice A n c, .int .i64 a, .int .i64 day] w fun e w' => ∃ v, e = .returned v ∧ w'.ownsRow w.heap.size 3 1 v n (ints (allotR rs day a)) ∧ Below w.heap.size w w' := by
  have HL := hide (rlen hs)
  have HS := hide hs
  have HF := hide (show ∀ x : Int, 0 ≤ flowR rs x ∧ flowR rs x ≤ 10000 from fun x => by
    unfold flowR
    rw [List.getD_eq_getElem?_getD]
    rcases h : rs[x.toNat]? with _ | r
    · simp [rt0]
    · exact hf r (List.mem_of_getElem? h))
  have HIN := hide (fun x (hx : x ∈ actR rs day) => actR_in hx)
  have HDF := hide (show allotR rs day a = allotL rs (actR rs day).length (actR rs day) a (List.replicate rs.length 0) from rfl)
  have HM12 := hide (show (actR rs day).length ≤ 200 by rw [actR_len]; exact h12)
  obtain ⟨w1, hmk, hown, hg1⟩ := make_ints w w.heap.size n hn (Nat.le_refl _)
  have hb1 : Below w.heap.size w w1 := (Below.refl _ _).grown hg1 (Nat.le_refl _) (by simp)
  have hgo : w.heap.size < w1.heap.size := (hown.lt _ rfl).2
  have HAC := hide (active_any A n c rs day w1 (hs.thr hb1) h12 hn)
  clear hs hf h12 hg1
  go_enter Try.func31, Try.ntmps31
  go_wp2_with fail
  clear hmk
  refine HAC.out.mono ?_
  rintro e w2 ⟨A8, c8, rfl, hsl, hlo, hb2⟩
  have HSL := hide (slF_of (lo := w.heap.size + 1) hsl (fun b o s h => by have := hlo b o s h; omega))
  have HOW := hide (ownsRow_below hown hb2)
  have HB2 := hide (bthr hb1 hb2 hb1.size)
  have hgo2 : w.heap.size + 1 ≤ w2.heap.size := by have := hb2.size; omega
  generalize hos : actR rs day = os at *
  have HOS := hide hos
  clear hsl hlo hb2 hb1 hown hgo HAC hos
  go_wp2
  go_loopw [1, 8] (fun va vo wr => ∃ (l : List Int) (a' : Int) (out : List Int) (f : Nat) (A' : Option Addr) (c' : Nat), vo = .slice A' l.length c' ∧ va = .int .i64 a' ∧ (0 ≤ a' ∧ a' ≤ 1073741824) ∧ l.length ≤ f ∧ l.length ≤ 200 ∧ (∀ x ∈ l, 0 ≤ x ∧ x < n) ∧ out.length = n ∧ Hid (allotL rs f l a' out = allotR rs day a) ∧ SlF wr (w.heap.size + 1) A' l.length c' l ∧ wr.ownsRow w.heap.size 3 1 (.slice (some ⟨w.heap.size, 0, none⟩) n n) n (ints out) ∧ Below w.heap.size w wr ∧ w.heap.size + 1 ≤ wr.heap.size) (fun _ vo _ => slLen vo)
  case atStart =>
    exact ⟨os, a, List.replicate n 0, os.length, A8, c8, rfl, rfl, ha, Nat.le_refl _, HM12.out, fun x hx => by have := HIN.out x hx; have := HL.out; omega, by simp, hide (by rw [HDF.out, HL.out]), HSL.out, HOW.out, HB2.out, hgo2⟩
  case round =>
    obtain ⟨l, a', out, f, A', c', rfl, rfl, ha', hlf, hl12, hli, hlo, HR, hsl, how, hb, hz⟩ := hrel
    clear ha
    by_cases hl0 : 0 < l.length
    · obtain ⟨x, t, rfl⟩ : ∃ x t, l = x :: t := by
        cases l with
        | nil => simp at hl0
        | cons x t => exact ⟨x, t, rfl⟩
      obtain ⟨f, rfl⟩ : ∃ f', f = f' + 1 := ⟨f - 1, by omega⟩
      obtain ⟨i0, rfl⟩ : ∃ i0 : Nat, x = (i0 : Int) := ⟨x.toNat, by have := hli x (by simp); omega⟩
      have hi0n : i0 < n := by have := hli (i0 : Int) (by simp); omega
      obtain ⟨br, or_, rfl, _, _⟩ := HS.out.at_ hi0n
      obtain ⟨bl, ol, rfl, hbl, hbl2, hcl⟩ := hsl.2.2.2 hl0
      have HRT := hide (fun (W : World) (hW : Below w.heap.size w W) (i : Nat) (hi : i < n) => rt_at (HS.out.thr hW) hi)
      have HK1 := hide (runL_pos (rs := rs) (x := (i0 : Int)) (t := t))
      have HKL := hide (runL_le (rs := rs) (dateR rs i0) ((i0 : Int) :: t))
      have HKA := hide (fun (k : Nat) (h : k < runL rs (dateR rs i0) ((i0 : Int) :: t)) => runL_at h)
      have HKE := hide (fun (h : runL rs (dateR rs i0) ((i0 : Int) :: t) < ((i0 : Int) :: t).length) => runL_end h)
      have HRR := hide (show allotL rs (f + 1) ((i0 : Int) :: t) a' out = allotL rs f (((i0 : Int) :: t).drop (runL rs (dateR rs i0) ((i0 : Int) :: t))) (a' - min ((((i0 : Int) :: t).take (runL rs (dateR rs i0) ((i0 : Int) :: t))).map (flowR rs)).sum a') (putL out (((i0 : Int) :: t).take (runL rs (dateR rs i0) ((i0 : Int) :: t))) (grpV a' ((((i0 : Int) :: t).take (runL rs (dateR rs i0) ((i0 : Int) :: t))).map (flowR rs)))) from rfl)
      have hx0 := hcl 0 hl0
      simp only [List.getD_cons_zero, Nat.add_zero] at hx0
      obtain ⟨hd0, -⟩ := HRT.out wr hb i0 hi0n
      generalize dateR rs i0 = d at *
      generalize runL rs d ((i0 : Int) :: t) = K at *
      generalize (i0 : Int) :: t = l at *
      have HCL := hide (fun (W : World) (hW : Below wr.heap.size wr W) (j : Nat) (hj : j < l.length) => (hW.cell (p := ⟨bl, ol + j, none⟩) hbl2).trans (hcl j hj))
      have HLI := hide (fun (k : Nat) (hk : k < l.length) => getD_nat hli hk)
      have HFL := hide (fun (k : Nat) (hk : k < l.length) => take_map_snoc (f := flowR rs) hk)
      have HSB := hide (show ∀ k, k ≤ l.length → 0 ≤ ((l.take k).map (flowR rs)).sum ∧ ((l.take k).map (flowR rs)).sum ≤ 2000000 from fun k hk => by
        have h := sum_bnd (l := (l.take k).map (flowR rs)) (fun y hy => by
          obtain ⟨z, _, rfl⟩ := List.mem_map.1 hy
          exact HF.out z)
        rw [List.length_map, List.length_take] at h
        omega)
      have HSLO := hide hsl
      have HOWO := hide how
      have HBO := hide hb
      have HLII := hide hli
      have hin : (i0 : Int) < (n : Int) := by omega
      have hl0i : (0 : Int) < (l.length : Int) := by omega
      generalize hq : l.length = q at *
      have HQ := hide hq
      clear hcl hsl how hb hli hq HS
      go_upto_region 7 with fail
      clear hx0 hd0
      go_loopw [10, 11, 12] (fun v10 v11 v12 wx => ∃ k : Nat, k ≤ K ∧ v10 = .int .i64 k ∧ v11 = .int .i64 ((l.take k).map (flowR rs)).sum ∧ wx.ownsRow wr.heap.size 3 1 v12 k (ints ((l.take k).map (flowR rs))) ∧ Below wr.heap.size wr wx) (fun v10 _ _ _ => q - (intOf v10).toNat)
      case atStart => exact ⟨0, by omega, rfl, rfl, World.ownsRow_nil _ _ _ _, Below.refl _ _⟩
      case round =>
        obtain ⟨k, hk, rfl, rfl, hfl, hbk⟩ := hrel
        rename World => wx
        have hKq := HKL.out
        have hkq : k ≤ q := by omega
        by_cases hlt : k < q
        · have ho := HCL.out wx hbk k hlt
          obtain ⟨ik, hik, hikn⟩ := HLI.out k hlt
          have HFK := hide (HFL.out k hlt)
          have HKAk := hide (fun h : k < K => HKA.out k h)
          have HKEk := hide (fun h : k = K => by have := HKE.out (by omega); rwa [← h] at this)
          rw [hik] at ho HFK HKAk HKEk
          obtain ⟨hdk, hfk⟩ := HRT.out wx (bthr HBO.out hbk HBO.out.size) ik hikn
          obtain ⟨hf0, hf1⟩ := HF.out (ik : Int)
          obtain ⟨hs0, hs1⟩ := HSB.out k (by omega)
          obtain ⟨dk, hdke⟩ : ∃ dk, dateR rs ik = dk := ⟨_, rfl⟩
          rw [hdke] at hdk HKAk HKEk
          obtain ⟨fk, hfke⟩ : ∃ fk, flowR rs (ik : Int) = fk := ⟨_, rfl⟩
          have HFKE := hide hfke
          rw [hfke] at hfk hf0 hf1 HFK
          clear hfke
          obtain ⟨sk, hsk⟩ : ∃ sk, ((l.take k).map (flowR rs)).sum = sk := ⟨_, rfl⟩
          rw [hsk] at hs0 hs1
          simp only [hsk]
          have hki : (k : Int) < (q : Int) := by omega
          have hki0 : (0 : Int) ≤ (k : Int) := by omega
          have hikni : (ik : Int) < (n : Int) := by omega
          have hik0 : (0 : Int) ≤ (ik : Int) := by omega
          by_cases hde : dk = d
          · subst hde
            have hkK : k < K := by
              rcases Nat.lt_or_ge k K with h | h
              · exact h
              · exact absurd rfl (HKEk.out (by omega))
            have HSK := hide (show ((l.take (k + 1)).map (flowR rs)).sum = sk + fk by rw [HFK.out, List.sum_append, hsk]; simp)
            have HFK2 := hide (show ints ((l.take (k + 1)).map (flowR rs)) = ints ((l.take k).map (flowR rs)) ++ [.int .i64 fk] by rw [HFK.out, ints_append]; rfl)
            have HFO := hide hfl
            have HBK := hide hbk
            have hkm : k < 549755813888 := by omega
            have hdd : (dk == dk) = true := by simp
            have HIKE := hide hik
            clear hfl hik hsk hdke
            go_wp2_with (at_builtin; refine wpList_push rfl _ _ _ rfl wr.heap.size _ _ slInt _ _ _ rfl HFO.out _ _ rfl rfl rfl hkm HBK.out.size ?_)
            intro v' w4 hv4 hg4 _
            have HB4 := hide (HBK.out.grown hg4 HBK.out.size (fun g hg => (HFO.out.lt g hg).1))
            have HV4 := hide (show w4.ownsRow wr.heap.size 3 1 v' (k + 1) (ints ((l.take (k + 1)).map (flowR rs))) by rw [HFK2.out]; first | exact hv4 | (rw [List.map_take]; exact hv4))
            clear ho hdk hfk
            have ho := HCL.out w4 HB4.out k hlt
            obtain ⟨ik2, hik2, _⟩ := HLI.out k hlt
            have hike : ik2 = ik := by have := HIKE.out; omega
            subst hike
            rw [hik2] at ho
            obtain ⟨hdk, hfk⟩ := HRT.out w4 (bthr HBO.out HB4.out HBO.out.size) ik2 hikn
            rw [HFKE.out] at hfk
            clear hv4 hg4 hik2 hdk HIKE
            go_wp2
            go_roundw
            case rel => exact ⟨k + 1, by omega, by go_num, by rw [HSK.out], HV4.out, HB4.out⟩
            case measure => simp [intOf]; omega
          · -- the date ends the run
            have hkK : k = K := by
              rcases Nat.lt_or_ge k K with h | h
              · exact absurd (HKAk.out h) hde
              · omega
            subst hkK
            have hdd : (dk == d) = false := by simp [hde]
            clear HKAk HKEk HFK HFKE hdke hs0 hs1 hf0 hf1
            have HRN0 := hide (HRR.out.symm.trans HR)
            have HFO := hide hfl
            have HBK := hide hbk
            have HFLB := hide (show ∀ y ∈ (l.take k).map (flowR rs), 0 ≤ y ∧ y ≤ 10000 from fun y hy => by
              obtain ⟨z, _, rfl⟩ := List.mem_map.1 hy
              exact HF.out z)
            have hfll : ((l.take k).map (flowR rs)).length = k := by rw [List.length_map, List.length_take]; have := HQ.out; omega
            obtain ⟨hs0, hs1⟩ := HSB.out k (by omega)
            generalize hfld : (l.take k).map (flowR rs) = fl at *
            have hS := hsk
            rw [hS] at hs0 hs1 HRN0
            try simp only [hS]
            have hSS : 0 ≤ sk := hs0
            have hk1 := HK1.out
            have hk12 : k ≤ 200 := by omega
            clear hfl hbk hfld HFL HCL HSB HKA HKE HKL HRT HK1 HRR
            by_cases hna : a' < sk
            · have HGV := hide (show grpV a' fl = shV a' fl by unfold grpV; rw [if_pos (by omega)])
              obtain ⟨A1, c1, rfl, hsf⟩ := own_sl HFO.out
              have HSE := hide (share_gen a' fl A1 k c1 wx (by omega) ⟨ha'.1, by omega⟩ HFLB.out hsf)
              have hgl := grpV_len ha'.1 HFLB.out
              have HGL := hide (show (grpV a' fl).length = k by rw [hgl]; exact hfll)
              have hmin : min sk a' = a' := by omega
              have HRN := hide (show allotL rs f (l.drop k) (a' - a') (putL out (l.take k) (grpV a' fl)) = allotR rs day a by have h := HRN0.out; rw [hmin] at h; exact h)
              clear hsf hgl HRN0
              go_wp2_with fail
              refine HSE.out.mono ?_
              rintro e wz ⟨v, rfl, hv, hb5⟩
              rw [← HGV.out, HGL.out] at hv
              obtain ⟨A12, c12, rfl, hsl12⟩ := own_sl hv
              have hlo12 := fun b o s (h : A12 = some ⟨b, o, s⟩) => own_from hv h
              have HSH := hide (slF_of (lo := w.heap.size + 1) hsl12 (fun b o s h => by have := hlo12 b o s h; have := HBK.out.size; omega))
              have hbz := bthr HBK.out hb5 HBK.out.size
              clear hv hsl12 hlo12 hb5 HSE HGV HGL HFLB
              -- the values are put
              have HSO := hide (HSLO.out.below hbz)
              have HOO := hide (ownsRow_below HOWO.out hbz)
              have HBZ := hide (bthr HBO.out hbz HBO.out.size)
              have hzz : w.heap.size + 1 ≤ wz.heap.size := Nat.le_trans hz hbz.size
              have HSHL := hide (show (grpV a' fl).length = k from HSH.out.1)
              have HPT := hide (fun (j : Nat) (h : j < k) => putL_take (g := l.take k) (sh := grpV a' fl) (out := out) (j := j) (by rw [List.length_take]; have := HQ.out; omega) (by have := HSHL.out; omega))
              have HTK := hide (fun (j : Nat) (h : j < k) => show (l.take k).getD j 0 = l.getD j 0 by simp [List.getD_eq_getElem?_getD, h])
              clear hbz HFO
              generalize grpV a' fl = sh at *
              go_wp2
              go_loopw [82] (fun v82 wy => ∃ j : Nat, j ≤ k ∧ v82 = .int .i64 j ∧ wy.ownsRow w.heap.size 3 1 (.slice (some ⟨w.heap.size, 0, none⟩) n n) n (ints (putL out ((l.take k).take j) (sh.take j))) ∧ SlF wy (w.heap.size + 1) A12 k c12 sh ∧ SlF wy (w.heap.size + 1) (some ⟨bl, ol, none⟩) q c' l ∧ Below w.heap.size w wy ∧ w.heap.size + 1 ≤ wy.heap.size) (fun v82 _ => k - (intOf v82).toNat)
              case atStart => exact ⟨0, by omega, rfl, HOO.out, HSH.out, HSO.out, HBZ.out, hzz⟩
              case round =>
                obtain ⟨j, hj, rfl, hoo, hsh, hso, hby, hzy⟩ := hrel
                rename World => wy
                by_cases hjk : j < k
                · obtain ⟨bs, os', rfl, hbs1, hbs2, hcs⟩ := hsh.2.2.2 (by omega)
                  have s0 := hcs j hjk
                  obtain ⟨bl', ol', hA, _, _, hco⟩ := hso.2.2.2 (by omega)
                  injection hA with hA
                  injection hA with eA1 eA2 _
                  subst eA1 eA2
                  have o0 := hco j (by omega)
                  obtain ⟨ij, hij, hijn⟩ := HLI.out j (by omega)
                  have HPJ := hide (HPT.out j hjk)
                  rw [HTK.out j hjk] at HPJ
                  rw [hij] at o0 HPJ
                  rw [Int.toNat_natCast] at HPJ
                  obtain ⟨sj, hsj⟩ : ∃ sj, sh.getD j 0 = sj := ⟨_, rfl⟩
                  rw [hsj] at s0 HPJ
                  have hpl : (putL out ((l.take k).take j) (sh.take j)).length = n := by have h := hoo.1; rw [ints_length] at h; omega
                  obtain ⟨z0, l0⟩ : ∃ u, wy.cell? ⟨w.heap.size, ij, none⟩ = some u := ⟨_, (hoo.cellAt ij (by omega)).trans (List.getElem?_eq_getElem (by rw [ints_length]; omega))⟩
                  have lf := hoo.frozenAt ij
                  obtain ⟨k1, g1⟩ := hoo.stored ij (.int .i64 sj)
                  rw [← ints_setO, ← HPJ.out] at k1
                  have HSH2 := hide (hsh.grown g1 (Nat.lt_succ_self _))
                  have HSO2 := hide (hso.grown g1 (Nat.lt_succ_self _))
                  have HB2y := hide (hby.setCell (p := ⟨w.heap.size, ij, none⟩) (Nat.le_refl _) (.int .i64 sj))
                  have HK1y := hide k1
                  have hzy2 : w.heap.size + 1 ≤ (wy.setCell ⟨w.heap.size, ij, none⟩ (.int .i64 sj)).heap.size := by rw [World.size_setCell]; exact hzy
                  have hjki : (j : Int) < (k : Int) := by omega
                  have hjqi : (j : Int) < (q : Int) := by omega
                  have hijni : (ij : Int) < (n : Int) := by omega
                  have hj0i : (0 : Int) ≤ (j : Int) := by omega
                  have hij0i : (0 : Int) ≤ (ij : Int) := by omega
                  clear hoo hsh hso hby k1 g1 hcs hco hpl hij hsj
                  go_wp2
                  go_roundw
                  case rel => exact ⟨j + 1, by omega, by go_num, HK1y.out, HSH2.out, HSO2.out, HB2y.out, hzy2⟩
                  case measure => simp [intOf]; omega
                · have hjk2 : j = k := by omega
                  rw [hjk2] at hoo
                  rw [List.take_of_length_le (show (l.take k).length ≤ k by rw [List.length_take]; omega), List.take_of_length_le (show sh.length ≤ k by have := HSHL.out; omega)] at hoo
                  have HOF := hide hoo
                  have HBF := hide hby
                  have hjki : ¬ ((j : Int) < (k : Int)) := by omega
                  have hkqi : (k : Int) ≤ (q : Int) := by omega
                  have hqc := hso.2.1
                  have hqci : (q : Int) ≤ (c' : Int) := by omega
                  have hkci : (k : Int) ≤ (c' : Int) := by omega
                  have hcm := hso.2.2.1
                  have hcmi : (c' : Int) ≤ 9223372036854775807 := by unfold maxLen at hcm; omega
                  have hk0i : (0 : Int) ≤ (k : Int) := by omega
                  have HPL := hide (show (putL out (l.take k) sh).length = n by rw [putL_len]; exact hlo)
                  have HLD := hide (show (l.drop k).length = q - k by rw [List.length_drop, HQ.out])
                  have HLM := hide (show ∀ x ∈ l.drop k, 0 ≤ x ∧ x < (n : Int) from fun x hx => HLII.out x (List.mem_of_mem_drop hx))
                  clear hoo hsh hby
                  by_cases hkc : k < c'
                  · have HSD := hide (hso.drop (k := k) (by omega) hkc)
                    have hkc2 : ¬ c' ≤ k := by omega
                    have hkc3 : c' ≠ k := by omega
                    clear hso
                    go_wp2
                    go_roundw
                    case rel => exact ⟨l.drop k, a' - a', putL out (l.take k) sh, f, _, c' - k, by rw [HLD.out], by first | (congr 1; done) | (congr 1; omega), by omega, by rw [HLD.out]; omega, by rw [HLD.out]; omega, HLM.out, HPL.out, hide (HRN.out), by rw [HLD.out]; exact HSD.out, HOF.out, HBF.out, hzy⟩
                    case measure => first | (simp [slLen]; done) | (simp [slLen]; omega)
                  · have hkc2 : c' = k := by omega
                    have hqk : q = k := by omega
                    have HDN := hide (show l.drop k = [] by rw [List.drop_eq_nil_iff]; have := HQ.out; omega)
                    clear hso
                    go_wp2
                    go_roundw
                    case rel => exact ⟨l.drop k, a' - a', putL out (l.take k) sh, f, some ⟨bl, ol, none⟩, 0, by rw [HDN.out]; first | done | (simp; done) | (simp; omega), by first | (congr 1; done) | (congr 1; omega), by omega, by rw [HLD.out]; omega, by rw [HLD.out]; omega, HLM.out, HPL.out, hide (HRN.out), by rw [HDN.out]; exact slF_empty _ _ _ (by omega) rfl, HOF.out, HBF.out, hzy⟩
                    case measure => first | (simp [slLen]; done) | (simp [slLen]; omega)
            · have HGV := hide (show grpV a' fl = fl by unfold grpV; rw [if_neg (by omega)])
              have hv := HFO.out
              rw [← HGV.out] at hv
              obtain ⟨A12, c12, rfl, hsl12⟩ := own_sl hv
              have hlo12 := fun b o s (h : A12 = some ⟨b, o, s⟩) => own_from hv h
              have HSH := hide (slF_of (lo := w.heap.size + 1) hsl12 (fun b o s h => by have := hlo12 b o s h; omega))
              have hbz := HBK.out
              have hmin : min sk a' = sk := by omega
              have HRN := hide (show allotL rs f (l.drop k) (a' - sk) (putL out (l.take k) (grpV a' fl)) = allotR rs day a by have h := HRN0.out; rw [hmin] at h; exact h)
              rename World => wz
              clear hv hsl12 hlo12 HGV HRN0 HFLB
              -- the values are put
              have HSO := hide (HSLO.out.below hbz)
              have HOO := hide (ownsRow_below HOWO.out hbz)
              have HBZ := hide (bthr HBO.out hbz HBO.out.size)
              have hzz : w.heap.size + 1 ≤ wz.heap.size := Nat.le_trans hz hbz.size
              have HSHL := hide (show (grpV a' fl).length = k from HSH.out.1)
              have HPT := hide (fun (j : Nat) (h : j < k) => putL_take (g := l.take k) (sh := grpV a' fl) (out := out) (j := j) (by rw [List.length_take]; have := HQ.out; omega) (by have := HSHL.out; omega))
              have HTK := hide (fun (j : Nat) (h : j < k) => show (l.take k).getD j 0 = l.getD j 0 by simp [List.getD_eq_getElem?_getD, h])
              clear hbz HFO
              generalize grpV a' fl = sh at *
              go_wp2
              go_loopw [82] (fun v82 wy => ∃ j : Nat, j ≤ k ∧ v82 = .int .i64 j ∧ wy.ownsRow w.heap.size 3 1 (.slice (some ⟨w.heap.size, 0, none⟩) n n) n (ints (putL out ((l.take k).take j) (sh.take j))) ∧ SlF wy (w.heap.size + 1) A12 k c12 sh ∧ SlF wy (w.heap.size + 1) (some ⟨bl, ol, none⟩) q c' l ∧ Below w.heap.size w wy ∧ w.heap.size + 1 ≤ wy.heap.size) (fun v82 _ => k - (intOf v82).toNat)
              case atStart => exact ⟨0, by omega, rfl, HOO.out, HSH.out, HSO.out, HBZ.out, hzz⟩
              case round =>
                obtain ⟨j, hj, rfl, hoo, hsh, hso, hby, hzy⟩ := hrel
                rename World => wy
                by_cases hjk : j < k
                · obtain ⟨bs, os', rfl, hbs1, hbs2, hcs⟩ := hsh.2.2.2 (by omega)
                  have s0 := hcs j hjk
                  obtain ⟨bl', ol', hA, _, _, hco⟩ := hso.2.2.2 (by omega)
                  injection hA with hA
                  injection hA with eA1 eA2 _
                  subst eA1 eA2
                  have o0 := hco j (by omega)
                  obtain ⟨ij, hij, hijn⟩ := HLI.out j (by omega)
                  have HPJ := hide (HPT.out j hjk)
                  rw [HTK.out j hjk] at HPJ
                  rw [hij] at o0 HPJ
                  rw [Int.toNat_natCast] at HPJ
                  obtain ⟨sj, hsj⟩ : ∃ sj, sh.getD j 0 = sj := ⟨_, rfl⟩
                  rw [hsj] at s0 HPJ
                  have hpl : (putL out ((l.take k).take j) (sh.take j)).length = n := by have h := hoo.1; rw [ints_length] at h; omega
                  obtain ⟨z0, l0⟩ : ∃ u, wy.cell? ⟨w.heap.size, ij, none⟩ = some u := ⟨_, (hoo.cellAt ij (by omega)).trans (List.getElem?_eq_getElem (by rw [ints_length]; omega))⟩
                  have lf := hoo.frozenAt ij
                  obtain ⟨k1, g1⟩ := hoo.stored ij (.int .i64 sj)
                  rw [← ints_setO, ← HPJ.out] at k1
                  have HSH2 := hide (hsh.grown g1 (Nat.lt_succ_self _))
                  have HSO2 := hide (hso.grown g1 (Nat.lt_succ_self _))
                  have HB2y := hide (hby.setCell (p := ⟨w.heap.size, ij, none⟩) (Nat.le_refl _) (.int .i64 sj))
                  have HK1y := hide k1
                  have hzy2 : w.heap.size + 1 ≤ (wy.setCell ⟨w.heap.size, ij, none⟩ (.int .i64 sj)).heap.size := by rw [World.size_setCell]; exact hzy
                  have hjki : (j : Int) < (k : Int) := by omega
                  have hjqi : (j : Int) < (q : Int) := by omega
                  have hijni : (ij : Int) < (n : Int) := by omega
                  have hj0i : (0 : Int) ≤ (j : Int) := by omega
                  have hij0i : (0 : Int) ≤ (ij : Int) := by omega
                  clear hoo hsh hso hby k1 g1 hcs hco hpl hij hsj
                  go_wp2
                  go_roundw
                  case rel => exact ⟨j + 1, by omega, by go_num, HK1y.out, HSH2.out, HSO2.out, HB2y.out, hzy2⟩
                  case measure => simp [intOf]; omega
                · have hjk2 : j = k := by omega
                  rw [hjk2] at hoo
                  rw [List.take_of_length_le (show (l.take k).length ≤ k by rw [List.length_take]; omega), List.take_of_length_le (show sh.length ≤ k by have := HSHL.out; omega)] at hoo
                  have HOF := hide hoo
                  have HBF := hide hby
                  have hjki : ¬ ((j : Int) < (k : Int)) := by omega
                  have hkqi : (k : Int) ≤ (q : Int) := by omega
                  have hqc := hso.2.1
                  have hqci : (q : Int) ≤ (c' : Int) := by omega
                  have hkci : (k : Int) ≤ (c' : Int) := by omega
                  have hcm := hso.2.2.1
                  have hcmi : (c' : Int) ≤ 9223372036854775807 := by unfold maxLen at hcm; omega
                  have hk0i : (0 : Int) ≤ (k : Int) := by omega
                  have HPL := hide (show (putL out (l.take k) sh).length = n by rw [putL_len]; exact hlo)
                  have HLD := hide (show (l.drop k).length = q - k by rw [List.length_drop, HQ.out])
                  have HLM := hide (show ∀ x ∈ l.drop k, 0 ≤ x ∧ x < (n : Int) from fun x hx => HLII.out x (List.mem_of_mem_drop hx))
                  clear hoo hsh hby
                  by_cases hkc : k < c'
                  · have HSD := hide (hso.drop (k := k) (by omega) hkc)
                    have hkc2 : ¬ c' ≤ k := by omega
                    have hkc3 : c' ≠ k := by omega
                    clear hso
                    go_wp2
                    go_roundw
                    case rel => exact ⟨l.drop k, a' - sk, putL out (l.take k) sh, f, _, c' - k, by rw [HLD.out], by first | (congr 1; done) | (congr 1; omega), by omega, by rw [HLD.out]; omega, by rw [HLD.out]; omega, HLM.out, HPL.out, hide (HRN.out), by rw [HLD.out]; exact HSD.out, HOF.out, HBF.out, hzy⟩
                    case measure => first | (simp [slLen]; done) | (simp [slLen]; omega)
                  · have hkc2 : c' = k := by omega
                    have hqk : q = k := by omega
                    have HDN := hide (show l.drop k = [] by rw [List.drop_eq_nil_iff]; have := HQ.out; omega)
                    clear hso
                    go_wp2
                    go_roundw
                    case rel => exact ⟨l.drop k, a' - sk, putL out (l.take k) sh, f, some ⟨bl, ol, none⟩, 0, by rw [HDN.out]; first | done | (simp; done) | (simp; omega), by first | (congr 1; done) | (congr 1; omega), by omega, by rw [HLD.out]; omega, by rw [HLD.out]; omega, HLM.out, HPL.out, hide (HRN.out), by rw [HDN.out]; exact slF_empty _ _ _ (by omega) rfl, HOF.out, HBF.out, hzy⟩
                    case measure => first | (simp [slLen]; done) | (simp [slLen]; omega)
        · -- the list ends the run
          have hkK : k = K := by omega
          subst hkK
          have hkqi2 : ¬ ((k : Int) < (q : Int)) := by omega
          have HRN0 := hide (HRR.out.symm.trans HR)
          have HFO := hide hfl
          have HBK := hide hbk
          have HFLB := hide (show ∀ y ∈ (l.take k).map (flowR rs), 0 ≤ y ∧ y ≤ 10000 from fun y hy => by
            obtain ⟨z, _, rfl⟩ := List.mem_map.1 hy
            exact HF.out z)
          have hfll : ((l.take k).map (flowR rs)).length = k := by rw [List.length_map, List.length_take]; have := HQ.out; omega
          obtain ⟨hs0, hs1⟩ := HSB.out k (by omega)
          generalize hfld : (l.take k).map (flowR rs) = fl at *
          obtain ⟨S, hS⟩ : ∃ S, fl.sum = S := ⟨_, rfl⟩
          rw [hS] at hs0 hs1 HRN0
          try simp only [hS]
          have hSS : 0 ≤ S := hs0
          have hk1 := HK1.out
          have hk12 : k ≤ 200 := by omega
          clear hfl hbk hfld HFL HCL HSB HKA HKE HKL HRT HK1 HRR
          by_cases hna : a' < S
          · have HGV := hide (show grpV a' fl = shV a' fl by unfold grpV; rw [if_pos (by omega)])
            obtain ⟨A1, c1, rfl, hsf⟩ := own_sl HFO.out
            have HSE := hide (share_gen a' fl A1 k c1 wx (by omega) ⟨ha'.1, by omega⟩ HFLB.out hsf)
            have hgl := grpV_len ha'.1 HFLB.out
            have HGL := hide (show (grpV a' fl).length = k by rw [hgl]; exact hfll)
            have hmin : min S a' = a' := by omega
            have HRN := hide (show allotL rs f (l.drop k) (a' - a') (putL out (l.take k) (grpV a' fl)) = allotR rs day a by have h := HRN0.out; rw [hmin] at h; exact h)
            clear hsf hgl HRN0
            go_wp2_with fail
            refine HSE.out.mono ?_
            rintro e wz ⟨v, rfl, hv, hb5⟩
            rw [← HGV.out, HGL.out] at hv
            obtain ⟨A12, c12, rfl, hsl12⟩ := own_sl hv
            have hlo12 := fun b o s (h : A12 = some ⟨b, o, s⟩) => own_from hv h
            have HSH := hide (slF_of (lo := w.heap.size + 1) hsl12 (fun b o s h => by have := hlo12 b o s h; have := HBK.out.size; omega))
            have hbz := bthr HBK.out hb5 HBK.out.size
            clear hv hsl12 hlo12 hb5 HSE HGV HGL HFLB
            -- the values are put
            have HSO := hide (HSLO.out.below hbz)
            have HOO := hide (ownsRow_below HOWO.out hbz)
            have HBZ := hide (bthr HBO.out hbz HBO.out.size)
            have hzz : w.heap.size + 1 ≤ wz.heap.size := Nat.le_trans hz hbz.size
            have HSHL := hide (show (grpV a' fl).length = k from HSH.out.1)
            have HPT := hide (fun (j : Nat) (h : j < k) => putL_take (g := l.take k) (sh := grpV a' fl) (out := out) (j := j) (by rw [List.length_take]; have := HQ.out; omega) (by have := HSHL.out; omega))
            have HTK := hide (fun (j : Nat) (h : j < k) => show (l.take k).getD j 0 = l.getD j 0 by simp [List.getD_eq_getElem?_getD, h])
            clear hbz HFO
            generalize grpV a' fl = sh at *
            go_wp2
            go_loopw [82] (fun v82 wy => ∃ j : Nat, j ≤ k ∧ v82 = .int .i64 j ∧ wy.ownsRow w.heap.size 3 1 (.slice (some ⟨w.heap.size, 0, none⟩) n n) n (ints (putL out ((l.take k).take j) (sh.take j))) ∧ SlF wy (w.heap.size + 1) A12 k c12 sh ∧ SlF wy (w.heap.size + 1) (some ⟨bl, ol, none⟩) q c' l ∧ Below w.heap.size w wy ∧ w.heap.size + 1 ≤ wy.heap.size) (fun v82 _ => k - (intOf v82).toNat)
            case atStart => exact ⟨0, by omega, rfl, HOO.out, HSH.out, HSO.out, HBZ.out, hzz⟩
            case round =>
              obtain ⟨j, hj, rfl, hoo, hsh, hso, hby, hzy⟩ := hrel
              rename World => wy
              by_cases hjk : j < k
              · obtain ⟨bs, os', rfl, hbs1, hbs2, hcs⟩ := hsh.2.2.2 (by omega)
                have s0 := hcs j hjk
                obtain ⟨bl', ol', hA, _, _, hco⟩ := hso.2.2.2 (by omega)
                injection hA with hA
                injection hA with eA1 eA2 _
                subst eA1 eA2
                have o0 := hco j (by omega)
                obtain ⟨ij, hij, hijn⟩ := HLI.out j (by omega)
                have HPJ := hide (HPT.out j hjk)
                rw [HTK.out j hjk] at HPJ
                rw [hij] at o0 HPJ
                rw [Int.toNat_natCast] at HPJ
                obtain ⟨sj, hsj⟩ : ∃ sj, sh.getD j 0 = sj := ⟨_, rfl⟩
                rw [hsj] at s0 HPJ
                have hpl : (putL out ((l.take k).take j) (sh.take j)).length = n := by have h := hoo.1; rw [ints_length] at h; omega
                obtain ⟨z0, l0⟩ : ∃ u, wy.cell? ⟨w.heap.size, ij, none⟩ = some u := ⟨_, (hoo.cellAt ij (by omega)).trans (List.getElem?_eq_getElem (by rw [ints_length]; omega))⟩
                have lf := hoo.frozenAt ij
                obtain ⟨k1, g1⟩ := hoo.stored ij (.int .i64 sj)
                rw [← ints_setO, ← HPJ.out] at k1
                have HSH2 := hide (hsh.grown g1 (Nat.lt_succ_self _))
                have HSO2 := hide (hso.grown g1 (Nat.lt_succ_self _))
                have HB2y := hide (hby.setCell (p := ⟨w.heap.size, ij, none⟩) (Nat.le_refl _) (.int .i64 sj))
                have HK1y := hide k1
                have hzy2 : w.heap.size + 1 ≤ (wy.setCell ⟨w.heap.size, ij, none⟩ (.int .i64 sj)).heap.size := by rw [World.size_setCell]; exact hzy
                have hjki : (j : Int) < (k : Int) := by omega
                have hjqi : (j : Int) < (q : Int) := by omega
                have hijni : (ij : Int) < (n : Int) := by omega
                have hj0i : (0 : Int) ≤ (j : Int) := by omega
                have hij0i : (0 : Int) ≤ (ij : Int) := by omega
                clear hoo hsh hso hby k1 g1 hcs hco hpl hij hsj
                go_wp2
                go_roundw
                case rel => exact ⟨j + 1, by omega, by go_num, HK1y.out, HSH2.out, HSO2.out, HB2y.out, hzy2⟩
                case measure => simp [intOf]; omega
              · have hjk2 : j = k := by omega
                rw [hjk2] at hoo
                rw [List.take_of_length_le (show (l.take k).length ≤ k by rw [List.length_take]; omega), List.take_of_length_le (show sh.length ≤ k by have := HSHL.out; omega)] at hoo
                have HOF := hide hoo
                have HBF := hide hby
                have hjki : ¬ ((j : Int) < (k : Int)) := by omega
                have hkqi : (k : Int) ≤ (q : Int) := by omega
                have hqc := hso.2.1
                have hqci : (q : Int) ≤ (c' : Int) := by omega
                have hkci : (k : Int) ≤ (c' : Int) := by omega
                have hcm := hso.2.2.1
                have hcmi : (c' : Int) ≤ 9223372036854775807 := by unfold maxLen at hcm; omega
                have hk0i : (0 : Int) ≤ (k : Int) := by omega
                have HPL := hide (show (putL out (l.take k) sh).length = n by rw [putL_len]; exact hlo)
                have HLD := hide (show (l.drop k).length = q - k by rw [List.length_drop, HQ.out])
                have HLM := hide (show ∀ x ∈ l.drop k, 0 ≤ x ∧ x < (n : Int) from fun x hx => HLII.out x (List.mem_of_mem_drop hx))
                clear hoo hsh hby
                by_cases hkc : k < c'
                · have HSD := hide (hso.drop (k := k) (by omega) hkc)
                  have hkc2 : ¬ c' ≤ k := by omega
                  have hkc3 : c' ≠ k := by omega
                  clear hso
                  go_wp2
                  go_roundw
                  case rel => exact ⟨l.drop k, a' - a', putL out (l.take k) sh, f, _, c' - k, by rw [HLD.out], by first | (congr 1; done) | (congr 1; omega), by omega, by rw [HLD.out]; omega, by rw [HLD.out]; omega, HLM.out, HPL.out, hide (HRN.out), by rw [HLD.out]; exact HSD.out, HOF.out, HBF.out, hzy⟩
                  case measure => first | (simp [slLen]; done) | (simp [slLen]; omega)
                · have hkc2 : c' = k := by omega
                  have hqk : q = k := by omega
                  have HDN := hide (show l.drop k = [] by rw [List.drop_eq_nil_iff]; have := HQ.out; omega)
                  clear hso
                  go_wp2
                  go_roundw
                  case rel => exact ⟨l.drop k, a' - a', putL out (l.take k) sh, f, some ⟨bl, ol, none⟩, 0, by rw [HDN.out]; first | done | (simp; done) | (simp; omega), by first | (congr 1; done) | (congr 1; omega), by omega, by rw [HLD.out]; omega, by rw [HLD.out]; omega, HLM.out, HPL.out, hide (HRN.out), by rw [HDN.out]; exact slF_empty _ _ _ (by omega) rfl, HOF.out, HBF.out, hzy⟩
                  case measure => first | (simp [slLen]; done) | (simp [slLen]; omega)
          · have HGV := hide (show grpV a' fl = fl by unfold grpV; rw [if_neg (by omega)])
            have hv := HFO.out
            rw [← HGV.out] at hv
            obtain ⟨A12, c12, rfl, hsl12⟩ := own_sl hv
            have hlo12 := fun b o s (h : A12 = some ⟨b, o, s⟩) => own_from hv h
            have HSH := hide (slF_of (lo := w.heap.size + 1) hsl12 (fun b o s h => by have := hlo12 b o s h; omega))
            have hbz := HBK.out
            have hmin : min S a' = S := by omega
            have HRN := hide (show allotL rs f (l.drop k) (a' - S) (putL out (l.take k) (grpV a' fl)) = allotR rs day a by have h := HRN0.out; rw [hmin] at h; exact h)
            rename World => wz
            clear hv hsl12 hlo12 HGV HRN0 HFLB
            -- the values are put
            have HSO := hide (HSLO.out.below hbz)
            have HOO := hide (ownsRow_below HOWO.out hbz)
            have HBZ := hide (bthr HBO.out hbz HBO.out.size)
            have hzz : w.heap.size + 1 ≤ wz.heap.size := Nat.le_trans hz hbz.size
            have HSHL := hide (show (grpV a' fl).length = k from HSH.out.1)
            have HPT := hide (fun (j : Nat) (h : j < k) => putL_take (g := l.take k) (sh := grpV a' fl) (out := out) (j := j) (by rw [List.length_take]; have := HQ.out; omega) (by have := HSHL.out; omega))
            have HTK := hide (fun (j : Nat) (h : j < k) => show (l.take k).getD j 0 = l.getD j 0 by simp [List.getD_eq_getElem?_getD, h])
            clear hbz HFO
            generalize grpV a' fl = sh at *
            go_wp2
            go_loopw [82] (fun v82 wy => ∃ j : Nat, j ≤ k ∧ v82 = .int .i64 j ∧ wy.ownsRow w.heap.size 3 1 (.slice (some ⟨w.heap.size, 0, none⟩) n n) n (ints (putL out ((l.take k).take j) (sh.take j))) ∧ SlF wy (w.heap.size + 1) A12 k c12 sh ∧ SlF wy (w.heap.size + 1) (some ⟨bl, ol, none⟩) q c' l ∧ Below w.heap.size w wy ∧ w.heap.size + 1 ≤ wy.heap.size) (fun v82 _ => k - (intOf v82).toNat)
            case atStart => exact ⟨0, by omega, rfl, HOO.out, HSH.out, HSO.out, HBZ.out, hzz⟩
            case round =>
              obtain ⟨j, hj, rfl, hoo, hsh, hso, hby, hzy⟩ := hrel
              rename World => wy
              by_cases hjk : j < k
              · obtain ⟨bs, os', rfl, hbs1, hbs2, hcs⟩ := hsh.2.2.2 (by omega)
                have s0 := hcs j hjk
                obtain ⟨bl', ol', hA, _, _, hco⟩ := hso.2.2.2 (by omega)
                injection hA with hA
                injection hA with eA1 eA2 _
                subst eA1 eA2
                have o0 := hco j (by omega)
                obtain ⟨ij, hij, hijn⟩ := HLI.out j (by omega)
                have HPJ := hide (HPT.out j hjk)
                rw [HTK.out j hjk] at HPJ
                rw [hij] at o0 HPJ
                rw [Int.toNat_natCast] at HPJ
                obtain ⟨sj, hsj⟩ : ∃ sj, sh.getD j 0 = sj := ⟨_, rfl⟩
                rw [hsj] at s0 HPJ
                have hpl : (putL out ((l.take k).take j) (sh.take j)).length = n := by have h := hoo.1; rw [ints_length] at h; omega
                obtain ⟨z0, l0⟩ : ∃ u, wy.cell? ⟨w.heap.size, ij, none⟩ = some u := ⟨_, (hoo.cellAt ij (by omega)).trans (List.getElem?_eq_getElem (by rw [ints_length]; omega))⟩
                have lf := hoo.frozenAt ij
                obtain ⟨k1, g1⟩ := hoo.stored ij (.int .i64 sj)
                rw [← ints_setO, ← HPJ.out] at k1
                have HSH2 := hide (hsh.grown g1 (Nat.lt_succ_self _))
                have HSO2 := hide (hso.grown g1 (Nat.lt_succ_self _))
                have HB2y := hide (hby.setCell (p := ⟨w.heap.size, ij, none⟩) (Nat.le_refl _) (.int .i64 sj))
                have HK1y := hide k1
                have hzy2 : w.heap.size + 1 ≤ (wy.setCell ⟨w.heap.size, ij, none⟩ (.int .i64 sj)).heap.size := by rw [World.size_setCell]; exact hzy
                have hjki : (j : Int) < (k : Int) := by omega
                have hjqi : (j : Int) < (q : Int) := by omega
                have hijni : (ij : Int) < (n : Int) := by omega
                have hj0i : (0 : Int) ≤ (j : Int) := by omega
                have hij0i : (0 : Int) ≤ (ij : Int) := by omega
                clear hoo hsh hso hby k1 g1 hcs hco hpl hij hsj
                go_wp2
                go_roundw
                case rel => exact ⟨j + 1, by omega, by go_num, HK1y.out, HSH2.out, HSO2.out, HB2y.out, hzy2⟩
                case measure => simp [intOf]; omega
              · have hjk2 : j = k := by omega
                rw [hjk2] at hoo
                rw [List.take_of_length_le (show (l.take k).length ≤ k by rw [List.length_take]; omega), List.take_of_length_le (show sh.length ≤ k by have := HSHL.out; omega)] at hoo
                have HOF := hide hoo
                have HBF := hide hby
                have hjki : ¬ ((j : Int) < (k : Int)) := by omega
                have hkqi : (k : Int) ≤ (q : Int) := by omega
                have hqc := hso.2.1
                have hqci : (q : Int) ≤ (c' : Int) := by omega
                have hkci : (k : Int) ≤ (c' : Int) := by omega
                have hcm := hso.2.2.1
                have hcmi : (c' : Int) ≤ 9223372036854775807 := by unfold maxLen at hcm; omega
                have hk0i : (0 : Int) ≤ (k : Int) := by omega
                have HPL := hide (show (putL out (l.take k) sh).length = n by rw [putL_len]; exact hlo)
                have HLD := hide (show (l.drop k).length = q - k by rw [List.length_drop, HQ.out])
                have HLM := hide (show ∀ x ∈ l.drop k, 0 ≤ x ∧ x < (n : Int) from fun x hx => HLII.out x (List.mem_of_mem_drop hx))
                clear hoo hsh hby
                by_cases hkc : k < c'
                · have HSD := hide (hso.drop (k := k) (by omega) hkc)
                  have hkc2 : ¬ c' ≤ k := by omega
                  have hkc3 : c' ≠ k := by omega
                  clear hso
                  go_wp2
                  go_roundw
                  case rel => exact ⟨l.drop k, a' - S, putL out (l.take k) sh, f, _, c' - k, by rw [HLD.out], by first | (congr 1; done) | (congr 1; omega), by omega, by rw [HLD.out]; omega, by rw [HLD.out]; omega, HLM.out, HPL.out, hide (HRN.out), by rw [HLD.out]; exact HSD.out, HOF.out, HBF.out, hzy⟩
                  case measure => first | (simp [slLen]; done) | (simp [slLen]; omega)
                · have hkc2 : c' = k := by omega
                  have hqk : q = k := by omega
                  have HDN := hide (show l.drop k = [] by rw [List.drop_eq_nil_iff]; have := HQ.out; omega)
                  clear hso
                  go_wp2
                  go_roundw
                  case rel => exact ⟨l.drop k, a' - S, putL out (l.take k) sh, f, some ⟨bl, ol, none⟩, 0, by rw [HDN.out]; first | done | (simp; done) | (simp; omega), by first | (congr 1; done) | (congr 1; omega), by omega, by rw [HLD.out]; omega, by rw [HLD.out]; omega, HLM.out, HPL.out, hide (HRN.out), by rw [HDN.out]; exact slF_empty _ _ _ (by omega) rfl, HOF.out, HBF.out, hzy⟩
                  case measure => first | (simp [slLen]; done) | (simp [slLen]; omega)
    · have hl1 : l = [] := List.eq_nil_of_length_eq_zero (by omega)
      subst hl1
      have HX := hide (allotL_nil.symm.trans HR)
      have HOF := hide how
      have HBF := hide hb
      clear how hb hsl HR
      simp only [List.length_nil]
      go_wp2
      go_ret
      exact ⟨_, rfl, by rw [← HX.out]; exact HOF.out, HBF.out⟩
end Go.Proofs.Ytfcmgmcidngjeaa
