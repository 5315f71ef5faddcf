/-
  The plain law of conditions that never matter: without them what is left of a choice is the same, if none yields; and none of the others is one. No condition.
-/
import Derived.Test.YtjbddicgegkkjaaProg
import Derived.Test.YtjbddicgegkkjaaCfl
import Derived.Test.YtjbddicgegkkjaaCvd
namespace Go.Proofs.Ytjbddicgegkkjaa

theorem deadL_len (cs : List Cd) : ∀ k, (leftL cs (deadB cs) k).length + (deadL cs k).length = k
  | 0 => by simp [leftL, deadL]
  | k + 1 => by
    have ih := deadL_len cs k
    cases h : deadB cs k
    · rw [left_in h, deadL_out h, List.length_append]; simp; omega
    · rw [left_out h, deadL_in h, List.length_append]; simp; omega
theorem filt_all {p q : Nat → Bool} : ∀ (l : List Nat), (∀ x, p x = true → q x = true) → (l.filter p).length ≤ (l.filter q).length ∧ ((l.filter q).length ≤ (l.filter p).length → ∀ x ∈ l, q x = true → p x = true)
  | [], _ => by simp
  | x :: t, h => by
    obtain ⟨h1, h2⟩ := filt_all t h
    cases hp : p x
    · cases hq : q x
      · simp only [List.filter_cons, hp, hq]
        refine ⟨by simpa using h1, fun hl y hy hqy => ?_⟩
        rcases List.mem_cons.1 hy with rfl | hy
        · rw [hq] at hqy; cases hqy
        · exact h2 (by simpa using hl) y hy hqy
      · simp only [List.filter_cons, hp, hq]
        refine ⟨by simp; omega, fun hl y hy hqy => ?_⟩
        simp at hl; omega
    · have hq := h x hp
      simp only [List.filter_cons, hp, hq]
      refine ⟨by simp; omega, fun hl y hy hqy => ?_⟩
      rcases List.mem_cons.1 hy with rfl | hy
      · exact hp
      · exact h2 (by simp at hl; omega) y hy hqy
theorem cover_in {f t g u d : Int} (h : daysN g u ≤ (bothL f t g u 365).length) (hd : inB g u d = true) : inB f t d = true := by
  have hw : wit d 364 = true := by simp [inB] at hd; exact hd.1.2
  obtain ⟨d0, d1⟩ := wit_iff.1 hw
  obtain ⟨k, rfl⟩ : ∃ k : Nat, d = (k : Int) := ⟨d.toNat, by omega⟩
  unfold daysN bothL at h
  rw [List.length_map, List.length_map] at h
  have := (filt_all (p := fun d : Nat => inB f t (d : Int) && inB g u (d : Int)) (q := fun d : Nat => inB g u (d : Int) && inB g u (d : Int)) (List.range 365) (fun x hx => by simp at hx ⊢; exact hx.2)).2 h k (List.mem_range.2 (by omega)) (by simp [hd])
  simp at this
  exact this.1
theorem cover_apy {a b : Cd} {d lv : Int} (h : coverB a b = true) (hb : apyB d lv b = true) : apyB d lv a = true := by
  unfold coverB at h
  unfold apyB at hb ⊢
  simp only [Bool.and_eq_true, decide_eq_true_eq] at h hb ⊢
  exact ⟨⟨cover_in h.1.2 hb.1.1, by omega⟩, by omega⟩
theorem cover_bnd {a b : Cd} (ea : a.err = 0) (eb : b.err = 0) (h : coverB a b = true) (bf : Int) : bLeast b bf ≤ bLeast a bf ∧ bMost a bf ≤ bMost b bf := by
  have va := (rest_iff.1 (err_zero ea).2.2).1
  have vb := (rest_iff.1 (err_zero eb).2.2).1
  unfold coverB at h
  simp only [Bool.and_eq_true, decide_eq_true_eq] at h
  have hk := h.1.1.1.1
  have hv := h.2
  unfold bLeast bMost
  rcases kind_4 (err_zero ea).2.1 with ka | ka | ka | ka <;> rw [ka] at hk hv <;> simp [ka, ← hk] at hv ⊢ <;> omega
theorem getD_err {cs : List Cd} (hg : ∀ x ∈ cs, x.err = 0) {i : Nat} (hi : i < cs.length) : (cs.getD i cdv).err = 0 := by
  refine hg _ ?_
  rw [List.getD_eq_getElem?_getD, List.getElem?_eq_getElem hi]
  exact List.getElem_mem _
/-- What applies is outdone by something that applies and is not dead. -/
theorem outdone {cs : List Cd} (hg : ∀ x ∈ cs, x.err = 0) (m i : Nat) (hi : i < cs.length) (hm : (cs.getD i cdv).rank.toNat * (cs.length + 1) + i = m) :
    ∃ j, j < cs.length ∧ deadB cs j = false ∧ (∀ d lv, apyB d lv (cs.getD i cdv) = true → apyB d lv (cs.getD j cdv) = true) ∧ ∀ bf, bLeast (cs.getD i cdv) bf ≤ bLeast (cs.getD j cdv) bf ∧ bMost (cs.getD j cdv) bf ≤ bMost (cs.getD i cdv) bf := by
  induction m using Nat.strongRecOn generalizing i with
  | ind m ih =>
    cases hd : deadB cs i
    · exact ⟨i, hi, hd, fun _ _ h => h, fun _ => ⟨Int.le_refl _, Int.le_refl _⟩⟩
    · unfold deadB deadK at hd
      rw [List.any_eq_true] at hd
      obtain ⟨k, hk, hpc⟩ := hd
      rw [List.mem_range] at hk
      rw [Bool.and_eq_true] at hpc
      obtain ⟨hp, hc⟩ := hpc
      have r1 := (err_zero (getD_err hg hi)).1
      have r2 := (err_zero (getD_err hg hk)).1
      have hlt : (cs.getD k cdv).rank.toNat * (cs.length + 1) + k < m := by
        unfold prior at hp
        simp only [Bool.or_eq_true, Bool.and_eq_true, decide_eq_true_eq] at hp
        rw [← hm]
        rcases hp with hp | ⟨hp, hki⟩
        · have h1 : (cs.getD k cdv).rank.toNat + 1 ≤ (cs.getD i cdv).rank.toNat := by omega
          have h2 := Nat.mul_le_mul_right (cs.length + 1) h1
          rw [Nat.add_mul, Nat.one_mul] at h2
          omega
        · rw [hp]; omega
      obtain ⟨j, j1, j2, j3, j4⟩ := ih _ hlt k hk rfl
      have hb := cover_bnd (getD_err hg hk) (getD_err hg hi) hc
      exact ⟨j, j1, j2, fun d lv h => j3 d lv (cover_apy hc h), fun bf => by have := hb bf; have := j4 bf; omega⟩
theorem ys_before {bf : Int} {cs : List Cd} : ∀ (os : List Int) (s : Chs), (os.foldl (chStep bf cs) s).ys = [] → s.ys = []
  | [], _, h => h
  | x :: t, s, h => by
    have := ys_before t _ h
    unfold chStep at this
    split at this
    · exact this
    · simp at this
/-- If none yields what is left is what all have in common. -/
theorem ch_no {bf : Int} {cs : List Cd} : ∀ (os : List Int) (s : Chs), (os.foldl (chStep bf cs) s).ys = [] → s.lo ≤ s.hi →
    s.lo ≤ (os.foldl (chStep bf cs) s).lo ∧ (os.foldl (chStep bf cs) s).hi ≤ s.hi ∧ (os.foldl (chStep bf cs) s).lo ≤ (os.foldl (chStep bf cs) s).hi ∧ (∀ i ∈ os, bLeast (cs.getD i.toNat cdz) bf ≤ (os.foldl (chStep bf cs) s).lo ∧ (os.foldl (chStep bf cs) s).hi ≤ bMost (cs.getD i.toNat cdz) bf) ∧
      ((os.foldl (chStep bf cs) s).lo = s.lo ∨ ∃ i ∈ os, (os.foldl (chStep bf cs) s).lo = bLeast (cs.getD i.toNat cdz) bf) ∧ ((os.foldl (chStep bf cs) s).hi = s.hi ∨ ∃ i ∈ os, (os.foldl (chStep bf cs) s).hi = bMost (cs.getD i.toNat cdz) bf)
  | [], s, _, hl => ⟨Int.le_refl _, Int.le_refl _, hl, by simp, .inl rfl, .inl rfl⟩
  | x :: t, s, h, hl => by
    rw [List.foldl_cons] at h ⊢
    have hy := ys_before t _ h
    have hm : max s.lo (bLeast (cs.getD x.toNat cdz) bf) ≤ min s.hi (bMost (cs.getD x.toNat cdz) bf) := by
      unfold chStep at hy
      split at hy
      · assumption
      · simp at hy
    have e0 : (chStep bf cs s x).lo = max s.lo (bLeast (cs.getD x.toNat cdz) bf) := by unfold chStep; rw [if_pos hm]
    have e1 : (chStep bf cs s x).hi = min s.hi (bMost (cs.getD x.toNat cdz) bf) := by unfold chStep; rw [if_pos hm]
    obtain ⟨a1, a2, a3, a4, a5, a6⟩ := ch_no t _ h (by rw [e0, e1]; exact hm)
    rw [e0] at a1 a5
    rw [e1] at a2 a6
    have A5 := hide a5
    have A6 := hide a6
    clear a5 a6
    refine ⟨by omega, by omega, a3, fun i hi => ?_, ?_, ?_⟩
    · rcases List.mem_cons.1 hi with rfl | hi
      · omega
      · exact a4 i hi
    · rcases A5.out with a5 | ⟨i, hi, a5⟩
      · by_cases hc : s.lo ≤ bLeast (cs.getD x.toNat cdz) bf
        · right; exact ⟨x, by simp, by omega⟩
        · left; omega
      · right; exact ⟨i, by simp [hi], a5⟩
    · rcases A6.out with a6 | ⟨i, hi, a6⟩
      · by_cases hc : bMost (cs.getD x.toNat cdz) bf ≤ s.hi
        · right; exact ⟨x, by simp, by omega⟩
        · left; omega
      · right; exact ⟨i, by simp [hi], a6⟩
theorem ch_yes {bf LO HI : Int} {cs : List Cd} (hLH : LO ≤ HI) : ∀ (os : List Int) (s : Chs), s.ys = [] → s.lo ≤ LO → HI ≤ s.hi → (∀ i ∈ os, bLeast (cs.getD i.toNat cdz) bf ≤ LO ∧ HI ≤ bMost (cs.getD i.toNat cdz) bf) →
    (os.foldl (chStep bf cs) s).ys = [] ∧ (os.foldl (chStep bf cs) s).lo ≤ LO ∧ HI ≤ (os.foldl (chStep bf cs) s).hi
  | [], s, hy, h0, h1, _ => ⟨hy, h0, h1⟩
  | x :: t, s, hy, h0, h1, h => by
    rw [List.foldl_cons]
    have hx := h x (by simp)
    have hm : max s.lo (bLeast (cs.getD x.toNat cdz) bf) ≤ min s.hi (bMost (cs.getD x.toNat cdz) bf) := by omega
    have e0 : (chStep bf cs s x).lo = max s.lo (bLeast (cs.getD x.toNat cdz) bf) := by unfold chStep; rw [if_pos hm]
    have e1 : (chStep bf cs s x).hi = min s.hi (bMost (cs.getD x.toNat cdz) bf) := by unfold chStep; rw [if_pos hm]
    have e2 : (chStep bf cs s x).ys = [] := by unfold chStep; rw [if_pos hm]; exact hy
    exact ch_yes hLH t _ e2 (by rw [e0]; omega) (by rw [e1]; omega) fun i hi => h i (by simp [hi])
theorem getD_zn {cs : List Cd} {i : Nat} (h : i < cs.length) : cs.getD i cdz = cs.getD i cdv := by
  simp [List.getD_eq_getElem?_getD, h]
theorem ractd_mem {cs : List Cd} {d lv : Int} {os : List Int} (ho : OrdOf cs cs.length os) {i : Int} : i ∈ ractL cs d lv os ↔ (0 ≤ i ∧ i < cs.length) ∧ apyB d lv (cs.getD i.toNat cdz) = true := by
  unfold ractL
  rw [List.mem_filter, ho.2.mem_iff, ixs_mem]
theorem left_mem {cs : List Cd} {dr : Nat → Bool} {x : Cd} : x ∈ leftL cs dr cs.length ↔ ∃ a, a < cs.length ∧ dr a = false ∧ x = cs.getD a cdv := by
  unfold leftL
  rw [show cdn = cdv from rfl]
  simp only [List.mem_map, List.mem_filter, List.mem_range, Bool.not_eq_true']
  constructor
  · rintro ⟨a, ⟨h1, h2⟩, rfl⟩; exact ⟨a, h1, h2, rfl⟩
  · rintro ⟨a, h1, h2, rfl⟩; exact ⟨a, ⟨h1, h2⟩, rfl⟩
theorem dead_same {cs ds : List Cd} (hg : ∀ x ∈ cs, x.err = 0) (hds : ds = leftL cs (deadB cs) cs.length) {d lv bf g0 g1 : Int} (hgg : g0 ≤ g1) {os os' : List Int} (ho : OrdOf cs cs.length os) (ho' : OrdOf ds ds.length os')
    (hy : (chAll bf cs g0 g1 (ractL cs d lv os)).ys = []) : (chAll bf ds g0 g1 (ractL ds d lv os')).ys = [] ∧ (chAll bf ds g0 g1 (ractL ds d lv os')).lo = (chAll bf cs g0 g1 (ractL cs d lv os)).lo ∧ (chAll bf ds g0 g1 (ractL ds d lv os')).hi = (chAll bf cs g0 g1 (ractL cs d lv os)).hi := by
  obtain ⟨a1, a2, a3, a4, a5', a6'⟩ := ch_no (ractL cs d lv os) ⟨g0, g1, -1, -1, [], 0, 0⟩ hy hgg
  have A5 := hide a5'
  have A6 := hide a6'
  clear a5' a6'
  have hin : ∀ a, a < cs.length → apyB d lv (cs.getD a cdv) = true → bLeast (cs.getD a cdv) bf ≤ (chAll bf cs g0 g1 (ractL cs d lv os)).lo ∧ (chAll bf cs g0 g1 (ractL cs d lv os)).hi ≤ bMost (cs.getD a cdv) bf := by
    intro a ha hap
    have := a4 (a : Int) ((ractd_mem ho).2 ⟨⟨by omega, by omega⟩, by rw [Int.toNat_natCast, getD_zn ha]; exact hap⟩)
    rw [Int.toNat_natCast, getD_zn ha] at this
    exact this
  have hdi : ∀ i ∈ ractL ds d lv os', ∃ a, a < cs.length ∧ apyB d lv (cs.getD a cdv) = true ∧ ds.getD i.toNat cdz = cs.getD a cdv := by
    intro i hi
    obtain ⟨⟨i0, i1⟩, i2⟩ := (ractd_mem ho').1 hi
    have hm : ds.getD i.toNat cdz ∈ ds := by
      rw [List.getD_eq_getElem?_getD, List.getElem?_eq_getElem (show i.toNat < ds.length by omega)]
      exact List.getElem_mem _
    rw [hds] at hm
    obtain ⟨a, b1, _, b3⟩ := left_mem.1 hm
    rw [← hds] at b3
    exact ⟨a, b1, by rw [← b3]; exact i2, b3⟩
  obtain ⟨b1, b2, b3⟩ := ch_yes (cs := ds) (bf := bf) a3 (ractL ds d lv os') ⟨g0, g1, -1, -1, [], 0, 0⟩ rfl a1 a2 (fun i hi => by
    obtain ⟨a, h1, h2, h3⟩ := hdi i hi
    rw [h3]; exact hin a h1 h2)
  obtain ⟨c1, c2, c3, c4, _, _⟩ := ch_no (ractL ds d lv os') ⟨g0, g1, -1, -1, [], 0, 0⟩ b1 hgg
  have hout : ∀ a, a < cs.length → apyB d lv (cs.getD a cdv) = true → bLeast (cs.getD a cdv) bf ≤ (chAll bf ds g0 g1 (ractL ds d lv os')).lo ∧ (chAll bf ds g0 g1 (ractL ds d lv os')).hi ≤ bMost (cs.getD a cdv) bf := by
    intro a ha hap
    obtain ⟨j, j1, j2, j3, j4⟩ := outdone hg _ a ha rfl
    have hm : cs.getD j cdv ∈ ds := by rw [hds]; exact left_mem.2 ⟨j, j1, j2, rfl⟩
    obtain ⟨p, hp, he⟩ := List.getElem_of_mem hm
    have hg2 : ds.getD p cdz = cs.getD j cdv := by rw [List.getD_eq_getElem?_getD, List.getElem?_eq_getElem hp]; exact he
    have := c4 (p : Int) ((ractd_mem ho').2 ⟨⟨by omega, by omega⟩, by rw [Int.toNat_natCast, hg2]; exact j3 d lv hap⟩)
    rw [Int.toNat_natCast, hg2] at this
    have h2 := j4 bf
    unfold chAll
    omega
  have hcs : ∀ i ∈ ractL cs d lv os, ∃ a, a < cs.length ∧ apyB d lv (cs.getD a cdv) = true ∧ cs.getD i.toNat cdz = cs.getD a cdv := by
    intro i hi
    obtain ⟨⟨i0, i1⟩, i2⟩ := (ractd_mem ho).1 hi
    have hlt : i.toNat < cs.length := by omega
    exact ⟨i.toNat, hlt, by rw [← getD_zn hlt]; exact i2, getD_zn hlt⟩
  refine ⟨b1, ?_, ?_⟩
  · have h1 : (chAll bf ds g0 g1 (ractL ds d lv os')).lo ≤ (chAll bf cs g0 g1 (ractL cs d lv os)).lo := b2
    have h2 : (chAll bf cs g0 g1 (ractL cs d lv os)).lo ≤ (chAll bf ds g0 g1 (ractL ds d lv os')).lo := by
      rcases A5.out with h | ⟨i, hi, h⟩
      · have h5 : (chAll bf cs g0 g1 (ractL cs d lv os)).lo = g0 := h
        have h6 : g0 ≤ (chAll bf ds g0 g1 (ractL ds d lv os')).lo := c1
        omega
      · obtain ⟨a, e1, e2, e3⟩ := hcs i hi
        have h3 := (hout a e1 e2).1
        rw [← e3] at h3
        have h4 : (chAll bf cs g0 g1 (ractL cs d lv os)).lo = bLeast (cs.getD i.toNat cdz) bf := h
        omega
    omega
  · have h1 : (chAll bf cs g0 g1 (ractL cs d lv os)).hi ≤ (chAll bf ds g0 g1 (ractL ds d lv os')).hi := b3
    have h2 : (chAll bf ds g0 g1 (ractL ds d lv os')).hi ≤ (chAll bf cs g0 g1 (ractL cs d lv os)).hi := by
      rcases A6.out with h | ⟨i, hi, h⟩
      · have h5 : (chAll bf cs g0 g1 (ractL cs d lv os)).hi = g1 := h
        have h6 : (chAll bf ds g0 g1 (ractL ds d lv os')).hi ≤ g1 := c2
        omega
      · obtain ⟨a, e1, e2, e3⟩ := hcs i hi
        have h3 := (hout a e1 e2).2
        rw [← e3] at h3
        have h4 : (chAll bf cs g0 g1 (ractL cs d lv os)).hi = bMost (cs.getD i.toNat cdz) bf := h
        omega
    omega
theorem dead_rel {wn : Int} {s s' : Chs} (h : s.ys = []) (h' : s'.ys = []) (h1 : s'.lo = s.lo) (h2 : s'.hi = s.hi) : chRel wn s' = chRel wn s := by
  unfold chRel; rw [if_pos h, if_pos h', h1, h2]
/-- None of those that are left is dead. -/
theorem none_dead {cs ds : List Cd} (hds : ds = leftL cs (deadB cs) cs.length) (j : Nat) (hj : j < ds.length) : deadB ds j = false := by
  obtain ⟨fl, hfl⟩ : ∃ fl, (List.range cs.length).filter (fun i => !deadB cs i) = fl := ⟨_, rfl⟩
  have hd2 : ds = fl.map fun i => cs.getD i cdv := by rw [hds]; unfold leftL; rw [hfl]; rfl
  have hlen : ds.length = fl.length := by rw [hd2, List.length_map]
  have hsort : fl.Pairwise (· < ·) := by rw [← hfl]; exact List.pairwise_lt_range.filter _
  have hget : ∀ k (hk : k < fl.length), ds.getD k cdv = cs.getD fl[k] cdv := by
    intro k hk
    rw [hd2, List.getD_eq_getElem?_getD, List.getElem?_map, List.getElem?_eq_getElem hk]
    rfl
  have hmem : ∀ k (hk : k < fl.length), fl[k] < cs.length ∧ deadB cs fl[k] = false := by
    have h2 : ∀ x ∈ fl, x < cs.length ∧ deadB cs x = false := by
      rw [← hfl]
      intro x hx
      simpa using hx
    exact fun k hk => h2 _ (List.getElem_mem hk)
  rw [Bool.eq_false_iff]
  intro hdead
  unfold deadB deadK at hdead
  rw [List.any_eq_true] at hdead
  obtain ⟨k, hk, hpc⟩ := hdead
  rw [List.mem_range] at hk
  have hk2 : k < fl.length := by omega
  have hj2 : j < fl.length := by omega
  have hnd := (hmem j hj2).2
  have : deadB cs fl[j] = true := by
    refine deadK_of (hmem k hk2).1 ?_
    rw [Bool.and_eq_true] at hpc ⊢
    obtain ⟨hp, hc⟩ := hpc
    rw [hget k hk2, hget j hj2] at hc
    refine ⟨?_, hc⟩
    unfold prior at hp ⊢
    rw [hget k hk2, hget j hj2] at hp
    simp only [Bool.or_eq_true, Bool.and_eq_true, decide_eq_true_eq] at hp ⊢
    rcases hp with hp | ⟨hp, hlt⟩
    · exact .inl hp
    · exact .inr ⟨hp, List.pairwise_iff_getElem.1 hsort k j hk2 hj2 hlt⟩
  rw [hnd] at this
  cases this
theorem none_list {ds : List Cd} (h : ∀ j, j < ds.length → deadB ds j = false) : ∀ k, k ≤ ds.length → deadL ds k = []
  | 0, _ => rfl
  | k + 1, hk => by rw [deadL_out (h k (by omega))]; exact none_list h k (by omega)
end Go.Proofs.Ytjbddicgegkkjaa
