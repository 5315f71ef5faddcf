/-
  Plain laws of piecewise linear curves: the value at a place, the greatest place with at most a value; no program in sight. Conditions: a curve of small numbers, its places rising, its values not falling.
  A region that draws its order, walked by an invariant over what has been done so far: each operation is shown once, whatever was done before it. No condition.
-/
import Derived.WalkKit
import Derived.Orders
namespace Go.Proofs.YtodamjjlnagpjaaGreatDoor

structure Pt where
  x : Int
  y : Int
def valG : Pt → List Pt → Int → Int
  | q, [], _ => q.y
  | q, p :: t, x => if x ≤ p.x then q.y + (p.y - q.y) * (x - q.x) / (p.x - q.x) else valG p t x
/-- The value of a curve at a place. -/
def val : List Pt → Int → Int
  | [], _ => 0
  | p :: t, x => if x ≤ p.x then p.y else valG p t x
theorem val_cons (p : Pt) (t : List Pt) (x : Int) : val (p :: t) x = if x ≤ p.x then p.y else valG p t x := rfl
def lastG : Pt → List Pt → Int → Int
  | q, [], _ => q.x
  | q, p :: t, y => if y < p.y then q.x + ((y - q.y + 1) * (p.x - q.x) - 1) / (p.y - q.y) else lastG p t y
/-- The greatest place with at most a value; the first place if there is none. -/
def lastX : List Pt → Int → Int
  | [], _ => 0
  | p :: t, y => if y < p.y then p.x else lastG p t y
theorem lastX_cons (p : Pt) (t : List Pt) (y : Int) : lastX (p :: t) y = if y < p.y then p.x else lastG p t y := rfl
/-- A curve of numbers from 0 to M, its places rising, its values not falling. -/
structure CvG (M : Int) (ps : List Pt) : Prop where
  ne : 0 < ps.length
  le : ps.length ≤ 100
  bd : ∀ p ∈ ps, (0 ≤ p.x ∧ p.x ≤ M) ∧ 0 ≤ p.y ∧ p.y ≤ M
  up : ∀ (i : Nat) (h : i + 1 < ps.length), (ps[i]'(by omega)).x < ps[i + 1].x ∧ (ps[i]'(by omega)).y ≤ ps[i + 1].y
/-- one after the other -/
def Chain : Pt → List Pt → Prop
  | _, [] => True
  | q, p :: t => (q.x < p.x ∧ q.y ≤ p.y) ∧ Chain p t
theorem chain_of : ∀ (q : Pt) (t : List Pt), (∀ (i : Nat) (h : i + 1 < (q :: t).length), ((q :: t)[i]'(by omega)).x < (q :: t)[i + 1].x ∧ ((q :: t)[i]'(by omega)).y ≤ (q :: t)[i + 1].y) → Chain q t
  | _, [], _ => trivial
  | q, p :: t, h => ⟨by have := h 0 (by simp); simpa using this, chain_of p t fun i hi => by
      have := h (i + 1) (by simpa using hi)
      simpa using this⟩
theorem seg_in {a b c d : Int} (hc : 0 < c) (hb : 0 ≤ b ∧ b ≤ c) (ha : 0 ≤ a) (hd : d = a * b / c) : 0 ≤ d ∧ d ≤ a := by
  subst hd
  have h1 : 0 ≤ a * b := Int.mul_nonneg ha hb.1
  refine ⟨Int.ediv_nonneg h1 (by omega), ?_⟩
  have h2 : a * b ≤ a * c := Int.mul_le_mul_of_nonneg_left hb.2 ha
  calc a * b / c ≤ a * c / c := Int.ediv_le_ediv hc h2
    _ = a := Int.mul_ediv_cancel _ (by omega)
theorem valG_in {M : Int} : ∀ (q : Pt) (t : List Pt) (x : Int), Chain q t → (∀ p ∈ q :: t, 0 ≤ p.y ∧ p.y ≤ M) → q.x < x → q.y ≤ valG q t x ∧ valG q t x ≤ M
  | q, [], x, _, hb, _ => by unfold valG; exact ⟨Int.le_refl _, (hb q (by simp)).2⟩
  | q, p :: t, x, hc, hb, hx => by
    obtain ⟨⟨h1, h2⟩, h3⟩ := hc
    unfold valG
    split
    · obtain ⟨s0, s1⟩ := seg_in (a := p.y - q.y) (b := x - q.x) (c := p.x - q.x) (by omega) ⟨by omega, by omega⟩ (by omega) rfl
      have := (hb p (by simp)).2
      omega
    · obtain ⟨r0, r1⟩ := valG_in p t x h3 (fun r hr => hb r (List.mem_cons_of_mem _ hr)) (by omega)
      omega
theorem val_in {M : Int} {ps : List Pt} (h : CvG M ps) (x : Int) : 0 ≤ val ps x ∧ val ps x ≤ M := by
  rcases ps with _ | ⟨p, t⟩
  · exact absurd h.ne (by simp)
  · rw [val_cons]
    have hp := h.bd p (by simp)
    split
    · exact hp.2
    · have := valG_in p t x (chain_of p t h.up) (fun r hr => (h.bd r hr).2) (by omega)
      omega
theorem valG_at : ∀ (q : Pt) (t : List Pt) (x : Int) (i : Nat) (h : i + 1 < (q :: t).length), (∀ j (hj : j < i + 1), ((q :: t)[j]'(by omega)).x < x) → x ≤ (q :: t)[i + 1].x →
    valG q t x = ((q :: t)[i]'(by omega)).y + ((q :: t)[i + 1].y - ((q :: t)[i]'(by omega)).y) * (x - ((q :: t)[i]'(by omega)).x) / ((q :: t)[i + 1].x - ((q :: t)[i]'(by omega)).x)
  | q, p :: t, x, 0, h, _, hx => by
    unfold valG
    rw [if_pos (by simpa using hx)]; rfl
  | q, p :: t, x, i + 1, h, hp, hx => by
    unfold valG
    have h1 := hp 1 (by omega)
    rw [if_neg (by simp at h1; omega)]
    have := valG_at p t x i (by simpa using h) (fun j hj => by have := hp (j + 1) (by omega); simpa using this) (by simpa using hx)
    rw [this]; rfl
theorem val_first {ps : List Pt} {x : Int} (h : 0 < ps.length) (hx : x ≤ ps[0].x) : val ps x = ps[0].y := by
  rcases ps with _ | ⟨p, t⟩
  · exact absurd h (by simp)
  · rw [val_cons]; rw [if_pos (by simpa using hx)]; rfl
theorem val_at {ps : List Pt} {x : Int} {i : Nat} (h : i + 1 < ps.length) (hp : ∀ j (hj : j < i + 1), (ps[j]'(by omega)).x < x) (hx : x ≤ ps[i + 1].x) :
    val ps x = (ps[i]'(by omega)).y + (ps[i + 1].y - (ps[i]'(by omega)).y) * (x - (ps[i]'(by omega)).x) / (ps[i + 1].x - (ps[i]'(by omega)).x) := by
  rcases ps with _ | ⟨p, t⟩
  · simp at h
  · rw [val_cons]
    have h0 := hp 0 (by omega)
    rw [if_neg (by simp at h0; omega)]
    exact valG_at p t x i h hp hx
theorem valG_end : ∀ (q : Pt) (t : List Pt) (x : Int), (∀ p ∈ t, p.x < x) → valG q t x = ((q :: t)[t.length]'(by simp)).y
  | q, [], _, _ => rfl
  | q, p :: t, x, h => by
    unfold valG
    have := h p (by simp)
    rw [if_neg (by omega), valG_end p t x (fun r hr => h r (by simp [hr]))]
    simp
theorem val_end {ps : List Pt} {x : Int} (h : 0 < ps.length) (hp : ∀ j (hj : j < ps.length), ps[j].x < x) : val ps x = (ps[ps.length - 1]'(by omega)).y := by
  rcases ps with _ | ⟨p, t⟩
  · simp at h
  · rw [val_cons]
    have h0 := hp 0 (by simp)
    rw [if_neg (by simp at h0; omega), valG_end p t x (fun r hr => by
      obtain ⟨j, hj, rfl⟩ := List.getElem_of_mem hr
      have := hp (j + 1) (by simpa using hj)
      simpa using this)]
    simp
/-- The reference asks '<' where the program asks '≤': at a point both give its value. -/
theorem val_at' {M : Int} {ps : List Pt} {x : Int} {i : Nat} (hg : CvG M ps) (h : i + 1 < ps.length) (hp : ∀ j (hj : j < i + 1), 0 < j → (ps[j]'(by omega)).x ≤ x) (h0 : ps[0].x < x) (hx : x < ps[i + 1].x) :
    val ps x = (ps[i]'(by omega)).y + (ps[i + 1].y - (ps[i]'(by omega)).y) * (x - (ps[i]'(by omega)).x) / (ps[i + 1].x - (ps[i]'(by omega)).x) := by
  have mono : ∀ (k : Nat) (hk : k < ps.length) (j : Nat) (hj : j < k), (ps[j]'(by omega)).x < ps[k].x := by
    intro k
    induction k with
    | zero => intro hk j hj; omega
    | succ k ih =>
      intro hk j hj
      have := (hg.up k hk).1
      rcases Nat.lt_or_ge j k with h | h
      · have := ih (by omega) j h; omega
      · obtain rfl : j = k := by omega
        omega
  rcases Int.lt_or_le (ps[i]'(by omega)).x x with hl | hl
  · exact val_at h (fun j hj => by
      rcases Nat.lt_or_ge j i with h1 | h1
      · have := mono i (by omega) j h1; omega
      · obtain rfl : j = i := by omega
        exact hl) (by omega)
  · have hi : 0 < i := by
      rcases Nat.eq_zero_or_pos i with rfl | h1
      · omega
      · exact h1
    have hle := hp i (by omega) hi
    obtain ⟨k, rfl⟩ : ∃ k, i = k + 1 := ⟨i - 1, by omega⟩
    have e : (ps[k + 1]'(by omega)).x = x := by omega
    have hk := (hg.up k (by omega)).1
    rw [val_at (i := k) (by omega) (fun j hj => by
      have := mono (k + 1) (by omega) j (by omega); omega) (by omega)]
    rw [← e]
    have h4 : (ps[k + 1]'(by omega)).x - (ps[k]'(by omega)).x ≠ 0 := by omega
    rw [Int.mul_ediv_cancel _ h4, Int.sub_self, Int.mul_zero, Int.zero_ediv]
    omega
theorem lastG_in {M : Int} : ∀ (q : Pt) (t : List Pt) (y : Int), Chain q t → (∀ p ∈ q :: t, 0 ≤ p.x ∧ p.x ≤ M) → q.y ≤ y → q.x ≤ lastG q t y ∧ lastG q t y ≤ M
  | q, [], y, _, hb, _ => by unfold lastG; exact ⟨Int.le_refl _, (hb q (by simp)).2⟩
  | q, p :: t, y, hc, hb, hy => by
    obtain ⟨⟨h1, h2⟩, h3⟩ := hc
    unfold lastG
    split
    · have hd : (y - q.y + 1) * (p.x - q.x) ≤ (p.y - q.y) * (p.x - q.x) := Int.mul_le_mul_of_nonneg_right (by omega) (by omega)
      have hn : 1 * 1 ≤ (y - q.y + 1) * (p.x - q.x) := Int.mul_le_mul (by omega) (by omega) (by omega) (by omega)
      have d0 : 0 ≤ ((y - q.y + 1) * (p.x - q.x) - 1) / (p.y - q.y) := Int.ediv_nonneg (by omega) (by omega)
      have d1 : ((y - q.y + 1) * (p.x - q.x) - 1) / (p.y - q.y) < p.x - q.x := Int.ediv_lt_of_lt_mul (by omega) (by rw [Int.mul_comm (p.x - q.x)]; omega)
      have := (hb p (by simp)).2
      omega
    · obtain ⟨r0, r1⟩ := lastG_in p t y h3 (fun r hr => hb r (List.mem_cons_of_mem _ hr)) (by omega)
      omega
theorem lastX_in {M : Int} {ps : List Pt} (h : CvG M ps) (y : Int) : 0 ≤ lastX ps y ∧ lastX ps y ≤ M := by
  rcases ps with _ | ⟨p, t⟩
  · exact absurd h.ne (by simp)
  · rw [lastX_cons]
    have hp := h.bd p (by simp)
    split
    · exact hp.1
    · have := lastG_in p t y (chain_of p t h.up) (fun r hr => (h.bd r hr).1) (by omega)
      omega
/-- What is there at the level of a volume is at most that volume. -/
theorem valG_last : ∀ (q : Pt) (t : List Pt) (y : Int), Chain q t → q.y ≤ y → (q.x = lastG q t y ∨ q.x < lastG q t y) ∧ (q.x < lastG q t y → valG q t (lastG q t y) ≤ y)
  | q, [], y, _, hy => by unfold lastG; exact ⟨.inl rfl, fun h => by omega⟩
  | q, p :: t, y, hc, hy => by
    obtain ⟨⟨h1, h2⟩, h3⟩ := hc
    unfold lastG
    split
    next hlt =>
      have hn : 1 * 1 ≤ (y - q.y + 1) * (p.x - q.x) := Int.mul_le_mul (by omega) (by omega) (by omega) (by omega)
      have hd : (y - q.y + 1) * (p.x - q.x) ≤ (p.y - q.y) * (p.x - q.x) := Int.mul_le_mul_of_nonneg_right (by omega) (by omega)
      have d0 : 0 ≤ ((y - q.y + 1) * (p.x - q.x) - 1) / (p.y - q.y) := Int.ediv_nonneg (by omega) (by omega)
      have d1 : ((y - q.y + 1) * (p.x - q.x) - 1) / (p.y - q.y) < p.x - q.x := Int.ediv_lt_of_lt_mul (by omega) (by rw [Int.mul_comm (p.x - q.x)]; omega)
      have d2 := Int.mul_ediv_self_le (x := (y - q.y + 1) * (p.x - q.x) - 1) (k := p.y - q.y) (by omega)
      generalize ((y - q.y + 1) * (p.x - q.x) - 1) / (p.y - q.y) = d at d0 d1 d2 ⊢
      refine ⟨by omega, fun _ => ?_⟩
      unfold valG
      rw [if_pos (by omega)]
      have e : q.x + d - q.x = d := by omega
      rw [e]
      have : (p.y - q.y) * d / (p.x - q.x) < y - q.y + 1 := Int.ediv_lt_of_lt_mul (by omega) (by omega)
      omega
    next hge =>
      obtain ⟨r0, r1⟩ := valG_last p t y h3 (by omega)
      refine ⟨by omega, fun h => ?_⟩
      unfold valG
      split
      next hle =>
        have e : lastG p t y = p.x := by omega
        rw [e, Int.mul_ediv_cancel _ (by omega)]
        omega
      next hgt => exact r1 (by omega)
theorem val_last {M : Int} {ps : List Pt} (h : CvG M ps) (y : Int) : val ps (lastX ps y) ≤ max y (ps[0]'h.ne).y := by
  rcases ps with _ | ⟨p, t⟩
  · exact absurd h.ne (by simp)
  · rw [lastX_cons]
    simp only [List.getElem_cons_zero]
    split
    · rw [val_cons]; rw [if_pos (Int.le_refl _)]; omega
    next hge =>
      obtain ⟨r0, r1⟩ := valG_last p t y (chain_of p t h.up) (by omega)
      rw [val_cons]
      split
      · omega
      · have := r1 (by omega); omega
/-- Where the search for a value ends. -/
theorem lastG_at : ∀ (q : Pt) (t : List Pt) (y : Int) (i : Nat) (h : i + 1 < (q :: t).length), (∀ j (hj : j < i + 1), ((q :: t)[j]'(by omega)).y ≤ y) → y < (q :: t)[i + 1].y →
    lastG q t y = ((q :: t)[i]'(by omega)).x + ((y - ((q :: t)[i]'(by omega)).y + 1) * ((q :: t)[i + 1].x - ((q :: t)[i]'(by omega)).x) - 1) / ((q :: t)[i + 1].y - ((q :: t)[i]'(by omega)).y)
  | q, p :: t, y, 0, h, _, hy => by
    unfold lastG
    rw [if_pos (by simpa using hy)]; rfl
  | q, p :: t, y, i + 1, h, hp, hy => by
    unfold lastG
    have h1 := hp 1 (by omega)
    rw [if_neg (by simp at h1; omega)]
    have := lastG_at p t y i (by simpa using h) (fun j hj => by have := hp (j + 1) (by omega); simpa using this) (by simpa using hy)
    rw [this]; rfl
theorem lastX_at {ps : List Pt} {y : Int} {i : Nat} (h : i + 1 < ps.length) (hp : ∀ j (hj : j < i + 1), (ps[j]'(by omega)).y ≤ y) (hy : y < ps[i + 1].y) :
    lastX ps y = (ps[i]'(by omega)).x + ((y - (ps[i]'(by omega)).y + 1) * (ps[i + 1].x - (ps[i]'(by omega)).x) - 1) / (ps[i + 1].y - (ps[i]'(by omega)).y) := by
  rcases ps with _ | ⟨p, t⟩
  · simp at h
  · rw [lastX_cons]
    have h0 := hp 0 (by omega)
    rw [if_neg (by simp at h0; omega)]
    exact lastG_at p t y i h hp hy
theorem lastX_first {ps : List Pt} {y : Int} (h : 0 < ps.length) (hy : y < ps[0].y) : lastX ps y = ps[0].x := by
  rcases ps with _ | ⟨p, t⟩
  · exact absurd h (by simp)
  · rw [lastX_cons]; rw [if_pos (by simpa using hy)]; rfl
theorem lastG_end : ∀ (q : Pt) (t : List Pt) (y : Int), (∀ p ∈ t, p.y ≤ y) → lastG q t y = ((q :: t)[t.length]'(by simp)).x
  | q, [], _, _ => rfl
  | q, p :: t, y, h => by
    unfold lastG
    have := h p (by simp)
    rw [if_neg (by omega), lastG_end p t y (fun r hr => h r (by simp [hr]))]
    simp
theorem lastX_end {ps : List Pt} {y : Int} (h : 0 < ps.length) (hp : ∀ j (hj : j < ps.length), ps[j].y ≤ y) : lastX ps y = (ps[ps.length - 1]'(by omega)).x := by
  rcases ps with _ | ⟨p, t⟩
  · simp at h
  · rw [lastX_cons]
    have h0 := hp 0 (by simp)
    rw [if_neg (by simp at h0; omega), lastG_end p t y (fun r hr => by
      obtain ⟨j, hj, rfl⟩ := List.getElem_of_mem hr
      have := hp (j + 1) (by simpa using hj)
      simpa using this)]
    simp
end Go.Proofs.YtodamjjlnagpjaaGreatDoor
namespace Go.Proofs.YtodamjjlnagpjaaGreatDoor

section
variable {P : Program} {ops : Array Oper} {Q : Exit → Act → World → Prop} {J : Array Bool → Act → World → Prop}
theorem ready_iff {listed : Array Bool} {i : Nat} : i ∈ Region.ready .any ops listed ↔ i < ops.size ∧ listed.getD i true = false ∧ ((ops[i]?).map (·.after.all fun e => !Region.binds .any e || listed.getD e.on false)).getD false = true := by
  unfold Region.ready
  simp [List.mem_filter, List.mem_range]
theorem ready_all {listed : Array Bool} (h : ∀ i, i < ops.size → listed.getD i true = true) : Region.ready .any ops listed = [] := by
  rw [List.eq_nil_iff_forall_not_mem]
  intro i hi
  rw [ready_iff] at hi
  rw [h i hi.1] at hi
  exact absurd hi.2.1 (by decide)
theorem wpAny_J (hs : ∀ (listed : Array Bool) (a : Act) (w : World) (i : Nat), J listed a w → i ∈ Region.ready .any ops listed → wpOp P ops Q i (fun a' w' => J (listed.setIfInBounds i true) a' w') a w)
    (he : ∀ (listed : Array Bool) (a : Act) (w : World), J listed a w → Region.ready .any ops listed = [] → Q .normal a w) :
    ∀ (fuel : Nat) (listed : Array Bool) (a : Act) (w : World), listed.size = ops.size → listed.toList.countP (fun b => !b) ≤ fuel → J listed a w → wpAny P .any ops Q fuel listed a w
  | 0, listed, a, w, hsz, hc, hJ => by
    have h0 : Region.ready .any ops listed = [] := ready_all fun i hi => by
      have h1 : listed.toList.countP (fun b => !b) = 0 := by omega
      rw [List.countP_eq_zero] at h1
      have h2 : i < listed.size := by omega
      have h3 := h1 (listed[i]) (by simp)
      simpa [Array.getD, h2] using h3
    exact ⟨h0, he _ _ _ hJ h0⟩
  | fuel + 1, listed, a, w, hsz, hc, hJ => by
    refine ⟨fun h0 => he _ _ _ hJ h0, fun i hi => wpOp_mono (fun a' w' hJ' => wpAny_J hs he fuel _ a' w' (by simpa using hsz) ?_ hJ') (hs listed a w i hJ hi)⟩
    rw [ready_iff] at hi
    obtain ⟨h1, h2, _⟩ := hi
    have h3 : i < listed.size := by omega
    have h4 : listed[i] = false := by simpa [Array.getD, h3] using h2
    rw [Array.toList_setIfInBounds, List.countP_set (by simpa using h3)]
    simp only [Array.getElem_toList, h4, Bool.not_false, Bool.not_true, if_true, Bool.false_eq_true, if_false]
    have h5 : 0 < listed.toList.countP (fun b => !b) := List.countP_pos_iff.2 ⟨false, by rw [← h4]; simp, rfl⟩
    omega
/-- The whole region. -/
theorem wp_region_J {id : Nat} {a : Act} {w : World} (hm : P.follows .mixedOrders = true)
    (h0 : J (Array.replicate ops.size false) a w.drew)
    (hs : ∀ (listed : Array Bool) (a : Act) (w : World) (i : Nat), J listed a w → i ∈ Region.ready .any ops listed → wpOp P ops Q i (fun a' w' => J (listed.setIfInBounds i true) a' w') a w)
    (he : ∀ (listed : Array Bool) (a : Act) (w : World), J listed a w → Region.ready .any ops listed = [] → Q .normal a w) : (Code.region id ops true).wp P Q a w :=
  wp_region_any hm (wpAny_J hs he ops.size _ a _ (by simp) (by
    have := List.countP_le_length (p := fun b => !b) (l := (Array.replicate ops.size false).toList)
    simpa using this) h0)
theorem wp_region_Ja {J : Act → Array Bool → Act → World → Prop} {id : Nat} {a : Act} {w : World} (hm : P.follows .mixedOrders = true)
    (h0 : J a (Array.replicate ops.size false) a w.drew)
    (hs : ∀ (listed : Array Bool) (a' : Act) (w' : World) (i : Nat), listed.size = ops.size → J a listed a' w' → i ∈ Region.ready .any ops listed → wpOp P ops Q i (fun a' w' => J a (listed.setIfInBounds i true) a' w') a' w')
    (he : ∀ (listed : Array Bool) (a' : Act) (w' : World), J a listed a' w' → (∀ i, i < ops.size → listed.getD i false = true) → Q .normal a' w') (hlexB : ((List.range ops.size).all fun i => ((ops[i]?).map (·.after.all fun e => decide (e.on < i))).getD true) = true) : (Code.region id ops true).wp P Q a w := by
  have hlex : ∀ i, i < ops.size → ∀ o, ops[i]? = some o → ∀ e ∈ o.after, e.on < i := by
    intro i hi o ho e he'
    rw [List.all_eq_true] at hlexB
    have h1 := hlexB i (List.mem_range.2 hi)
    rw [ho] at h1
    simp only [Option.map_some, Option.getD_some, Array.all_eq_true'] at h1
    simpa using h1 e he'
  refine wp_region_J (J := fun listed a' w' => listed.size = ops.size ∧ J a listed a' w') hm ⟨by simp, h0⟩ (fun listed a' w' i hJ hi => wpOp_mono (fun a'' w'' h => ⟨by simpa using hJ.1, h⟩) (hs listed a' w' i hJ.1 hJ.2 hi)) (fun listed a' w' hJ h0 => he listed a' w' hJ.2 ?_)
  intro i
  induction i using Nat.strongRecOn with
  | ind i ih =>
    intro hi
    cases hc : listed.getD i false
    · exfalso
      have hsz := hJ.1
      have h1 : listed.getD i true = false := by
        have h2 : i < listed.size := by omega
        simpa [Array.getD, h2] using hc
      have h3 : i ∈ Region.ready .any ops listed := by
        rw [ready_iff]
        refine ⟨hi, h1, ?_⟩
        have h4 : ops[i]? = some ops[i] := Array.getElem?_eq_getElem hi
        rw [h4]
        simp only [Option.map_some, Option.getD_some, Array.all_eq_true']
        intro e he'
        have h5 := hlex i hi _ h4 e he'
        rw [ih e.on h5 (by omega)]
        simp
      rw [h0] at h3
      cases h3
    · rfl
end
/-- A slot that is written where b says so. -/
def putIf (b : Bool) (d : Nat) (v : Value) (a : Act) : Act := if b then a.put (some d) v else a
theorem putIf_size (b : Bool) (d : Nat) (v : Value) (a : Act) : (putIf b d v a).tmps.size = a.tmps.size := by
  unfold putIf
  split
  · simp [Act.put]
  · rfl
theorem putIf_eval_other {b : Bool} {d t : Nat} {v : Value} {a : Act} (h : d ≠ t) : (putIf b d v a).eval (.tmp t) = a.eval (.tmp t) := by
  unfold putIf
  split
  · simp [Act.put, Act.eval, Array.getD_eq_getD_getElem?, h]
  · rfl
theorem putIf_eval_same {d : Nat} {v : Value} {a : Act} (h : d < a.tmps.size) : (putIf true d v a).eval (.tmp d) = v := by
  simp [putIf, Act.put, Act.eval, Array.getD_eq_getD_getElem?, h]
theorem putIf_put {b : Bool} {d d' : Nat} {v v' : Value} {a : Act} (h : d ≠ d') : (putIf b d v a).put (some d') v' = putIf b d v (a.put (some d') v') := by
  unfold putIf
  split
  · simp only [Act.put]
    congr 1
    exact Array.setIfInBounds_comm _ _ h
  · rfl
theorem putIf_here {d : Nat} {v : Value} {a : Act} : (putIf false d v a).put (some d) v = putIf true d v a := rfl
theorem putIf_here2 {d : Nat} {v v' : Value} {a : Act} : (putIf false d v a).put (some d) v' = putIf true d v' a := rfl
theorem getD_listed {listed : Array Bool} {i j : Nat} (hi : i < listed.size) : (listed.setIfInBounds i true).getD j false = if i = j then true else listed.getD j false := by
  rw [Array.getD_eq_getD_getElem?, Array.getElem?_setIfInBounds]
  split
  · next h => subst h; simp
  · rw [Array.getD_eq_getD_getElem?]
theorem getD_flip {listed : Array Bool} {i : Nat} (h : listed.getD i true = false) : listed.getD i false = false := by
  rw [Array.getD_eq_getD_getElem?] at h ⊢
  cases hc : listed[i]? with
  | none => rfl
  | some b => rw [hc] at h; simpa using h
theorem getD_lt {listed : Array Bool} {i : Nat} (h : listed.getD i true = false) : i < listed.size := by
  rcases Nat.lt_or_ge i listed.size with h1 | h1
  · exact h1
  · rw [Array.getD_eq_getD_getElem?, Array.getElem?_eq_none h1] at h; cases h
def done (l : Array Bool) (i : Nat) : Bool := l.getD i false
theorem done_same {l : Array Bool} {i : Nat} (h : i < l.size) : done (l.setIfInBounds i true) i = true := by
  unfold done
  rw [getD_listed h, if_pos rfl]
theorem done_other {l : Array Bool} {i j : Nat} (h : i ≠ j) : done (l.setIfInBounds i true) j = done l j := by
  unfold done
  rw [Array.getD_eq_getD_getElem?, Array.getElem?_setIfInBounds, if_neg h, ← Array.getD_eq_getD_getElem?]
theorem done_none {n i : Nat} : done (Array.replicate n false) i = false := by
  unfold done
  rw [Array.getD_eq_getD_getElem?, Array.getElem?_replicate]
  split <;> rfl
theorem done_not {l : Array Bool} {i : Nat} (h : l.getD i true = false) : done l i = false := getD_flip h
theorem opJ {P : Program} {ops : Array Oper} {Q : Exit → Act → World → Prop} {i : Nat} {o : Oper} {a : Act} {w : World} {K : Act → World → Prop} (ho : ops[i]? = some o) (hg : o.guard = none) (h : o.wp P a w K Q) : wpOp P ops Q i K a w := by
  unfold wpOp
  simp only [ho]
  rw [if_pos (by simp [Region.wanted, hg])]
  exact .inl h
section
variable {P : Program} {ops : Array Oper} {Q : Exit → Act → World → Prop} {i : Nat} {o : Oper} {a : Act} {w w' : World} {K : Act → World → Prop} {v : Value}
theorem opJ_val (ho : ops[i]? = some o) (hg : o.guard = none) (hr : (execOp a.eval o).run P w = .ok (.value v) w') (hK : K (a.put o.dst v) w') : wpOp P ops Q i K a w :=
  opJ ho hg (by unfold Oper.wp; rw [hr]; exact hK)
theorem opJ_move (ho : ops[i]? = some o) (hg : o.guard = none) (x : Operand) (hop : o.op = .move x) (hx : a.eval x = v) (hK : K (a.put o.dst v) w) : wpOp P ops Q i K a w :=
  opJ_val (w' := w) (v := v) ho hg (by simp [execOp, hop, hx]) hK
theorem opJ_load (ho : ops[i]? = some o) (hg : o.guard = none) (t : TypeId) (x : Operand) (p : Value) (hop : o.op = .load t x) (hx : a.eval x = p) (hr : (Instr.loadAt t p).run P w = .ok v w) (hK : K (a.put o.dst v) w) : wpOp P ops Q i K a w :=
  opJ_val (w' := w) (v := v) ho hg (by simp [execOp, hop, hx, hr]) hK
theorem opJ_index (ho : ops[i]? = some o) (hg : o.guard = none) (t : TypeId) (x y : Operand) (p q : Value) (hop : o.op = .indexAddr t x y) (hx : a.eval x = p) (hy : a.eval y = q) (hr : (Instr.indexAt t p q).run P w = .ok v w) (hK : K (a.put o.dst v) w) : wpOp P ops Q i K a w :=
  opJ_val (w' := w) (v := v) ho hg (by simp [execOp, hop, hx, hy, hr]) hK
theorem opJ_field (ho : ops[i]? = some o) (hg : o.guard = none) (t : TypeId) (x : Operand) (f : Nat) (p : Value) (hop : o.op = .fieldAddr t x f) (hx : a.eval x = p) (hr : (Instr.fieldAt t p f).run P w = .ok v w) (hK : K (a.put o.dst v) w) : wpOp P ops Q i K a w :=
  opJ_val (w' := w) (v := v) ho hg (by simp [execOp, hop, hx, hr]) hK
theorem opJ_bin (ho : ops[i]? = some o) (hg : o.guard = none) (b : BinOp) (t u : TypeId) (x y : Operand) (p q : Value) (hop : o.op = .binOp b t x y u) (hx : a.eval x = p) (hy : a.eval y = q) (hr : (do eqGuard b t x y p q; binOp b t p q : Sem Value).run P w = .ok v w) (hK : K (a.put o.dst v) w) : wpOp P ops Q i K a w :=
  opJ_val (w' := w) (v := v) ho hg (by
    have h : (execOp a.eval o).run P w = ((do eqGuard b t x y p q; binOp b t p q : Sem Value).run P w).andThen fun u w' => .ok (.value u) w' := by
      simp only [execOp, hop, hx, hy, Sem.run_bind, Sem.run_pure]
    rw [h, hr]; rfl) hK
theorem opJ_alloc (ho : ops[i]? = some o) (hg : o.guard = none) (t : TypeId) (hop : o.op = .alloc t) (hr : (Instr.alloc t true (.tuple #[])).run P w = .ok v w') (hK : K (a.put o.dst v) w') : wpOp P ops Q i K a w :=
  opJ_val (w' := w') (v := v) ho hg (by simp [execOp, hop, hr]) hK
theorem opJ_store (ho : ops[i]? = some o) (hg : o.guard = none) (t : TypeId) (x y : Operand) (p q : Value) (hop : o.op = .store t x y) (hx : a.eval x = p) (hy : a.eval y = q) (hr : (Instr.storeAt t p q).run P w = .ok () w') (hK : K (a.put o.dst undef) w') : wpOp P ops Q i K a w :=
  opJ ho hg (by
    unfold Oper.wp
    have h : (execOp a.eval o).run P w = .ok .skip w' := by simp [execOp, hop, hx, hy, hr]
    rw [h]; exact hK)
theorem map2J {x y : Operand} {vx vy : Value} (hx : a.eval x = vx) (hy : a.eval y = vy) : (#[x, y] : Array Operand).map a.eval = #[vx, vy] := by simp [hx, hy]
theorem opJ_call (ho : ops[i]? = some o) (hg : o.guard = none) (f : FuncId) (xs : Array Operand) (ts : Array TypeId) (vs : Array Value) (hop : o.op = .call { callee := .value (.func f), args := xs, argTypes := ts }) (hx : xs.map a.eval = vs)
    (hcf : ∀ (b : Array Value) (W : World), (callFunc f b).run P W = .ok (.enter f b) W) (hc : Calls P f vs w fun e w'' => ∃ v, e = .returned v ∧ K (a.put o.dst v) w'') : wpOp P ops Q i K a w :=
  opJ ho hg (by
    unfold Oper.wp
    have h : (execOp a.eval o).run P w = .ok (.enter f vs) w := by
      simp [execOp, hop, resolve, Deferred.ofValue, Act.eval, invoke, hcf]
      exact hx
    rw [h]
    exact hc.mono fun e w'' ⟨v, he, hk⟩ => by subst he; exact hk)
end
end Go.Proofs.YtodamjjlnagpjaaGreatDoor
