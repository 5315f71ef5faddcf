/-
  Plain laws of the sanity check's dam: the flow of its one gate at 30 that are wanted, what a step gives. No program in sight. No condition.
  The sanity check's dam: it is valid, and what its step gives. No program in sight. No condition.
-/
import Derived.Test.YtodamjjlnagpjaaGreatDoorProg
import Derived.Test.YtodamjjlnagpjaaGreatDoorTgi
import Derived.Test.YtodamjjlnagpjaaGreatDoorTwp
namespace Go.Proofs.YtodamjjlnagpjaaGreatDoor

/-- The curve of the sanity check's gate. -/
theorem val_gate {x : Int} (h : 0 ≤ x ∧ x ≤ 10) : val [⟨0, 0⟩, ⟨10, 100⟩] x = 10 * x := by
  simp only [val, valG]
  by_cases h0 : x ≤ 0
  · rw [if_pos h0]; omega
  · rw [if_neg h0, if_pos h.2]
    have e : (0 : Int) + (100 - 0) * (x - 0) / (10 - 0) = (100 * x) / 10 := by simp
    rw [e]
    omega
theorem su_gate {g : Gt} {cv : Cv} {lv su : Int} (hlv : 0 ≤ lv) (hrs : g.rs = [⟨0, cv⟩]) (hcv : cv.ps = [⟨0, 0⟩, ⟨10, 100⟩]) (hmo : g.mo = 10) (hmv : g.mv = 10) (h : SuP [g] [⟨0, false⟩] lv 30 su) : su = 30 := by
  have h1 := h.one g ⟨0, false⟩ rfl rfl
  have hg : gCv g.rs lv nilCv = cv := by rw [hrs]; simp only [gCv]; rw [if_pos hlv]
  have hlo : rLo g ⟨0, false⟩ = 0 := by unfold rLo; simp only [hmv]; rfl
  have hhi : rHi g ⟨0, false⟩ = 10 := by unfold rHi; simp only [hmv, hmo]; rfl
  have hv : ∀ op, 0 ≤ op ∧ op ≤ 10 → vflow cv op = 10 * op := fun op ho => by
    unfold vflow
    rw [hcv, if_neg (by simp), val_gate ho]
  have hl : lowS lv [g] [⟨0, false⟩] = 0 := by
    simp only [lowS, hg, hlo]
    rw [hv 0 (by omega)]
    rfl
  rw [hl] at h1
  obtain ⟨op, o1, o2, o3, o4⟩ := h1.lt (by omega)
  rw [hg, hlo, hhi] at o4
  rw [hg] at o3
  rw [hlo] at o1
  rw [hhi] at o2
  rw [hv op ⟨o1, o2⟩, hv 0 (by omega), hv 10 (by omega)] at o4
  rw [hv op ⟨o1, o2⟩] at o3
  rcases o4 with ⟨p1, p2⟩ | p
  · by_cases h0 : 0 < op
    · have p3 := p2 h0
      rw [hv (op - 1) (by omega)] at p3
      omega
    · omega
  · omega
end Go.Proofs.YtodamjjlnagpjaaGreatDoor
namespace Go.Proofs.YtodamjjlnagpjaaGreatDoor

def awR (A : Option Addr) (c : Nat) : Rs := ⟨⟨A, 2, c, [⟨100, 0⟩, ⟨200, 1000⟩]⟩, 100, 120, 150, 180, 200⟩
def awG (gA cA : Option Addr) (gc cc : Nat) : Gt := ⟨gA, 1, gc, [⟨0, ⟨cA, 2, cc, [⟨0, 0⟩, ⟨10, 100⟩]⟩⟩], 10, 10⟩
def awD (A gA cA tA : Option Addr) (c gc cc tc : Nat) : Dm := ⟨awR A c, none, 0, 0, [], tA, 1, tc, [awG gA cA gc cc], 1⟩
def awS (sA : Option Addr) (sc : Nat) : Ds := ⟨500, 0, none, 0, 0, [], sA, 1, sc, [⟨0, false⟩]⟩
theorem two_cv {a b c d : Int} (h : (0 ≤ a ∧ a < c ∧ c ≤ 2000) ∧ 0 ≤ b ∧ b ≤ d ∧ d ≤ 2000) : CvG 2000 [⟨a, b⟩, ⟨c, d⟩] := by
  refine ⟨by simp, by simp, fun p hp => ?_, fun i hi => ?_⟩
  · simp only [List.mem_cons, List.not_mem_nil, or_false] at hp
    rcases hp with rfl | rfl <;> simp only <;> omega
  · simp only [List.length_cons, List.length_nil] at hi
    have : i = 0 := by omega
    subst this
    simp only [List.getElem_cons_zero, List.getElem_cons_succ]
    omega
theorem awR_ok (A : Option Addr) (c : Nat) : RsG (awR A c) := by
  refine ⟨two_cv (by omega), by simp [awR], fun i hi => ?_, ?_, ?_, ?_, ?_, ?_, ?_⟩
  · simp only [awR, List.length_cons, List.length_nil] at hi
    have : i = 0 := by omega
    subst this
    simp [awR]
  all_goals simp [awR]
theorem awG_ok (gA cA : Option Addr) (gc cc : Nat) : GtG (awG gA cA gc cc) := by
  refine ⟨by simp [awG], by simp [awG], fun r hr => ?_, fun i hi => ?_, fun r hr => ?_, by simp [awG], by simp [awG]⟩
  · simp only [awG, List.mem_singleton] at hr
    subst hr
    simp
  · simp [awG] at hi
  · simp only [awG, List.mem_singleton] at hr
    subst hr
    exact ⟨two_cv (by omega), _, rfl⟩
theorem awD_ok (A gA cA tA : Option Addr) (c gc cc tc : Nat) : DmG (awD A gA cA tA c gc cc tc) :=
  ⟨awR_ok A c, by simp [awD], fun u hu => by simp [awD] at hu, by simp [awD], fun g hg => by simp only [awD, List.mem_singleton] at hg; subst hg; exact awG_ok _ _ _ _, by simp [awD]⟩
theorem aw_crest (A gA cA tA : Option Addr) (c gc cc tc : Nat) : crestV (awD A gA cA tA c gc cc tc) = 1000 := by
  simp [crestV, awD, awR, val, valG]
theorem awS_ok (A gA cA tA sA : Option Addr) (c gc cc tc sc : Nat) : DsG (awD A gA cA tA c gc cc tc) (awS sA sc) := by
  refine ⟨?_, by simp [awS], by simp [awS, awD], fun i h => by simp [awD] at h, by simp [awS, awD], fun i h => ?_⟩
  · rw [aw_crest]; simp [awS]
  · simp only [awD, List.length_cons, List.length_nil] at h
    have : i = 0 := by omega
    subst this
    simp [awS, awD, awG]
theorem aw_step {A gA cA tA sA : Option Addr} {c gc cc tc sc : Nat} {L T S O : Int} {s2 : Ds} (h : StepQ (awD A gA cA tA c gc cc tc) (awS sA sc) 10 0 30 L T S O s2) : L = 0 ∧ T = 0 ∧ S = 30 ∧ O = 0 ∧ s2.vo = 480 := by
  have hL := h.l
  have hv0 : (awS sA sc).vo = 500 := rfl
  rw [hv0] at hL
  have hL0 : L = 0 := by omega
  subst hL0
  have hT : T = 0 := h.t.2.2.2 rfl
  subst hT
  have hf : freeV (awD A gA cA tA c gc cc tc) (500 + 10 - 0) = 510 := by simp [freeV, awD, awR, val]; omega
  obtain ⟨su, hsu, hS⟩ := h.su
  have hlx := (lastX_in (awR_ok A c).st 500).1
  rw [hv0, hf] at hsu hS
  rw [show min (30 : Int) 510 - 0 = 30 by omega] at hsu
  have hsu30 : su = 30 := su_gate (g := awG gA cA gc cc) hlx rfl rfl rfl rfl hsu
  have hO := h.o
  have hV := h.vo
  rw [hv0, aw_crest] at hO
  rw [hv0] at hV
  omega
end Go.Proofs.YtodamjjlnagpjaaGreatDoor
