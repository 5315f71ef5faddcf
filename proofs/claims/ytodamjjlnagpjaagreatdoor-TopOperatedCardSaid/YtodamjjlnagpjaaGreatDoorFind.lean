/-
  Contracts of slices.IndexFunc and slices.ContainsFunc at integers, for a function value that only reads. Condition: the slice can be read, and the function answers p.
-/
import Derived.Test.YtodamjjlnagpjaaGreatDoorProg
import Derived.Test.YtodamjjlnagpjaaGreatDoorPushN
namespace Go.Proofs.YtodamjjlnagpjaaGreatDoor
open Go.RowKit

theorem any_snoc (p : Int → Bool) (l : List Int) (k : Nat) (h : k < l.length) : (l.take (k + 1)).any p = ((l.take k).any p || p (l.getD k 0)) := by
  rw [List.take_succ_eq_append_getElem h, List.any_append]
  simp [List.getD_eq_getElem?_getD, h]
theorem any_of_take (p : Int → Bool) (l : List Int) (k : Nat) (h : (l.take k).any p = true) : l.any p = true := by
  rw [List.any_eq_true] at h ⊢
  obtain ⟨x, hx, hp⟩ := h
  exact ⟨x, List.mem_of_mem_take hx, hp⟩
def FoundAt (p : Int → Bool) (l : List Int) (w : World) (e : Ending) (w' : World) : Prop := ∃ r : Int, e = .returned (.int .i64 r) ∧ decide (0 ≤ r) = l.any p ∧ w = w'

set_option maxRecDepth 20000 in
theorem index_func0 (kf : FuncId) (hcf : ∀ (a : Array Value) (W : World), (callFunc kf a).run Tryz.prog W = .ok (.enter kf a) W) (p : Int → Bool) (A : Option Addr) (n c : Nat) (zs : List Int) (w : World) (hs : Sl w w.heap.size 1 A n c (ints zs))
    (hf : ∀ v : Int, Calls Tryz.prog kf #[.int .i64 v] w fun e w' => e = .returned (.bool (p v)) ∧ w = w') :
    Calls Tryz.prog 54 #[.slice A n c, .func (.func kf) #[] #[]] w (FoundAt p zs w) := by
  have hl : n = zs.length := by have := hs.1; rw [ints_length] at this; omega
  have hm : n ≤ 9223372036854775807 := by have a1 := hs.2.1; have a2 := hs.2.2.1; unfold maxLen at a2; omega
  have HL := hide hl
  have HS := hide hs
  have HF := hide hf
  clear hl hs hf
  go_enter Tryz.func54, Tryz.ntmps54
  go_wp2
  go_loop [8] (fun i => ∃ k : Nat, k ≤ n ∧ i = .int .i64 k ∧ Hid ((zs.take k).any p = false)) (fun i => n - (intOf i).toNat)
  case atStart => exact ⟨0, by omega, rfl, by simp [Hid]⟩
  case round =>
    obtain ⟨k, hk, rfl, hno⟩ := hrel
    by_cases hlt : k < n
    · obtain ⟨b, o, rfl, hb, hc⟩ := HS.out.at_ hlt
      have hlz := HL.out
      have hx := hc k _ (ints_get zs k (by omega))
      have HN := hide (any_snoc p zs k (by omega))
      clear hc hlz
      cases hp : p (zs.getD k 0)
      · have HN2 := HN.out
        rw [hp, hno.out] at HN2
        have HN3 := hide HN2
        have HP := hide hp
        clear HN HN2 hp
        generalize zs.getD k 0 = v at *
        go_wp2_with fail
        refine (HF.out v).mono ?_
        rintro e w1 ⟨rfl, rfl⟩
        rw [HP.out]
        go_wp2
        go_round
        case rel => exact ⟨k + 1, by omega, by go_num, HN3⟩
        case measure => simp [intOf]; omega
      · have HN2 := HN.out
        rw [hp, hno.out] at HN2
        have HN3 := hide (any_of_take p zs (k + 1) HN2)
        have HP := hide hp
        clear HN HN2 hp
        generalize zs.getD k 0 = v at *
        go_wp2_with fail
        refine (HF.out v).mono ?_
        rintro e w1 ⟨rfl, rfl⟩
        rw [HP.out]
        go_wp2
        go_ret
        exact ⟨_, rfl, by rw [HN3.out]; simp, rfl⟩
    · obtain rfl : k = n := by omega
      go_wp2
      go_ret
      refine ⟨-1, rfl, ?_, rfl⟩
      have h := hno.out
      rw [List.take_of_length_le (by have := HL.out; omega)] at h
      rw [h]; rfl
theorem contains_func0 (kf : FuncId) (hcf : ∀ (a : Array Value) (W : World), (callFunc kf a).run Tryz.prog W = .ok (.enter kf a) W) (p : Int → Bool) (A : Option Addr) (n c : Nat) (zs : List Int) (w : World) (hs : Sl w w.heap.size 1 A n c (ints zs))
    (hf : ∀ v : Int, Calls Tryz.prog kf #[.int .i64 v] w fun e w' => e = .returned (.bool (p v)) ∧ w = w') :
    Calls Tryz.prog 28 #[.slice A n c, .func (.func kf) #[] #[]] w fun e w' => e = .returned (.bool (zs.any p)) ∧ w = w' := by
  have H := hide (index_func0 kf hcf p A n c zs w hs hf)
  clear hs hf hcf
  go_enter Tryz.func28, Tryz.ntmps28
  go_wp2_with fail
  refine H.out.mono ?_
  rintro e w1 ⟨r, rfl, hr, rfl⟩
  have HR := hide hr
  clear hr
  go_wp2
  go_ret
  exact ⟨ret_bool (by rw [← HR.out]), rfl⟩

set_option maxRecDepth 20000 in
theorem index_func1 (kf : FuncId) (hcf : ∀ (a : Array Value) (W : World), (callFunc kf a).run Tryz.prog W = .ok (.enter kf a) W) (x : Value) (p : Int → Bool) (A : Option Addr) (n c : Nat) (zs : List Int) (w : World) (hs : Sl w w.heap.size 1 A n c (ints zs))
    (hf : ∀ v : Int, Calls Tryz.prog kf #[.int .i64 v, x] w fun e w' => e = .returned (.bool (p v)) ∧ w = w') :
    Calls Tryz.prog 54 #[.slice A n c, .func (.func kf) #[] #[x]] w (FoundAt p zs w) := by
  have hl : n = zs.length := by have := hs.1; rw [ints_length] at this; omega
  have hm : n ≤ 9223372036854775807 := by have a1 := hs.2.1; have a2 := hs.2.2.1; unfold maxLen at a2; omega
  have HL := hide hl
  have HS := hide hs
  have HF := hide hf
  clear hl hs hf
  go_enter Tryz.func54, Tryz.ntmps54
  go_wp2
  go_loop [8] (fun i => ∃ k : Nat, k ≤ n ∧ i = .int .i64 k ∧ Hid ((zs.take k).any p = false)) (fun i => n - (intOf i).toNat)
  case atStart => exact ⟨0, by omega, rfl, by simp [Hid]⟩
  case round =>
    obtain ⟨k, hk, rfl, hno⟩ := hrel
    by_cases hlt : k < n
    · obtain ⟨b, o, rfl, hb, hc⟩ := HS.out.at_ hlt
      have hlz := HL.out
      have hx := hc k _ (ints_get zs k (by omega))
      have HN := hide (any_snoc p zs k (by omega))
      clear hc hlz
      cases hp : p (zs.getD k 0)
      · have HN2 := HN.out
        rw [hp, hno.out] at HN2
        have HN3 := hide HN2
        have HP := hide hp
        clear HN HN2 hp
        generalize zs.getD k 0 = v at *
        go_wp2_with fail
        refine (HF.out v).mono ?_
        rintro e w1 ⟨rfl, rfl⟩
        rw [HP.out]
        go_wp2
        go_round
        case rel => exact ⟨k + 1, by omega, by go_num, HN3⟩
        case measure => simp [intOf]; omega
      · have HN2 := HN.out
        rw [hp, hno.out] at HN2
        have HN3 := hide (any_of_take p zs (k + 1) HN2)
        have HP := hide hp
        clear HN HN2 hp
        generalize zs.getD k 0 = v at *
        go_wp2_with fail
        refine (HF.out v).mono ?_
        rintro e w1 ⟨rfl, rfl⟩
        rw [HP.out]
        go_wp2
        go_ret
        exact ⟨_, rfl, by rw [HN3.out]; simp, rfl⟩
    · obtain rfl : k = n := by omega
      go_wp2
      go_ret
      refine ⟨-1, rfl, ?_, rfl⟩
      have h := hno.out
      rw [List.take_of_length_le (by have := HL.out; omega)] at h
      rw [h]; rfl
theorem contains_func1 (kf : FuncId) (hcf : ∀ (a : Array Value) (W : World), (callFunc kf a).run Tryz.prog W = .ok (.enter kf a) W) (x : Value) (p : Int → Bool) (A : Option Addr) (n c : Nat) (zs : List Int) (w : World) (hs : Sl w w.heap.size 1 A n c (ints zs))
    (hf : ∀ v : Int, Calls Tryz.prog kf #[.int .i64 v, x] w fun e w' => e = .returned (.bool (p v)) ∧ w = w') :
    Calls Tryz.prog 28 #[.slice A n c, .func (.func kf) #[] #[x]] w fun e w' => e = .returned (.bool (zs.any p)) ∧ w = w' := by
  have H := hide (index_func1 kf hcf x p A n c zs w hs hf)
  clear hs hf hcf
  go_enter Tryz.func28, Tryz.ntmps28
  go_wp2_with fail
  refine H.out.mono ?_
  rintro e w1 ⟨r, rfl, hr, rfl⟩
  have HR := hide hr
  clear hr
  go_wp2
  go_ret
  exact ⟨ret_bool (by rw [← HR.out]), rfl⟩
end Go.Proofs.YtodamjjlnagpjaaGreatDoor
