/-
  Rights in memory, and the contracts of Check, of the program's and of the reference's: the first error. Condition: the list can be read.
-/
import Derived.Test.YtfcmgmcidngjeaaProg
import Derived.Test.YtfcmgmcidngjeaaMem
import Derived.Test.YtfcmgmcidngjeaaReg
import Derived.Test.YtfcmgmcidngjeaaRin
import Derived.Deep.DeepCutAuto
namespace Go.Proofs.Ytfcmgmcidngjeaa
open Go.RowKit

structure Rt where
  date : Int
  flow : Int
  f : Int
  t : Int
def Rt.arr (r : Rt) : Array Value := #[.int .i64 r.date, .int .i64 r.flow, .int .i64 r.f, .int .i64 r.t]
def rtCells (rs : List Rt) : List Value := rs.flatMap fun r => r.arr.toList
theorem rtCells_append (x y : List Rt) : rtCells (x ++ y) = rtCells x ++ rtCells y := by simp [rtCells]
theorem rtCells_len (rs : List Rt) : (rtCells rs).length = rs.length * 4 := by
  induction rs with
  | nil => rfl
  | cons a t ih =>
    have e : rtCells (a :: t) = a.arr.toList ++ rtCells t := by simp [rtCells]
    rw [e, List.length_append, ih]; simp [Rt.arr]; omega
theorem rtCells_get : ∀ (rs : List Rt) (k : Nat) (h : k < rs.length), (rtCells rs)[k * 4]? = some (.int .i64 rs[k].date) ∧ (rtCells rs)[k * 4 + 1]? = some (.int .i64 rs[k].flow) ∧ (rtCells rs)[k * 4 + 2]? = some (.int .i64 rs[k].f) ∧ (rtCells rs)[k * 4 + 3]? = some (.int .i64 rs[k].t)
  | a :: t, 0, _ => by simp [rtCells, Rt.arr]
  | a :: t, k + 1, h => by
    have e : rtCells (a :: t) = [.int .i64 a.date, .int .i64 a.flow, .int .i64 a.f, .int .i64 a.t] ++ rtCells t := by simp [rtCells, Rt.arr]
    have ih := rtCells_get t k (by simpa using h)
    have e4 : ∀ j, (rtCells (a :: t))[(k + 1) * 4 + j]? = (rtCells t)[k * 4 + j]? := fun j => by
      rw [e, List.getElem?_append_right (by simp; omega)]
      congr 1; simp; omega
    have h0 := e4 0
    simp only [Nat.add_zero] at h0
    rw [h0, e4 1, e4 2, e4 3]
    exact ih
theorem rt_cells {w : World} {g o : Nat} {rs : List Rt} {d q f t : Int} (hc : ∀ j u, (rtCells rs)[j]? = some u → w.cell? ⟨g, o + j, none⟩ = some u) {k : Nat} (hk : k < rs.length) (he : rs[k] = ⟨d, q, f, t⟩) :
    w.cell? ⟨g, o + k * 4, none⟩ = some (.int .i64 d) ∧ w.cell? ⟨g, o + k * 4 + 1, none⟩ = some (.int .i64 q) ∧ w.cell? ⟨g, o + k * 4 + 2, none⟩ = some (.int .i64 f) ∧ w.cell? ⟨g, o + k * 4 + 3, none⟩ = some (.int .i64 t) := by
  have h := rtCells_get rs k hk
  rw [he] at h
  exact ⟨hc _ _ h.1, hc _ _ h.2.1, hc _ _ h.2.2.1, hc _ _ h.2.2.2⟩
/-- A right's error. -/
def Rt.err (r : Rt) : Int := if wit r.date 16777216 = false then 6 else if wit r.flow 10000 = false ∨ okSpan r.f r.t = false then 1 else 0
def rtsErr : List Rt → Int
  | [] => 0
  | r :: t => if r.err = 0 then rtsErr t else r.err
theorem rtsErr_at : ∀ (rs : List Rt) (k : Nat) (h : k < rs.length), (∀ j (hj : j < k), (rs[j]'(by omega)).err = 0) → rs[k].err ≠ 0 → rtsErr rs = rs[k].err
  | s :: t, 0, _, _, hk => by unfold rtsErr; exact if_neg hk
  | s :: t, k + 1, h, hp, hk => by
    have h0 : s.err = 0 := hp 0 (by omega)
    unfold rtsErr
    rw [if_pos h0]
    exact rtsErr_at t k (by simpa using h) (fun j hj => hp (j + 1) (by omega)) hk
theorem rtsErr_zero : ∀ (rs : List Rt), rtsErr rs = 0 ↔ ∀ r ∈ rs, r.err = 0
  | [] => by simp [rtsErr]
  | s :: t => by
    unfold rtsErr
    by_cases h : s.err = 0
    · rw [if_pos h, rtsErr_zero t]; simp [h]
    · rw [if_neg h]; simp [h]
/-- A list's first error. -/
def ckR (rs : List Rt) : Int := if 200 < rs.length then 10 else rtsErr rs
set_option maxHeartbeats 1600000 in
set_option maxRecDepth 20000 in
theorem ckr_any (A : Option Addr) (n c : Nat) (rs : List Rt) (w : World) (hs : Sl w w.heap.size 4 A n c (rtCells rs)) :
    Calls Try.prog 7 #[.slice A n c] w fun e w' => e = .returned (.int .i64 (ckR rs)) ∧ Below w.heap.size w w' := by
  have HL := hide (show n = rs.length by have := hs.1; rw [rtCells_len] at this; omega)
  have HS := hide hs
  have hn63 : n ≤ 9223372036854775807 := by have a1 := HS.out.2.1; have a2 := HS.out.2.2.1; unfold maxLen at a2; omega
  have HE := hide (show ckR rs = if 200 < n then 10 else rtsErr rs by rw [HL.out]; rfl)
  generalize ckR rs = er at *
  clear hs
  go_enter Try.func7, Try.ntmps7
  by_cases h2 : 200 < n
  · have HX := hide (HE.out.trans (if_pos h2))
    have h2i : (200 : Int) < (n : Int) := by omega
    clear HE
    go_wp2
    go_ret
    exact ⟨by rw [HX.out]; first | done | rfl, Below.refl _ _⟩
  · have h2i : ¬ (200 : Int) < (n : Int) := by omega
    have HE4 := hide (HE.out.trans (if_neg h2))
    clear HE
    go_wp2
    go_loopw [10] (fun i wr => ∃ k : Nat, k ≤ n ∧ i = .int .i64 k ∧ Hid (∀ j (hj : j < k) (h : j < rs.length), rs[j].err = 0) ∧ Below w.heap.size w wr) (fun i _ => n - (intOf i).toNat)
    case atStart => exact ⟨0, by omega, rfl, hide (fun j hj => by omega), Below.refl _ _⟩
    case round =>
      obtain ⟨k, hk, rfl, HP, hb⟩ := hrel
      by_cases hlt : k < n
      · have hL := HL.out
        obtain ⟨bl, ol, rfl, _, hcl⟩ := (HS.out.thr hb).at_ hlt
        rcases ek : rs[k]'(by omega) with ⟨d, q, f, t⟩
        obtain ⟨e0, e1, e2, e3⟩ := rt_cells hcl (by omega) ek
        have HER := hide (fun (h : (rs[k]'(by omega)).err ≠ 0) => rtsErr_at rs k (by omega) (fun j hj => HP.out j hj (by omega)) h)
        have HPN := hide (fun (h : (rs[k]'(by omega)).err = 0) => show ∀ j (hj : j < k + 1) (h : j < rs.length), rs[j].err = 0 from fun j hj h2 => by
          by_cases hjk : j = k
          · subst hjk; exact h
          · exact HP.out j (by omega) h2)
        rw [ek] at HER HPN
        have HRE := hide (show Rt.err ⟨d, q, f, t⟩ = if wit d 16777216 = false then 6 else if wit q 10000 = false ∨ okSpan f t = false then 1 else 0 from rfl)
        generalize Rt.err ⟨d, q, f, t⟩ = re at *
        have hb2 := hb.alloc hb.size (.cells #[.int .i64 d, .int .i64 q, .int .i64 f, .int .i64 t] 26)
        have q1 := Blk.new wr 26 #[.int .i64 d, .int .i64 q, .int .i64 f, .int .i64 t]
        have hki : (k : Int) < (n : Int) := by omega
        have HB2 := hide hb2
        clear hcl ek hL hb hb2 HP
        go_upto_region 6 with fail
        clear e0 e1 e2 e3
        generalize wr.alloc _ = w5 at *
        generalize wr.heap.size = g5 at *
        obtain ⟨x0, x1, x2, x3, xf⟩ := q1.facts4
        go_wp2_with fail
        refine (within_any _ _ _).mono ?_
        rintro e w' ⟨rfl, rfl⟩
        cases hd : wit d 16777216
        · have HR1 := hide (HRE.out.trans (if_pos hd))
          have HX := hide (HE4.out.trans (HER.out (by rw [HR1.out]; decide)))
          clear HER HPN HRE hd q1
          go_wp2
          go_ret
          exact ⟨by rw [HX.out, HR1.out]; first | done | rfl, HB2.out⟩
        · have HR1 := hide (HRE.out.trans (if_neg (by rw [hd]; simp)))
          clear HRE hd
          go_wp2_with fail
          refine (within_any _ _ _).mono ?_
          rintro e w' ⟨rfl, rfl⟩
          cases hq : wit q 10000
          · have HR2 := hide (HR1.out.trans (if_pos (.inl hq)))
            have HX := hide (HE4.out.trans (HER.out (by rw [HR2.out]; decide)))
            clear HER HPN HR1 hq q1
            go_wp2
            go_ret
            exact ⟨by rw [HX.out, HR2.out]; first | done | rfl, HB2.out⟩
          · go_wp2_with fail
            refine (valid_any _ _ _).mono ?_
            rintro e w6 ⟨rfl, hb6⟩
            have HB6 := hide (HB2.out.trans (hb6.mono HB2.out.size))
            clear hb6 x0 x1 x2 x3 xf q1
            cases ho : okSpan f t
            · have HR2 := hide (HR1.out.trans (if_pos (.inr ho)))
              have HX := hide (HE4.out.trans (HER.out (by rw [HR2.out]; decide)))
              clear HER HPN HR1 hq ho
              go_wp2
              go_ret
              exact ⟨by rw [HX.out, HR2.out]; first | done | rfl, HB6.out⟩
            · have HR2 := hide (HR1.out.trans (if_neg (by rw [hq, ho]; simp)))
              have HP2 := hide (HPN.out HR2.out)
              clear HER HPN HR1 hq ho
              go_wp2
              go_roundw
              case rel => exact ⟨k + 1, by omega, by go_num, HP2, HB6.out⟩
              case measure => simp [intOf]; omega
      · have hki : ¬ ((k : Int) < (n : Int)) := by omega
        have HX := hide (HE4.out.trans ((rtsErr_zero rs).2 (fun r hr => by
          obtain ⟨j, hj, rfl⟩ := List.getElem_of_mem hr
          exact HP.out j (by have := HL.out; omega) hj)))
        have HBZ := hide hb
        clear hb HP
        go_wp2
        go_ret
        exact ⟨by rw [HX.out]; first | done | rfl, HBZ.out⟩
set_option maxHeartbeats 1600000 in
set_option maxRecDepth 20000 in
theorem rckr_any (A : Option Addr) (n c : Nat) (rs : List Rt) (w : World) (hs : Sl w w.heap.size 4 A n c (rtCells rs)) :
    Calls Try.prog 8 #[.slice A n c] w fun e w' => e = .returned (.int .i64 (ckR rs)) ∧ Below w.heap.size w w' := by
  have HL := hide (show n = rs.length by have := hs.1; rw [rtCells_len] at this; omega)
  have HS := hide hs
  have hn63 : n ≤ 9223372036854775807 := by have a1 := HS.out.2.1; have a2 := HS.out.2.2.1; unfold maxLen at a2; omega
  have HE := hide (show ckR rs = if 200 < n then 10 else rtsErr rs by rw [HL.out]; rfl)
  generalize ckR rs = er at *
  clear hs
  go_enter Try.func8, Try.ntmps8
  by_cases h2 : 200 < n
  · have HX := hide (HE.out.trans (if_pos h2))
    have h2i : (200 : Int) < (n : Int) := by omega
    clear HE
    go_wp2
    go_ret
    exact ⟨by rw [HX.out]; first | done | rfl, Below.refl _ _⟩
  · have h2i : ¬ (200 : Int) < (n : Int) := by omega
    have HE4 := hide (HE.out.trans (if_neg h2))
    clear HE
    go_wp2
    go_loopw [10] (fun i wr => ∃ k : Nat, k ≤ n ∧ i = .int .i64 k ∧ Hid (∀ j (hj : j < k) (h : j < rs.length), rs[j].err = 0) ∧ Below w.heap.size w wr) (fun i _ => n - (intOf i).toNat)
    case atStart => exact ⟨0, by omega, rfl, hide (fun j hj => by omega), Below.refl _ _⟩
    case round =>
      obtain ⟨k, hk, rfl, HP, hb⟩ := hrel
      by_cases hlt : k < n
      · have hL := HL.out
        obtain ⟨bl, ol, rfl, _, hcl⟩ := (HS.out.thr hb).at_ hlt
        rcases ek : rs[k]'(by omega) with ⟨d, q, f, t⟩
        obtain ⟨e0, e1, e2, e3⟩ := rt_cells hcl (by omega) ek
        have HER := hide (fun (h : (rs[k]'(by omega)).err ≠ 0) => rtsErr_at rs k (by omega) (fun j hj => HP.out j hj (by omega)) h)
        have HPN := hide (fun (h : (rs[k]'(by omega)).err = 0) => show ∀ j (hj : j < k + 1) (h : j < rs.length), rs[j].err = 0 from fun j hj h2 => by
          by_cases hjk : j = k
          · subst hjk; exact h
          · exact HP.out j (by omega) h2)
        rw [ek] at HER HPN
        have HRE := hide (show Rt.err ⟨d, q, f, t⟩ = if wit d 16777216 = false then 6 else if wit q 10000 = false ∨ okSpan f t = false then 1 else 0 from rfl)
        generalize Rt.err ⟨d, q, f, t⟩ = re at *
        have hb2 := hb.alloc hb.size (.cells #[.int .i64 d, .int .i64 q, .int .i64 f, .int .i64 t] 26)
        have q1 := Blk.new wr 26 #[.int .i64 d, .int .i64 q, .int .i64 f, .int .i64 t]
        have hki : (k : Int) < (n : Int) := by omega
        have HB2 := hide hb2
        clear hcl ek hL hb hb2 HP
        go_upto_region 6 with fail
        clear e0 e1 e2 e3
        generalize wr.alloc _ = w5 at *
        generalize wr.heap.size = g5 at *
        obtain ⟨x0, x1, x2, x3, xf⟩ := q1.facts4
        go_wp2_with fail
        refine (refIn_any _ _ _).mono ?_
        rintro e w' ⟨rfl, rfl⟩
        cases hd : wit d 16777216
        · have HR1 := hide (HRE.out.trans (if_pos hd))
          have HX := hide (HE4.out.trans (HER.out (by rw [HR1.out]; decide)))
          clear HER HPN HRE hd q1
          go_wp2
          go_ret
          exact ⟨by rw [HX.out, HR1.out]; first | done | rfl, HB2.out⟩
        · have HR1 := hide (HRE.out.trans (if_neg (by rw [hd]; simp)))
          clear HRE hd
          go_wp2_with fail
          refine (refIn_any _ _ _).mono ?_
          rintro e w' ⟨rfl, rfl⟩
          cases hq : wit q 10000
          · have HR2 := hide (HR1.out.trans (if_pos (.inl hq)))
            have HX := hide (HE4.out.trans (HER.out (by rw [HR2.out]; decide)))
            clear HER HPN HR1 hq q1
            go_wp2
            go_ret
            exact ⟨by rw [HX.out, HR2.out]; first | done | rfl, HB2.out⟩
          · go_wp2_with fail
            refine (rvalid_any _ _ _).mono ?_
            rintro e w6 ⟨rfl, hb6⟩
            have HB6 := hide (HB2.out.trans (hb6.mono HB2.out.size))
            clear hb6 x0 x1 x2 x3 xf q1
            cases ho : okSpan f t
            · have HR2 := hide (HR1.out.trans (if_pos (.inr ho)))
              have HX := hide (HE4.out.trans (HER.out (by rw [HR2.out]; decide)))
              clear HER HPN HR1 hq ho
              go_wp2
              go_ret
              exact ⟨by rw [HX.out, HR2.out]; first | done | rfl, HB6.out⟩
            · have HR2 := hide (HR1.out.trans (if_neg (by rw [hq, ho]; simp)))
              have HP2 := hide (HPN.out HR2.out)
              clear HER HPN HR1 hq ho
              go_wp2
              go_roundw
              case rel => exact ⟨k + 1, by omega, by go_num, HP2, HB6.out⟩
              case measure => simp [intOf]; omega
      · have hki : ¬ ((k : Int) < (n : Int)) := by omega
        have HX := hide (HE4.out.trans ((rtsErr_zero rs).2 (fun r hr => by
          obtain ⟨j, hj, rfl⟩ := List.getElem_of_mem hr
          exact HP.out j (by have := HL.out; omega) hj)))
        have HBZ := hide hb
        clear hb HP
        go_wp2
        go_ret
        exact ⟨by rw [HX.out]; first | done | rfl, HBZ.out⟩
end Go.Proofs.Ytfcmgmcidngjeaa
