/-
  The engine for drawn regions with edges that do not bind; what lies in memory while a law over a dam's steps is under way. No condition.
  TopOperated under way: what lies in memory; the chosen release lies within what is left. No condition.
-/
import Derived.Test.YtodamjjlnagpjaaGreatDoorProg
import Derived.Test.YtodamjjlnagpjaaGreatDoorTwp
import Derived.Test.YtodamjjlnagpjaaGreatDoorTmz
import Derived.Test.YtodamjjlnagpjaaGreatDoorRsg
namespace Go.Proofs.YtodamjjlnagpjaaGreatDoor
open Go.RowKit

theorem wp_region_Jb {P : Program} {ops : Array Oper} {Q : Exit → Act → World → Prop} {J : Act → Array Bool → Act → World → Prop} {id : Nat} {a : Act} {w : World} (hm : P.follows .mixedOrders = true)
    (h0 : J a (Array.replicate ops.size false) a w.drew)
    (hs : ∀ (listed : Array Bool) (a' : Act) (w' : World) (i : Nat), listed.size = ops.size → J a listed a' w' → i ∈ Region.ready .any ops listed → wpOp P ops Q i (fun a' w' => J a (listed.setIfInBounds i true) a' w') a' w')
    (he : ∀ (listed : Array Bool) (a' : Act) (w' : World), J a listed a' w' → (∀ i, i < ops.size → listed.getD i false = true) → Q .normal a' w') (hlexB : ((List.range ops.size).all fun i => ((ops[i]?).map (·.after.all fun e => !Region.binds .any e || decide (e.on < i))).getD true) = true) : (Code.region id ops true).wp P Q a w := by
  have hlex : ∀ i, i < ops.size → ∀ o, ops[i]? = some o → ∀ e ∈ o.after, Region.binds .any e = true → e.on < i := by
    intro i hi o ho e he' hb
    rw [List.all_eq_true] at hlexB
    have h1 := hlexB i (List.mem_range.2 hi)
    rw [ho] at h1
    simp only [Option.map_some, Option.getD_some, Array.all_eq_true'] at h1
    have h2 := h1 e he'
    rw [hb] at h2
    simpa using h2
  refine wp_region_J (J := fun listed a' w' => listed.size = ops.size ∧ J a listed a' w') hm ⟨by simp, h0⟩ (fun listed a' w' i hJ hi => wpOp_mono (fun a'' w'' h => ⟨by simpa using hJ.1, h⟩) (hs listed a' w' i hJ.1 hJ.2 hi)) (fun listed a' w' hJ h0 => he listed a' w' hJ.2 ?_)
  intro i
  induction i using Nat.strongRecOn with
  | ind i ih =>
    intro hi
    cases hc : listed.getD i false
    · exfalso
      have hsz := hJ.1
      have h1 : listed.getD i true = false := by
        have h2 : i < listed.size := by omega
        simpa [Array.getD, h2] using hc
      have h3 : i ∈ Region.ready .any ops listed := by
        rw [ready_iff]
        refine ⟨hi, h1, ?_⟩
        have h4 : ops[i]? = some ops[i] := Array.getElem?_eq_getElem hi
        rw [h4]
        simp only [Option.map_some, Option.getD_some, Array.all_eq_true']
        intro e he'
        cases hb : Region.binds .any e
        · simp
        · have h5 := hlex i hi _ h4 e he' hb
          rw [ih e.on h5 (by omega)]
          simp
      rw [h0] at h3
      cases h3
    · rfl
theorem cfStep : ∀ (a : Array Value) (W : World), (callFunc 12 a).run Tryz.prog W = .ok (.enter 12 a) W := fun _ _ => by kernel_rfl
section
variable {P : Program} {ops : Array Oper} {Q : Exit → Act → World → Prop} {i : Nat} {o : Oper} {a : Act} {w w' : World} {K : Act → World → Prop} {v : Value}
theorem opJ_extract (ho : ops[i]? = some o) (hg : o.guard = none) (x : Operand) (k : Nat) (p : Value) (hop : o.op = .extract x k) (hx : a.eval x = p) (hr : (Instr.extract p k).run P w = .ok v w) (hK : K (a.put o.dst v) w) : wpOp P ops Q i K a w :=
  opJ_val (w' := w) (v := v) ho hg (by simp [execOp, hop, hx, hr]) hK
theorem map5J {x1 x2 x3 x4 x5 : Operand} {v1 v2 v3 v4 v5 : Value} (h1 : a.eval x1 = v1) (h2 : a.eval x2 = v2) (h3 : a.eval x3 = v3) (h4 : a.eval x4 = v4) (h5 : a.eval x5 = v5) : (#[x1, x2, x3, x4, x5] : Array Operand).map a.eval = #[v1, v2, v3, v4, v5] := by simp [h1, h2, h3, h4, h5]
end
theorem held_two {w : World} {z : Nat} {e1 e2 : TypeId} {s : Ds} (h1 : w.ownsRow z e1 3 (.slice s.uA s.un s.uc) s.un (usCells s.us)) (h2 : w.ownsRow z e2 2 (.slice s.gA s.gn s.gc) s.gn (gsCells s.gs)) : Held (fun i => (Value.slice s.uA s.un s.uc).ownBlock = some i ∨ (Value.slice s.gA s.gn s.gc).ownBlock = some i) w (fun W => s.ok W) :=
  ((held_sl h1).both (held_sl h2)).imp fun _ h => h
theorem two_ge {w : World} {z : Nat} {e1 e2 : TypeId} {s : Ds} (h1 : w.ownsRow z e1 3 (.slice s.uA s.un s.uc) s.un (usCells s.us)) (h2 : w.ownsRow z e2 2 (.slice s.gA s.gn s.gc) s.gn (gsCells s.gs)) : ∀ i, ((Value.slice s.uA s.un s.uc).ownBlock = some i ∨ (Value.slice s.gA s.gn s.gc).ownBlock = some i) → z ≤ i := fun i h => by
  rcases h with h | h
  · exact (h1.lt i h).1
  · exact (h2.lt i h).1
/-- The law under way: the dam and its state in their boxes, the deck. -/
structure LB (w : World) (b T4 T5 : Nat) (d : Dm) (s : Ds) (Sd Ss : Nat → Prop) (W : World) : Prop where
  t4 : Blk W T4 31 #[.slice d.r.st.A d.r.st.n d.r.st.c, .int .i64 d.r.de, .int .i64 d.r.lw, .int .i64 d.r.fu, .int .i64 d.r.su, .int .i64 d.r.cr, .slice d.uA d.un d.uc, .slice d.gA d.gn d.gc, .int .i64 d.gr]
  t5 : Blk W T5 35 #[.int .i64 s.vo, .int .i64 s.re, .slice s.uA s.un s.uc, .slice s.gA s.gn s.gc]
  hd : Held Sd W (fun W => d.ok W)
  hs : Held Ss W (fun W => s.ok W)
  gd : ∀ i, Sd i → b < i ∧ i ≠ T4 ∧ i ≠ T5
  gs : ∀ i, Ss i → b < i ∧ i ≠ T4 ∧ i ≠ T5
  dk : Dk W b
  bt : w.heap.size ≤ b ∧ b < T4 ∧ T4 < T5
  gr : Below w.heap.size w W
section
variable {w W W' : World} {b T4 T5 : Nat} {d : Dm} {s : Ds} {Sd Ss : Nat → Prop}
theorem LB.deck (h : LB w b T4 T5 d s Sd Ss W) (hg : W.grownBy W' (some b)) (hd : Dk W' b) : LB w b T4 T5 d s Sd Ss W' := by
  have := h.bt
  exact ⟨h.t4.only hg (by omega), h.t5.only hg (by omega), h.hd.deck hg (fun i hi => (h.gd i hi).1), h.hs.deck hg (fun i hi => (h.gs i hi).1), h.gd, h.gs, hd, h.bt, below_grown h.gr hg h.gr.size this.1⟩
theorem LB.below (h : LB w b T4 T5 d s Sd Ss W) (hb : Below W.heap.size W W') : LB w b T4 T5 d s Sd Ss W' := h.deck (grown_below hb _) (h.dk.below hb)
theorem LB.drew (h : LB w b T4 T5 d s Sd Ss W) : LB w b T4 T5 d s Sd Ss W.drew := ⟨h.t4.drew, h.t5.drew, h.hd.drew, h.hs.drew, h.gd, h.gs, h.dk.drew, h.bt, h.gr.drew⟩
theorem LB.next (h : LB w b T4 T5 d s Sd Ss W) {s2 : Ds} {S2 : Nat → Prop} (k : Held S2 W (fun W => s2.ok W)) (hge : ∀ i, S2 i → b < i ∧ i ≠ T4 ∧ i ≠ T5) : LB w b T4 T5 d s2 Sd S2 ((((W.setCell ⟨T5, 0, none⟩ (.int .i64 s2.vo)).setCell ⟨T5, 1, none⟩ (.int .i64 s2.re)).setCell ⟨T5, 2, none⟩ (.slice s2.uA s2.un s2.uc)).setCell ⟨T5, 3, none⟩ (.slice s2.gA s2.gn s2.gc)) := by
  have := h.bt
  have n1 : ¬ Sd T5 := fun hh => (h.gd _ hh).2.2 rfl
  have n2 : ¬ S2 T5 := fun hh => (hge _ hh).2.2 rfl
  have t := (((h.t5.set_ 0 (.int .i64 s2.vo)).set_ 1 (.int .i64 s2.re)).set_ 2 (.slice s2.uA s2.un s2.uc)).set_ 3 (.slice s2.gA s2.gn s2.gc)
  simp only [List.setIfInBounds_toArray, List.set_cons_zero, List.set_cons_succ] at t
  refine ⟨(((h.t4.far (by simp only; omega) _).far (by simp only; omega) _).far (by simp only; omega) _).far (by simp only; omega) _, t, (((h.hd.set (p := ⟨T5, 0, none⟩) n1 _).set (p := ⟨T5, 1, none⟩) n1 _).set (p := ⟨T5, 2, none⟩) n1 _).set (p := ⟨T5, 3, none⟩) n1 _, (((k.set (p := ⟨T5, 0, none⟩) n2 _).set (p := ⟨T5, 1, none⟩) n2 _).set (p := ⟨T5, 2, none⟩) n2 _).set (p := ⟨T5, 3, none⟩) n2 _, h.gd, hge, (((h.dk.set (p := ⟨T5, 0, none⟩) (by simp only; omega) _).set (p := ⟨T5, 1, none⟩) (by simp only; omega) _).set (p := ⟨T5, 2, none⟩) (by simp only; omega) _).set (p := ⟨T5, 3, none⟩) (by simp only; omega) _, h.bt, (((h.gr.setCell (p := ⟨T5, 0, none⟩) (by simp only; omega) _).setCell (p := ⟨T5, 1, none⟩) (by simp only; omega) _).setCell (p := ⟨T5, 2, none⟩) (by simp only; omega) _).setCell (p := ⟨T5, 3, none⟩) (by simp only; omega) _⟩
theorem LB.blt (h : LB w b T4 T5 d s Sd Ss W) : b < W.heap.size := h.dk.lt
theorem LB.xl (h : LB w b T4 T5 d s Sd Ss W) : b < W.heap.size ∧ T4 < W.heap.size ∧ T5 < W.heap.size ∧ w.heap.size ≤ W.heap.size := ⟨h.dk.lt, h.t4.lt, h.t5.lt, h.gr.size⟩
theorem LB.sdl (h : LB w b T4 T5 d s Sd Ss W) (i : Nat) (hi : Sd i) : i < W.heap.size := h.hd.lt hi
theorem LB.ssl (h : LB w b T4 T5 d s Sd Ss W) (i : Nat) (hi : Ss i) : i < W.heap.size := h.hs.lt hi
theorem LB.setx (h : LB w b T4 T5 d s Sd Ss W) {x : Nat} (hx : b < x ∧ x ≠ T4 ∧ x ≠ T5) (h1 : ¬ Sd x) (h2 : ¬ Ss x) (o : Nat) (u : Value) : LB w b T4 T5 d s Sd Ss (W.setCell ⟨x, o, none⟩ u) := by
  have := h.bt
  exact ⟨h.t4.far (by simp only; omega) _, h.t5.far (by simp only; omega) _, h.hd.set h1 _, h.hs.set h2 _, h.gd, h.gs, h.dk.set (by simp only; omega) _, h.bt, h.gr.setCell (by simp only; omega) _⟩
end
end Go.Proofs.YtodamjjlnagpjaaGreatDoor
namespace Go.Proofs.YtodamjjlnagpjaaGreatDoor
open Go.RowKit

theorem chStep_in {bf : Int} {cs : List Cd} {s : Chs} {i g0 g1 : Int} (h : g0 ≤ s.lo ∧ s.hi ≤ g1) : g0 ≤ (chStep bf cs s i).lo ∧ (chStep bf cs s i).hi ≤ g1 := by
  unfold chStep
  split
  · simp only; omega
  · exact h
theorem chAll_in {bf : Int} {cs : List Cd} {g0 g1 : Int} (os : List Int) : g0 ≤ (chAll bf cs g0 g1 os).lo ∧ (chAll bf cs g0 g1 os).hi ≤ g1 := by
  unfold chAll
  suffices ∀ (os : List Int) (s : Chs), g0 ≤ s.lo ∧ s.hi ≤ g1 → g0 ≤ (os.foldl (chStep bf cs) s).lo ∧ (os.foldl (chStep bf cs) s).hi ≤ g1 from this os _ ⟨Int.le_refl _, Int.le_refl _⟩
  intro os
  induction os with
  | nil => exact fun s h => h
  | cons x t ih => exact fun s h => ih _ (chStep_in h)
theorem chRel_in {wn : Int} {s : Chs} (h : s.lo ≤ s.hi) : s.lo ≤ chRel wn s ∧ chRel wn s ≤ s.hi := by
  unfold chRel
  split
  · omega
  · split <;> omega
/-- What a choice gives, as the law asks it. -/
def ChoL (w : World) (e : Ending) (w' : World) : Prop := ∃ (rl lo hi : Int) (Y : Option Addr) (yn yk : Nat), e = .returned (.tuple #[.agg #[.int .i64 rl, .int .i64 lo, .int .i64 hi, .slice Y yn yk], .int .i64 0]) ∧ ((0 ≤ rl ∧ rl ≤ 1073741824) ∧ rl ≤ hi) ∧ Below w.heap.size w w'
theorem choose_law (A : Option Addr) (n c : Nat) (cs : List Cd) (d lv bf wn : Int) (hn : n ≤ 200) (hg : ∀ x ∈ cs, x.err = 0) (hd : 0 ≤ d ∧ d ≤ 364) (hv : 0 ≤ lv ∧ lv ≤ 16777216) (hbf : 0 ≤ bf ∧ bf ≤ 1073741824) (hwn : 0 ≤ wn ∧ wn ≤ 1000) (w : World) (hT : KT w) (hs : Sl w w.heap.size 7 A n c (cdCells cs)) :
    Calls Tryz.prog 10 #[.slice A n c, .int .i64 d, .int .i64 lv, .int .i64 bf, .agg #[.int .i64 0, .int .i64 1073741824], .int .i64 wn] w (ChoL w) := by
  refine (Choose_ok A n c cs d lv bf 0 1073741824 wn w hT hn hg (wit_of hd.1 hd.2) (wit_of hv.1 hv.2) (wit_of hbf.1 hbf.2) (wit_of hwn.1 (by omega)) (by decide) (by decide) (by omega) hs).mono ?_
  rintro e w' ⟨s, Y, k, hs, rfl, _, hb⟩
  have h1 := chAll_le (bf := bf) (cs := cs) (show (0 : Int) ≤ 1073741824 by omega) (actC cs d lv)
  have h2 := chAll_in (bf := bf) (cs := cs) (g0 := 0) (g1 := 1073741824) (actC cs d lv)
  rw [← hs] at h1 h2
  have h3 := chRel_in (wn := wn) h1
  exact ⟨_, _, _, _, _, _, rfl, by omega, hb⟩
/-- The law under way: the dam and its state in their boxes, the deck, the conditions. -/
structure OB (w : World) (b T4 T5 : Nat) (d : Dm) (s : Ds) (Sd Ss Sc : Nat → Prop) (A : Option Addr) (n c : Nat) (cs : List Cd) (W : World) : Prop where
  lb : LB w b T4 T5 d s Sd Ss W
  hc : Held Sc W (fun W => Sl W W.heap.size 7 A n c (cdCells cs))
  gc : ∀ i, Sc i → b < i ∧ i ≠ T4 ∧ i ≠ T5
section
variable {w W W' : World} {b T4 T5 n c : Nat} {d : Dm} {s : Ds} {Sd Ss Sc : Nat → Prop} {A : Option Addr} {cs : List Cd}
theorem OB.deck (h : OB w b T4 T5 d s Sd Ss Sc A n c cs W) (hg : W.grownBy W' (some b)) (hd : Dk W' b) : OB w b T4 T5 d s Sd Ss Sc A n c cs W' := ⟨h.lb.deck hg hd, h.hc.deck hg (fun i hi => (h.gc i hi).1), h.gc⟩
theorem OB.below (h : OB w b T4 T5 d s Sd Ss Sc A n c cs W) (hb : Below W.heap.size W W') : OB w b T4 T5 d s Sd Ss Sc A n c cs W' := ⟨h.lb.below hb, h.hc.below hb, h.gc⟩
theorem OB.drew (h : OB w b T4 T5 d s Sd Ss Sc A n c cs W) : OB w b T4 T5 d s Sd Ss Sc A n c cs W.drew := ⟨h.lb.drew, h.hc.drew, h.gc⟩
theorem OB.next (h : OB w b T4 T5 d s Sd Ss Sc A n c cs W) {s2 : Ds} {S2 : Nat → Prop} (k : Held S2 W (fun W => s2.ok W)) (hge : ∀ i, S2 i → b < i ∧ i ≠ T4 ∧ i ≠ T5) : OB w b T4 T5 d s2 Sd S2 Sc A n c cs ((((W.setCell ⟨T5, 0, none⟩ (.int .i64 s2.vo)).setCell ⟨T5, 1, none⟩ (.int .i64 s2.re)).setCell ⟨T5, 2, none⟩ (.slice s2.uA s2.un s2.uc)).setCell ⟨T5, 3, none⟩ (.slice s2.gA s2.gn s2.gc)) := by
  have n1 : ¬ Sc T5 := fun hh => (h.gc _ hh).2.2 rfl
  exact ⟨h.lb.next k hge, (((h.hc.set (p := ⟨T5, 0, none⟩) n1 _).set (p := ⟨T5, 1, none⟩) n1 _).set (p := ⟨T5, 2, none⟩) n1 _).set (p := ⟨T5, 3, none⟩) n1 _, h.gc⟩
theorem OB.setx (h : OB w b T4 T5 d s Sd Ss Sc A n c cs W) {x : Nat} (hx : b < x ∧ x ≠ T4 ∧ x ≠ T5) (h1 : ¬ Sd x) (h2 : ¬ Ss x) (h3 : ¬ Sc x) (o : Nat) (u : Value) : OB w b T4 T5 d s Sd Ss Sc A n c cs (W.setCell ⟨x, o, none⟩ u) := ⟨h.lb.setx hx h1 h2 o u, h.hc.set (p := ⟨x, o, none⟩) h3 u, h.gc⟩
/-- a block made behind the law's own is none of them -/
theorem OB.fresh (h : OB w b T4 T5 d s Sd Ss Sc A n c cs W) {x : Nat} (hx : W.heap.size ≤ x) : (b < x ∧ x ≠ T4 ∧ x ≠ T5) ∧ ¬ Sd x ∧ ¬ Ss x ∧ ¬ Sc x := by
  have h1 := h.lb.xl
  exact ⟨by omega, fun hh => by have := h.lb.sdl _ hh; omega, fun hh => by have := h.lb.ssl _ hh; omega, fun hh => by have := h.hc.lt hh; omega⟩
end
end Go.Proofs.YtodamjjlnagpjaaGreatDoor
