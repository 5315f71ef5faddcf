/-
  The contract of slices.SortFunc at twelve numbers or fewer, by a method value. Condition: the comparing method answers f and writes nothing that was there.
-/
import Derived.Test.YtfcmgmcidngjeaaProg
import Derived.Test.YtfcmgmcidngjeaaInsM
import Derived.Test.YtfcmgmcidngjeaaRgo
import Derived.Lib.Strings
import Derived.Lib.Slices
import Derived.Lib.Small
import Derived.Lib.Walk
import Derived.Lib.BitFns
namespace Go.Proofs.Ytfcmgmcidngjeaa
open Go.RowKit

set_option maxHeartbeats 1000000 in
set_option maxRecDepth 100000 in
theorem len64_any (x : Int) (w : World) (h0 : 0 ≤ x) (h1 : x ≤ 200) : Calls Try.prog 57 #[.int .u64 x] w fun e w' => (∃ l : Int, e = .returned (.int .i64 l)) ∧ w = w' := by
  go_enter Try.func57, Try.ntmps57
  go_wp2
  go_ret
  exact ⟨⟨_, rfl⟩, rfl⟩
theorem len_any (x : Int) (w : World) (h0 : 0 ≤ x) (h1 : x ≤ 200) : Calls Try.prog 41 #[.int .u64 x] w fun e w' => (∃ l : Int, e = .returned (.int .i64 l)) ∧ w = w' := by
  go_enter Try.func41, Try.ntmps41
  go_wp2_with (go_at_call 57; refine (len64_any x _ h0 h1).mono ?_; rintro e w' ⟨⟨l, rfl⟩, rfl⟩)
  go_ret
  exact ⟨⟨_, rfl⟩, rfl⟩
set_option maxHeartbeats 1000000 in
set_option maxRecDepth 20000 in
theorem pdqM_small (w0 : World) (g : Nat) (kc : FuncId) (rv : Value) (f : Int → Int → Int) (ok : Int → Prop) (hf : CmpSaysM w0 g kc rv f ok) (n c : Nat) (hn : n ≤ 12) (lim : Int) (xs : List Int) (hl : xs.length = n) (hok : ∀ x ∈ xs, ok x) (w : World) (hw : w0.grownBy w (some g)) (hx : IRow w g xs) :
    Calls Try.prog 40 #[.slice (some ⟨g, 0, none⟩) n c, .int .i64 0, .int .i64 n, .int .i64 lim, .func (.func kc) #[rv] #[]] w fun e w' => e = .returned (.tuple #[]) ∧ IRow w' g (insK f 0 (n - 1) xs) ∧ w.grownBy w' (some g) := by
  have HI := hide (insM_any w0 g kc rv f ok hf n c 0 n (Nat.le_refl _) (Nat.zero_le _) (by omega) xs hl hok w hw hx)
  rw [Nat.zero_add] at HI
  have hni : (n : Int) ≤ 12 := by omega
  clear hf hok hx hl
  go_enter Try.func40, Try.ntmps40
  go_wp2
  refine wp_loop_rounds 1 ?_
  rw [rounds_succ]
  go_wp2_with fail
  refine HI.out.mono ?_
  rintro e w' ⟨rfl, h1, h2⟩
  have H1 := hide h1
  have H2 := hide h2
  clear h1 h2
  go_wp2
  (try simp only [Exit.inBlock, Exit.then])
  refine bodyPost_ret (results_none rfl _ _ _) rfl ?_
  exact ⟨rfl, H1.out, H2.out⟩
set_option maxHeartbeats 1000000 in
set_option maxRecDepth 20000 in
theorem sortM_small (w0 : World) (g : Nat) (kc : FuncId) (rv : Value) (f : Int → Int → Int) (ok : Int → Prop) (hf : CmpSaysM w0 g kc rv f ok) (n c : Nat) (hn : n ≤ 12) (xs : List Int) (hl : xs.length = n) (hok : ∀ x ∈ xs, ok x) (w : World) (hw : w0.grownBy w (some g)) (hx : IRow w g xs) :
    Calls Try.prog 37 #[.slice (some ⟨g, 0, none⟩) n c, .func (.func kc) #[rv] #[]] w fun e w' => e = .returned (.tuple #[]) ∧ IRow w' g (insK f 0 (n - 1) xs) ∧ w.grownBy w' (some g) := by
  have HP := hide (fun lim => pdqM_small w0 g kc rv f ok hf n c hn lim xs hl hok w hw hx)
  have hni : (n : Int) ≤ 12 := by omega
  clear hf hok hx hl
  go_enter Try.func37, Try.ntmps37
  go_wp2_with fail
  refine (len_any (n : Int) _ (by omega) (by omega)).mono ?_
  rintro e w' ⟨⟨l, rfl⟩, rfl⟩
  go_wp2_with fail
  refine (HP.out l).mono ?_
  rintro e w' ⟨rfl, h1, h2⟩
  have H1 := hide h1
  have H2 := hide h2
  clear h1 h2
  go_wp2
  go_end0
  exact ⟨rfl, H1.out, H2.out⟩
end Go.Proofs.Ytfcmgmcidngjeaa
