/-
  drr.New with three shares: a new scheduler; nothing waits.
-/
import Derived.WalkKit
import Derived.Handy
import Derived.BigQuiet
import Derived.Deep.QuietTactic
import Derived.Deep.RegionHeld3
import Derived.Lib.Hide
import Derived.Test.YtfkhefoilancnaaCat
import Derived.Test.YtfkhefoilancnaaLaws
import Derived.Test.YtfkhefoilancnaaProg
namespace Go.Proofs.Ytfkhefoilancnaa
open Go.RowKit
set_option maxHeartbeats 1000000 in
theorem bad_k (n : Int) (h : 1 ≤ n ∧ n ≤ 100000) (w : World) : Calls Try.prog 53 #[.int .i64 n] w fun e w' => e = .returned (.bool false) ∧ w' = w := by
  have k1 : ¬ n < 1 := by omega
  have k2 : ¬ 100000 < n := by omega
  go_enter Try.func53, Try.ntmps53
  go_wp2
  go_ret
  exact ⟨rfl, rfl⟩
set_option maxHeartbeats 4000000 in
theorem indexFunc_3 (a b c : Int) (ha : 1 ≤ a ∧ a ≤ 100000) (hb : 1 ≤ b ∧ b ≤ 100000) (hc : 1 ≤ c ∧ c ≤ 100000) (g : Nat) (w : World) (h : w.heap[g]? = some (.cells #[.int .i64 a, .int .i64 b, .int .i64 c] 3 (0, 0))) :
    Calls Try.prog 74 #[.slice (some ⟨g, 0, none⟩) 3 3, .func (.func 53) #[] #[]] w fun e w' => e = .returned (.int .i64 (-1)) ∧ w' = w := by
  have c0 : w.cell? ⟨g, 0, none⟩ = some (.int .i64 a) := blk_cell h rfl
  have c1 : w.cell? ⟨g, 1, none⟩ = some (.int .i64 b) := blk_cell h rfl
  have c2 : w.cell? ⟨g, 2, none⟩ = some (.int .i64 c) := blk_cell h rfl
  go_enter Try.func74, Try.ntmps74
  go_wp2_with fail
  refine wp_loop_rounds 4 ?_
  rw [rounds_succ]
  go_wp2_with fail
  refine (bad_k a ha _).mono ?_
  rintro e w1 ⟨rfl, rfl⟩
  go_wp2_with fail
  rw [rounds_succ]
  go_wp2_with fail
  refine (bad_k b hb _).mono ?_
  rintro e w1 ⟨rfl, rfl⟩
  go_wp2_with fail
  rw [rounds_succ]
  go_wp2_with fail
  refine (bad_k c hc _).mono ?_
  rintro e w1 ⟨rfl, rfl⟩
  go_wp2_with fail
  rw [rounds_succ]
  go_wp2
  go_ret
  exact ⟨rfl, rfl⟩
set_option maxHeartbeats 1000000 in
theorem containsFunc_3 (a b c : Int) (ha : 1 ≤ a ∧ a ≤ 100000) (hb : 1 ≤ b ∧ b ≤ 100000) (hc : 1 ≤ c ∧ c ≤ 100000) (g : Nat) (w : World) (h : w.heap[g]? = some (.cells #[.int .i64 a, .int .i64 b, .int .i64 c] 3 (0, 0))) :
    Calls Try.prog 52 #[.slice (some ⟨g, 0, none⟩) 3 3, .func (.func 53) #[] #[]] w fun e w' => e = .returned (.bool false) ∧ w' = w := by
  go_enter Try.func52, Try.ntmps52
  go_wp2_with fail
  refine (indexFunc_3 a b c ha hb hc g _ h).mono ?_
  rintro e w1 ⟨rfl, rfl⟩
  go_wp2
  go_ret
  exact ⟨rfl, rfl⟩
theorem info129 : (Try.prog.info? 129).map (fun i => (i.zero, i.size, i.bytes)) = some (some (.agg #[.int .i64 0, .int .i64 0, .slice none 0 0]), 3, 40) := by kernel_rfl
theorem make_flows (w : World) : (Instr.makeSlice 124 (.int .i64 3) (.int .i64 3)).run Try.prog w = .ok (.slice (some ⟨w.heap.size, 0, none⟩) 3 3) (w.alloc (.cells #[.int .i64 0, .int .i64 0, .slice none 0 0, .int .i64 0, .int .i64 0, .slice none 0 0, .int .i64 0, .int .i64 0, .slice none 0 0] 129)) := by
  obtain ⟨i, hi', hz0, hz1, hz2⟩ := info_parts info129
  have h := run_make (P := Try.prog) w 124 129 i _ Try.underlying124 hi' hz0 .i64 .i64 3 3 (by omega) (Int.le_refl _) (by rw [hz2]; omega) (by omega)
  have hc : madeCells (Value.agg #[.int .i64 0, .int .i64 0, .slice none 0 0]).cells 9 = #[.int .i64 0, .int .i64 0, .slice none 0 0, .int .i64 0, .int .i64 0, .slice none 0 0, .int .i64 0, .int .i64 0, .slice none 0 0] := by kernel_rfl
  rw [h, hz1, ← hc]
  rfl
set_option maxRecDepth 100000 in
set_option maxHeartbeats 4000000 in
theorem drrNew_3 (a b c : Int) (ha : 1 ≤ a ∧ a ≤ 100000) (hb : 1 ≤ b ∧ b ≤ 100000) (hc : 1 ≤ c ∧ c ≤ 100000) (g : Nat) (w : World) (h : w.heap[g]? = some (.cells #[.int .i64 a, .int .i64 b, .int .i64 c] 3 (0, 0))) :
    Calls Try.prog 31 #[.slice (some ⟨g, 0, none⟩) 3 3] w fun e w' => e = .returned (.tuple #[.pointer (some ⟨w.heap.size + 1, 0, none⟩), .int .i64 0]) ∧ Mod [] w w' ∧
      w'.heap[w.heap.size + 1]? = some (.cells #[.slice (some ⟨w.heap.size, 0, none⟩) 3 3, .slice none 0 0, .bool false, .int .i64 0] 126 (0, 0)) ∧
      w'.heap[w.heap.size]? = some (.cells #[.int .i64 a, .int .i64 0, .slice none 0 0, .int .i64 b, .int .i64 0, .slice none 0 0, .int .i64 c, .int .i64 0, .slice none 0 0] 129 (0, 0)) := by
  have hmk := make_flows
  have c0 : w.cell? ⟨g, 0, none⟩ = some (.int .i64 a) := blk_cell h rfl
  have c1 : w.cell? ⟨g, 1, none⟩ = some (.int .i64 b) := blk_cell h rfl
  have c2 : w.cell? ⟨g, 2, none⟩ = some (.int .i64 c) := blk_cell h rfl
  have hg := blk_lt h
  go_enter Try.func31, Try.ntmps31
  go_wp2_with fail
  refine (containsFunc_3 a b c ha hb hc g _ h).mono ?_
  rintro e w1 ⟨rfl, rfl⟩
  go_wp2_with fail
  refine wp_loop_rounds 4 ?_
  rw [rounds_succ]
  go_wp2_with fail
  rw [rounds_succ]
  go_wp2_with fail
  rw [rounds_succ]
  go_wp2_with fail
  rw [rounds_succ]
  go_wp2
  go_ret2
  exact ⟨rfl, ((Mod.refl _ _).alloc _).alloc _, heap_alloc_new' _ _ _ (by simp), ((Mod.refl [] _).alloc _).blk (blk_alloc _ _ _) (by simp)⟩
end Go.Proofs.Ytfkhefoilancnaa
