/-
  cdb.find: the form of each op that the laws of this seat use.
-/
import Derived.WalkKit
import Derived.Handy
import Derived.BigQuiet
import Derived.Deep.QuietTactic
import Derived.Deep.RegionHeld3
import Derived.Deep.CutBlock
import Derived.Lib.Hide
import Derived.Test.YtfkhefoilancnaaForms
namespace Go.Proofs.Ytfkhefoilancnaa
open Go.RowKit
theorem info142 : (Try.prog.info? 142).map (·.size) = some 8 := by kernel_rfl
theorem idx_0 (w : World) : (Instr.index 165 (.agg (formsK 8).toArray) (.int .i64 0)).run Try.prog w = .ok (.agg #[.int .i64 0, .int .i64 0, .int .i64 0, .int .i64 0, .int .i64 0, .int .i64 0, .int .i64 0, .int .u8 0]) w := by kernel_rfl
theorem idx_1 (w : World) : (Instr.index 165 (.agg (formsK 8).toArray) (.int .i64 1)).run Try.prog w = .ok (.agg #[.int .i64 18, .int .i64 0, .int .i64 0, .int .i64 0, .int .i64 0, .int .i64 3, .int .i64 2, .int .u8 0]) w := by kernel_rfl
theorem idx_2 (w : World) : (Instr.index 165 (.agg (formsK 8).toArray) (.int .i64 2)).run Try.prog w = .ok (.agg #[.int .i64 37, .int .i64 0, .int .i64 0, .int .i64 0, .int .i64 0, .int .i64 0, .int .i64 0, .int .u8 0]) w := by kernel_rfl
theorem idx_3 (w : World) : (Instr.index 165 (.agg (formsK 8).toArray) (.int .i64 3)).run Try.prog w = .ok (.agg #[.int .i64 40, .int .i64 2, .int .i64 4, .int .i64 7, .int .i64 2, .int .i64 0, .int .i64 0, .int .u8 0]) w := by kernel_rfl
theorem idx_4 (w : World) : (Instr.index 165 (.agg (formsK 8).toArray) (.int .i64 4)).run Try.prog w = .ok (.agg #[.int .i64 42, .int .i64 2, .int .i64 4, .int .i64 7, .int .i64 2, .int .i64 0, .int .i64 0, .int .u8 0]) w := by kernel_rfl
theorem idx_5 (w : World) : (Instr.index 165 (.agg (formsK 8).toArray) (.int .i64 5)).run Try.prog w = .ok (.agg #[.int .i64 53, .int .i64 2, .int .i64 4, .int .i64 7, .int .i64 2, .int .i64 0, .int .i64 0, .int .u8 0]) w := by kernel_rfl
theorem idx_6 (w : World) : (Instr.index 165 (.agg (formsK 8).toArray) (.int .i64 6)).run Try.prog w = .ok (.agg #[.int .i64 136, .int .i64 2, .int .i64 8, .int .i64 10, .int .i64 4, .int .i64 0, .int .i64 0, .int .u8 0]) w := by kernel_rfl
theorem idx_7 (w : World) : (Instr.index 165 (.agg (formsK 8).toArray) (.int .i64 7)).run Try.prog w = .ok (.agg #[.int .i64 138, .int .i64 2, .int .i64 8, .int .i64 10, .int .i64 4, .int .i64 0, .int .i64 0, .int .u8 0]) w := by kernel_rfl

set_option maxRecDepth 100000 in
set_option maxHeartbeats 1000000 in
theorem find_18 (w : World) : Calls Try.prog 70 #[.int .i64 18] w fun e w' => e = .returned (.tuple #[.agg #[.int .i64 18, .int .i64 0, .int .i64 0, .int .i64 0, .int .i64 0, .int .i64 3, .int .i64 2, .int .u8 0], .bool true]) ∧ Mod [] w w' := by
  have i0 := idx_0
  have i1 := idx_1
  go_enter Try.func70, Try.ntmps70
  go_wp2_with fail
  refine (forms_any _).mono ?_
  rintro e w1 ⟨rfl, hm⟩
  go_wp2_with fail
  refine wp_loop_rounds 9 ?_
  rw [rounds_succ]
  go_wp2_with fail
  rw [rounds_succ]
  go_upto_region 5 with (fail)
  have hb0 : w1.heap[w.heap.size]? = some (.cells #[.int .i64 0, .int .i64 0, .int .i64 0, .int .i64 0, .int .i64 0, .int .i64 0, .int .i64 0, .int .u8 0] 142 (0, 0)) := hm.blk (blk_alloc _ _ _) (by simp)
  have HB0 := Lib.hid hb0
  clear hb0
  go_step
  refine wpList_load_row (o := ⟨some 14, _, _, _, _, _⟩) rfl 142 (.tmp 5) rfl (w1.heap.size + 1) ?_ 142 #[.int .i64 18, .int .i64 0, .int .i64 0, .int .i64 0, .int .i64 0, .int .i64 3, .int .i64 2, .int .u8 0] (0, 0) (.struct _) ?_ Try.underlying142 ?_ ?_ ?_
  · rfl
  · exact heap_alloc_new' _ _ _ (by simp)
  · rfl
  · exact info142
  refine wpList_storeBlk (o := ⟨none, .store 142 _ _, _, _, _, _⟩) rfl 142 (.tmp 2) (.tmp 14) rfl w.heap.size #[.int .i64 18, .int .i64 0, .int .i64 0, .int .i64 0, .int .i64 0, .int .i64 3, .int .i64 2, .int .u8 0] ?_ ?_ _ 142 ((((Mod.refl [] w1).alloc _).alloc _).blk HB0.out (by simp)) ?_ ?_ ?_ ?_
  · rfl
  · rfl
  · rfl
  · exact info142
  · kernel_rfl
  intro w3 hb3 hm3
  have HB3 := Lib.hid hb3
  have hmod := (((((Mod.refl [] w).alloc _).then0 hm).alloc _).alloc _).trans hm3 (fun t ht => .inr (by rw [List.mem_singleton.1 ht]; exact Nat.le_refl _))
  clear hb3 hm3
  go_wp2_with fail
  exact bodyPost_ret (res_cell_tmp _ _ w.heap.size 142 _ rfl HB3.out Try.underlying142 info142 rfl) rfl ⟨rfl, hmod⟩

set_option maxRecDepth 100000 in
set_option maxHeartbeats 1000000 in
theorem find_40 (w : World) : Calls Try.prog 70 #[.int .i64 40] w fun e w' => e = .returned (.tuple #[.agg #[.int .i64 40, .int .i64 2, .int .i64 4, .int .i64 7, .int .i64 2, .int .i64 0, .int .i64 0, .int .u8 0], .bool true]) ∧ Mod [] w w' := by
  have i0 := idx_0
  have i1 := idx_1
  have i2 := idx_2
  have i3 := idx_3
  go_enter Try.func70, Try.ntmps70
  go_wp2_with fail
  refine (forms_any _).mono ?_
  rintro e w1 ⟨rfl, hm⟩
  go_wp2_with fail
  refine wp_loop_rounds 9 ?_
  rw [rounds_succ]
  go_wp2_with fail
  rw [rounds_succ]
  go_wp2_with fail
  rw [rounds_succ]
  go_wp2_with fail
  rw [rounds_succ]
  go_upto_region 5 with (fail)
  have hb0 : w1.heap[w.heap.size]? = some (.cells #[.int .i64 0, .int .i64 0, .int .i64 0, .int .i64 0, .int .i64 0, .int .i64 0, .int .i64 0, .int .u8 0] 142 (0, 0)) := hm.blk (blk_alloc _ _ _) (by simp)
  have HB0 := Lib.hid hb0
  clear hb0
  go_step
  refine wpList_load_row (o := ⟨some 14, _, _, _, _, _⟩) rfl 142 (.tmp 5) rfl (w1.heap.size + 1 + 1 + 1) ?_ 142 #[.int .i64 40, .int .i64 2, .int .i64 4, .int .i64 7, .int .i64 2, .int .i64 0, .int .i64 0, .int .u8 0] (0, 0) (.struct _) ?_ Try.underlying142 ?_ ?_ ?_
  · rfl
  · exact heap_alloc_new' _ _ _ (by simp)
  · rfl
  · exact info142
  refine wpList_storeBlk (o := ⟨none, .store 142 _ _, _, _, _, _⟩) rfl 142 (.tmp 2) (.tmp 14) rfl w.heap.size #[.int .i64 40, .int .i64 2, .int .i64 4, .int .i64 7, .int .i64 2, .int .i64 0, .int .i64 0, .int .u8 0] ?_ ?_ _ 142 ((((((Mod.refl [] w1).alloc _).alloc _).alloc _).alloc _).blk HB0.out (by simp)) ?_ ?_ ?_ ?_
  · rfl
  · rfl
  · rfl
  · exact info142
  · kernel_rfl
  intro w3 hb3 hm3
  have HB3 := Lib.hid hb3
  have hmod := (((((((Mod.refl [] w).alloc _).then0 hm).alloc _).alloc _).alloc _).alloc _).trans hm3 (fun t ht => .inr (by rw [List.mem_singleton.1 ht]; exact Nat.le_refl _))
  clear hb3 hm3
  go_wp2_with fail
  exact bodyPost_ret (res_cell_tmp _ _ w.heap.size 142 _ rfl HB3.out Try.underlying142 info142 rfl) rfl ⟨rfl, hmod⟩

set_option maxRecDepth 100000 in
set_option maxHeartbeats 1000000 in
theorem find_42 (w : World) : Calls Try.prog 70 #[.int .i64 42] w fun e w' => e = .returned (.tuple #[.agg #[.int .i64 42, .int .i64 2, .int .i64 4, .int .i64 7, .int .i64 2, .int .i64 0, .int .i64 0, .int .u8 0], .bool true]) ∧ Mod [] w w' := by
  have i0 := idx_0
  have i1 := idx_1
  have i2 := idx_2
  have i3 := idx_3
  have i4 := idx_4
  go_enter Try.func70, Try.ntmps70
  go_wp2_with fail
  refine (forms_any _).mono ?_
  rintro e w1 ⟨rfl, hm⟩
  go_wp2_with fail
  refine wp_loop_rounds 9 ?_
  rw [rounds_succ]
  go_wp2_with fail
  rw [rounds_succ]
  go_wp2_with fail
  rw [rounds_succ]
  go_wp2_with fail
  rw [rounds_succ]
  go_wp2_with fail
  rw [rounds_succ]
  go_upto_region 5 with (fail)
  have hb0 : w1.heap[w.heap.size]? = some (.cells #[.int .i64 0, .int .i64 0, .int .i64 0, .int .i64 0, .int .i64 0, .int .i64 0, .int .i64 0, .int .u8 0] 142 (0, 0)) := hm.blk (blk_alloc _ _ _) (by simp)
  have HB0 := Lib.hid hb0
  clear hb0
  go_step
  refine wpList_load_row (o := ⟨some 14, _, _, _, _, _⟩) rfl 142 (.tmp 5) rfl (w1.heap.size + 1 + 1 + 1 + 1) ?_ 142 #[.int .i64 42, .int .i64 2, .int .i64 4, .int .i64 7, .int .i64 2, .int .i64 0, .int .i64 0, .int .u8 0] (0, 0) (.struct _) ?_ Try.underlying142 ?_ ?_ ?_
  · rfl
  · exact heap_alloc_new' _ _ _ (by simp)
  · rfl
  · exact info142
  refine wpList_storeBlk (o := ⟨none, .store 142 _ _, _, _, _, _⟩) rfl 142 (.tmp 2) (.tmp 14) rfl w.heap.size #[.int .i64 42, .int .i64 2, .int .i64 4, .int .i64 7, .int .i64 2, .int .i64 0, .int .i64 0, .int .u8 0] ?_ ?_ _ 142 (((((((Mod.refl [] w1).alloc _).alloc _).alloc _).alloc _).alloc _).blk HB0.out (by simp)) ?_ ?_ ?_ ?_
  · rfl
  · rfl
  · rfl
  · exact info142
  · kernel_rfl
  intro w3 hb3 hm3
  have HB3 := Lib.hid hb3
  have hmod := ((((((((Mod.refl [] w).alloc _).then0 hm).alloc _).alloc _).alloc _).alloc _).alloc _).trans hm3 (fun t ht => .inr (by rw [List.mem_singleton.1 ht]; exact Nat.le_refl _))
  clear hb3 hm3
  go_wp2_with fail
  exact bodyPost_ret (res_cell_tmp _ _ w.heap.size 142 _ rfl HB3.out Try.underlying142 info142 rfl) rfl ⟨rfl, hmod⟩

set_option maxRecDepth 100000 in
set_option maxHeartbeats 1000000 in
theorem find_136 (w : World) : Calls Try.prog 70 #[.int .i64 136] w fun e w' => e = .returned (.tuple #[.agg #[.int .i64 136, .int .i64 2, .int .i64 8, .int .i64 10, .int .i64 4, .int .i64 0, .int .i64 0, .int .u8 0], .bool true]) ∧ Mod [] w w' := by
  have i0 := idx_0
  have i1 := idx_1
  have i2 := idx_2
  have i3 := idx_3
  have i4 := idx_4
  have i5 := idx_5
  have i6 := idx_6
  go_enter Try.func70, Try.ntmps70
  go_wp2_with fail
  refine (forms_any _).mono ?_
  rintro e w1 ⟨rfl, hm⟩
  go_wp2_with fail
  refine wp_loop_rounds 9 ?_
  rw [rounds_succ]
  go_wp2_with fail
  rw [rounds_succ]
  go_wp2_with fail
  rw [rounds_succ]
  go_wp2_with fail
  rw [rounds_succ]
  go_wp2_with fail
  rw [rounds_succ]
  go_wp2_with fail
  rw [rounds_succ]
  go_wp2_with fail
  rw [rounds_succ]
  go_upto_region 5 with (fail)
  have hb0 : w1.heap[w.heap.size]? = some (.cells #[.int .i64 0, .int .i64 0, .int .i64 0, .int .i64 0, .int .i64 0, .int .i64 0, .int .i64 0, .int .u8 0] 142 (0, 0)) := hm.blk (blk_alloc _ _ _) (by simp)
  have HB0 := Lib.hid hb0
  clear hb0
  go_step
  refine wpList_load_row (o := ⟨some 14, _, _, _, _, _⟩) rfl 142 (.tmp 5) rfl (w1.heap.size + 1 + 1 + 1 + 1 + 1 + 1) ?_ 142 #[.int .i64 136, .int .i64 2, .int .i64 8, .int .i64 10, .int .i64 4, .int .i64 0, .int .i64 0, .int .u8 0] (0, 0) (.struct _) ?_ Try.underlying142 ?_ ?_ ?_
  · rfl
  · exact heap_alloc_new' _ _ _ (by simp)
  · rfl
  · exact info142
  refine wpList_storeBlk (o := ⟨none, .store 142 _ _, _, _, _, _⟩) rfl 142 (.tmp 2) (.tmp 14) rfl w.heap.size #[.int .i64 136, .int .i64 2, .int .i64 8, .int .i64 10, .int .i64 4, .int .i64 0, .int .i64 0, .int .u8 0] ?_ ?_ _ 142 (((((((((Mod.refl [] w1).alloc _).alloc _).alloc _).alloc _).alloc _).alloc _).alloc _).blk HB0.out (by simp)) ?_ ?_ ?_ ?_
  · rfl
  · rfl
  · rfl
  · exact info142
  · kernel_rfl
  intro w3 hb3 hm3
  have HB3 := Lib.hid hb3
  have hmod := ((((((((((Mod.refl [] w).alloc _).then0 hm).alloc _).alloc _).alloc _).alloc _).alloc _).alloc _).alloc _).trans hm3 (fun t ht => .inr (by rw [List.mem_singleton.1 ht]; exact Nat.le_refl _))
  clear hb3 hm3
  go_wp2_with fail
  exact bodyPost_ret (res_cell_tmp _ _ w.heap.size 142 _ rfl HB3.out Try.underlying142 info142 rfl) rfl ⟨rfl, hmod⟩

set_option maxRecDepth 100000 in
set_option maxHeartbeats 1000000 in
theorem find_138 (w : World) : Calls Try.prog 70 #[.int .i64 138] w fun e w' => e = .returned (.tuple #[.agg #[.int .i64 138, .int .i64 2, .int .i64 8, .int .i64 10, .int .i64 4, .int .i64 0, .int .i64 0, .int .u8 0], .bool true]) ∧ Mod [] w w' := by
  have i0 := idx_0
  have i1 := idx_1
  have i2 := idx_2
  have i3 := idx_3
  have i4 := idx_4
  have i5 := idx_5
  have i6 := idx_6
  have i7 := idx_7
  go_enter Try.func70, Try.ntmps70
  go_wp2_with fail
  refine (forms_any _).mono ?_
  rintro e w1 ⟨rfl, hm⟩
  go_wp2_with fail
  refine wp_loop_rounds 9 ?_
  rw [rounds_succ]
  go_wp2_with fail
  rw [rounds_succ]
  go_wp2_with fail
  rw [rounds_succ]
  go_wp2_with fail
  rw [rounds_succ]
  go_wp2_with fail
  rw [rounds_succ]
  go_wp2_with fail
  rw [rounds_succ]
  go_wp2_with fail
  rw [rounds_succ]
  go_wp2_with fail
  rw [rounds_succ]
  go_upto_region 5 with (fail)
  have hb0 : w1.heap[w.heap.size]? = some (.cells #[.int .i64 0, .int .i64 0, .int .i64 0, .int .i64 0, .int .i64 0, .int .i64 0, .int .i64 0, .int .u8 0] 142 (0, 0)) := hm.blk (blk_alloc _ _ _) (by simp)
  have HB0 := Lib.hid hb0
  clear hb0
  go_step
  refine wpList_load_row (o := ⟨some 14, _, _, _, _, _⟩) rfl 142 (.tmp 5) rfl (w1.heap.size + 1 + 1 + 1 + 1 + 1 + 1 + 1) ?_ 142 #[.int .i64 138, .int .i64 2, .int .i64 8, .int .i64 10, .int .i64 4, .int .i64 0, .int .i64 0, .int .u8 0] (0, 0) (.struct _) ?_ Try.underlying142 ?_ ?_ ?_
  · rfl
  · exact heap_alloc_new' _ _ _ (by simp)
  · rfl
  · exact info142
  refine wpList_storeBlk (o := ⟨none, .store 142 _ _, _, _, _, _⟩) rfl 142 (.tmp 2) (.tmp 14) rfl w.heap.size #[.int .i64 138, .int .i64 2, .int .i64 8, .int .i64 10, .int .i64 4, .int .i64 0, .int .i64 0, .int .u8 0] ?_ ?_ _ 142 ((((((((((Mod.refl [] w1).alloc _).alloc _).alloc _).alloc _).alloc _).alloc _).alloc _).alloc _).blk HB0.out (by simp)) ?_ ?_ ?_ ?_
  · rfl
  · rfl
  · rfl
  · exact info142
  · kernel_rfl
  intro w3 hb3 hm3
  have HB3 := Lib.hid hb3
  have hmod := (((((((((((Mod.refl [] w).alloc _).then0 hm).alloc _).alloc _).alloc _).alloc _).alloc _).alloc _).alloc _).alloc _).trans hm3 (fun t ht => .inr (by rw [List.mem_singleton.1 ht]; exact Nat.le_refl _))
  clear hb3 hm3
  go_wp2_with fail
  exact bodyPost_ret (res_cell_tmp _ _ w.heap.size 142 _ rfl HB3.out Try.underlying142 info142 rfl) rfl ⟨rfl, hmod⟩

theorem most_2 (a : Int) (w : World) : Calls Try.prog 71 #[.agg #[.int .i64 a, .int .i64 2]] w fun e w' => e = .returned (.int .u64 65535) ∧ Mod [] w w' := by
  go_enter Try.func71, Try.ntmps71
  go_wp2
  go_ret
  exact ⟨rfl, (Mod.refl _ _).alloc _⟩
theorem most_0 (a : Int) (w : World) : Calls Try.prog 71 #[.agg #[.int .i64 a, .int .i64 0]] w fun e w' => e = .returned (.int .u64 0) ∧ Mod [] w w' := by
  go_enter Try.func71, Try.ntmps71
  go_wp2
  go_ret
  exact ⟨rfl, (Mod.refl _ _).alloc _⟩
theorem most_4 (a : Int) (w : World) : Calls Try.prog 71 #[.agg #[.int .i64 a, .int .i64 4]] w fun e w' => e = .returned (.int .u64 2147483647) ∧ Mod [] w w' := by
  go_enter Try.func71, Try.ntmps71
  go_wp2
  go_ret
  exact ⟨rfl, (Mod.refl _ _).alloc _⟩
theorem most_8 (a : Int) (w : World) : Calls Try.prog 71 #[.agg #[.int .i64 a, .int .i64 8]] w fun e w' => e = .returned (.int .u64 18446744073709551615) ∧ Mod [] w w' := by
  go_enter Try.func71, Try.ntmps71
  go_wp2
  go_ret
  exact ⟨rfl, (Mod.refl _ _).alloc _⟩
end Go.Proofs.Ytfkhefoilancnaa
