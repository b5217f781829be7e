/-
  cdb.forms: the array of all ops' forms, as it is handed back.
-/
import Derived.WalkKit
import Derived.Handy
import Derived.BigQuiet
import Derived.Deep.QuietTactic
import Derived.Deep.RegionHeld3
import Derived.Deep.CutBlock
import Derived.Lib.Hide
import Derived.Test.YtfkhefoilancnaaLaws
import Derived.Test.YtfkhefoilancnaaProg
namespace Go.Proofs.Ytfkhefoilancnaa
open Go.RowKit
/-- The forms of all ops, behind k rounds. -/
def fm (op a b c d e f : Int) (one : Int) : List Value := [.int .i64 op, .int .i64 a, .int .i64 b, .int .i64 c, .int .i64 d, .int .i64 e, .int .i64 f, .int .u8 one]
def formsK (k : Nat) : List Value :=
  fm 0 0 0 0 0 0 0 0 ++ fm 18 0 0 0 0 3 2 0 ++ fm 37 0 0 0 0 0 0 0 ++ fm (if 3 < k then 40 else 0) 2 4 7 2 0 0 0 ++ fm (if 4 < k then 42 else 0) 2 4 7 2 0 0 0 ++ fm (if 5 < k then 53 else 0) 2 4 7 2 0 0 0 ++
    fm (if 6 < k then 136 else 0) 2 8 10 4 0 0 0 ++ fm (if 7 < k then 138 else 0) 2 8 10 4 0 0 0 ++ fm 158 0 0 0 0 10 4 16

theorem info165 : (Try.prog.info? 165).map (·.size) = some 72 := by kernel_rfl
set_option maxRecDepth 100000 in
set_option maxHeartbeats 4000000 in
theorem forms_any (w : World) : Calls Try.prog 83 #[] w fun e w' => e = .returned (.agg (formsK 8).toArray) ∧ Mod [] w w' := by
  have i0 : ∀ w, (Instr.index 178 (.agg #[.int .i64 0, .int .i64 0, .int .i64 0, .int .i64 40, .int .i64 42, .int .i64 53, .int .i64 136, .int .i64 138]) (.int .i64 0)).run Try.prog w = .ok (.int .i64 0) w := fun _ => by kernel_rfl
  have i1 : ∀ w, (Instr.index 178 (.agg #[.int .i64 0, .int .i64 0, .int .i64 0, .int .i64 40, .int .i64 42, .int .i64 53, .int .i64 136, .int .i64 138]) (.int .i64 1)).run Try.prog w = .ok (.int .i64 0) w := fun _ => by kernel_rfl
  have i2 : ∀ w, (Instr.index 178 (.agg #[.int .i64 0, .int .i64 0, .int .i64 0, .int .i64 40, .int .i64 42, .int .i64 53, .int .i64 136, .int .i64 138]) (.int .i64 2)).run Try.prog w = .ok (.int .i64 0) w := fun _ => by kernel_rfl
  have i3 : ∀ w, (Instr.index 178 (.agg #[.int .i64 0, .int .i64 0, .int .i64 0, .int .i64 40, .int .i64 42, .int .i64 53, .int .i64 136, .int .i64 138]) (.int .i64 3)).run Try.prog w = .ok (.int .i64 40) w := fun _ => by kernel_rfl
  have i4 : ∀ w, (Instr.index 178 (.agg #[.int .i64 0, .int .i64 0, .int .i64 0, .int .i64 40, .int .i64 42, .int .i64 53, .int .i64 136, .int .i64 138]) (.int .i64 4)).run Try.prog w = .ok (.int .i64 42) w := fun _ => by kernel_rfl
  have i5 : ∀ w, (Instr.index 178 (.agg #[.int .i64 0, .int .i64 0, .int .i64 0, .int .i64 40, .int .i64 42, .int .i64 53, .int .i64 136, .int .i64 138]) (.int .i64 5)).run Try.prog w = .ok (.int .i64 53) w := fun _ => by kernel_rfl
  have i6 : ∀ w, (Instr.index 178 (.agg #[.int .i64 0, .int .i64 0, .int .i64 0, .int .i64 40, .int .i64 42, .int .i64 53, .int .i64 136, .int .i64 138]) (.int .i64 6)).run Try.prog w = .ok (.int .i64 136) w := fun _ => by kernel_rfl
  have i7 : ∀ w, (Instr.index 178 (.agg #[.int .i64 0, .int .i64 0, .int .i64 0, .int .i64 40, .int .i64 42, .int .i64 53, .int .i64 136, .int .i64 138]) (.int .i64 7)).run Try.prog w = .ok (.int .i64 138) w := fun _ => by kernel_rfl
  go_enter Try.func83, Try.ntmps83
  go_wp2_with (first
    | (with_reducible refine wpList_run (o := ⟨some 23, _, _, _, _, _⟩) rfl (.agg (formsK 0).toArray) (by kernel_rfl) ?_)
    | (with_reducible refine wpList_storeBlk (a := ⟨_, _⟩) rfl 165 (.tmp 3) (.tmp 23) rfl (w.heap.size + 1 + 1 + 1) (formsK 0).toArray rfl rfl Try.zeroCells165 165 ?_ ?_ ?_ ?_ ?_))
  · rw [heap_alloc_new' _ _ _ (by simp)]
  · rfl
  · exact info165
  · kernel_rfl
  · intro w1 hb1 hm1
    have hz : w1.heap[w.heap.size]? = some (.cells Try.zeroCells165 165 (0, 0)) := hm1.blk ((((Mod.refl [] (w.alloc (.cells Try.zeroCells165 165))).alloc _).alloc _).alloc _ |>.blk (blk_alloc _ _ _) (by simp)) (by simp; omega)
    have hw1 : Mod [] w w1 := ((((((Mod.refl [] w).alloc _).alloc _).alloc _).alloc _)).trans hm1 (fun t ht => .inr (by rw [List.mem_singleton.1 ht]; omega))
    have HZ := Lib.hid hz
    have HB1 := Lib.hid hb1
    clear hz hb1 hm1
    go_wp2_with fail
    go_loopw [25] (fun i wr => ∃ k : Nat, i = .int .i64 k ∧ k ≤ 8 ∧ wr.heap[w.heap.size + 1 + 1 + 1]? = some (.cells (formsK k).toArray 165 (0, 0)) ∧ wr.heap[w.heap.size]? = some (.cells Try.zeroCells165 165 (0, 0)) ∧ Mod [] w wr) (fun i _ => 8 - (intOf i).toNat)
    case atStart => exact ⟨0, rfl, by omega, HB1.out, HZ.out, hw1⟩
    case round =>
      obtain ⟨k, rfl, hk, hb, hz, hmod⟩ := hrel
      have HB := Lib.hid hb
      have HZ' := Lib.hid hz
      clear hb hz
      by_cases hlt : k < 8
      · have hcases : k = 0 ∨ k = 1 ∨ k = 2 ∨ k = 3 ∨ k = 4 ∨ k = 5 ∨ k = 6 ∨ k = 7 := by omega
        have fz : ∀ i, wr.frozen? ⟨w.heap.size + 1 + 1 + 1, i, none⟩ = false := fun i => blk_frozen HB.out i
        clear hk hlt
        rcases hcases with rfl | rfl | rfl | rfl | rfl | rfl | rfl | rfl
        · go_wp2
          exact ⟨⟨1, rfl, by omega, HB.out, HZ'.out, hmod⟩, by simp [intOf]⟩
        · go_wp2
          exact ⟨⟨2, rfl, by omega, HB.out, HZ'.out, hmod⟩, by simp [intOf]⟩
        · go_wp2
          exact ⟨⟨3, rfl, by omega, HB.out, HZ'.out, hmod⟩, by simp [intOf]⟩
        · have cc : wr.cell? ⟨w.heap.size + 1 + 1 + 1, 24, none⟩ = some (.int .i64 0) := blk_cell HB.out rfl
          have hset := fun v => heap_setCell_same wr (w.heap.size + 1 + 1 + 1) 24 _ 165 v HB.out
          have Hset := Lib.hid hset
          clear hset
          go_wp2
          refine ⟨⟨4, rfl, by omega, (Hset.out _).trans rfl, (heap_setCell_other _ _ _ _ (by simp; omega)).trans HZ'.out, hmod.setCell (.inr (by simp; omega)) _⟩, by simp [intOf]⟩
        · have cc : wr.cell? ⟨w.heap.size + 1 + 1 + 1, 32, none⟩ = some (.int .i64 0) := blk_cell HB.out rfl
          have hset := fun v => heap_setCell_same wr (w.heap.size + 1 + 1 + 1) 32 _ 165 v HB.out
          have Hset := Lib.hid hset
          clear hset
          go_wp2
          refine ⟨⟨5, rfl, by omega, (Hset.out _).trans rfl, (heap_setCell_other _ _ _ _ (by simp; omega)).trans HZ'.out, hmod.setCell (.inr (by simp; omega)) _⟩, by simp [intOf]⟩
        · have cc : wr.cell? ⟨w.heap.size + 1 + 1 + 1, 40, none⟩ = some (.int .i64 0) := blk_cell HB.out rfl
          have hset := fun v => heap_setCell_same wr (w.heap.size + 1 + 1 + 1) 40 _ 165 v HB.out
          have Hset := Lib.hid hset
          clear hset
          go_wp2
          refine ⟨⟨6, rfl, by omega, (Hset.out _).trans rfl, (heap_setCell_other _ _ _ _ (by simp; omega)).trans HZ'.out, hmod.setCell (.inr (by simp; omega)) _⟩, by simp [intOf]⟩
        · have cc : wr.cell? ⟨w.heap.size + 1 + 1 + 1, 48, none⟩ = some (.int .i64 0) := blk_cell HB.out rfl
          have hset := fun v => heap_setCell_same wr (w.heap.size + 1 + 1 + 1) 48 _ 165 v HB.out
          have Hset := Lib.hid hset
          clear hset
          go_wp2
          refine ⟨⟨7, rfl, by omega, (Hset.out _).trans rfl, (heap_setCell_other _ _ _ _ (by simp; omega)).trans HZ'.out, hmod.setCell (.inr (by simp; omega)) _⟩, by simp [intOf]⟩
        · have cc : wr.cell? ⟨w.heap.size + 1 + 1 + 1, 56, none⟩ = some (.int .i64 0) := blk_cell HB.out rfl
          have hset := fun v => heap_setCell_same wr (w.heap.size + 1 + 1 + 1) 56 _ 165 v HB.out
          have Hset := Lib.hid hset
          clear hset
          go_wp2
          refine ⟨⟨8, rfl, by omega, (Hset.out _).trans rfl, (heap_setCell_other _ _ _ _ (by simp; omega)).trans HZ'.out, hmod.setCell (.inr (by simp; omega)) _⟩, by simp [intOf]⟩
      · obtain rfl : k = 8 := by omega
        clear hlt hk
        go_upto_region 10 with (fail)
        go_step
        refine wpList_load_row (o := ⟨some 36, _, _, _, _, _⟩) rfl 165 (.tmp 3) rfl (w.heap.size + 1 + 1 + 1) ?_ 165 (formsK 8).toArray (0, 0) (.array 9 142) HB.out Try.underlying165 ?_ ?_ ?_
        · rfl
        · rfl
        · exact info165
        refine wpList_storeBlk (o := ⟨none, .store 165 _ _, _, _, _, _⟩) rfl 165 (.tmp 0) (.tmp 36) rfl w.heap.size (formsK 8).toArray ?_ ?_ Try.zeroCells165 165 HZ'.out ?_ ?_ ?_ ?_
        · rfl
        · rfl
        · rfl
        · exact info165
        · kernel_rfl
        intro w3 hb3 hm3
        have HB3 := Lib.hid hb3
        clear hb3
        go_wp2
        refine bodyPost_ret (results_cell_row rfl _ _ w.heap.size 165 (formsK 8).toArray (0, 0) (.array 9 142) rfl HB3.out Try.underlying165 rfl info165) rfl ⟨rfl, hmod.trans hm3 (fun t ht => .inr (by rw [List.mem_singleton.1 ht]; exact Nat.le_refl _))⟩
end Go.Proofs.Ytfkhefoilancnaa
