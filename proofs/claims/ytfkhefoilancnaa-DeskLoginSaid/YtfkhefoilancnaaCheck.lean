/-
  cdb.Check of the commands that the laws of this seat ask: each may be.
-/
import Derived.WalkKit
import Derived.Handy
import Derived.BigQuiet
import Derived.Deep.QuietTactic
import Derived.Deep.RegionHeld3
import Derived.Deep.CutBlock
import Derived.Lib.Hide
import Derived.Test.YtfkhefoilancnaaFind
namespace Go.Proofs.Ytfkhefoilancnaa
open Go.RowKit
theorem keep9 {W w w' : World} {p q : Nat} {v1 v2 v3 u3 u4 u5 u6 : Value} (hpq : p < q)
    (h : Mod [] W w ∧ q < w.heap.size ∧ w.cell? ⟨p, 1, none⟩ = some v1 ∧ w.cell? ⟨p, 2, none⟩ = some v2 ∧ w.cell? ⟨p, 3, none⟩ = some v3 ∧ w.cell? ⟨q, 3, none⟩ = some u3 ∧ w.cell? ⟨q, 4, none⟩ = some u4 ∧ w.cell? ⟨q, 5, none⟩ = some u5 ∧ w.cell? ⟨q, 6, none⟩ = some u6)
    (hm : Mod [] w w') : Mod [] W w' ∧ q < w'.heap.size ∧ w'.cell? ⟨p, 1, none⟩ = some v1 ∧ w'.cell? ⟨p, 2, none⟩ = some v2 ∧ w'.cell? ⟨p, 3, none⟩ = some v3 ∧ w'.cell? ⟨q, 3, none⟩ = some u3 ∧ w'.cell? ⟨q, 4, none⟩ = some u4 ∧ w'.cell? ⟨q, 5, none⟩ = some u5 ∧ w'.cell? ⟨q, 6, none⟩ = some u6 := by
  obtain ⟨h0, hz, h1, h2, h3, h4, h5, h6, h7⟩ := h
  have hp : p < w.heap.size := by omega
  have hc := hm.cells.1
  have := hm.size
  exact ⟨h0.then0 hm, by omega, (hc _ _ hp).trans h1, (hc _ _ hp).trans h2, (hc _ _ hp).trans h3, (hc _ _ hz).trans h4, (hc _ _ hz).trans h5, (hc _ _ hz).trans h6, (hc _ _ hz).trans h7⟩
set_option maxRecDepth 100000 in
set_option maxHeartbeats 4000000 in
theorem check_18 (r : Nat) (hr : r ≤ 65535) (w : World) : Calls Try.prog 44 #[.agg #[.int .i64 18, .int .u64 0, .int .i64 0, .int .i64 r]] w fun e w' => e = .returned (.int .i64 0) ∧ Mod [] w w' := by
  have k2 : ¬ ((r : Int) < 0) := by omega
  have k3 : ¬ ((65535 : Int) < (r : Int)) := by omega
  have k4 : IntKind.u64.wrap (r : Int) = r := IntWalk.u64_in _ (by omega)
  have k5 : IntKind.u64.wrap 0 = 0 := IntWalk.u64_in _ (by omega)
  go_enter Try.func44, Try.ntmps44
  go_wp2_with fail
  refine (find_18 _).mono ?_
  rintro e w1 ⟨rfl, hm⟩
  obtain ⟨hc, hf⟩ := hm.cells
  have hz : w.heap.size < w1.heap.size := by have := hm.size; simp at this; omega
  go_wp2_with fail
  refine (most_0 _ _).mono ?_
  rintro e w2 ⟨rfl, hm2⟩
  obtain ⟨hc2, hf2⟩ := hm2.cells
  have hz2 : w1.heap.size < w2.heap.size := by have := hm2.size; simp at this; omega
  have b1 : w2.heap[w.heap.size]? = some (.cells #[.int .i64 18, .int .u64 0, .int .i64 0, .int .i64 r] 40 (0, 0)) := hm2.blk (((Mod.refl [] w1).alloc _).blk (hm.blk (blk_alloc _ _ _) (by simp)) (by simp)) (by simp)
  have b2 : w2.heap[w1.heap.size]? = some (.cells #[.int .i64 18, .int .i64 0, .int .i64 0, .int .i64 0, .int .i64 0, .int .i64 3, .int .i64 2, .int .u8 0] 142 (0, 0)) := hm2.blk (blk_alloc _ _ _) (by simp)
  have c1 : w2.cell? ⟨w.heap.size, 1, none⟩ = some (.int .u64 0) := blk_cell b1 rfl
  have c2 : w2.cell? ⟨w.heap.size, 2, none⟩ = some (.int .i64 0) := blk_cell b1 rfl
  have c3 : w2.cell? ⟨w.heap.size, 3, none⟩ = some (.int .i64 r) := blk_cell b1 rfl
  have d3 : w2.cell? ⟨w1.heap.size, 3, none⟩ = some (.int .i64 0) := blk_cell b2 rfl
  have d4 : w2.cell? ⟨w1.heap.size, 4, none⟩ = some (.int .i64 0) := blk_cell b2 rfl
  have d5 : w2.cell? ⟨w1.heap.size, 5, none⟩ = some (.int .i64 3) := blk_cell b2 rfl
  have d6 : w2.cell? ⟨w1.heap.size, 6, none⟩ = some (.int .i64 2) := blk_cell b2 rfl
  have hmod := ((((Mod.refl [] w).alloc _).then0 hm).alloc _).then0 hm2
  have d2 : w2.cell? ⟨w1.heap.size, 2, none⟩ = some (.int .i64 0) := blk_cell b2 rfl
  clear b1 b2 hc hf hc2 hf2 hm hm2
  go_wp2_with fail
  have g2 : decide ((r : Int) < 0) = false := by simp
  have g3 : decide ((65535 : Int) < (r : Int)) = false := by simp; omega
  go_region_held3 (fun w' => Mod [] w2 w' ∧ w1.heap.size < w'.heap.size ∧ w'.cell? ⟨w.heap.size, 1, none⟩ = some (.int .u64 0) ∧ w'.cell? ⟨w.heap.size, 2, none⟩ = some (.int .i64 0) ∧ w'.cell? ⟨w.heap.size, 3, none⟩ = some (.int .i64 r) ∧
      w'.cell? ⟨w1.heap.size, 3, none⟩ = some (.int .i64 0) ∧ w'.cell? ⟨w1.heap.size, 4, none⟩ = some (.int .i64 0) ∧ w'.cell? ⟨w1.heap.size, 5, none⟩ = some (.int .i64 3) ∧ w'.cell? ⟨w1.heap.size, 6, none⟩ = some (.int .i64 2))
    (first | exact ⟨(Mod.refl _ _).drew, hz2, c1, c2, c3, d3, d4, d5, d6⟩ | exact keep9 hz (by assumption) (by assumption))
    (first | (go_at_call_of 71 (Value.agg #[Value.int .i64 0, Value.int .i64 0]); refine (most_0 _ _).mono ?_; rintro e w' ⟨rfl, hm⟩) | (go_at_call_of 71 (Value.agg #[Value.int .i64 3, Value.int .i64 2]); refine (most_2 _ _).mono ?_; rintro e w' ⟨rfl, hm⟩))
  go_wp2
  go_ret
  exact ⟨rfl, hmod.then0 (And.left (by assumption))⟩
set_option maxRecDepth 100000 in
set_option maxHeartbeats 4000000 in
theorem check_40 (a n : Nat) (ha : a ≤ 4294967295) (hn : n ≤ 65535) (w : World) : Calls Try.prog 44 #[.agg #[.int .i64 40, .int .u64 a, .int .i64 n, .int .i64 0]] w fun e w' => e = .returned (.int .i64 0) ∧ Mod [] w w' := by
  have k1 : ¬ ((4294967295 : Int) < (a : Int)) := by omega
  have k2 : ¬ ((n : Int) < 0) := by omega
  have k3 : ¬ ((65535 : Int) < (n : Int)) := by omega
  have k4 : IntKind.u64.wrap (n : Int) = n := IntWalk.u64_in _ (by omega)
  have k5 : IntKind.u64.wrap 0 = 0 := IntWalk.u64_in _ (by omega)
  go_enter Try.func44, Try.ntmps44
  go_wp2_with fail
  refine (find_40 _).mono ?_
  rintro e w1 ⟨rfl, hm⟩
  obtain ⟨hc, hf⟩ := hm.cells
  have hz : w.heap.size < w1.heap.size := by have := hm.size; simp at this; omega
  go_wp2_with fail
  refine (most_4 _ _).mono ?_
  rintro e w2 ⟨rfl, hm2⟩
  obtain ⟨hc2, hf2⟩ := hm2.cells
  have hz2 : w1.heap.size < w2.heap.size := by have := hm2.size; simp at this; omega
  have b1 : w2.heap[w.heap.size]? = some (.cells #[.int .i64 40, .int .u64 a, .int .i64 n, .int .i64 0] 40 (0, 0)) := hm2.blk (((Mod.refl [] w1).alloc _).blk (hm.blk (blk_alloc _ _ _) (by simp)) (by simp)) (by simp)
  have b2 : w2.heap[w1.heap.size]? = some (.cells #[.int .i64 40, .int .i64 2, .int .i64 4, .int .i64 7, .int .i64 2, .int .i64 0, .int .i64 0, .int .u8 0] 142 (0, 0)) := hm2.blk (blk_alloc _ _ _) (by simp)
  have c1 : w2.cell? ⟨w.heap.size, 1, none⟩ = some (.int .u64 a) := blk_cell b1 rfl
  have c2 : w2.cell? ⟨w.heap.size, 2, none⟩ = some (.int .i64 n) := blk_cell b1 rfl
  have c3 : w2.cell? ⟨w.heap.size, 3, none⟩ = some (.int .i64 0) := blk_cell b1 rfl
  have d3 : w2.cell? ⟨w1.heap.size, 3, none⟩ = some (.int .i64 7) := blk_cell b2 rfl
  have d4 : w2.cell? ⟨w1.heap.size, 4, none⟩ = some (.int .i64 2) := blk_cell b2 rfl
  have d5 : w2.cell? ⟨w1.heap.size, 5, none⟩ = some (.int .i64 0) := blk_cell b2 rfl
  have d6 : w2.cell? ⟨w1.heap.size, 6, none⟩ = some (.int .i64 0) := blk_cell b2 rfl
  have hmod := ((((Mod.refl [] w).alloc _).then0 hm).alloc _).then0 hm2
  have d2 : w2.cell? ⟨w1.heap.size, 2, none⟩ = some (.int .i64 4) := blk_cell b2 rfl
  clear b1 b2 hc hf hc2 hf2 hm hm2
  go_wp2_with fail
  have g1 : decide ((4294967295 : Int) < (a : Int)) = false := by simp; omega
  have g2 : decide ((n : Int) < 0) = false := by simp
  have g3 : decide ((65535 : Int) < (n : Int)) = false := by simp; omega
  go_region_held3 (fun w' => Mod [] w2 w' ∧ w1.heap.size < w'.heap.size ∧ w'.cell? ⟨w.heap.size, 1, none⟩ = some (.int .u64 a) ∧ w'.cell? ⟨w.heap.size, 2, none⟩ = some (.int .i64 n) ∧ w'.cell? ⟨w.heap.size, 3, none⟩ = some (.int .i64 0) ∧
      w'.cell? ⟨w1.heap.size, 3, none⟩ = some (.int .i64 7) ∧ w'.cell? ⟨w1.heap.size, 4, none⟩ = some (.int .i64 2) ∧ w'.cell? ⟨w1.heap.size, 5, none⟩ = some (.int .i64 0) ∧ w'.cell? ⟨w1.heap.size, 6, none⟩ = some (.int .i64 0))
    (first | exact ⟨(Mod.refl _ _).drew, hz2, c1, c2, c3, d3, d4, d5, d6⟩ | exact keep9 hz (by assumption) (by assumption))
    (first | (go_at_call_of 71 (Value.agg #[Value.int .i64 7, Value.int .i64 2]); refine (most_2 _ _).mono ?_; rintro e w' ⟨rfl, hm⟩) | (go_at_call_of 71 (Value.agg #[Value.int .i64 0, Value.int .i64 0]); refine (most_0 _ _).mono ?_; rintro e w' ⟨rfl, hm⟩))
  go_wp2
  go_ret
  exact ⟨rfl, hmod.then0 (And.left (by assumption))⟩
set_option maxRecDepth 100000 in
set_option maxHeartbeats 4000000 in
theorem check_42 (a n : Nat) (ha : a ≤ 4294967295) (hn : n ≤ 65535) (w : World) : Calls Try.prog 44 #[.agg #[.int .i64 42, .int .u64 a, .int .i64 n, .int .i64 0]] w fun e w' => e = .returned (.int .i64 0) ∧ Mod [] w w' := by
  have k1 : ¬ ((4294967295 : Int) < (a : Int)) := by omega
  have k2 : ¬ ((n : Int) < 0) := by omega
  have k3 : ¬ ((65535 : Int) < (n : Int)) := by omega
  have k4 : IntKind.u64.wrap (n : Int) = n := IntWalk.u64_in _ (by omega)
  have k5 : IntKind.u64.wrap 0 = 0 := IntWalk.u64_in _ (by omega)
  go_enter Try.func44, Try.ntmps44
  go_wp2_with fail
  refine (find_42 _).mono ?_
  rintro e w1 ⟨rfl, hm⟩
  obtain ⟨hc, hf⟩ := hm.cells
  have hz : w.heap.size < w1.heap.size := by have := hm.size; simp at this; omega
  go_wp2_with fail
  refine (most_4 _ _).mono ?_
  rintro e w2 ⟨rfl, hm2⟩
  obtain ⟨hc2, hf2⟩ := hm2.cells
  have hz2 : w1.heap.size < w2.heap.size := by have := hm2.size; simp at this; omega
  have b1 : w2.heap[w.heap.size]? = some (.cells #[.int .i64 42, .int .u64 a, .int .i64 n, .int .i64 0] 40 (0, 0)) := hm2.blk (((Mod.refl [] w1).alloc _).blk (hm.blk (blk_alloc _ _ _) (by simp)) (by simp)) (by simp)
  have b2 : w2.heap[w1.heap.size]? = some (.cells #[.int .i64 42, .int .i64 2, .int .i64 4, .int .i64 7, .int .i64 2, .int .i64 0, .int .i64 0, .int .u8 0] 142 (0, 0)) := hm2.blk (blk_alloc _ _ _) (by simp)
  have c1 : w2.cell? ⟨w.heap.size, 1, none⟩ = some (.int .u64 a) := blk_cell b1 rfl
  have c2 : w2.cell? ⟨w.heap.size, 2, none⟩ = some (.int .i64 n) := blk_cell b1 rfl
  have c3 : w2.cell? ⟨w.heap.size, 3, none⟩ = some (.int .i64 0) := blk_cell b1 rfl
  have d3 : w2.cell? ⟨w1.heap.size, 3, none⟩ = some (.int .i64 7) := blk_cell b2 rfl
  have d4 : w2.cell? ⟨w1.heap.size, 4, none⟩ = some (.int .i64 2) := blk_cell b2 rfl
  have d5 : w2.cell? ⟨w1.heap.size, 5, none⟩ = some (.int .i64 0) := blk_cell b2 rfl
  have d6 : w2.cell? ⟨w1.heap.size, 6, none⟩ = some (.int .i64 0) := blk_cell b2 rfl
  have hmod := ((((Mod.refl [] w).alloc _).then0 hm).alloc _).then0 hm2
  have d2 : w2.cell? ⟨w1.heap.size, 2, none⟩ = some (.int .i64 4) := blk_cell b2 rfl
  clear b1 b2 hc hf hc2 hf2 hm hm2
  go_wp2_with fail
  have g1 : decide ((4294967295 : Int) < (a : Int)) = false := by simp; omega
  have g2 : decide ((n : Int) < 0) = false := by simp
  have g3 : decide ((65535 : Int) < (n : Int)) = false := by simp; omega
  go_region_held3 (fun w' => Mod [] w2 w' ∧ w1.heap.size < w'.heap.size ∧ w'.cell? ⟨w.heap.size, 1, none⟩ = some (.int .u64 a) ∧ w'.cell? ⟨w.heap.size, 2, none⟩ = some (.int .i64 n) ∧ w'.cell? ⟨w.heap.size, 3, none⟩ = some (.int .i64 0) ∧
      w'.cell? ⟨w1.heap.size, 3, none⟩ = some (.int .i64 7) ∧ w'.cell? ⟨w1.heap.size, 4, none⟩ = some (.int .i64 2) ∧ w'.cell? ⟨w1.heap.size, 5, none⟩ = some (.int .i64 0) ∧ w'.cell? ⟨w1.heap.size, 6, none⟩ = some (.int .i64 0))
    (first | exact ⟨(Mod.refl _ _).drew, hz2, c1, c2, c3, d3, d4, d5, d6⟩ | exact keep9 hz (by assumption) (by assumption))
    (first | (go_at_call_of 71 (Value.agg #[Value.int .i64 7, Value.int .i64 2]); refine (most_2 _ _).mono ?_; rintro e w' ⟨rfl, hm⟩) | (go_at_call_of 71 (Value.agg #[Value.int .i64 0, Value.int .i64 0]); refine (most_0 _ _).mono ?_; rintro e w' ⟨rfl, hm⟩))
  go_wp2
  go_ret
  exact ⟨rfl, hmod.then0 (And.left (by assumption))⟩
set_option maxRecDepth 100000 in
set_option maxHeartbeats 4000000 in
theorem check_136 (a n : Nat) (ha : a ≤ 18446744073709551615) (hn : n ≤ 2147483647) (w : World) : Calls Try.prog 44 #[.agg #[.int .i64 136, .int .u64 a, .int .i64 n, .int .i64 0]] w fun e w' => e = .returned (.int .i64 0) ∧ Mod [] w w' := by
  have k1 : ¬ ((18446744073709551615 : Int) < (a : Int)) := by omega
  have k2 : ¬ ((n : Int) < 0) := by omega
  have k3 : ¬ ((2147483647 : Int) < (n : Int)) := by omega
  have k4 : IntKind.u64.wrap (n : Int) = n := IntWalk.u64_in _ (by omega)
  have k5 : IntKind.u64.wrap 0 = 0 := IntWalk.u64_in _ (by omega)
  go_enter Try.func44, Try.ntmps44
  go_wp2_with fail
  refine (find_136 _).mono ?_
  rintro e w1 ⟨rfl, hm⟩
  obtain ⟨hc, hf⟩ := hm.cells
  have hz : w.heap.size < w1.heap.size := by have := hm.size; simp at this; omega
  go_wp2_with fail
  refine (most_8 _ _).mono ?_
  rintro e w2 ⟨rfl, hm2⟩
  obtain ⟨hc2, hf2⟩ := hm2.cells
  have hz2 : w1.heap.size < w2.heap.size := by have := hm2.size; simp at this; omega
  have b1 : w2.heap[w.heap.size]? = some (.cells #[.int .i64 136, .int .u64 a, .int .i64 n, .int .i64 0] 40 (0, 0)) := hm2.blk (((Mod.refl [] w1).alloc _).blk (hm.blk (blk_alloc _ _ _) (by simp)) (by simp)) (by simp)
  have b2 : w2.heap[w1.heap.size]? = some (.cells #[.int .i64 136, .int .i64 2, .int .i64 8, .int .i64 10, .int .i64 4, .int .i64 0, .int .i64 0, .int .u8 0] 142 (0, 0)) := hm2.blk (blk_alloc _ _ _) (by simp)
  have c1 : w2.cell? ⟨w.heap.size, 1, none⟩ = some (.int .u64 a) := blk_cell b1 rfl
  have c2 : w2.cell? ⟨w.heap.size, 2, none⟩ = some (.int .i64 n) := blk_cell b1 rfl
  have c3 : w2.cell? ⟨w.heap.size, 3, none⟩ = some (.int .i64 0) := blk_cell b1 rfl
  have d3 : w2.cell? ⟨w1.heap.size, 3, none⟩ = some (.int .i64 10) := blk_cell b2 rfl
  have d4 : w2.cell? ⟨w1.heap.size, 4, none⟩ = some (.int .i64 4) := blk_cell b2 rfl
  have d5 : w2.cell? ⟨w1.heap.size, 5, none⟩ = some (.int .i64 0) := blk_cell b2 rfl
  have d6 : w2.cell? ⟨w1.heap.size, 6, none⟩ = some (.int .i64 0) := blk_cell b2 rfl
  have hmod := ((((Mod.refl [] w).alloc _).then0 hm).alloc _).then0 hm2
  have d2 : w2.cell? ⟨w1.heap.size, 2, none⟩ = some (.int .i64 8) := blk_cell b2 rfl
  clear b1 b2 hc hf hc2 hf2 hm hm2
  go_wp2_with fail
  have g1 : decide ((18446744073709551615 : Int) < (a : Int)) = false := by simp; omega
  have g2 : decide ((n : Int) < 0) = false := by simp
  have g3 : decide ((2147483647 : Int) < (n : Int)) = false := by simp; omega
  go_region_held3 (fun w' => Mod [] w2 w' ∧ w1.heap.size < w'.heap.size ∧ w'.cell? ⟨w.heap.size, 1, none⟩ = some (.int .u64 a) ∧ w'.cell? ⟨w.heap.size, 2, none⟩ = some (.int .i64 n) ∧ w'.cell? ⟨w.heap.size, 3, none⟩ = some (.int .i64 0) ∧
      w'.cell? ⟨w1.heap.size, 3, none⟩ = some (.int .i64 10) ∧ w'.cell? ⟨w1.heap.size, 4, none⟩ = some (.int .i64 4) ∧ w'.cell? ⟨w1.heap.size, 5, none⟩ = some (.int .i64 0) ∧ w'.cell? ⟨w1.heap.size, 6, none⟩ = some (.int .i64 0))
    (first | exact ⟨(Mod.refl _ _).drew, hz2, c1, c2, c3, d3, d4, d5, d6⟩ | exact keep9 hz (by assumption) (by assumption))
    (first | (go_at_call_of 71 (Value.agg #[Value.int .i64 10, Value.int .i64 4]); refine (most_4 _ _).mono ?_; rintro e w' ⟨rfl, hm⟩) | (go_at_call_of 71 (Value.agg #[Value.int .i64 0, Value.int .i64 0]); refine (most_0 _ _).mono ?_; rintro e w' ⟨rfl, hm⟩))
  go_wp2
  go_ret
  exact ⟨rfl, hmod.then0 (And.left (by assumption))⟩
set_option maxRecDepth 100000 in
set_option maxHeartbeats 4000000 in
theorem check_138 (a n : Nat) (ha : a ≤ 18446744073709551615) (hn : n ≤ 2147483647) (w : World) : Calls Try.prog 44 #[.agg #[.int .i64 138, .int .u64 a, .int .i64 n, .int .i64 0]] w fun e w' => e = .returned (.int .i64 0) ∧ Mod [] w w' := by
  have k1 : ¬ ((18446744073709551615 : Int) < (a : Int)) := by omega
  have k2 : ¬ ((n : Int) < 0) := by omega
  have k3 : ¬ ((2147483647 : Int) < (n : Int)) := by omega
  have k4 : IntKind.u64.wrap (n : Int) = n := IntWalk.u64_in _ (by omega)
  have k5 : IntKind.u64.wrap 0 = 0 := IntWalk.u64_in _ (by omega)
  go_enter Try.func44, Try.ntmps44
  go_wp2_with fail
  refine (find_138 _).mono ?_
  rintro e w1 ⟨rfl, hm⟩
  obtain ⟨hc, hf⟩ := hm.cells
  have hz : w.heap.size < w1.heap.size := by have := hm.size; simp at this; omega
  go_wp2_with fail
  refine (most_8 _ _).mono ?_
  rintro e w2 ⟨rfl, hm2⟩
  obtain ⟨hc2, hf2⟩ := hm2.cells
  have hz2 : w1.heap.size < w2.heap.size := by have := hm2.size; simp at this; omega
  have b1 : w2.heap[w.heap.size]? = some (.cells #[.int .i64 138, .int .u64 a, .int .i64 n, .int .i64 0] 40 (0, 0)) := hm2.blk (((Mod.refl [] w1).alloc _).blk (hm.blk (blk_alloc _ _ _) (by simp)) (by simp)) (by simp)
  have b2 : w2.heap[w1.heap.size]? = some (.cells #[.int .i64 138, .int .i64 2, .int .i64 8, .int .i64 10, .int .i64 4, .int .i64 0, .int .i64 0, .int .u8 0] 142 (0, 0)) := hm2.blk (blk_alloc _ _ _) (by simp)
  have c1 : w2.cell? ⟨w.heap.size, 1, none⟩ = some (.int .u64 a) := blk_cell b1 rfl
  have c2 : w2.cell? ⟨w.heap.size, 2, none⟩ = some (.int .i64 n) := blk_cell b1 rfl
  have c3 : w2.cell? ⟨w.heap.size, 3, none⟩ = some (.int .i64 0) := blk_cell b1 rfl
  have d3 : w2.cell? ⟨w1.heap.size, 3, none⟩ = some (.int .i64 10) := blk_cell b2 rfl
  have d4 : w2.cell? ⟨w1.heap.size, 4, none⟩ = some (.int .i64 4) := blk_cell b2 rfl
  have d5 : w2.cell? ⟨w1.heap.size, 5, none⟩ = some (.int .i64 0) := blk_cell b2 rfl
  have d6 : w2.cell? ⟨w1.heap.size, 6, none⟩ = some (.int .i64 0) := blk_cell b2 rfl
  have hmod := ((((Mod.refl [] w).alloc _).then0 hm).alloc _).then0 hm2
  have d2 : w2.cell? ⟨w1.heap.size, 2, none⟩ = some (.int .i64 8) := blk_cell b2 rfl
  clear b1 b2 hc hf hc2 hf2 hm hm2
  go_wp2_with fail
  have g1 : decide ((18446744073709551615 : Int) < (a : Int)) = false := by simp; omega
  have g2 : decide ((n : Int) < 0) = false := by simp
  have g3 : decide ((2147483647 : Int) < (n : Int)) = false := by simp; omega
  go_region_held3 (fun w' => Mod [] w2 w' ∧ w1.heap.size < w'.heap.size ∧ w'.cell? ⟨w.heap.size, 1, none⟩ = some (.int .u64 a) ∧ w'.cell? ⟨w.heap.size, 2, none⟩ = some (.int .i64 n) ∧ w'.cell? ⟨w.heap.size, 3, none⟩ = some (.int .i64 0) ∧
      w'.cell? ⟨w1.heap.size, 3, none⟩ = some (.int .i64 10) ∧ w'.cell? ⟨w1.heap.size, 4, none⟩ = some (.int .i64 4) ∧ w'.cell? ⟨w1.heap.size, 5, none⟩ = some (.int .i64 0) ∧ w'.cell? ⟨w1.heap.size, 6, none⟩ = some (.int .i64 0))
    (first | exact ⟨(Mod.refl _ _).drew, hz2, c1, c2, c3, d3, d4, d5, d6⟩ | exact keep9 hz (by assumption) (by assumption))
    (first | (go_at_call_of 71 (Value.agg #[Value.int .i64 10, Value.int .i64 4]); refine (most_4 _ _).mono ?_; rintro e w' ⟨rfl, hm⟩) | (go_at_call_of 71 (Value.agg #[Value.int .i64 0, Value.int .i64 0]); refine (most_0 _ _).mono ?_; rintro e w' ⟨rfl, hm⟩))
  go_wp2
  go_ret
  exact ⟨rfl, hmod.then0 (And.left (by assumption))⟩
end Go.Proofs.Ytfkhefoilancnaa
