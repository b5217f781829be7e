/-
  The walks of package span at the three shapes that the laws of this seat use: which tests they pass, where a block lies. Every input that these laws hand to it.
-/
import Derived.WalkKit
import Derived.Handy
import Derived.BigQuiet
import Derived.Deep.QuietTactic
import Derived.Deep.RegionHeld3
import Derived.Test.YtfkhefoilancnaaBase
import Derived.Test.YtfkhefoilancnaaMul
namespace Go.Proofs.Ytfkhefoilancnaa
open Go.RowKit
theorem div64 (a b : Nat) (ha : a < 18446744073709551616) (hb : 0 < b) (w : World) :
    Calls Try.prog 84 #[.int .u64 0, .int .u64 a, .int .u64 b] w fun e w' => e = .returned (.tuple #[.int .u64 ((a / b : Nat) : Int), .int .u64 ((a % b : Nat) : Int)]) ∧ ∃ n, w.drewN n = w' := by
  have h0 : ((b : Int) == 0) = false := by simp; omega
  have h1 : ¬ ((b : Int) ≤ 0) := by omega
  have hd : IntKind.u64.wrap ((a : Int) / (b : Int)) = ((a / b : Nat) : Int) := by
    have h2 : a / b < 18446744073709551616 := Nat.lt_of_le_of_lt (Nat.div_le_self _ _) ha
    rw [← Int.natCast_ediv]
    generalize a / b = c at h2 ⊢
    exact IntWalk.u64_in _ (by omega)
  go_enter Try.func84, Try.ntmps84
  go_wp2_with fail
  go_quiet (fail)
  go_wp2
  go_ret2
  exact ⟨by simp, _, rfl⟩

theorem set_1 (w : World) : Calls Try.prog 60 #[.agg #[.int .u64 12, .int .i64 4, .int .i64 3, .int .i64 1]] w fun e w' => e = .returned (.int .u64 12) ∧ Mod [] w w' := by
  have hm : ∀ w, Calls Try.prog 76 #[.int .u64 3, .int .u64 4] w fun e w' => e = .returned (.tuple #[.int .u64 0, .int .u64 12]) ∧ w = w' := fun w => (mul64 3 4 (by omega) (by omega) w).mono fun e w' ⟨h1, h2⟩ => ⟨by rw [h1]; rfl, h2.symm⟩
  go_enter Try.func60, Try.ntmps60
  go_wp2_with fail
  refine (hm _).mono ?_
  rintro e w' ⟨rfl, rfl⟩
  go_wp2
  go_ret
  exact ⟨rfl, (Mod.refl _ _).alloc _⟩
theorem check_1 (w : World) : Calls Try.prog 34 #[.agg #[.int .u64 12, .int .i64 4, .int .i64 3, .int .i64 1]] w fun e w' => e = .returned (.int .i64 0) ∧ Mod [] w w' := by
  have kc : IntKind.u64.wrap 4 = 4 := IntWalk.u64_in _ (by omega)
  go_enter Try.func34, Try.ntmps34
  go_wp2_with fail
  go_region_held3 (fun w' => Mod [] w w' ∧ w'.cell? ⟨w.heap.size, 0, none⟩ = some (.int .u64 12) ∧ w'.cell? ⟨w.heap.size, 1, none⟩ = some (.int .i64 4) ∧ w'.cell? ⟨w.heap.size, 2, none⟩ = some (.int .i64 3) ∧ w'.cell? ⟨w.heap.size, 3, none⟩ = some (.int .i64 1))
    (first | (refine ⟨?_, ?_⟩ <;> first | exact ((Mod.refl _ _).alloc _).drew | exact Mod.then0 (And.left (by assumption)) (by assumption) | go_keep))
    (first | (go_at_call 60; refine (set_1 _).mono ?_; rintro e w' ⟨rfl, hm⟩; obtain ⟨hc, hf⟩ := hm.cells))
  go_wp2
  go_ret
  exact ⟨rfl, And.left (by assumption)⟩
theorem chunks_1 (w : World) : Calls Try.prog 35 #[.agg #[.int .u64 12, .int .i64 4, .int .i64 3, .int .i64 1]] w fun e w' => e = .returned (.int .i64 3) ∧ Mod [] w w' := by
  have kc : IntKind.u64.wrap 4 = 4 := IntWalk.u64_in _ (by omega)
  go_enter Try.func35, Try.ntmps35
  go_wp2_with fail
  refine (check_1 _).mono ?_
  rintro e w' ⟨rfl, hm⟩
  obtain ⟨hc, hf⟩ := hm.cells
  go_wp2
  go_ret
  exact ⟨rfl, ((Mod.refl _ _).alloc _).then0 hm⟩

theorem where_1 (a : Nat) (ha : a < 12) (w : World) : Calls Try.prog 72 #[.agg #[.int .u64 12, .int .i64 4, .int .i64 3, .int .i64 1], .int .u64 a] w fun e w' => e = .returned (.tuple #[.int .i64 ((a / 12 * 3 + a % 12 / 1 % 3 : Nat) : Int), .int .i64 ((a % 12 / 1 / 3 * 1 + a % 12 % 1 : Nat) : Int)]) ∧ Mod [] w w' := by
  go_enter Try.func72, Try.ntmps72
  go_wp2_with fail
  refine (set_1 _).mono ?_
  rintro e w1 ⟨rfl, hm⟩
  obtain ⟨hc, hf⟩ := hm.cells
  go_wp2_with fail
  refine (div64 a 12 (by omega) (by omega) _).mono ?_
  rintro e w2 ⟨rfl, n, rfl⟩
  go_wp2_with fail
  go_quiet (fail)
  go_wp2_with fail
  go_quiet (fail)
  go_wp2
  go_ret2
  exact ⟨ret2_int (by omega) (by omega), (((((Mod.refl _ _).alloc _).then0 hm).drewN _).drewN _).drewN _⟩

theorem set_2 (w : World) : Calls Try.prog 60 #[.agg #[.int .u64 40, .int .i64 10, .int .i64 2, .int .i64 5]] w fun e w' => e = .returned (.int .u64 20) ∧ Mod [] w w' := by
  have hm : ∀ w, Calls Try.prog 76 #[.int .u64 2, .int .u64 10] w fun e w' => e = .returned (.tuple #[.int .u64 0, .int .u64 20]) ∧ w = w' := fun w => (mul64 2 10 (by omega) (by omega) w).mono fun e w' ⟨h1, h2⟩ => ⟨by rw [h1]; rfl, h2.symm⟩
  go_enter Try.func60, Try.ntmps60
  go_wp2_with fail
  refine (hm _).mono ?_
  rintro e w' ⟨rfl, rfl⟩
  go_wp2
  go_ret
  exact ⟨rfl, (Mod.refl _ _).alloc _⟩
theorem check_2 (w : World) : Calls Try.prog 34 #[.agg #[.int .u64 40, .int .i64 10, .int .i64 2, .int .i64 5]] w fun e w' => e = .returned (.int .i64 0) ∧ Mod [] w w' := by
  have kc : IntKind.u64.wrap 10 = 10 := IntWalk.u64_in _ (by omega)
  go_enter Try.func34, Try.ntmps34
  go_wp2_with fail
  go_region_held3 (fun w' => Mod [] w w' ∧ w'.cell? ⟨w.heap.size, 0, none⟩ = some (.int .u64 40) ∧ w'.cell? ⟨w.heap.size, 1, none⟩ = some (.int .i64 10) ∧ w'.cell? ⟨w.heap.size, 2, none⟩ = some (.int .i64 2) ∧ w'.cell? ⟨w.heap.size, 3, none⟩ = some (.int .i64 5))
    (first | (refine ⟨?_, ?_⟩ <;> first | exact ((Mod.refl _ _).alloc _).drew | exact Mod.then0 (And.left (by assumption)) (by assumption) | go_keep))
    (first | (go_at_call 60; refine (set_2 _).mono ?_; rintro e w' ⟨rfl, hm⟩; obtain ⟨hc, hf⟩ := hm.cells))
  go_wp2
  go_ret
  exact ⟨rfl, And.left (by assumption)⟩
theorem chunks_2 (w : World) : Calls Try.prog 35 #[.agg #[.int .u64 40, .int .i64 10, .int .i64 2, .int .i64 5]] w fun e w' => e = .returned (.int .i64 4) ∧ Mod [] w w' := by
  have kc : IntKind.u64.wrap 10 = 10 := IntWalk.u64_in _ (by omega)
  go_enter Try.func35, Try.ntmps35
  go_wp2_with fail
  refine (check_2 _).mono ?_
  rintro e w' ⟨rfl, hm⟩
  obtain ⟨hc, hf⟩ := hm.cells
  go_wp2
  go_ret
  exact ⟨rfl, ((Mod.refl _ _).alloc _).then0 hm⟩

theorem where_2 (a : Nat) (ha : a < 40) (w : World) : Calls Try.prog 72 #[.agg #[.int .u64 40, .int .i64 10, .int .i64 2, .int .i64 5], .int .u64 a] w fun e w' => e = .returned (.tuple #[.int .i64 ((a / 20 * 2 + a % 20 / 5 % 2 : Nat) : Int), .int .i64 ((a % 20 / 5 / 2 * 5 + a % 20 % 5 : Nat) : Int)]) ∧ Mod [] w w' := by
  go_enter Try.func72, Try.ntmps72
  go_wp2_with fail
  refine (set_2 _).mono ?_
  rintro e w1 ⟨rfl, hm⟩
  obtain ⟨hc, hf⟩ := hm.cells
  go_wp2_with fail
  refine (div64 a 20 (by omega) (by omega) _).mono ?_
  rintro e w2 ⟨rfl, n, rfl⟩
  go_wp2_with fail
  go_quiet (fail)
  go_wp2_with fail
  go_quiet (fail)
  go_wp2
  go_ret2
  exact ⟨ret2_int (by omega) (by omega), (((((Mod.refl _ _).alloc _).then0 hm).drewN _).drewN _).drewN _⟩

theorem set_3 (w : World) : Calls Try.prog 60 #[.agg #[.int .u64 4097, .int .i64 17, .int .i64 1, .int .i64 17]] w fun e w' => e = .returned (.int .u64 17) ∧ Mod [] w w' := by
  have hm : ∀ w, Calls Try.prog 76 #[.int .u64 1, .int .u64 17] w fun e w' => e = .returned (.tuple #[.int .u64 0, .int .u64 17]) ∧ w = w' := fun w => (mul64 1 17 (by omega) (by omega) w).mono fun e w' ⟨h1, h2⟩ => ⟨by rw [h1]; rfl, h2.symm⟩
  go_enter Try.func60, Try.ntmps60
  go_wp2_with fail
  refine (hm _).mono ?_
  rintro e w' ⟨rfl, rfl⟩
  go_wp2
  go_ret
  exact ⟨rfl, (Mod.refl _ _).alloc _⟩
theorem check_3 (w : World) : Calls Try.prog 34 #[.agg #[.int .u64 4097, .int .i64 17, .int .i64 1, .int .i64 17]] w fun e w' => e = .returned (.int .i64 0) ∧ Mod [] w w' := by
  have kc : IntKind.u64.wrap 17 = 17 := IntWalk.u64_in _ (by omega)
  go_enter Try.func34, Try.ntmps34
  go_wp2_with fail
  go_region_held3 (fun w' => Mod [] w w' ∧ w'.cell? ⟨w.heap.size, 0, none⟩ = some (.int .u64 4097) ∧ w'.cell? ⟨w.heap.size, 1, none⟩ = some (.int .i64 17) ∧ w'.cell? ⟨w.heap.size, 2, none⟩ = some (.int .i64 1) ∧ w'.cell? ⟨w.heap.size, 3, none⟩ = some (.int .i64 17))
    (first | (refine ⟨?_, ?_⟩ <;> first | exact ((Mod.refl _ _).alloc _).drew | exact Mod.then0 (And.left (by assumption)) (by assumption) | go_keep))
    (first | (go_at_call 60; refine (set_3 _).mono ?_; rintro e w' ⟨rfl, hm⟩; obtain ⟨hc, hf⟩ := hm.cells))
  go_wp2
  go_ret
  exact ⟨rfl, And.left (by assumption)⟩
theorem chunks_3 (w : World) : Calls Try.prog 35 #[.agg #[.int .u64 4097, .int .i64 17, .int .i64 1, .int .i64 17]] w fun e w' => e = .returned (.int .i64 241) ∧ Mod [] w w' := by
  have kc : IntKind.u64.wrap 17 = 17 := IntWalk.u64_in _ (by omega)
  go_enter Try.func35, Try.ntmps35
  go_wp2_with fail
  refine (check_3 _).mono ?_
  rintro e w' ⟨rfl, hm⟩
  obtain ⟨hc, hf⟩ := hm.cells
  go_wp2
  go_ret
  exact ⟨rfl, ((Mod.refl _ _).alloc _).then0 hm⟩
end Go.Proofs.Ytfkhefoilancnaa
