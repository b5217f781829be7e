/-
  span.Split of a range that goes beyond the end: refused as ErrLba, at both shapes; and the desk's two senses.
-/
import Derived.WalkKit
import Derived.Handy
import Derived.BigQuiet
import Derived.Lib.Hide
import Derived.Test.YtfkhefoilancnaaMove
import Derived.Test.YtfkhefoilancnaaLaws
namespace Go.Proofs.Ytfkhefoilancnaa
open Go.RowKit
set_option maxRecDepth 100000 in
set_option maxHeartbeats 1000000 in
theorem oor_2 (a n : Nat) (ha : a < 4294967296) (hn : n ≤ 65536) (hr : ¬ a + n ≤ 40) (w : World) : Calls Try.prog 47 #[.agg #[.int .u64 40, .int .i64 10, .int .i64 2, .int .i64 5], .int .u64 a, .int .i64 n] w
    fun e w' => e = .returned (.tuple #[.slice none 0 0, .int .i64 171]) ∧ Mod [] w w' := by
  have kn : ¬ ((n : Int) < 0) := by omega
  have kn2 : ¬ ((65536 : Int) < (n : Int)) := by omega
  have k0 : IntKind.u64.wrap (n : Int) = n := IntWalk.u64_in _ (by omega)
  by_cases h : 40 < a
  · have ka : (40 : Int) < (a : Int) := by omega
    go_enter Try.func47, Try.ntmps47
    go_wp2_with fail
    refine (check_2 _).mono ?_
    rintro e w1 ⟨rfl, hm⟩
    obtain ⟨hc, hf⟩ := hm.cells
    go_wp2
    go_ret2
    exact ⟨rfl, ((Mod.refl _ _).alloc _).then0 hm⟩
  · have ka : ¬ ((40 : Int) < (a : Int)) := by omega
    have k1 : IntKind.u64.wrap (40 - (a : Int)) = 40 - a := IntWalk.u64_in _ (by omega)
    have ks : (40 - a : Int) < (n : Int) := by omega
    go_enter Try.func47, Try.ntmps47
    go_wp2_with fail
    refine (check_2 _).mono ?_
    rintro e w1 ⟨rfl, hm⟩
    obtain ⟨hc, hf⟩ := hm.cells
    go_wp2
    go_ret2
    exact ⟨rfl, ((Mod.refl _ _).alloc _).then0 hm⟩
set_option maxRecDepth 100000 in
set_option maxHeartbeats 1000000 in
theorem oor_1 (a n : Nat) (ha : a < 4294967296) (hn : n ≤ 65536) (hr : ¬ a + n ≤ 12) (w : World) : Calls Try.prog 47 #[.agg #[.int .u64 12, .int .i64 4, .int .i64 3, .int .i64 1], .int .u64 a, .int .i64 n] w
    fun e w' => e = .returned (.tuple #[.slice none 0 0, .int .i64 171]) ∧ Mod [] w w' := by
  have kn : ¬ ((n : Int) < 0) := by omega
  have kn2 : ¬ ((65536 : Int) < (n : Int)) := by omega
  have k0 : IntKind.u64.wrap (n : Int) = n := IntWalk.u64_in _ (by omega)
  by_cases h : 12 < a
  · have ka : (12 : Int) < (a : Int) := by omega
    go_enter Try.func47, Try.ntmps47
    go_wp2_with fail
    refine (check_1 _).mono ?_
    rintro e w1 ⟨rfl, hm⟩
    obtain ⟨hc, hf⟩ := hm.cells
    go_wp2
    go_ret2
    exact ⟨rfl, ((Mod.refl _ _).alloc _).then0 hm⟩
  · have ka : ¬ ((12 : Int) < (a : Int)) := by omega
    have k1 : IntKind.u64.wrap (12 - (a : Int)) = 12 - a := IntWalk.u64_in _ (by omega)
    have ks : (12 - a : Int) < (n : Int) := by omega
    go_enter Try.func47, Try.ntmps47
    go_wp2_with fail
    refine (check_1 _).mono ?_
    rintro e w1 ⟨rfl, hm⟩
    obtain ⟨hc, hf⟩ := hm.cells
    go_wp2
    go_ret2
    exact ⟨rfl, ((Mod.refl _ _).alloc _).then0 hm⟩
theorem info70 : (Try.prog.info? 70).map (·.size) = some 2 := by kernel_rfl
set_option maxHeartbeats 1000000 in
theorem noField_k (w : World) : Calls Try.prog 46 #[] w fun e w' => e = .returned (.agg #[.int .u8 5, .int .u16 9216]) ∧ Mod [] w w' := by
  go_enter Try.func46, Try.ntmps46
  go_wp2
  exact bodyPost_ret (res_cell _ _ w.heap.size 70 _ rfl (blk_alloc _ _ _) Try.underlying70 info70 rfl) rfl ⟨rfl, (Mod.refl _ _).alloc _⟩
set_option maxHeartbeats 1000000 in
theorem noLba_k (w : World) : Calls Try.prog 48 #[] w fun e w' => e = .returned (.agg #[.int .u8 5, .int .u16 8448]) ∧ Mod [] w w' := by
  go_enter Try.func48, Try.ntmps48
  go_wp2
  exact bodyPost_ret (res_cell _ _ w.heap.size 70 _ rfl (blk_alloc _ _ _) Try.underlying70 info70 rfl) rfl ⟨rfl, (Mod.refl _ _).alloc _⟩
end Go.Proofs.Ytfkhefoilancnaa
