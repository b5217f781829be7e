/-
  strings.Cut at the texts of the laws' logins: at a nought, and at the equals sign. Printed by gen_cut.py.
-/
import Derived.WalkKit
import Derived.Handy
import Derived.BigQuiet
import Derived.Deep.QuietTactic
import Derived.Lib.Hide
import Derived.KernelRfl
import Derived.Test.YtfkhefoilancnaaTop
namespace Go.Proofs.Ytfkhefoilancnaa
open Go.RowKit
theorem ix_a0 (W : World) : (callFunc 101 #[.string ⟨#[73, 110, 105, 116, 105, 97, 116, 111, 114, 78, 97, 109, 101, 61, 97, 0]⟩, .int .u8 0]).run Try.prog W = .ok (.value (.int .i64 15)) W := by
  kernel_rfl
theorem sl_a0 (W : World) : (Instr.slice 9 (.string ⟨#[73, 110, 105, 116, 105, 97, 116, 111, 114, 78, 97, 109, 101, 61, 97, 0]⟩) none (some (.int .i64 15)) none).run Try.prog W = .ok (.string ⟨#[73, 110, 105, 116, 105, 97, 116, 111, 114, 78, 97, 109, 101, 61, 97]⟩) W := by
  kernel_rfl
theorem sr_a0 (W : World) : (Instr.slice 9 (.string ⟨#[73, 110, 105, 116, 105, 97, 116, 111, 114, 78, 97, 109, 101, 61, 97, 0]⟩) (some (.int .i64 16)) none none).run Try.prog W = .ok (.string ⟨#[]⟩) W := by
  kernel_rfl
set_option maxRecDepth 100000 in
set_option maxHeartbeats 4000000 in
theorem ib_a0 (w : World) : Calls Try.prog 96 #[.string ⟨#[73, 110, 105, 116, 105, 97, 116, 111, 114, 78, 97, 109, 101, 61, 97, 0]⟩, .int .u8 0] w fun e w' => e = .returned (.int .i64 15) ∧ w' = w := by
  have hx := ix_a0
  go_enter Try.func96, Try.ntmps96
  go_wp2
  go_ret
  exact ⟨rfl, rfl⟩
set_option maxRecDepth 100000 in
set_option maxHeartbeats 4000000 in
theorem idx_a0 (w : World) : Calls Try.prog 100 #[.string ⟨#[73, 110, 105, 116, 105, 97, 116, 111, 114, 78, 97, 109, 101, 61, 97, 0]⟩, .string ⟨#[0]⟩] w fun e w' => e = .returned (.int .i64 15) ∧ w' = w := by
  go_enter Try.func100, Try.ntmps100
  go_wp2_with fail
  refine (ib_a0 _).mono ?_
  rintro e w1 ⟨rfl, hw⟩
  obtain rfl := hw.symm
  go_wp2
  go_ret
  exact ⟨rfl, rfl⟩
set_option maxRecDepth 100000 in
set_option maxHeartbeats 4000000 in
theorem cut94_a0 (w : World) : Calls Try.prog 94 #[.string ⟨#[73, 110, 105, 116, 105, 97, 116, 111, 114, 78, 97, 109, 101, 61, 97, 0]⟩, .string ⟨#[0]⟩] w fun e w' => e = .returned (.tuple #[.string ⟨#[73, 110, 105, 116, 105, 97, 116, 111, 114, 78, 97, 109, 101, 61, 97]⟩, .string ⟨#[]⟩, .bool true]) ∧ ∃ n, w' = w.drewN n := by
  have h1 := sl_a0
  have h2 := sr_a0
  go_enter Try.func94, Try.ntmps94
  go_wp2_with fail
  refine (idx_a0 _).mono ?_
  rintro e w1 ⟨rfl, hw⟩
  obtain rfl := hw.symm
  go_wp2_with fail
  go_quiet (fail)
  go_wp2
  go_ret3
  exact ⟨rfl, _, rfl⟩
set_option maxRecDepth 100000 in
set_option maxHeartbeats 4000000 in
theorem cut_a0 (w : World) : Calls Try.prog 85 #[.string ⟨#[73, 110, 105, 116, 105, 97, 116, 111, 114, 78, 97, 109, 101, 61, 97, 0]⟩, .string ⟨#[0]⟩] w fun e w' => e = .returned (.tuple #[.string ⟨#[73, 110, 105, 116, 105, 97, 116, 111, 114, 78, 97, 109, 101, 61, 97]⟩, .string ⟨#[]⟩, .bool true]) ∧ ∃ n, w' = w.drewN n := by
  go_enter Try.func85, Try.ntmps85
  go_wp2_with fail
  refine (cut94_a0 _).mono ?_
  rintro e w1 ⟨rfl, n, rfl⟩
  go_wp2
  go_ret3
  exact ⟨rfl, _, rfl⟩
theorem ix_a1 (W : World) : (callFunc 101 #[.string ⟨#[73, 110, 105, 116, 105, 97, 116, 111, 114, 78, 97, 109, 101, 61, 97]⟩, .int .u8 61]).run Try.prog W = .ok (.value (.int .i64 13)) W := by
  kernel_rfl
theorem sl_a1 (W : World) : (Instr.slice 9 (.string ⟨#[73, 110, 105, 116, 105, 97, 116, 111, 114, 78, 97, 109, 101, 61, 97]⟩) none (some (.int .i64 13)) none).run Try.prog W = .ok (.string ⟨#[73, 110, 105, 116, 105, 97, 116, 111, 114, 78, 97, 109, 101]⟩) W := by
  kernel_rfl
theorem sr_a1 (W : World) : (Instr.slice 9 (.string ⟨#[73, 110, 105, 116, 105, 97, 116, 111, 114, 78, 97, 109, 101, 61, 97]⟩) (some (.int .i64 14)) none none).run Try.prog W = .ok (.string ⟨#[97]⟩) W := by
  kernel_rfl
set_option maxRecDepth 100000 in
set_option maxHeartbeats 4000000 in
theorem ib_a1 (w : World) : Calls Try.prog 96 #[.string ⟨#[73, 110, 105, 116, 105, 97, 116, 111, 114, 78, 97, 109, 101, 61, 97]⟩, .int .u8 61] w fun e w' => e = .returned (.int .i64 13) ∧ w' = w := by
  have hx := ix_a1
  go_enter Try.func96, Try.ntmps96
  go_wp2
  go_ret
  exact ⟨rfl, rfl⟩
set_option maxRecDepth 100000 in
set_option maxHeartbeats 4000000 in
theorem idx_a1 (w : World) : Calls Try.prog 100 #[.string ⟨#[73, 110, 105, 116, 105, 97, 116, 111, 114, 78, 97, 109, 101, 61, 97]⟩, .string ⟨#[61]⟩] w fun e w' => e = .returned (.int .i64 13) ∧ w' = w := by
  go_enter Try.func100, Try.ntmps100
  go_wp2_with fail
  refine (ib_a1 _).mono ?_
  rintro e w1 ⟨rfl, hw⟩
  obtain rfl := hw.symm
  go_wp2
  go_ret
  exact ⟨rfl, rfl⟩
set_option maxRecDepth 100000 in
set_option maxHeartbeats 4000000 in
theorem cut94_a1 (w : World) : Calls Try.prog 94 #[.string ⟨#[73, 110, 105, 116, 105, 97, 116, 111, 114, 78, 97, 109, 101, 61, 97]⟩, .string ⟨#[61]⟩] w fun e w' => e = .returned (.tuple #[.string ⟨#[73, 110, 105, 116, 105, 97, 116, 111, 114, 78, 97, 109, 101]⟩, .string ⟨#[97]⟩, .bool true]) ∧ ∃ n, w' = w.drewN n := by
  have h1 := sl_a1
  have h2 := sr_a1
  go_enter Try.func94, Try.ntmps94
  go_wp2_with fail
  refine (idx_a1 _).mono ?_
  rintro e w1 ⟨rfl, hw⟩
  obtain rfl := hw.symm
  go_wp2_with fail
  go_quiet (fail)
  go_wp2
  go_ret3
  exact ⟨rfl, _, rfl⟩
set_option maxRecDepth 100000 in
set_option maxHeartbeats 4000000 in
theorem cut_a1 (w : World) : Calls Try.prog 85 #[.string ⟨#[73, 110, 105, 116, 105, 97, 116, 111, 114, 78, 97, 109, 101, 61, 97]⟩, .string ⟨#[61]⟩] w fun e w' => e = .returned (.tuple #[.string ⟨#[73, 110, 105, 116, 105, 97, 116, 111, 114, 78, 97, 109, 101]⟩, .string ⟨#[97]⟩, .bool true]) ∧ ∃ n, w' = w.drewN n := by
  go_enter Try.func85, Try.ntmps85
  go_wp2_with fail
  refine (cut94_a1 _).mono ?_
  rintro e w1 ⟨rfl, n, rfl⟩
  go_wp2
  go_ret3
  exact ⟨rfl, _, rfl⟩
theorem ix_m0 (W : World) : (callFunc 101 #[.string ⟨#[73, 110, 105, 116, 105, 97, 116, 111, 114, 78, 97, 109, 101, 61, 109, 101, 0]⟩, .int .u8 0]).run Try.prog W = .ok (.value (.int .i64 16)) W := by
  kernel_rfl
theorem sl_m0 (W : World) : (Instr.slice 9 (.string ⟨#[73, 110, 105, 116, 105, 97, 116, 111, 114, 78, 97, 109, 101, 61, 109, 101, 0]⟩) none (some (.int .i64 16)) none).run Try.prog W = .ok (.string ⟨#[73, 110, 105, 116, 105, 97, 116, 111, 114, 78, 97, 109, 101, 61, 109, 101]⟩) W := by
  kernel_rfl
theorem sr_m0 (W : World) : (Instr.slice 9 (.string ⟨#[73, 110, 105, 116, 105, 97, 116, 111, 114, 78, 97, 109, 101, 61, 109, 101, 0]⟩) (some (.int .i64 17)) none none).run Try.prog W = .ok (.string ⟨#[]⟩) W := by
  kernel_rfl
set_option maxRecDepth 100000 in
set_option maxHeartbeats 4000000 in
theorem ib_m0 (w : World) : Calls Try.prog 96 #[.string ⟨#[73, 110, 105, 116, 105, 97, 116, 111, 114, 78, 97, 109, 101, 61, 109, 101, 0]⟩, .int .u8 0] w fun e w' => e = .returned (.int .i64 16) ∧ w' = w := by
  have hx := ix_m0
  go_enter Try.func96, Try.ntmps96
  go_wp2
  go_ret
  exact ⟨rfl, rfl⟩
set_option maxRecDepth 100000 in
set_option maxHeartbeats 4000000 in
theorem idx_m0 (w : World) : Calls Try.prog 100 #[.string ⟨#[73, 110, 105, 116, 105, 97, 116, 111, 114, 78, 97, 109, 101, 61, 109, 101, 0]⟩, .string ⟨#[0]⟩] w fun e w' => e = .returned (.int .i64 16) ∧ w' = w := by
  go_enter Try.func100, Try.ntmps100
  go_wp2_with fail
  refine (ib_m0 _).mono ?_
  rintro e w1 ⟨rfl, hw⟩
  obtain rfl := hw.symm
  go_wp2
  go_ret
  exact ⟨rfl, rfl⟩
set_option maxRecDepth 100000 in
set_option maxHeartbeats 4000000 in
theorem cut94_m0 (w : World) : Calls Try.prog 94 #[.string ⟨#[73, 110, 105, 116, 105, 97, 116, 111, 114, 78, 97, 109, 101, 61, 109, 101, 0]⟩, .string ⟨#[0]⟩] w fun e w' => e = .returned (.tuple #[.string ⟨#[73, 110, 105, 116, 105, 97, 116, 111, 114, 78, 97, 109, 101, 61, 109, 101]⟩, .string ⟨#[]⟩, .bool true]) ∧ ∃ n, w' = w.drewN n := by
  have h1 := sl_m0
  have h2 := sr_m0
  go_enter Try.func94, Try.ntmps94
  go_wp2_with fail
  refine (idx_m0 _).mono ?_
  rintro e w1 ⟨rfl, hw⟩
  obtain rfl := hw.symm
  go_wp2_with fail
  go_quiet (fail)
  go_wp2
  go_ret3
  exact ⟨rfl, _, rfl⟩
set_option maxRecDepth 100000 in
set_option maxHeartbeats 4000000 in
theorem cut_m0 (w : World) : Calls Try.prog 85 #[.string ⟨#[73, 110, 105, 116, 105, 97, 116, 111, 114, 78, 97, 109, 101, 61, 109, 101, 0]⟩, .string ⟨#[0]⟩] w fun e w' => e = .returned (.tuple #[.string ⟨#[73, 110, 105, 116, 105, 97, 116, 111, 114, 78, 97, 109, 101, 61, 109, 101]⟩, .string ⟨#[]⟩, .bool true]) ∧ ∃ n, w' = w.drewN n := by
  go_enter Try.func85, Try.ntmps85
  go_wp2_with fail
  refine (cut94_m0 _).mono ?_
  rintro e w1 ⟨rfl, n, rfl⟩
  go_wp2
  go_ret3
  exact ⟨rfl, _, rfl⟩
theorem ix_m1 (W : World) : (callFunc 101 #[.string ⟨#[73, 110, 105, 116, 105, 97, 116, 111, 114, 78, 97, 109, 101, 61, 109, 101]⟩, .int .u8 61]).run Try.prog W = .ok (.value (.int .i64 13)) W := by
  kernel_rfl
theorem sl_m1 (W : World) : (Instr.slice 9 (.string ⟨#[73, 110, 105, 116, 105, 97, 116, 111, 114, 78, 97, 109, 101, 61, 109, 101]⟩) none (some (.int .i64 13)) none).run Try.prog W = .ok (.string ⟨#[73, 110, 105, 116, 105, 97, 116, 111, 114, 78, 97, 109, 101]⟩) W := by
  kernel_rfl
theorem sr_m1 (W : World) : (Instr.slice 9 (.string ⟨#[73, 110, 105, 116, 105, 97, 116, 111, 114, 78, 97, 109, 101, 61, 109, 101]⟩) (some (.int .i64 14)) none none).run Try.prog W = .ok (.string ⟨#[109, 101]⟩) W := by
  kernel_rfl
set_option maxRecDepth 100000 in
set_option maxHeartbeats 4000000 in
theorem ib_m1 (w : World) : Calls Try.prog 96 #[.string ⟨#[73, 110, 105, 116, 105, 97, 116, 111, 114, 78, 97, 109, 101, 61, 109, 101]⟩, .int .u8 61] w fun e w' => e = .returned (.int .i64 13) ∧ w' = w := by
  have hx := ix_m1
  go_enter Try.func96, Try.ntmps96
  go_wp2
  go_ret
  exact ⟨rfl, rfl⟩
set_option maxRecDepth 100000 in
set_option maxHeartbeats 4000000 in
theorem idx_m1 (w : World) : Calls Try.prog 100 #[.string ⟨#[73, 110, 105, 116, 105, 97, 116, 111, 114, 78, 97, 109, 101, 61, 109, 101]⟩, .string ⟨#[61]⟩] w fun e w' => e = .returned (.int .i64 13) ∧ w' = w := by
  go_enter Try.func100, Try.ntmps100
  go_wp2_with fail
  refine (ib_m1 _).mono ?_
  rintro e w1 ⟨rfl, hw⟩
  obtain rfl := hw.symm
  go_wp2
  go_ret
  exact ⟨rfl, rfl⟩
set_option maxRecDepth 100000 in
set_option maxHeartbeats 4000000 in
theorem cut94_m1 (w : World) : Calls Try.prog 94 #[.string ⟨#[73, 110, 105, 116, 105, 97, 116, 111, 114, 78, 97, 109, 101, 61, 109, 101]⟩, .string ⟨#[61]⟩] w fun e w' => e = .returned (.tuple #[.string ⟨#[73, 110, 105, 116, 105, 97, 116, 111, 114, 78, 97, 109, 101]⟩, .string ⟨#[109, 101]⟩, .bool true]) ∧ ∃ n, w' = w.drewN n := by
  have h1 := sl_m1
  have h2 := sr_m1
  go_enter Try.func94, Try.ntmps94
  go_wp2_with fail
  refine (idx_m1 _).mono ?_
  rintro e w1 ⟨rfl, hw⟩
  obtain rfl := hw.symm
  go_wp2_with fail
  go_quiet (fail)
  go_wp2
  go_ret3
  exact ⟨rfl, _, rfl⟩
set_option maxRecDepth 100000 in
set_option maxHeartbeats 4000000 in
theorem cut_m1 (w : World) : Calls Try.prog 85 #[.string ⟨#[73, 110, 105, 116, 105, 97, 116, 111, 114, 78, 97, 109, 101, 61, 109, 101]⟩, .string ⟨#[61]⟩] w fun e w' => e = .returned (.tuple #[.string ⟨#[73, 110, 105, 116, 105, 97, 116, 111, 114, 78, 97, 109, 101]⟩, .string ⟨#[109, 101]⟩, .bool true]) ∧ ∃ n, w' = w.drewN n := by
  go_enter Try.func85, Try.ntmps85
  go_wp2_with fail
  refine (cut94_m1 _).mono ?_
  rintro e w1 ⟨rfl, n, rfl⟩
  go_wp2
  go_ret3
  exact ⟨rfl, _, rfl⟩
theorem ix_n0 (W : World) : (callFunc 101 #[.string ⟨#[78, 97, 109, 101, 61, 97, 0]⟩, .int .u8 0]).run Try.prog W = .ok (.value (.int .i64 6)) W := by
  kernel_rfl
theorem sl_n0 (W : World) : (Instr.slice 9 (.string ⟨#[78, 97, 109, 101, 61, 97, 0]⟩) none (some (.int .i64 6)) none).run Try.prog W = .ok (.string ⟨#[78, 97, 109, 101, 61, 97]⟩) W := by
  kernel_rfl
theorem sr_n0 (W : World) : (Instr.slice 9 (.string ⟨#[78, 97, 109, 101, 61, 97, 0]⟩) (some (.int .i64 7)) none none).run Try.prog W = .ok (.string ⟨#[]⟩) W := by
  kernel_rfl
set_option maxRecDepth 100000 in
set_option maxHeartbeats 4000000 in
theorem ib_n0 (w : World) : Calls Try.prog 96 #[.string ⟨#[78, 97, 109, 101, 61, 97, 0]⟩, .int .u8 0] w fun e w' => e = .returned (.int .i64 6) ∧ w' = w := by
  have hx := ix_n0
  go_enter Try.func96, Try.ntmps96
  go_wp2
  go_ret
  exact ⟨rfl, rfl⟩
set_option maxRecDepth 100000 in
set_option maxHeartbeats 4000000 in
theorem idx_n0 (w : World) : Calls Try.prog 100 #[.string ⟨#[78, 97, 109, 101, 61, 97, 0]⟩, .string ⟨#[0]⟩] w fun e w' => e = .returned (.int .i64 6) ∧ w' = w := by
  go_enter Try.func100, Try.ntmps100
  go_wp2_with fail
  refine (ib_n0 _).mono ?_
  rintro e w1 ⟨rfl, hw⟩
  obtain rfl := hw.symm
  go_wp2
  go_ret
  exact ⟨rfl, rfl⟩
set_option maxRecDepth 100000 in
set_option maxHeartbeats 4000000 in
theorem cut94_n0 (w : World) : Calls Try.prog 94 #[.string ⟨#[78, 97, 109, 101, 61, 97, 0]⟩, .string ⟨#[0]⟩] w fun e w' => e = .returned (.tuple #[.string ⟨#[78, 97, 109, 101, 61, 97]⟩, .string ⟨#[]⟩, .bool true]) ∧ ∃ n, w' = w.drewN n := by
  have h1 := sl_n0
  have h2 := sr_n0
  go_enter Try.func94, Try.ntmps94
  go_wp2_with fail
  refine (idx_n0 _).mono ?_
  rintro e w1 ⟨rfl, hw⟩
  obtain rfl := hw.symm
  go_wp2_with fail
  go_quiet (fail)
  go_wp2
  go_ret3
  exact ⟨rfl, _, rfl⟩
set_option maxRecDepth 100000 in
set_option maxHeartbeats 4000000 in
theorem cut_n0 (w : World) : Calls Try.prog 85 #[.string ⟨#[78, 97, 109, 101, 61, 97, 0]⟩, .string ⟨#[0]⟩] w fun e w' => e = .returned (.tuple #[.string ⟨#[78, 97, 109, 101, 61, 97]⟩, .string ⟨#[]⟩, .bool true]) ∧ ∃ n, w' = w.drewN n := by
  go_enter Try.func85, Try.ntmps85
  go_wp2_with fail
  refine (cut94_n0 _).mono ?_
  rintro e w1 ⟨rfl, n, rfl⟩
  go_wp2
  go_ret3
  exact ⟨rfl, _, rfl⟩
theorem ix_n1 (W : World) : (callFunc 101 #[.string ⟨#[78, 97, 109, 101, 61, 97]⟩, .int .u8 61]).run Try.prog W = .ok (.value (.int .i64 4)) W := by
  kernel_rfl
theorem sl_n1 (W : World) : (Instr.slice 9 (.string ⟨#[78, 97, 109, 101, 61, 97]⟩) none (some (.int .i64 4)) none).run Try.prog W = .ok (.string ⟨#[78, 97, 109, 101]⟩) W := by
  kernel_rfl
theorem sr_n1 (W : World) : (Instr.slice 9 (.string ⟨#[78, 97, 109, 101, 61, 97]⟩) (some (.int .i64 5)) none none).run Try.prog W = .ok (.string ⟨#[97]⟩) W := by
  kernel_rfl
set_option maxRecDepth 100000 in
set_option maxHeartbeats 4000000 in
theorem ib_n1 (w : World) : Calls Try.prog 96 #[.string ⟨#[78, 97, 109, 101, 61, 97]⟩, .int .u8 61] w fun e w' => e = .returned (.int .i64 4) ∧ w' = w := by
  have hx := ix_n1
  go_enter Try.func96, Try.ntmps96
  go_wp2
  go_ret
  exact ⟨rfl, rfl⟩
set_option maxRecDepth 100000 in
set_option maxHeartbeats 4000000 in
theorem idx_n1 (w : World) : Calls Try.prog 100 #[.string ⟨#[78, 97, 109, 101, 61, 97]⟩, .string ⟨#[61]⟩] w fun e w' => e = .returned (.int .i64 4) ∧ w' = w := by
  go_enter Try.func100, Try.ntmps100
  go_wp2_with fail
  refine (ib_n1 _).mono ?_
  rintro e w1 ⟨rfl, hw⟩
  obtain rfl := hw.symm
  go_wp2
  go_ret
  exact ⟨rfl, rfl⟩
set_option maxRecDepth 100000 in
set_option maxHeartbeats 4000000 in
theorem cut94_n1 (w : World) : Calls Try.prog 94 #[.string ⟨#[78, 97, 109, 101, 61, 97]⟩, .string ⟨#[61]⟩] w fun e w' => e = .returned (.tuple #[.string ⟨#[78, 97, 109, 101]⟩, .string ⟨#[97]⟩, .bool true]) ∧ ∃ n, w' = w.drewN n := by
  have h1 := sl_n1
  have h2 := sr_n1
  go_enter Try.func94, Try.ntmps94
  go_wp2_with fail
  refine (idx_n1 _).mono ?_
  rintro e w1 ⟨rfl, hw⟩
  obtain rfl := hw.symm
  go_wp2_with fail
  go_quiet (fail)
  go_wp2
  go_ret3
  exact ⟨rfl, _, rfl⟩
set_option maxRecDepth 100000 in
set_option maxHeartbeats 4000000 in
theorem cut_n1 (w : World) : Calls Try.prog 85 #[.string ⟨#[78, 97, 109, 101, 61, 97]⟩, .string ⟨#[61]⟩] w fun e w' => e = .returned (.tuple #[.string ⟨#[78, 97, 109, 101]⟩, .string ⟨#[97]⟩, .bool true]) ∧ ∃ n, w' = w.drewN n := by
  go_enter Try.func85, Try.ntmps85
  go_wp2_with fail
  refine (cut94_n1 _).mono ?_
  rintro e w1 ⟨rfl, n, rfl⟩
  go_wp2
  go_ret3
  exact ⟨rfl, _, rfl⟩
theorem ext101_a (W : World) : (callFunc 101 #[.string ⟨#[97]⟩, .int .u8 0]).run Try.prog W = .ok (.value (.int .i64 (-1))) W := by
  kernel_rfl
set_option maxRecDepth 100000 in
set_option maxHeartbeats 4000000 in
theorem indexByte_a (w : World) : Calls Try.prog 89 #[.string ⟨#[97]⟩, .int .u8 0] w fun e w' => e = .returned (.int .i64 (-1)) ∧ w' = w := by
  have hx := ext101_a
  go_enter Try.func89, Try.ntmps89
  go_wp2
  go_ret
  exact ⟨rfl, rfl⟩
theorem ext101_me (W : World) : (callFunc 101 #[.string ⟨#[109, 101]⟩, .int .u8 0]).run Try.prog W = .ok (.value (.int .i64 (-1))) W := by
  kernel_rfl
set_option maxRecDepth 100000 in
set_option maxHeartbeats 4000000 in
theorem indexByte_me (w : World) : Calls Try.prog 89 #[.string ⟨#[109, 101]⟩, .int .u8 0] w fun e w' => e = .returned (.int .i64 (-1)) ∧ w' = w := by
  have hx := ext101_me
  go_enter Try.func89, Try.ntmps89
  go_wp2
  go_ret
  exact ⟨rfl, rfl⟩
end Go.Proofs.Ytfkhefoilancnaa
