/-
  The laws' array of bytes: what an order on it does.
-/
import Derived.WalkKit
import Derived.Handy
import Derived.BigQuiet
import Derived.Deep.QuietTactic
import Derived.Deep.RegionHeld3
import Derived.Deep.RegionWith
import Derived.Lib.Hide
import Derived.Test.YtfkhefoilancnaaTop
import Derived.Test.YtfkhefoilancnaaDesk
namespace Go.Proofs.Ytfkhefoilancnaa
open Go.RowKit
theorem size5' : (Try.prog.info? 5).map (·.size) = some 1 := by kernel_rfl
theorem arr55 : Try.prog.arrayLen 55 = 2560 := by simp [Program.arrayLen, Try.underlying55]
theorem el55 : Try.prog.elem 55 = 5 := by simp [Program.elem, Try.underlying55]
theorem und55 : Try.prog.underlying 55 = some (.array (Try.prog.arrayLen 55) (Try.prog.elem 55)) := by rw [arr55, el55]; exact Try.underlying55
theorem size_of_5 (W : World) : (sizeOf 5).run Try.prog W = .ok 1 W := by
  obtain ⟨i, hi, hz, hs, hb⟩ := info_parts info5'
  simp [sizeOf, typeInfo, hi, hs]
theorem slice_from (ab x : Nat) (hx : x < 40) (W : World) : (Instr.sliceAt 55 (.pointer (some ⟨ab, 0, none⟩)) (some (.int .i64 (64 * (x : Int)))) none none).run Try.prog W = .ok (.slice (some ⟨ab, x * 64, none⟩) (2560 - x * 64) (2560 - x * 64)) W := by
  rw [run_sliceAt_array_l W 55 _ und55 .i64 _ (by omega) (by rw [arr55]; omega), el55, size_of_5]
  have e : (64 * (x : Int)).toNat = x * 64 := by omega
  simp only [Result.andThen_ok, slicedAt, arr55, e, Nat.mul_one]
  rw [if_neg (by omega), addr_add, Nat.zero_add]
theorem slice_part (ab x n : Nat) (hx : x + n ≤ 40) : ∃ o, (1 ≤ n → o = x * 64) ∧ ∀ W, (Instr.sliceAt 55 (.pointer (some ⟨ab, 0, none⟩)) (some (.int .i64 (64 * (x : Int)))) (some (.int .i64 (64 * (x : Int) + 64 * n))) none).run Try.prog W = .ok (.slice (some ⟨ab, o, none⟩) (n * 64) (2560 - x * 64)) W := by
  have h := fun W => run_sliceAt_array_lh W 55 ⟨ab, 0, none⟩ und55 .i64 .i64 (64 * (x : Int)) (64 * (x : Int) + 64 * n) (by omega) (by omega) (by rw [arr55]; omega)
  simp only [el55, size_of_5] at h
  have e : (64 * (x : Int)).toNat = x * 64 := by omega
  have e2 : (64 * (x : Int) + 64 * n).toNat = (x + n) * 64 := by omega
  simp only [Result.andThen_ok, slicedAt, arr55, e, e2, Nat.mul_one] at h
  rw [show (x + n) * 64 - x * 64 = n * 64 by omega] at h
  by_cases h0 : 2560 = x * 64
  · have h0' : (x + n) * 64 = x * 64 := by omega
    refine ⟨0, by omega, fun W => ?_⟩
    rw [h W, if_pos h0]
  · simp only [if_neg h0, addr_add, Nat.zero_add] at h
    exact ⟨x * 64, fun _ => rfl, h⟩
set_option maxRecDepth 100000 in
set_option maxHeartbeats 4000000 in
theorem does_x (ab op x n : Nat) (hx : ¬ x + n ≤ 40) (ha : x < 4294967296) (hn : n ≤ 65536) (ba : Option Addr) (L bc : Nat) (w : World) :
    Calls Try.prog 18 #[.pointer (some ⟨ab, 0, none⟩), .agg #[.int .i64 op, .int .u64 x, .int .i64 n, .int .i64 0], .slice ba L bc] w fun e w' => e = .returned (.tuple #[.slice none 0 0, .bool false]) ∧ Mod [] w w' := by
  have k1 : (40 : Int) < (x : Int) + (n : Int) := by omega
  go_enter Try.func18, Try.ntmps18
  go_wp2
  go_ret2
  exact ⟨rfl, (Mod.refl _ _).alloc _⟩
set_option maxRecDepth 100000 in
set_option maxHeartbeats 4000000 in
theorem does_w_42 (ab x n : Nat) (hx : x + n ≤ 40) (w : World) (f : Nat → UInt8) (hA : w.heap[ab]? = some (.cells (rowOf 2560 f).toArray 57 (0, 0)))
    (ba : Option Addr) (bc : Nat) (data : List UInt8) (hdl : data.length = n * 64) (hb : Rds w ba data.length (data.map By)) :
    Calls Try.prog 18 #[.pointer (some ⟨ab, 0, none⟩), .agg #[.int .i64 42, .int .u64 x, .int .i64 n, .int .i64 0], .slice ba data.length bc] w fun e w' => e = .returned (.tuple #[.slice none 0 0, .bool true]) ∧
      w'.heap[ab]? = some (.cells (rowOf 2560 fun i => if x * 64 ≤ i ∧ i < (x + n) * 64 then dat data (i - x * 64) else f i).toArray 57 (0, 0)) ∧ Mod [ab] w w' := by
  have hA' : (w.alloc (.cells #[.int .i64 42, .int .u64 x, .int .i64 n, .int .i64 0] 40)).heap[ab]? = some (.cells (rowOf 2560 f).toArray 57 (0, 0)) := ((Mod.refl [] _).alloc _).blk hA (by simp)
  have hb' : Rds (w.alloc (.cells #[.int .i64 42, .int .u64 x, .int .i64 n, .int .i64 0] 40)) ba data.length (data.map By) := hb.mod0 ((Mod.refl [] _).alloc _)
  have k1 : ¬ (40 : Int) < (x : Int) + (n : Int) := by omega
  generalize hL : data.length = L at *
  subst hdl
  by_cases h0 : 0 < n * 64
  · have hsl := slice_from ab x (by omega)
    have h0' : (0 : Int) < (n : Int) * 64 := by omega
    go_enter Try.func18, Try.ntmps18
    go_wp2_with (with_reducible refine wpList_copyTo rfl (.tmp 27) (.tmp 28) 32 32 rfl 5 Try.underlying32 size5' ab (x * 64) _ _ _ _ _ rfl rfl (rowOf 2560 f) 57 ?_ (data.map By) ?_ (bytes_one _) ?_ ?_)
    · rw [rowOf_length]; omega
    intro w' hrow hm
    rw [List.take_of_length_le (by simp only [List.length_map, hL]; omega)] at hrow
    have hdr : data.map By = rowOf (n * 64) (dat data) := by rw [rowOf_eq_map, hL]; rfl
    rw [hdr, rowOf_splice (by omega)] at hrow
    go_wp2
    go_ret2
    refine ⟨rfl, ?_, (((Mod.refl [] _).alloc _).mono (by simp)).trans hm (fun t ht => .inl ht)⟩
    rw [hrow]
    congr 3
    apply rowOf_congr
    intro i hi
    rw [show x * 64 + n * 64 = (x + n) * 64 by omega]
  · obtain rfl : n = 0 := by omega
    go_enter Try.func18, Try.ntmps18
    go_wp2
    go_ret2
    refine ⟨rfl, ?_, ((Mod.refl [] _).alloc _).mono (by simp)⟩
    have hrow : w.heap[ab]? = some (.cells (rowOf 2560 fun i => if x * 64 ≤ i ∧ i < (x + 0) * 64 then dat data (i - x * 64) else f i).toArray 57 (0, 0)) := by
      rw [hA]
      congr 3
      apply rowOf_congr
      intro i hi
      rw [if_neg (by omega)]
    exact ((Mod.refl [] _).alloc _).blk hrow (by simp)
set_option maxRecDepth 100000 in
set_option maxHeartbeats 4000000 in
theorem does_r_40 (ab x n : Nat) (hx : x + n ≤ 40) (w : World) (f : Nat → UInt8) (hA : w.heap[ab]? = some (.cells (rowOf 2560 f).toArray 57 (0, 0))) :
    Calls Try.prog 18 #[.pointer (some ⟨ab, 0, none⟩), .agg #[.int .i64 40, .int .u64 x, .int .i64 n, .int .i64 0], .slice none 0 0] w fun e w' => ∃ ao cp, e = .returned (.tuple #[.slice ao (n * 64) cp, .bool true]) ∧
      Rds w' ao (n * 64) (rowOf (n * 64) fun i => f (x * 64 + i)) ∧ Mod [] w w' := by
  have hA' : ((w.alloc (.cells #[.int .i64 40, .int .u64 x, .int .i64 n, .int .i64 0] 40)).drew).heap[ab]? = some (.cells (rowOf 2560 f).toArray 57 (0, 0)) := (((Mod.refl [] _).alloc _).drew).blk hA (by simp)
  have k1 : ¬ (40 : Int) < (x : Int) + (n : Int) := by omega
  have hR : ∀ o, (1 ≤ n → o = x * 64) → Rds (w.alloc (.cells #[.int .i64 40, .int .u64 x, .int .i64 n, .int .i64 0] 40)).drew (some ⟨ab, o, none⟩) (n * 64) (rowOf (n * 64) fun i => f (x * 64 + i)) := by
    intro o ho
    refine ⟨rowOf_length _ _, fun hn => ⟨ab, o, rfl, blk_lt hA', fun j u hj => ?_⟩⟩
    rw [rowOf_get] at hj
    split at hj
    · rename_i hj'
      injection hj with hj
      subst hj
      rw [ho (by omega)]
      exact blk_cell hA' (by simp [rowOf_get]; omega)
    · cases hj
  obtain ⟨o, ho, hsl⟩ : ∃ o, (1 ≤ n → o = x * 64) ∧ ∀ W, (Instr.sliceAt 55 (.pointer (some ⟨ab, 0, none⟩)) (some (.int .i64 (64 * (x : Int)))) (some (.int .i64 (64 * (x : Int) + 64 * n))) none).run Try.prog W = .ok (.slice (some ⟨ab, o, none⟩) (n * 64) (2560 - x * 64)) W := slice_part ab x n hx
  have kw1 : IntKind.i64.wrap (64 * (n : Int)) = 64 * n := IntWalk.i64_in _ (by omega)
  have kw2 : IntKind.i64.wrap (64 * (x : Int) + 64 * (n : Int)) = 64 * x + 64 * n := IntWalk.i64_in _ (by omega)
  have hR' := hR o ho
  clear hR ho hA'
  go_enter Try.func18, Try.ntmps18
  go_wp2_with fail
  go_region_with (refine (copy_k _ (some ⟨ab, o, none⟩) (n * 64) (2560 - x * 64) _ (by omega) hR' (rowOf_one _ _)).mono ?_; rintro e w' ⟨ao, cp, rfl, hown, hm⟩)
  all_goals go_wp2
  all_goals go_ret2
  all_goals exact ⟨ao, cp, rfl, Rds.own hown, (((Mod.refl [] _).alloc _).drew).then0 hm⟩
set_option maxRecDepth 100000 in
set_option maxHeartbeats 4000000 in
theorem does_w_138 (ab x n : Nat) (hx : x + n ≤ 40) (w : World) (f : Nat → UInt8) (hA : w.heap[ab]? = some (.cells (rowOf 2560 f).toArray 57 (0, 0)))
    (ba : Option Addr) (bc : Nat) (data : List UInt8) (hdl : data.length = n * 64) (hb : Rds w ba data.length (data.map By)) :
    Calls Try.prog 18 #[.pointer (some ⟨ab, 0, none⟩), .agg #[.int .i64 138, .int .u64 x, .int .i64 n, .int .i64 0], .slice ba data.length bc] w fun e w' => e = .returned (.tuple #[.slice none 0 0, .bool true]) ∧
      w'.heap[ab]? = some (.cells (rowOf 2560 fun i => if x * 64 ≤ i ∧ i < (x + n) * 64 then dat data (i - x * 64) else f i).toArray 57 (0, 0)) ∧ Mod [ab] w w' := by
  have hA' : (w.alloc (.cells #[.int .i64 138, .int .u64 x, .int .i64 n, .int .i64 0] 40)).heap[ab]? = some (.cells (rowOf 2560 f).toArray 57 (0, 0)) := ((Mod.refl [] _).alloc _).blk hA (by simp)
  have hb' : Rds (w.alloc (.cells #[.int .i64 138, .int .u64 x, .int .i64 n, .int .i64 0] 40)) ba data.length (data.map By) := hb.mod0 ((Mod.refl [] _).alloc _)
  have k1 : ¬ (40 : Int) < (x : Int) + (n : Int) := by omega
  generalize hL : data.length = L at *
  subst hdl
  by_cases h0 : 0 < n * 64
  · have hsl := slice_from ab x (by omega)
    have h0' : (0 : Int) < (n : Int) * 64 := by omega
    go_enter Try.func18, Try.ntmps18
    go_wp2_with (with_reducible refine wpList_copyTo rfl (.tmp 27) (.tmp 28) 32 32 rfl 5 Try.underlying32 size5' ab (x * 64) _ _ _ _ _ rfl rfl (rowOf 2560 f) 57 ?_ (data.map By) ?_ (bytes_one _) ?_ ?_)
    · rw [rowOf_length]; omega
    intro w' hrow hm
    rw [List.take_of_length_le (by simp only [List.length_map, hL]; omega)] at hrow
    have hdr : data.map By = rowOf (n * 64) (dat data) := by rw [rowOf_eq_map, hL]; rfl
    rw [hdr, rowOf_splice (by omega)] at hrow
    go_wp2
    go_ret2
    refine ⟨rfl, ?_, (((Mod.refl [] _).alloc _).mono (by simp)).trans hm (fun t ht => .inl ht)⟩
    rw [hrow]
    congr 3
    apply rowOf_congr
    intro i hi
    rw [show x * 64 + n * 64 = (x + n) * 64 by omega]
  · obtain rfl : n = 0 := by omega
    go_enter Try.func18, Try.ntmps18
    go_wp2
    go_ret2
    refine ⟨rfl, ?_, ((Mod.refl [] _).alloc _).mono (by simp)⟩
    have hrow : w.heap[ab]? = some (.cells (rowOf 2560 fun i => if x * 64 ≤ i ∧ i < (x + 0) * 64 then dat data (i - x * 64) else f i).toArray 57 (0, 0)) := by
      rw [hA]
      congr 3
      apply rowOf_congr
      intro i hi
      rw [if_neg (by omega)]
    exact ((Mod.refl [] _).alloc _).blk hrow (by simp)
set_option maxRecDepth 100000 in
set_option maxHeartbeats 4000000 in
theorem does_r_136 (ab x n : Nat) (hx : x + n ≤ 40) (w : World) (f : Nat → UInt8) (hA : w.heap[ab]? = some (.cells (rowOf 2560 f).toArray 57 (0, 0))) :
    Calls Try.prog 18 #[.pointer (some ⟨ab, 0, none⟩), .agg #[.int .i64 136, .int .u64 x, .int .i64 n, .int .i64 0], .slice none 0 0] w fun e w' => ∃ ao cp, e = .returned (.tuple #[.slice ao (n * 64) cp, .bool true]) ∧
      Rds w' ao (n * 64) (rowOf (n * 64) fun i => f (x * 64 + i)) ∧ Mod [] w w' := by
  have hA' : ((w.alloc (.cells #[.int .i64 136, .int .u64 x, .int .i64 n, .int .i64 0] 40)).drew).heap[ab]? = some (.cells (rowOf 2560 f).toArray 57 (0, 0)) := (((Mod.refl [] _).alloc _).drew).blk hA (by simp)
  have k1 : ¬ (40 : Int) < (x : Int) + (n : Int) := by omega
  have hR : ∀ o, (1 ≤ n → o = x * 64) → Rds (w.alloc (.cells #[.int .i64 136, .int .u64 x, .int .i64 n, .int .i64 0] 40)).drew (some ⟨ab, o, none⟩) (n * 64) (rowOf (n * 64) fun i => f (x * 64 + i)) := by
    intro o ho
    refine ⟨rowOf_length _ _, fun hn => ⟨ab, o, rfl, blk_lt hA', fun j u hj => ?_⟩⟩
    rw [rowOf_get] at hj
    split at hj
    · rename_i hj'
      injection hj with hj
      subst hj
      rw [ho (by omega)]
      exact blk_cell hA' (by simp [rowOf_get]; omega)
    · cases hj
  obtain ⟨o, ho, hsl⟩ : ∃ o, (1 ≤ n → o = x * 64) ∧ ∀ W, (Instr.sliceAt 55 (.pointer (some ⟨ab, 0, none⟩)) (some (.int .i64 (64 * (x : Int)))) (some (.int .i64 (64 * (x : Int) + 64 * n))) none).run Try.prog W = .ok (.slice (some ⟨ab, o, none⟩) (n * 64) (2560 - x * 64)) W := slice_part ab x n hx
  have kw1 : IntKind.i64.wrap (64 * (n : Int)) = 64 * n := IntWalk.i64_in _ (by omega)
  have kw2 : IntKind.i64.wrap (64 * (x : Int) + 64 * (n : Int)) = 64 * x + 64 * n := IntWalk.i64_in _ (by omega)
  have hR' := hR o ho
  clear hR ho hA'
  go_enter Try.func18, Try.ntmps18
  go_wp2_with fail
  go_region_with (refine (copy_k _ (some ⟨ab, o, none⟩) (n * 64) (2560 - x * 64) _ (by omega) hR' (rowOf_one _ _)).mono ?_; rintro e w' ⟨ao, cp, rfl, hown, hm⟩)
  all_goals go_wp2
  all_goals go_ret2
  all_goals exact ⟨ao, cp, rfl, Rds.own hown, (((Mod.refl [] _).alloc _).drew).then0 hm⟩
end Go.Proofs.Ytfkhefoilancnaa
