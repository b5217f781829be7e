/-
  Desk.Do at the shape 40/10/2/5: a write in range, a read in range, a range beyond the end.
-/
import Derived.WalkKit
import Derived.Handy
import Derived.BigQuiet
import Derived.Deep.QuietTactic
import Derived.Deep.RegionHeld3
import Derived.Lib.Hide
import Derived.Test.YtfkhefoilancnaaMove
import Derived.Test.YtfkhefoilancnaaCheck
import Derived.Test.YtfkhefoilancnaaDoKeep
namespace Go.Proofs.Ytfkhefoilancnaa
open Go.RowKit
set_option maxRecDepth 100000 in
set_option maxHeartbeats 4000000 in
theorem do_w_42_2 (w : World) (d : Nat) (G : Gh) (hD : DeskAt sh2 w d G) (x n : Nat) (hx : x + n ≤ 40) (ba : Option Addr) (bc : Nat) (data : List UInt8) (hdl : data.length = n * 64) (hb : Rds w ba data.length (data.map By)) (hbc : data.length ≤ bc) (ho : Off G.gs ba data.length) :
    Calls Try.prog 22 #[.pointer (some ⟨d, 0, none⟩), .agg #[.int .i64 42, .int .u64 x, .int .i64 n, .int .i64 0], .slice ba data.length bc] w
    fun e w' => e = .returned (.tuple #[.slice none 0 0, .agg #[.int .u8 0, .int .u16 0]]) ∧ (∃ ps, Good wh2 x ps n ∧ DeskAt sh2 w' d (G.setVol (wrAll data G.vol ps))) ∧ Mod G.gs w w' := by
  have n0 : ¬ ((data.length : Int) < 0) := by omega
  go_enter Try.func22, Try.ntmps22
  go_wp2_with fail
  refine (check_42 x n (by omega) (by omega) _).mono ?_
  rintro e w1 ⟨rfl, hm⟩
  have hB : w1.heap[w.heap.size]? = some (.cells #[.int .i64 42, .int .u64 x, .int .i64 n, .int .i64 0] 40 (0, 0)) := hm.blk (((Mod.refl [] _).alloc _).blk (blk_alloc _ _ _) (by simp)) (by simp)
  have hR : w1.heap[w.heap.size + 1]? = some (.cells #[.int .u8 0, .int .u16 0] 70 (0, 0)) := hm.blk (heap_alloc_new' _ _ _ (by simp)) (by simp)
  have hD1 : DeskAt sh2 w1 d G := hD.mod0 ((((Mod.refl [] _).alloc _).alloc _).then0 hm)
  have b0 := blk_cell (i := 0) hB rfl
  have b1 := blk_cell (i := 1) hB rfl
  have b2 := blk_cell (i := 2) hB rfl
  have e0 := hD1.cell (i := 0) rfl
  have e1 := hD1.cell (i := 1) rfl
  have e2 := hD1.cell (i := 2) rfl
  have e3 := hD1.cell (i := 3) rfl
  go_wp2_with fail
  all_goals
    go_region_held3 (fun w' => Mod [] w1 w' ∧ w.heap.size < w'.heap.size ∧ d < w'.heap.size ∧ w'.cell? ⟨w.heap.size, 1, none⟩ = some (.int .u64 x) ∧ w'.cell? ⟨w.heap.size, 2, none⟩ = some (.int .i64 n) ∧
        w'.cell? ⟨d, 0, none⟩ = some (.int .u64 40) ∧ w'.cell? ⟨d, 1, none⟩ = some (.int .i64 10) ∧ w'.cell? ⟨d, 2, none⟩ = some (.int .i64 2) ∧ w'.cell? ⟨d, 3, none⟩ = some (.int .i64 5))
      (first | exact ⟨(Mod.refl _ _).drew, blk_lt hB, blk_lt hD1.desk, b1, b2, e0, e1, e2, e3⟩ | exact keep_do (by assumption) (by assumption))
      (first | (go_at_call_of 47 (Value.agg #[Value.int .u64 40, Value.int .i64 10, Value.int .i64 2, Value.int .i64 5]); refine (split_2 x n hx _).mono ?_; rintro e w2 ⟨v, ps, rfl, hown, hgood, hm2⟩))
    have hB2 := hm2.blk (((Mod.refl [] w1).drew).blk hB (by simp)) (by simp)
    have hR2 := hm2.blk (((Mod.refl [] w1).drew).blk hR (by simp)) (by simp)
    have hm02 : Mod [] w w2 := ((((Mod.refl [] _).alloc _).alloc _).then0 hm).drew.then0 hm2
    have c0 : w2.cell? ⟨w.heap.size, 0, none⟩ = some (.int .i64 42) := blk_cell hB2 rfl
    obtain ⟨la, lc, rfl⟩ := own_form hown
    have hmv := move_in_2 w2 d G (hD.mod0 hm02) _ la lc ps hown x n hx hgood ba bc data hdl (hb.mod0 hm02) hbc ho
    rw [hdl] at hmv
    go_wp2_with fail
    refine hmv.mono ?_
    rintro e w3 ⟨rfl, hD3, hm3⟩
    have hR3 := hm3.blk hR2 (fun hin => by
      obtain ⟨i, _, hc⟩ := hD1.gs_chunk hin
      exact DeskAt.blk_ne hR hc (by decide) rfl)
    have f0 := blk_frozen hR3 0
    have f1 := blk_frozen hR3 1
    have f2 := blk_lt hR3
    have f3 := blk_cell (i := 0) hR3 rfl
    have f4 := blk_cell (i := 1) hR3 rfl
    clear hmv
    go_wp2
    have hs := sense_set (u := .int .u8 0) (v := .int .u16 0) hR3
    have hh := hD.high (r := w.heap.size + 1) (by omega)
    exact bodyPost_ret (res_tmp_cell _ _ (w.heap.size + 1) 70 _ rfl hs.1 Try.underlying70 info70 rfl) rfl ⟨rfl, ⟨ps, hgood, hD3.mod hs.2 hh.1 hh.2.1 hh.2.2.1 hh.2.2.2⟩,
      ((hm02.mono (by simp)).trans hm3 (fun t ht => .inl ht)).trans hs.2 (by simp)⟩
set_option maxRecDepth 100000 in
set_option maxHeartbeats 4000000 in
theorem do_w_138_2 (w : World) (d : Nat) (G : Gh) (hD : DeskAt sh2 w d G) (x n : Nat) (hx : x + n ≤ 40) (ba : Option Addr) (bc : Nat) (data : List UInt8) (hdl : data.length = n * 64) (hb : Rds w ba data.length (data.map By)) (hbc : data.length ≤ bc) (ho : Off G.gs ba data.length) :
    Calls Try.prog 22 #[.pointer (some ⟨d, 0, none⟩), .agg #[.int .i64 138, .int .u64 x, .int .i64 n, .int .i64 0], .slice ba data.length bc] w
    fun e w' => e = .returned (.tuple #[.slice none 0 0, .agg #[.int .u8 0, .int .u16 0]]) ∧ (∃ ps, Good wh2 x ps n ∧ DeskAt sh2 w' d (G.setVol (wrAll data G.vol ps))) ∧ Mod G.gs w w' := by
  have n0 : ¬ ((data.length : Int) < 0) := by omega
  go_enter Try.func22, Try.ntmps22
  go_wp2_with fail
  refine (check_138 x n (by omega) (by omega) _).mono ?_
  rintro e w1 ⟨rfl, hm⟩
  have hB : w1.heap[w.heap.size]? = some (.cells #[.int .i64 138, .int .u64 x, .int .i64 n, .int .i64 0] 40 (0, 0)) := hm.blk (((Mod.refl [] _).alloc _).blk (blk_alloc _ _ _) (by simp)) (by simp)
  have hR : w1.heap[w.heap.size + 1]? = some (.cells #[.int .u8 0, .int .u16 0] 70 (0, 0)) := hm.blk (heap_alloc_new' _ _ _ (by simp)) (by simp)
  have hD1 : DeskAt sh2 w1 d G := hD.mod0 ((((Mod.refl [] _).alloc _).alloc _).then0 hm)
  have b0 := blk_cell (i := 0) hB rfl
  have b1 := blk_cell (i := 1) hB rfl
  have b2 := blk_cell (i := 2) hB rfl
  have e0 := hD1.cell (i := 0) rfl
  have e1 := hD1.cell (i := 1) rfl
  have e2 := hD1.cell (i := 2) rfl
  have e3 := hD1.cell (i := 3) rfl
  go_wp2_with fail
  all_goals
    go_region_held3 (fun w' => Mod [] w1 w' ∧ w.heap.size < w'.heap.size ∧ d < w'.heap.size ∧ w'.cell? ⟨w.heap.size, 1, none⟩ = some (.int .u64 x) ∧ w'.cell? ⟨w.heap.size, 2, none⟩ = some (.int .i64 n) ∧
        w'.cell? ⟨d, 0, none⟩ = some (.int .u64 40) ∧ w'.cell? ⟨d, 1, none⟩ = some (.int .i64 10) ∧ w'.cell? ⟨d, 2, none⟩ = some (.int .i64 2) ∧ w'.cell? ⟨d, 3, none⟩ = some (.int .i64 5))
      (first | exact ⟨(Mod.refl _ _).drew, blk_lt hB, blk_lt hD1.desk, b1, b2, e0, e1, e2, e3⟩ | exact keep_do (by assumption) (by assumption))
      (first | (go_at_call_of 47 (Value.agg #[Value.int .u64 40, Value.int .i64 10, Value.int .i64 2, Value.int .i64 5]); refine (split_2 x n hx _).mono ?_; rintro e w2 ⟨v, ps, rfl, hown, hgood, hm2⟩))
    have hB2 := hm2.blk (((Mod.refl [] w1).drew).blk hB (by simp)) (by simp)
    have hR2 := hm2.blk (((Mod.refl [] w1).drew).blk hR (by simp)) (by simp)
    have hm02 : Mod [] w w2 := ((((Mod.refl [] _).alloc _).alloc _).then0 hm).drew.then0 hm2
    have c0 : w2.cell? ⟨w.heap.size, 0, none⟩ = some (.int .i64 138) := blk_cell hB2 rfl
    obtain ⟨la, lc, rfl⟩ := own_form hown
    have hmv := move_in_2 w2 d G (hD.mod0 hm02) _ la lc ps hown x n hx hgood ba bc data hdl (hb.mod0 hm02) hbc ho
    rw [hdl] at hmv
    go_wp2_with fail
    refine hmv.mono ?_
    rintro e w3 ⟨rfl, hD3, hm3⟩
    have hR3 := hm3.blk hR2 (fun hin => by
      obtain ⟨i, _, hc⟩ := hD1.gs_chunk hin
      exact DeskAt.blk_ne hR hc (by decide) rfl)
    have f0 := blk_frozen hR3 0
    have f1 := blk_frozen hR3 1
    have f2 := blk_lt hR3
    have f3 := blk_cell (i := 0) hR3 rfl
    have f4 := blk_cell (i := 1) hR3 rfl
    clear hmv
    go_wp2
    have hs := sense_set (u := .int .u8 0) (v := .int .u16 0) hR3
    have hh := hD.high (r := w.heap.size + 1) (by omega)
    exact bodyPost_ret (res_tmp_cell _ _ (w.heap.size + 1) 70 _ rfl hs.1 Try.underlying70 info70 rfl) rfl ⟨rfl, ⟨ps, hgood, hD3.mod hs.2 hh.1 hh.2.1 hh.2.2.1 hh.2.2.2⟩,
      ((hm02.mono (by simp)).trans hm3 (fun t ht => .inl ht)).trans hs.2 (by simp)⟩
set_option maxRecDepth 100000 in
set_option maxHeartbeats 4000000 in
theorem do_r_40_2 (w : World) (d : Nat) (G : Gh) (hD : DeskAt sh2 w d G) (x n : Nat) (hx : x + n ≤ 40) :
    Calls Try.prog 22 #[.pointer (some ⟨d, 0, none⟩), .agg #[.int .i64 40, .int .u64 x, .int .i64 n, .int .i64 0], .slice none 0 0] w
    fun e w' => ∃ gb ps N, N = n * 64 ∧ e = .returned (.tuple #[.slice (some ⟨gb, 0, none⟩) N N, .agg #[.int .u8 0, .int .u16 0]]) ∧ w.heap.size ≤ gb ∧ Good wh2 x ps n ∧
      w'.heap[gb]? = some (.cells (rowOf N (rdAll G.vol (fun _ => 0) ps)).toArray 5 (0, 0)) ∧ Mod [] w w' := by
  obtain ⟨N, hN⟩ : ∃ N, N = n * 64 := ⟨_, rfl⟩
  have kN : IntKind.i64.wrap ((n : Int) * 64) = (N : Int) := by rw [IntWalk.i64_in _ (by omega)]; omega
  have hmk : ∀ w : World, (Instr.makeSlice 32 (.int .i64 (N : Int)) (.int .i64 (N : Int))).run Try.prog w = .ok (.slice (some ⟨w.heap.size, 0, none⟩) N N) (w.alloc (.cells (rowOf N fun _ => 0).toArray 5)) :=
    fun w => run_make_bytes w 32 5 Try.underlying32 info5 N (by omega) .i64 .i64
  go_enter Try.func22, Try.ntmps22
  go_wp2_with fail
  refine (check_40 x n (by omega) (by omega) _).mono ?_
  rintro e w1 ⟨rfl, hm⟩
  have hB : w1.heap[w.heap.size]? = some (.cells #[.int .i64 40, .int .u64 x, .int .i64 n, .int .i64 0] 40 (0, 0)) := hm.blk (((Mod.refl [] _).alloc _).blk (blk_alloc _ _ _) (by simp)) (by simp)
  have hR : w1.heap[w.heap.size + 1]? = some (.cells #[.int .u8 0, .int .u16 0] 70 (0, 0)) := hm.blk (heap_alloc_new' _ _ _ (by simp)) (by simp)
  have hD1 : DeskAt sh2 w1 d G := hD.mod0 ((((Mod.refl [] _).alloc _).alloc _).then0 hm)
  have b0 := blk_cell (i := 0) hB rfl
  have b1 := blk_cell (i := 1) hB rfl
  have b2 := blk_cell (i := 2) hB rfl
  have e0 := hD1.cell (i := 0) rfl
  have e1 := hD1.cell (i := 1) rfl
  have e2 := hD1.cell (i := 2) rfl
  have e3 := hD1.cell (i := 3) rfl
  go_wp2_with fail
  all_goals
    go_region_held3 (fun w' => Mod [] w1 w' ∧ w.heap.size < w'.heap.size ∧ d < w'.heap.size ∧ w'.cell? ⟨w.heap.size, 1, none⟩ = some (.int .u64 x) ∧ w'.cell? ⟨w.heap.size, 2, none⟩ = some (.int .i64 n) ∧
        w'.cell? ⟨d, 0, none⟩ = some (.int .u64 40) ∧ w'.cell? ⟨d, 1, none⟩ = some (.int .i64 10) ∧ w'.cell? ⟨d, 2, none⟩ = some (.int .i64 2) ∧ w'.cell? ⟨d, 3, none⟩ = some (.int .i64 5))
      (first | exact ⟨(Mod.refl _ _).drew, blk_lt hB, blk_lt hD1.desk, b1, b2, e0, e1, e2, e3⟩ | exact keep_do (by assumption) (by assumption))
      (first | (go_at_call_of 47 (Value.agg #[Value.int .u64 40, Value.int .i64 10, Value.int .i64 2, Value.int .i64 5]); refine (split_2 x n hx _).mono ?_; rintro e w2 ⟨v, ps, rfl, hown, hgood, hm2⟩))
    have hB2 := hm2.blk (((Mod.refl [] w1).drew).blk hB (by simp)) (by simp)
    have hR2 := hm2.blk (((Mod.refl [] w1).drew).blk hR (by simp)) (by simp)
    have hm02 : Mod [] w w2 := ((((Mod.refl [] _).alloc _).alloc _).then0 hm).drew.then0 hm2
    have c0 : w2.cell? ⟨w.heap.size, 0, none⟩ = some (.int .i64 40) := blk_cell hB2 rfl
    have c2 : w2.cell? ⟨w.heap.size, 2, none⟩ = some (.int .i64 n) := blk_cell hB2 rfl
    obtain ⟨la, lc, rfl⟩ := own_form hown
    have hA : Mod [] w2 (w2.alloc (.cells (rowOf N fun _ => 0).toArray 5)) := (Mod.refl _ _).alloc _
    have hlt : w.heap.size ≤ w2.heap.size := hm02.size
    have hmv := move_out_2 _ d G (hD.mod0 (hm02.then0 hA)) _ la lc ps (hA.own0 hown) x n hx hgood w2.heap.size N hN _ (blk_alloc w2 _ _) (fun hin => by
      obtain ⟨i, _, hc⟩ := hD.gs_chunk hin
      have := blk_lt hc
      omega)
    have hNN := Lib.hid hN
    clear hN
    go_wp2_with fail
    refine hmv.mono ?_
    rintro e w3 ⟨rfl, hrow, hm3⟩
    have hR3 := hm3.blk (hA.blk hR2 (by simp)) (by
      have := blk_lt hR2
      simp; omega)
    have f0 := blk_frozen hR3 0
    have f1 := blk_frozen hR3 1
    have f2 := blk_lt hR3
    have f3 := blk_cell (i := 0) hR3 rfl
    have f4 := blk_cell (i := 1) hR3 rfl
    clear hmv
    go_wp2
    have hs := sense_set (u := .int .u8 0) (v := .int .u16 0) hR3
    have hne := blk_lt hR2
    exact bodyPost_ret (res_tmp_cell _ _ (w.heap.size + 1) 70 _ rfl hs.1 Try.underlying70 info70 rfl) rfl ⟨w2.heap.size, ps, N, hNN.out, rfl, hlt, hgood, hs.2.blk hrow (by simp; omega),
      ((hm02.then0 hA).trans hm3 (by simp; omega)).trans hs.2 (by simp)⟩
set_option maxRecDepth 100000 in
set_option maxHeartbeats 4000000 in
theorem do_r_136_2 (w : World) (d : Nat) (G : Gh) (hD : DeskAt sh2 w d G) (x n : Nat) (hx : x + n ≤ 40) :
    Calls Try.prog 22 #[.pointer (some ⟨d, 0, none⟩), .agg #[.int .i64 136, .int .u64 x, .int .i64 n, .int .i64 0], .slice none 0 0] w
    fun e w' => ∃ gb ps N, N = n * 64 ∧ e = .returned (.tuple #[.slice (some ⟨gb, 0, none⟩) N N, .agg #[.int .u8 0, .int .u16 0]]) ∧ w.heap.size ≤ gb ∧ Good wh2 x ps n ∧
      w'.heap[gb]? = some (.cells (rowOf N (rdAll G.vol (fun _ => 0) ps)).toArray 5 (0, 0)) ∧ Mod [] w w' := by
  obtain ⟨N, hN⟩ : ∃ N, N = n * 64 := ⟨_, rfl⟩
  have kN : IntKind.i64.wrap ((n : Int) * 64) = (N : Int) := by rw [IntWalk.i64_in _ (by omega)]; omega
  have hmk : ∀ w : World, (Instr.makeSlice 32 (.int .i64 (N : Int)) (.int .i64 (N : Int))).run Try.prog w = .ok (.slice (some ⟨w.heap.size, 0, none⟩) N N) (w.alloc (.cells (rowOf N fun _ => 0).toArray 5)) :=
    fun w => run_make_bytes w 32 5 Try.underlying32 info5 N (by omega) .i64 .i64
  go_enter Try.func22, Try.ntmps22
  go_wp2_with fail
  refine (check_136 x n (by omega) (by omega) _).mono ?_
  rintro e w1 ⟨rfl, hm⟩
  have hB : w1.heap[w.heap.size]? = some (.cells #[.int .i64 136, .int .u64 x, .int .i64 n, .int .i64 0] 40 (0, 0)) := hm.blk (((Mod.refl [] _).alloc _).blk (blk_alloc _ _ _) (by simp)) (by simp)
  have hR : w1.heap[w.heap.size + 1]? = some (.cells #[.int .u8 0, .int .u16 0] 70 (0, 0)) := hm.blk (heap_alloc_new' _ _ _ (by simp)) (by simp)
  have hD1 : DeskAt sh2 w1 d G := hD.mod0 ((((Mod.refl [] _).alloc _).alloc _).then0 hm)
  have b0 := blk_cell (i := 0) hB rfl
  have b1 := blk_cell (i := 1) hB rfl
  have b2 := blk_cell (i := 2) hB rfl
  have e0 := hD1.cell (i := 0) rfl
  have e1 := hD1.cell (i := 1) rfl
  have e2 := hD1.cell (i := 2) rfl
  have e3 := hD1.cell (i := 3) rfl
  go_wp2_with fail
  all_goals
    go_region_held3 (fun w' => Mod [] w1 w' ∧ w.heap.size < w'.heap.size ∧ d < w'.heap.size ∧ w'.cell? ⟨w.heap.size, 1, none⟩ = some (.int .u64 x) ∧ w'.cell? ⟨w.heap.size, 2, none⟩ = some (.int .i64 n) ∧
        w'.cell? ⟨d, 0, none⟩ = some (.int .u64 40) ∧ w'.cell? ⟨d, 1, none⟩ = some (.int .i64 10) ∧ w'.cell? ⟨d, 2, none⟩ = some (.int .i64 2) ∧ w'.cell? ⟨d, 3, none⟩ = some (.int .i64 5))
      (first | exact ⟨(Mod.refl _ _).drew, blk_lt hB, blk_lt hD1.desk, b1, b2, e0, e1, e2, e3⟩ | exact keep_do (by assumption) (by assumption))
      (first | (go_at_call_of 47 (Value.agg #[Value.int .u64 40, Value.int .i64 10, Value.int .i64 2, Value.int .i64 5]); refine (split_2 x n hx _).mono ?_; rintro e w2 ⟨v, ps, rfl, hown, hgood, hm2⟩))
    have hB2 := hm2.blk (((Mod.refl [] w1).drew).blk hB (by simp)) (by simp)
    have hR2 := hm2.blk (((Mod.refl [] w1).drew).blk hR (by simp)) (by simp)
    have hm02 : Mod [] w w2 := ((((Mod.refl [] _).alloc _).alloc _).then0 hm).drew.then0 hm2
    have c0 : w2.cell? ⟨w.heap.size, 0, none⟩ = some (.int .i64 136) := blk_cell hB2 rfl
    have c2 : w2.cell? ⟨w.heap.size, 2, none⟩ = some (.int .i64 n) := blk_cell hB2 rfl
    obtain ⟨la, lc, rfl⟩ := own_form hown
    have hA : Mod [] w2 (w2.alloc (.cells (rowOf N fun _ => 0).toArray 5)) := (Mod.refl _ _).alloc _
    have hlt : w.heap.size ≤ w2.heap.size := hm02.size
    have hmv := move_out_2 _ d G (hD.mod0 (hm02.then0 hA)) _ la lc ps (hA.own0 hown) x n hx hgood w2.heap.size N hN _ (blk_alloc w2 _ _) (fun hin => by
      obtain ⟨i, _, hc⟩ := hD.gs_chunk hin
      have := blk_lt hc
      omega)
    have hNN := Lib.hid hN
    clear hN
    go_wp2_with fail
    refine hmv.mono ?_
    rintro e w3 ⟨rfl, hrow, hm3⟩
    have hR3 := hm3.blk (hA.blk hR2 (by simp)) (by
      have := blk_lt hR2
      simp; omega)
    have f0 := blk_frozen hR3 0
    have f1 := blk_frozen hR3 1
    have f2 := blk_lt hR3
    have f3 := blk_cell (i := 0) hR3 rfl
    have f4 := blk_cell (i := 1) hR3 rfl
    clear hmv
    go_wp2
    have hs := sense_set (u := .int .u8 0) (v := .int .u16 0) hR3
    have hne := blk_lt hR2
    exact bodyPost_ret (res_tmp_cell _ _ (w.heap.size + 1) 70 _ rfl hs.1 Try.underlying70 info70 rfl) rfl ⟨w2.heap.size, ps, N, hNN.out, rfl, hlt, hgood, hs.2.blk hrow (by simp; omega),
      ((hm02.then0 hA).trans hm3 (by simp; omega)).trans hs.2 (by simp)⟩
set_option maxRecDepth 100000 in
set_option maxHeartbeats 4000000 in
theorem do_x_42_2 (w : World) (d : Nat) (G : Gh) (hD : DeskAt sh2 w d G) (x n : Nat) (hx : ¬ x + n ≤ 40) (ha : x < 4294967296) (hn : n ≤ 65535) (ba : Option Addr) (L bc : Nat) :
    Calls Try.prog 22 #[.pointer (some ⟨d, 0, none⟩), .agg #[.int .i64 42, .int .u64 x, .int .i64 n, .int .i64 0], .slice ba L bc] w
    fun e w' => e = .returned (.tuple #[.slice none 0 0, .agg #[.int .u8 5, .int .u16 8448]]) ∧ Mod [] w w' := by
  have n0 : ¬ ((L : Int) < 0) := by omega
  go_enter Try.func22, Try.ntmps22
  go_wp2_with fail
  refine (check_42 x n (by omega) (by omega) _).mono ?_
  rintro e w1 ⟨rfl, hm⟩
  have hB : w1.heap[w.heap.size]? = some (.cells #[.int .i64 42, .int .u64 x, .int .i64 n, .int .i64 0] 40 (0, 0)) := hm.blk (((Mod.refl [] _).alloc _).blk (blk_alloc _ _ _) (by simp)) (by simp)
  have hR : w1.heap[w.heap.size + 1]? = some (.cells #[.int .u8 0, .int .u16 0] 70 (0, 0)) := hm.blk (heap_alloc_new' _ _ _ (by simp)) (by simp)
  have hD1 : DeskAt sh2 w1 d G := hD.mod0 ((((Mod.refl [] _).alloc _).alloc _).then0 hm)
  have b0 := blk_cell (i := 0) hB rfl
  have b1 := blk_cell (i := 1) hB rfl
  have b2 := blk_cell (i := 2) hB rfl
  have e0 := hD1.cell (i := 0) rfl
  have e1 := hD1.cell (i := 1) rfl
  have e2 := hD1.cell (i := 2) rfl
  have e3 := hD1.cell (i := 3) rfl
  go_wp2_with fail
  all_goals
    go_region_held3 (fun w' => Mod [] w1 w' ∧ w.heap.size < w'.heap.size ∧ d < w'.heap.size ∧ w'.cell? ⟨w.heap.size, 1, none⟩ = some (.int .u64 x) ∧ w'.cell? ⟨w.heap.size, 2, none⟩ = some (.int .i64 n) ∧
        w'.cell? ⟨d, 0, none⟩ = some (.int .u64 40) ∧ w'.cell? ⟨d, 1, none⟩ = some (.int .i64 10) ∧ w'.cell? ⟨d, 2, none⟩ = some (.int .i64 2) ∧ w'.cell? ⟨d, 3, none⟩ = some (.int .i64 5))
      (first | exact ⟨(Mod.refl _ _).drew, blk_lt hB, blk_lt hD1.desk, b1, b2, e0, e1, e2, e3⟩ | exact keep_do (by assumption) (by assumption))
      (first | (go_at_call_of 47 (Value.agg #[Value.int .u64 40, Value.int .i64 10, Value.int .i64 2, Value.int .i64 5]); refine (oor_2 x n ha (by omega) hx _).mono ?_; rintro e w2 ⟨rfl, hm2⟩))
    have hR2 := hm2.blk (((Mod.refl [] w1).drew).blk hR (by simp)) (by simp)
    have hm02 : Mod [] w w2 := ((((Mod.refl [] _).alloc _).alloc _).then0 hm).drew.then0 hm2
    go_wp2_with fail
    refine (noLba_k _).mono ?_
    rintro e w3 ⟨rfl, hm3⟩
    have hR3 := hm3.blk hR2 (by simp)
    have f0 := blk_frozen hR3 0
    have f1 := blk_frozen hR3 1
    have f2 := blk_lt hR3
    have f3 := blk_cell (i := 0) hR3 rfl
    have f4 := blk_cell (i := 1) hR3 rfl
    go_wp2
    have hs := sense_set (u := .int .u8 5) (v := .int .u16 8448) hR3
    exact bodyPost_ret (res_tmp_cell _ _ (w.heap.size + 1) 70 _ rfl hs.1 Try.underlying70 info70 rfl) rfl ⟨rfl, (hm02.then0 hm3).trans hs.2 (by simp)⟩
set_option maxRecDepth 100000 in
set_option maxHeartbeats 4000000 in
theorem do_x_138_2 (w : World) (d : Nat) (G : Gh) (hD : DeskAt sh2 w d G) (x n : Nat) (hx : ¬ x + n ≤ 40) (ha : x < 4294967296) (hn : n ≤ 65535) (ba : Option Addr) (L bc : Nat) :
    Calls Try.prog 22 #[.pointer (some ⟨d, 0, none⟩), .agg #[.int .i64 138, .int .u64 x, .int .i64 n, .int .i64 0], .slice ba L bc] w
    fun e w' => e = .returned (.tuple #[.slice none 0 0, .agg #[.int .u8 5, .int .u16 8448]]) ∧ Mod [] w w' := by
  have n0 : ¬ ((L : Int) < 0) := by omega
  go_enter Try.func22, Try.ntmps22
  go_wp2_with fail
  refine (check_138 x n (by omega) (by omega) _).mono ?_
  rintro e w1 ⟨rfl, hm⟩
  have hB : w1.heap[w.heap.size]? = some (.cells #[.int .i64 138, .int .u64 x, .int .i64 n, .int .i64 0] 40 (0, 0)) := hm.blk (((Mod.refl [] _).alloc _).blk (blk_alloc _ _ _) (by simp)) (by simp)
  have hR : w1.heap[w.heap.size + 1]? = some (.cells #[.int .u8 0, .int .u16 0] 70 (0, 0)) := hm.blk (heap_alloc_new' _ _ _ (by simp)) (by simp)
  have hD1 : DeskAt sh2 w1 d G := hD.mod0 ((((Mod.refl [] _).alloc _).alloc _).then0 hm)
  have b0 := blk_cell (i := 0) hB rfl
  have b1 := blk_cell (i := 1) hB rfl
  have b2 := blk_cell (i := 2) hB rfl
  have e0 := hD1.cell (i := 0) rfl
  have e1 := hD1.cell (i := 1) rfl
  have e2 := hD1.cell (i := 2) rfl
  have e3 := hD1.cell (i := 3) rfl
  go_wp2_with fail
  all_goals
    go_region_held3 (fun w' => Mod [] w1 w' ∧ w.heap.size < w'.heap.size ∧ d < w'.heap.size ∧ w'.cell? ⟨w.heap.size, 1, none⟩ = some (.int .u64 x) ∧ w'.cell? ⟨w.heap.size, 2, none⟩ = some (.int .i64 n) ∧
        w'.cell? ⟨d, 0, none⟩ = some (.int .u64 40) ∧ w'.cell? ⟨d, 1, none⟩ = some (.int .i64 10) ∧ w'.cell? ⟨d, 2, none⟩ = some (.int .i64 2) ∧ w'.cell? ⟨d, 3, none⟩ = some (.int .i64 5))
      (first | exact ⟨(Mod.refl _ _).drew, blk_lt hB, blk_lt hD1.desk, b1, b2, e0, e1, e2, e3⟩ | exact keep_do (by assumption) (by assumption))
      (first | (go_at_call_of 47 (Value.agg #[Value.int .u64 40, Value.int .i64 10, Value.int .i64 2, Value.int .i64 5]); refine (oor_2 x n ha (by omega) hx _).mono ?_; rintro e w2 ⟨rfl, hm2⟩))
    have hR2 := hm2.blk (((Mod.refl [] w1).drew).blk hR (by simp)) (by simp)
    have hm02 : Mod [] w w2 := ((((Mod.refl [] _).alloc _).alloc _).then0 hm).drew.then0 hm2
    go_wp2_with fail
    refine (noLba_k _).mono ?_
    rintro e w3 ⟨rfl, hm3⟩
    have hR3 := hm3.blk hR2 (by simp)
    have f0 := blk_frozen hR3 0
    have f1 := blk_frozen hR3 1
    have f2 := blk_lt hR3
    have f3 := blk_cell (i := 0) hR3 rfl
    have f4 := blk_cell (i := 1) hR3 rfl
    go_wp2
    have hs := sense_set (u := .int .u8 5) (v := .int .u16 8448) hR3
    exact bodyPost_ret (res_tmp_cell _ _ (w.heap.size + 1) 70 _ rfl hs.1 Try.underlying70 info70 rfl) rfl ⟨rfl, (hm02.then0 hm3).trans hs.2 (by simp)⟩
set_option maxRecDepth 100000 in
set_option maxHeartbeats 4000000 in
theorem do_x_40_2 (w : World) (d : Nat) (G : Gh) (hD : DeskAt sh2 w d G) (x n : Nat) (hx : ¬ x + n ≤ 40) (ha : x < 4294967296) (hn : n ≤ 65535) :
    Calls Try.prog 22 #[.pointer (some ⟨d, 0, none⟩), .agg #[.int .i64 40, .int .u64 x, .int .i64 n, .int .i64 0], .slice none 0 0] w
    fun e w' => e = .returned (.tuple #[.slice none 0 0, .agg #[.int .u8 5, .int .u16 8448]]) ∧ Mod [] w w' := by
  go_enter Try.func22, Try.ntmps22
  go_wp2_with fail
  refine (check_40 x n (by omega) (by omega) _).mono ?_
  rintro e w1 ⟨rfl, hm⟩
  have hB : w1.heap[w.heap.size]? = some (.cells #[.int .i64 40, .int .u64 x, .int .i64 n, .int .i64 0] 40 (0, 0)) := hm.blk (((Mod.refl [] _).alloc _).blk (blk_alloc _ _ _) (by simp)) (by simp)
  have hR : w1.heap[w.heap.size + 1]? = some (.cells #[.int .u8 0, .int .u16 0] 70 (0, 0)) := hm.blk (heap_alloc_new' _ _ _ (by simp)) (by simp)
  have hD1 : DeskAt sh2 w1 d G := hD.mod0 ((((Mod.refl [] _).alloc _).alloc _).then0 hm)
  have b0 := blk_cell (i := 0) hB rfl
  have b1 := blk_cell (i := 1) hB rfl
  have b2 := blk_cell (i := 2) hB rfl
  have e0 := hD1.cell (i := 0) rfl
  have e1 := hD1.cell (i := 1) rfl
  have e2 := hD1.cell (i := 2) rfl
  have e3 := hD1.cell (i := 3) rfl
  go_wp2_with fail
  all_goals
    go_region_held3 (fun w' => Mod [] w1 w' ∧ w.heap.size < w'.heap.size ∧ d < w'.heap.size ∧ w'.cell? ⟨w.heap.size, 1, none⟩ = some (.int .u64 x) ∧ w'.cell? ⟨w.heap.size, 2, none⟩ = some (.int .i64 n) ∧
        w'.cell? ⟨d, 0, none⟩ = some (.int .u64 40) ∧ w'.cell? ⟨d, 1, none⟩ = some (.int .i64 10) ∧ w'.cell? ⟨d, 2, none⟩ = some (.int .i64 2) ∧ w'.cell? ⟨d, 3, none⟩ = some (.int .i64 5))
      (first | exact ⟨(Mod.refl _ _).drew, blk_lt hB, blk_lt hD1.desk, b1, b2, e0, e1, e2, e3⟩ | exact keep_do (by assumption) (by assumption))
      (first | (go_at_call_of 47 (Value.agg #[Value.int .u64 40, Value.int .i64 10, Value.int .i64 2, Value.int .i64 5]); refine (oor_2 x n ha (by omega) hx _).mono ?_; rintro e w2 ⟨rfl, hm2⟩))
    have hR2 := hm2.blk (((Mod.refl [] w1).drew).blk hR (by simp)) (by simp)
    have hm02 : Mod [] w w2 := ((((Mod.refl [] _).alloc _).alloc _).then0 hm).drew.then0 hm2
    go_wp2_with fail
    refine (noLba_k _).mono ?_
    rintro e w3 ⟨rfl, hm3⟩
    have hR3 := hm3.blk hR2 (by simp)
    have f0 := blk_frozen hR3 0
    have f1 := blk_frozen hR3 1
    have f2 := blk_lt hR3
    have f3 := blk_cell (i := 0) hR3 rfl
    have f4 := blk_cell (i := 1) hR3 rfl
    go_wp2
    have hs := sense_set (u := .int .u8 5) (v := .int .u16 8448) hR3
    exact bodyPost_ret (res_tmp_cell _ _ (w.heap.size + 1) 70 _ rfl hs.1 Try.underlying70 info70 rfl) rfl ⟨rfl, (hm02.then0 hm3).trans hs.2 (by simp)⟩
set_option maxRecDepth 100000 in
set_option maxHeartbeats 4000000 in
theorem do_x_136_2 (w : World) (d : Nat) (G : Gh) (hD : DeskAt sh2 w d G) (x n : Nat) (hx : ¬ x + n ≤ 40) (ha : x < 4294967296) (hn : n ≤ 65535) :
    Calls Try.prog 22 #[.pointer (some ⟨d, 0, none⟩), .agg #[.int .i64 136, .int .u64 x, .int .i64 n, .int .i64 0], .slice none 0 0] w
    fun e w' => e = .returned (.tuple #[.slice none 0 0, .agg #[.int .u8 5, .int .u16 8448]]) ∧ Mod [] w w' := by
  go_enter Try.func22, Try.ntmps22
  go_wp2_with fail
  refine (check_136 x n (by omega) (by omega) _).mono ?_
  rintro e w1 ⟨rfl, hm⟩
  have hB : w1.heap[w.heap.size]? = some (.cells #[.int .i64 136, .int .u64 x, .int .i64 n, .int .i64 0] 40 (0, 0)) := hm.blk (((Mod.refl [] _).alloc _).blk (blk_alloc _ _ _) (by simp)) (by simp)
  have hR : w1.heap[w.heap.size + 1]? = some (.cells #[.int .u8 0, .int .u16 0] 70 (0, 0)) := hm.blk (heap_alloc_new' _ _ _ (by simp)) (by simp)
  have hD1 : DeskAt sh2 w1 d G := hD.mod0 ((((Mod.refl [] _).alloc _).alloc _).then0 hm)
  have b0 := blk_cell (i := 0) hB rfl
  have b1 := blk_cell (i := 1) hB rfl
  have b2 := blk_cell (i := 2) hB rfl
  have e0 := hD1.cell (i := 0) rfl
  have e1 := hD1.cell (i := 1) rfl
  have e2 := hD1.cell (i := 2) rfl
  have e3 := hD1.cell (i := 3) rfl
  go_wp2_with fail
  all_goals
    go_region_held3 (fun w' => Mod [] w1 w' ∧ w.heap.size < w'.heap.size ∧ d < w'.heap.size ∧ w'.cell? ⟨w.heap.size, 1, none⟩ = some (.int .u64 x) ∧ w'.cell? ⟨w.heap.size, 2, none⟩ = some (.int .i64 n) ∧
        w'.cell? ⟨d, 0, none⟩ = some (.int .u64 40) ∧ w'.cell? ⟨d, 1, none⟩ = some (.int .i64 10) ∧ w'.cell? ⟨d, 2, none⟩ = some (.int .i64 2) ∧ w'.cell? ⟨d, 3, none⟩ = some (.int .i64 5))
      (first | exact ⟨(Mod.refl _ _).drew, blk_lt hB, blk_lt hD1.desk, b1, b2, e0, e1, e2, e3⟩ | exact keep_do (by assumption) (by assumption))
      (first | (go_at_call_of 47 (Value.agg #[Value.int .u64 40, Value.int .i64 10, Value.int .i64 2, Value.int .i64 5]); refine (oor_2 x n ha (by omega) hx _).mono ?_; rintro e w2 ⟨rfl, hm2⟩))
    have hR2 := hm2.blk (((Mod.refl [] w1).drew).blk hR (by simp)) (by simp)
    have hm02 : Mod [] w w2 := ((((Mod.refl [] _).alloc _).alloc _).then0 hm).drew.then0 hm2
    go_wp2_with fail
    refine (noLba_k _).mono ?_
    rintro e w3 ⟨rfl, hm3⟩
    have hR3 := hm3.blk hR2 (by simp)
    have f0 := blk_frozen hR3 0
    have f1 := blk_frozen hR3 1
    have f2 := blk_lt hR3
    have f3 := blk_cell (i := 0) hR3 rfl
    have f4 := blk_cell (i := 1) hR3 rfl
    go_wp2
    have hs := sense_set (u := .int .u8 5) (v := .int .u16 8448) hR3
    exact bodyPost_ret (res_tmp_cell _ _ (w.heap.size + 1) 70 _ rfl hs.1 Try.underlying70 info70 rfl) rfl ⟨rfl, (hm02.then0 hm3).trans hs.2 (by simp)⟩
end Go.Proofs.Ytfkhefoilancnaa
