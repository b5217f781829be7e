/-
  The laws' cmd: an order's command and its data out.
-/
import Derived.WalkKit
import Derived.Handy
import Derived.BigQuiet
import Derived.Deep.QuietTactic
import Derived.Deep.RegionWith
import Derived.Deep.RegionHeld3
import Derived.Lib.Hide
import Derived.Test.YtfkhefoilancnaaTop
namespace Go.Proofs.Ytfkhefoilancnaa
open Go.RowKit
theorem info40 : (Try.prog.info? 40).map (·.size) = some 4 := by kernel_rfl
set_option maxRecDepth 100000 in
set_option maxHeartbeats 4000000 in
theorem cmd_r (lg : Bool) (lba n : Int) (f : UInt8) (w : World) : Calls Try.prog 11 #[.agg #[.bool true, .bool lg, .int .i64 lba, .int .i64 n, By f]] w fun e w' =>
    e = .returned (.tuple #[.agg #[.int .i64 (if lg then 136 else 40), .int .u64 (mo lba 42), .int .i64 (mo n 24), .int .i64 0], .slice none 0 0]) ∧ Mod [] w w' := by
  have m1 := mo_lt lba 42 (by omega)
  have m2 := mo_lt n 24 (by omega)
  have k1 : IntKind.u64.wrap (mo lba 42 : Int) = mo lba 42 := IntWalk.u64_in _ (by omega)
  go_enter Try.func11, Try.ntmps11
  go_wp2_with fail
  have hB : ((w.alloc (.cells #[.bool true, .bool lg, .int .i64 lba, .int .i64 n, By f] 44)).alloc (.cells #[.int .i64 0, .int .u64 0, .int .i64 0, .int .i64 0] 40)).heap[w.heap.size]? = some (.cells #[.bool true, .bool lg, .int .i64 lba, .int .i64 n, By f] 44 (0, 0)) :=
    ((Mod.refl [] _).alloc _).blk (blk_alloc _ _ _) (by simp)
  go_region_held3 (fun w' => Mod [] ((w.alloc (.cells #[.bool true, .bool lg, .int .i64 lba, .int .i64 n, By f] 44)).alloc (.cells #[.int .i64 0, .int .u64 0, .int .i64 0, .int .i64 0] 40)) w' ∧ w.heap.size < w'.heap.size ∧ w'.cell? ⟨w.heap.size, 2, none⟩ = some (.int .i64 lba) ∧ w'.cell? ⟨w.heap.size, 3, none⟩ = some (.int .i64 n))
    (first | exact ⟨(Mod.refl _ _).drew, blk_lt hB, blk_cell hB rfl, blk_cell hB rfl⟩ | assumption | exact ⟨((Mod.refl _ _).alloc _).drew, blk_lt (((Mod.refl [] _).alloc _).drew.blk hB (by simp)), blk_cell (((Mod.refl [] _).alloc _).drew.blk hB (by simp)) rfl, blk_cell (((Mod.refl [] _).alloc _).drew.blk hB (by simp)) rfl⟩)
    (first | (go_at_call_of 14 (Value.int .i64 lba); refine (mod_k lba 42 (by omega) (by omega) _).mono ?_; rintro e w1 ⟨rfl, rfl⟩) | (go_at_call_of 14 (Value.int .i64 n); refine (mod_k n 24 (by omega) (by omega) _).mono ?_; rintro e w1 ⟨rfl, rfl⟩))

  all_goals (cases lg <;> go_wp2)
  all_goals exact bodyPost_ret (res_cell_tmp _ _ (w.heap.size + 1) 40 _ rfl (((Mod.refl [] _).alloc _).drew.blk (heap_alloc_new' _ _ _ (by simp)) (by simp)) Try.underlying40 info40 rfl) rfl ⟨rfl, ((((Mod.refl [] _).alloc _).alloc _).alloc _).drew⟩
/-- What cmd fills its data with. -/
def fill (f : UInt8) (i : Nat) : UInt8 := f + UInt8.ofNat (i / 64)
theorem fill_row {w : World} {g N k : Nat} {F : Nat → UInt8} (h : w.heap[g]? = some (.cells (rowOf N fun j => if j < k then F j else 0).toArray 5 (0, 0))) :
    (w.setCell ⟨g, k, none⟩ (By (F k))).heap[g]? = some (.cells (rowOf N fun j => if j < k + 1 then F j else 0).toArray 5 (0, 0)) := by
  rw [heap_setCell_same w g k _ 5 _ h]
  congr 2
  have e : (rowOf N fun j => if j < k then F j else 0).set k (By (F k)) = rowOf N fun j => if j < k + 1 then F j else 0 := by
    apply List.ext_getElem?
    intro j
    rw [List.getElem?_set, rowOf_length, rowOf_get, rowOf_get]
    by_cases hj : k = j
    · subst hj
      simp
    · have e1 : (j < k + 1) = (j < k) := by simp only [eq_iff_iff]; omega
      rw [if_neg hj]
      simp only [e1]
  rw [← e]
  simp
/-- Behind k rounds of cmd's loop. -/
structure FillInv (f : UInt8) (w wr : World) (N k : Nat) (box res c : Array Value) : Prop where
  le : k ≤ N
  mod : Mod [] w wr
  box : wr.heap[w.heap.size]? = some (.cells box 44 (0, 0))
  res : wr.heap[w.heap.size + 1]? = some (.cells res 40 (0, 0))
  c : wr.heap[w.heap.size + 1 + 1]? = some (.cells c 40 (0, 0))
  row : wr.heap[w.heap.size + 1 + 1 + 1]? = some (.cells (rowOf N fun j => if j < k then fill f j else 0).toArray 5 (0, 0))
theorem FillInv.next {f : UInt8} {w wr : World} {N k : Nat} {box res c : Array Value} (h : FillInv f w wr N k box res c) (hk : k < N) : FillInv f w (wr.setCell ⟨w.heap.size + 1 + 1 + 1, k, none⟩ (By (fill f k))) N (k + 1) box res c := by
  have hm : Mod [w.heap.size + 1 + 1 + 1] wr (wr.setCell ⟨w.heap.size + 1 + 1 + 1, k, none⟩ (By (fill f k))) := (Mod.refl _ _).setCell (.inl (by simp)) _
  exact ⟨by omega, h.mod.setCell (.inr (by simp; omega)) _, hm.blk h.box (by simp; omega), hm.blk h.res (by simp), hm.blk h.c (by simp), fill_row h.row⟩
theorem fill_val (f : UInt8) (k : Nat) (_hk : k < 16384) : Value.int .u8 (((f.toNat : Int) + (k : Int) / 64) % 256) = By (fill f k) := by
  have h2 : (f + UInt8.ofNat (k / 64)).toNat = (f.toNat + k / 64 % 256) % 256 := by simp [UInt8.toNat_add]
  simp only [By, fill, h2]
  congr 1
  omega
theorem info5 : (Try.prog.info? 5).map (fun i => (i.zero, i.size, i.bytes)) = some (some (.int .u8 0), 1, 1) := by kernel_rfl
set_option maxRecDepth 100000 in
set_option maxHeartbeats 4000000 in
theorem cmd_w_false (lba n : Int) (f : UInt8) (w : World) : Calls Try.prog 11 #[.agg #[.bool false, .bool false, .int .i64 lba, .int .i64 n, By f]] w fun e w' =>
    ∃ gb N, N = mo n 24 * 64 ∧ e = .returned (.tuple #[.agg #[.int .i64 42, .int .u64 (mo lba 42), .int .i64 (mo n 24), .int .i64 0], .slice (some ⟨gb, 0, none⟩) N N]) ∧ w.heap.size ≤ gb ∧
      w'.heap[gb]? = some (.cells (rowOf N (fill f)).toArray 5 (0, 0)) ∧ Mod [] w w' := by
  have m1 := mo_lt lba 42 (by omega)
  have m2 := mo_lt n 24 (by omega)
  have k1 : IntKind.u64.wrap (mo lba 42 : Int) = mo lba 42 := IntWalk.u64_in _ (by omega)
  obtain ⟨m, hm⟩ : ∃ m, mo n 24 = m := ⟨_, rfl⟩
  obtain ⟨N, hN⟩ : ∃ N, N = m * 64 := ⟨_, rfl⟩
  have kN : IntKind.i64.wrap (64 * (m : Int)) = (N : Int) := by rw [IntWalk.i64_in _ (by omega)]; omega
  have hmk : ∀ w : World, (Instr.makeSlice 32 (.int .i64 (N : Int)) (.int .i64 (N : Int))).run Try.prog w = .ok (.slice (some ⟨w.heap.size, 0, none⟩) N N) (w.alloc (.cells (rowOf N fun _ => 0).toArray 5)) :=
    fun w => run_make_bytes w 32 5 Try.underlying32 info5 N (by omega) .i64 .i64
  have hNN := Lib.hid hN
  clear hN
  go_enter Try.func11, Try.ntmps11
  go_wp2_with fail
  have hB : ((w.alloc (.cells #[.bool false, .bool false, .int .i64 lba, .int .i64 n, By f] 44)).alloc (.cells #[.int .i64 0, .int .u64 0, .int .i64 0, .int .i64 0] 40)).heap[w.heap.size]? = some (.cells #[.bool false, .bool false, .int .i64 lba, .int .i64 n, By f] 44 (0, 0)) :=
    ((Mod.refl [] _).alloc _).blk (blk_alloc _ _ _) (by simp)
  go_region_held3 (fun w' => Mod [] ((w.alloc (.cells #[.bool false, .bool false, .int .i64 lba, .int .i64 n, By f] 44)).alloc (.cells #[.int .i64 0, .int .u64 0, .int .i64 0, .int .i64 0] 40)) w' ∧ w.heap.size < w'.heap.size ∧ w'.cell? ⟨w.heap.size, 2, none⟩ = some (.int .i64 lba) ∧ w'.cell? ⟨w.heap.size, 3, none⟩ = some (.int .i64 n))
    (first | exact ⟨(Mod.refl _ _).drew, blk_lt hB, blk_cell hB rfl, blk_cell hB rfl⟩ | assumption | exact ⟨((Mod.refl _ _).alloc _).drew, blk_lt (((Mod.refl [] _).alloc _).drew.blk hB (by simp)), blk_cell (((Mod.refl [] _).alloc _).drew.blk hB (by simp)) rfl, blk_cell (((Mod.refl [] _).alloc _).drew.blk hB (by simp)) rfl⟩)
    (first | (go_at_call_of 14 (Value.int .i64 lba); refine (mod_k lba 42 (by omega) (by omega) _).mono ?_; rintro e w1 ⟨rfl, rfl⟩) | (go_at_call_of 14 (Value.int .i64 n); refine (mod_k n 24 (by omega) (by omega) _).mono ?_; rintro e w1 ⟨rfl, rfl⟩))
  all_goals
    go_wp2_with fail
    go_loopw [6] (fun i wr => ∃ k : Nat, i = .int .i64 k ∧ FillInv f w wr N k #[.bool false, .bool false, .int .i64 lba, .int .i64 n, By f] #[.int .i64 0, .int .u64 0, .int .i64 0, .int .i64 0] #[.int .i64 42, .int .u64 (mo lba 42), .int .i64 m, .int .i64 0]) (fun i _ => N - (intOf i).toNat)
    case atStart =>
      refine ⟨0, rfl, Nat.zero_le _, (((((Mod.refl [] _).alloc _).alloc _).alloc _).alloc _).drew, ?_, ?_, ?_, ?_⟩
      · exact ((((Mod.refl [] _).alloc _).alloc _).alloc _).drew.blk (blk_alloc w _ _) (by simp)
      · exact (((Mod.refl [] _).alloc _).alloc _).drew.blk (heap_alloc_new' _ _ _ (by simp)) (by simp)
      · exact ((Mod.refl [] _).alloc _).drew.blk (heap_alloc_new' _ _ _ (by simp)) (by simp)
      · exact (Mod.refl [] _).drew.blk (heap_alloc_new' _ _ _ (by simp)) (by simp)
    case round =>
      obtain ⟨k, rfl, hI⟩ := hrel
      have hle := hI.le
      by_cases hlt : k < N
      · have c4 : wr.cell? ⟨w.heap.size, 4, none⟩ = some (.int .u8 (f.toNat : Int)) := blk_cell hI.box rfl
        have f0 := blk_frozen hI.row k
        have hck : wr.cell? ⟨w.heap.size + 1 + 1 + 1, k, none⟩ = some (By 0) := blk_cell hI.row (by simp [rowOf_get, hlt])
        have hn1 := blk_lt hI.row
        have hI' := hI.next hlt
        have hk3 : k < 16384 := by have := hNN.out; omega
        go_wp2
        go_roundw
        case rel => exact ⟨k + 1, by go_num, by rw [fill_val f k hk3]; exact hI'⟩
        case measure => simp [intOf]; go_num
      · obtain rfl : k = N := by omega
        have n1 := blk_lt hI.c
        have n2 := blk_lt hI.res
        have r0 := blk_cell (i := 0) hI.res rfl
        have r1 := blk_cell (i := 1) hI.res rfl
        have r2 := blk_cell (i := 2) hI.res rfl
        have r3 := blk_cell (i := 3) hI.res rfl
        have s0 := blk_cell (i := 0) hI.c rfl
        have s1 := blk_cell (i := 1) hI.c rfl
        have s2 := blk_cell (i := 2) hI.c rfl
        have s3 := blk_cell (i := 3) hI.c rfl
        have q0 := blk_frozen hI.res 0
        have q1 := blk_frozen hI.res 1
        have q2 := blk_frozen hI.res 2
        have q3 := blk_frozen hI.res 3
        go_wp2
        have hs := setCells_blk [.int .i64 42, .int .u64 (mo lba 42), .int .i64 m, .int .i64 0] wr (w.heap.size + 1) 0 [.int .i64 0, .int .u64 0, .int .i64 0, .int .i64 0] 40 hI.res (by simp)
        refine bodyPost_ret (res_cell_tmp _ _ (w.heap.size + 1) 40 _ rfl hs.1 Try.underlying40 info40 rfl) rfl ⟨w.heap.size + 1 + 1 + 1, k, by rw [hNN.out, hm], by rw [hm]; rfl, by omega, ?_, hI.mod.trans hs.2 (by simp)⟩
        have hrow := hs.2.blk hI.row (by simp; omega)
        rw [rowOf_congr (g := fill f) (fun i hi => by simp [hi])] at hrow
        exact hrow
set_option maxRecDepth 100000 in
set_option maxHeartbeats 4000000 in
theorem cmd_w_true (lba n : Int) (f : UInt8) (w : World) : Calls Try.prog 11 #[.agg #[.bool false, .bool true, .int .i64 lba, .int .i64 n, By f]] w fun e w' =>
    ∃ gb N, N = mo n 24 * 64 ∧ e = .returned (.tuple #[.agg #[.int .i64 138, .int .u64 (mo lba 42), .int .i64 (mo n 24), .int .i64 0], .slice (some ⟨gb, 0, none⟩) N N]) ∧ w.heap.size ≤ gb ∧
      w'.heap[gb]? = some (.cells (rowOf N (fill f)).toArray 5 (0, 0)) ∧ Mod [] w w' := by
  have m1 := mo_lt lba 42 (by omega)
  have m2 := mo_lt n 24 (by omega)
  have k1 : IntKind.u64.wrap (mo lba 42 : Int) = mo lba 42 := IntWalk.u64_in _ (by omega)
  obtain ⟨m, hm⟩ : ∃ m, mo n 24 = m := ⟨_, rfl⟩
  obtain ⟨N, hN⟩ : ∃ N, N = m * 64 := ⟨_, rfl⟩
  have kN : IntKind.i64.wrap (64 * (m : Int)) = (N : Int) := by rw [IntWalk.i64_in _ (by omega)]; omega
  have hmk : ∀ w : World, (Instr.makeSlice 32 (.int .i64 (N : Int)) (.int .i64 (N : Int))).run Try.prog w = .ok (.slice (some ⟨w.heap.size, 0, none⟩) N N) (w.alloc (.cells (rowOf N fun _ => 0).toArray 5)) :=
    fun w => run_make_bytes w 32 5 Try.underlying32 info5 N (by omega) .i64 .i64
  have hNN := Lib.hid hN
  clear hN
  go_enter Try.func11, Try.ntmps11
  go_wp2_with fail
  have hB : ((w.alloc (.cells #[.bool false, .bool true, .int .i64 lba, .int .i64 n, By f] 44)).alloc (.cells #[.int .i64 0, .int .u64 0, .int .i64 0, .int .i64 0] 40)).heap[w.heap.size]? = some (.cells #[.bool false, .bool true, .int .i64 lba, .int .i64 n, By f] 44 (0, 0)) :=
    ((Mod.refl [] _).alloc _).blk (blk_alloc _ _ _) (by simp)
  go_region_held3 (fun w' => Mod [] ((w.alloc (.cells #[.bool false, .bool true, .int .i64 lba, .int .i64 n, By f] 44)).alloc (.cells #[.int .i64 0, .int .u64 0, .int .i64 0, .int .i64 0] 40)) w' ∧ w.heap.size < w'.heap.size ∧ w'.cell? ⟨w.heap.size, 2, none⟩ = some (.int .i64 lba) ∧ w'.cell? ⟨w.heap.size, 3, none⟩ = some (.int .i64 n))
    (first | exact ⟨(Mod.refl _ _).drew, blk_lt hB, blk_cell hB rfl, blk_cell hB rfl⟩ | assumption | exact ⟨((Mod.refl _ _).alloc _).drew, blk_lt (((Mod.refl [] _).alloc _).drew.blk hB (by simp)), blk_cell (((Mod.refl [] _).alloc _).drew.blk hB (by simp)) rfl, blk_cell (((Mod.refl [] _).alloc _).drew.blk hB (by simp)) rfl⟩)
    (first | (go_at_call_of 14 (Value.int .i64 lba); refine (mod_k lba 42 (by omega) (by omega) _).mono ?_; rintro e w1 ⟨rfl, rfl⟩) | (go_at_call_of 14 (Value.int .i64 n); refine (mod_k n 24 (by omega) (by omega) _).mono ?_; rintro e w1 ⟨rfl, rfl⟩))
  all_goals
    go_wp2_with fail
    go_loopw [6] (fun i wr => ∃ k : Nat, i = .int .i64 k ∧ FillInv f w wr N k #[.bool false, .bool true, .int .i64 lba, .int .i64 n, By f] #[.int .i64 0, .int .u64 0, .int .i64 0, .int .i64 0] #[.int .i64 138, .int .u64 (mo lba 42), .int .i64 m, .int .i64 0]) (fun i _ => N - (intOf i).toNat)
    case atStart =>
      refine ⟨0, rfl, Nat.zero_le _, (((((Mod.refl [] _).alloc _).alloc _).alloc _).alloc _).drew, ?_, ?_, ?_, ?_⟩
      · exact ((((Mod.refl [] _).alloc _).alloc _).alloc _).drew.blk (blk_alloc w _ _) (by simp)
      · exact (((Mod.refl [] _).alloc _).alloc _).drew.blk (heap_alloc_new' _ _ _ (by simp)) (by simp)
      · exact ((Mod.refl [] _).alloc _).drew.blk (heap_alloc_new' _ _ _ (by simp)) (by simp)
      · exact (Mod.refl [] _).drew.blk (heap_alloc_new' _ _ _ (by simp)) (by simp)
    case round =>
      obtain ⟨k, rfl, hI⟩ := hrel
      have hle := hI.le
      by_cases hlt : k < N
      · have c4 : wr.cell? ⟨w.heap.size, 4, none⟩ = some (.int .u8 (f.toNat : Int)) := blk_cell hI.box rfl
        have f0 := blk_frozen hI.row k
        have hck : wr.cell? ⟨w.heap.size + 1 + 1 + 1, k, none⟩ = some (By 0) := blk_cell hI.row (by simp [rowOf_get, hlt])
        have hn1 := blk_lt hI.row
        have hI' := hI.next hlt
        have hk3 : k < 16384 := by have := hNN.out; omega
        go_wp2
        go_roundw
        case rel => exact ⟨k + 1, by go_num, by rw [fill_val f k hk3]; exact hI'⟩
        case measure => simp [intOf]; go_num
      · obtain rfl : k = N := by omega
        have n1 := blk_lt hI.c
        have n2 := blk_lt hI.res
        have r0 := blk_cell (i := 0) hI.res rfl
        have r1 := blk_cell (i := 1) hI.res rfl
        have r2 := blk_cell (i := 2) hI.res rfl
        have r3 := blk_cell (i := 3) hI.res rfl
        have s0 := blk_cell (i := 0) hI.c rfl
        have s1 := blk_cell (i := 1) hI.c rfl
        have s2 := blk_cell (i := 2) hI.c rfl
        have s3 := blk_cell (i := 3) hI.c rfl
        have q0 := blk_frozen hI.res 0
        have q1 := blk_frozen hI.res 1
        have q2 := blk_frozen hI.res 2
        have q3 := blk_frozen hI.res 3
        go_wp2
        have hs := setCells_blk [.int .i64 138, .int .u64 (mo lba 42), .int .i64 m, .int .i64 0] wr (w.heap.size + 1) 0 [.int .i64 0, .int .u64 0, .int .i64 0, .int .i64 0] 40 hI.res (by simp)
        refine bodyPost_ret (res_cell_tmp _ _ (w.heap.size + 1) 40 _ rfl hs.1 Try.underlying40 info40 rfl) rfl ⟨w.heap.size + 1 + 1 + 1, k, by rw [hNN.out, hm], by rw [hm]; rfl, by omega, ?_, hI.mod.trans hs.2 (by simp)⟩
        have hrow := hs.2.blk hI.row (by simp; omega)
        rw [rowOf_congr (g := fill f) (fun i hi => by simp [hi])] at hrow
        exact hrow
end Go.Proofs.Ytfkhefoilancnaa
