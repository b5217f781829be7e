/-
  pdu's word, pad, ops and Check: the number of four bytes, the padding, and that a message may be.
-/
import Derived.WalkKit
import Derived.Handy
import Derived.BigQuiet
import Derived.Deep.QuietTactic
import Derived.Deep.RegionWith
import Derived.Laws.BitsLemmas
import Derived.Lib.Hide
import Derived.Test.YtfkhefoilancnaaSlices
namespace Go.Proofs.Ytfkhefoilancnaa
open Go.RowKit
/-- Byte i of a list. -/
def bt (l : List UInt8) (i : Nat) : Nat := (l.getD i 0).toNat
theorem bt_lt (l : List UInt8) (i : Nat) : bt l i < 256 := UInt8.toNat_lt _
/-- The number of four bytes. -/
def W32 (l : List UInt8) (a : Nat) : Nat := bt l a * 16777216 + bt l (a + 1) * 65536 + bt l (a + 2) * 256 + bt l (a + 3)
theorem W32_lt (l : List UInt8) (a : Nat) : W32 l a < 4294967296 := by
  have := bt_lt l a
  have := bt_lt l (a + 1)
  have := bt_lt l (a + 2)
  have := bt_lt l (a + 3)
  unfold W32
  omega
theorem wraps_u32 (n : Int) (h₀ : 0 ≤ n) (h₁ : n < 2 ^ 32) : IntKind.u32.wrap n = n := by rw [IntKind.wrap_u32]; omega
theorem or_join (x0 x1 x2 x3 : Nat) (h0 : x0 < 256) (h1 : x1 < 256) (h2 : x2 < 256) (h3 : x3 < 256) :
    bits .or .u32 (bits .or .u32 (bits .or .u32 ((x0 : Int) * 16777216) ((x1 : Int) * 65536)) ((x2 : Int) * 256)) (x3 : Int) = ((x0 * 16777216 + x1 * 65536 + x2 * 256 + x3 : Nat) : Int) := by
  have j1 := bits_join .u32 32 (by decide) wraps_u32 24 ((x0 : Int) * 16777216) ((x1 : Int) * 65536) (by omega) (by omega) (by omega) (by omega) (by omega) (by omega)
  have j2 := bits_join .u32 32 (by decide) wraps_u32 16 ((x0 : Int) * 16777216 + (x1 : Int) * 65536) ((x2 : Int) * 256) (by omega) (by omega) (by omega) (by omega) (by omega) (by omega)
  have j3 := bits_join .u32 32 (by decide) wraps_u32 8 ((x0 : Int) * 16777216 + (x1 : Int) * 65536 + (x2 : Int) * 256) (x3 : Int) (by omega) (by omega) (by omega) (by omega) (by omega) (by omega)
  rw [j1, j2, j3]
  omega
theorem Rds.byte {w : World} {A : Option Addr} {n : Nat} {l : List UInt8} (h : Rds w A n (l.map By)) {b off : Nat} (hA : A = some ⟨b, off, none⟩) {k : Nat} (hk : k < n) : w.cell? ⟨b, off + k, none⟩ = some (.int .u8 (bt l k)) := by
  obtain ⟨b', off', e, _, hc⟩ := h.2 (by omega)
  rw [hA] at e
  injection e with e
  injection e with e1 e2
  subst e1 e2
  have hl : l.length = n := by simpa using h.1
  have := hc k (By (l.getD k 0)) (by simp [List.getD, List.getElem?_eq_getElem (show k < l.length by omega)])
  rw [this, By_def]
  rfl
set_option maxRecDepth 100000 in
set_option maxHeartbeats 4000000 in
theorem word_k (w : World) (A : Option Addr) (n c a : Nat) (l : List UInt8) (h : Rds w A n (l.map By)) (hat : a + 4 ≤ n) (hn : n ≤ 1000000) :
    Calls Try.prog 62 #[.slice A n c, .int .i64 a] w fun e w' => e = .returned (.int .u32 (W32 l a)) ∧ ∃ m, w' = w.drewN m := by
  obtain ⟨b, off, hA, hb, hc⟩ := h.2 (by omega)
  have g0 := h.byte hA (k := a) (by omega)
  have g1 := h.byte hA (k := a + 1) (by omega)
  have g2 := h.byte hA (k := a + 2) (by omega)
  have g3 := h.byte hA (k := a + 3) (by omega)
  subst hA
  have r0 := bt_lt l a
  have r1 := bt_lt l (a + 1)
  have r2 := bt_lt l (a + 2)
  have r3 := bt_lt l (a + 3)
  have hj := or_join (bt l a) (bt l (a + 1)) (bt l (a + 2)) (bt l (a + 3)) r0 r1 r2 r3
  have hW : ((bt l a * 16777216 + bt l (a + 1) * 65536 + bt l (a + 2) * 256 + bt l (a + 3) : Nat) : Int) = (W32 l a : Int) := rfl
  rw [hW] at hj
  clear hW
  generalize bt l a = x0 at *
  generalize bt l (a + 1) = x1 at *
  generalize bt l (a + 2) = x2 at *
  generalize bt l (a + 3) = x3 at *
  generalize W32 l a = r at *
  have k0 : (a : Int) < n := by omega
  have k1 : (a : Int) + 1 < n := by omega
  have k2 : (a : Int) + 2 < n := by omega
  have k3 : (a : Int) + 3 < n := by omega
  have w1 : IntKind.i64.wrap ((a : Int) + 1) = (a : Int) + 1 := IntWalk.i64_in _ (by omega)
  have w2 : IntKind.i64.wrap ((a : Int) + 2) = (a : Int) + 2 := IntWalk.i64_in _ (by omega)
  have w3 : IntKind.i64.wrap ((a : Int) + 3) = (a : Int) + 3 := IntWalk.i64_in _ (by omega)
  replace hj := Lib.hid hj
  go_enter Try.func62, Try.ntmps62
  go_wp2_with fail
  go_quiet (fail)
  go_wp2
  go_ret
  exact ⟨ret_int hj.out, _, rfl⟩
/-- How many bytes fill up to four. -/
def padN (n : Nat) : Nat := (4 - n % 4) % 4
theorem and3 (n : Nat) (hn : n ≤ 1000000) : bits .and .i64 (-(n : Int)) 3 = (padN n : Int) := by
  have h1 : (BitVec.ofInt 64 (-(n : Int)) &&& BitVec.ofInt 64 3).toNat = padN n := by
    rw [BitVec.toNat_and, BitVec.toNat_ofInt, BitVec.toNat_ofInt]
    have e3 : ((3 : Int) % ((2 ^ 64 : Nat) : Int)).toNat = 2 ^ 2 - 1 := by decide
    rw [e3, Nat.and_two_pow_sub_one_eq_mod]
    simp only [padN]
    omega
  have hp : padN n < 4 := by unfold padN; omega
  show IntKind.i64.wrap ((BitVec.ofInt 64 (-(n : Int)) &&& BitVec.ofInt 64 3).toNat : Int) = _
  rw [h1]
  exact IntWalk.i64_in _ (by omega)
set_option maxHeartbeats 4000000 in
theorem pad_k (n : Nat) (hn : n ≤ 1000000) (w : World) : Calls Try.prog 64 #[.int .i64 n] w fun e w' => e = .returned (.int .i64 (padN n)) ∧ w' = w := by
  go_enter Try.func64, Try.ntmps64
  go_wp2
  go_ret
  refine ⟨ret_int ?_, rfl⟩
  exact and3 n hn
/-- A message as the program holds it. -/
structure Ms where
  op : Nat
  fl : Nat
  lun : Nat
  tag : Nat
  w0 : Nat
  w1 : Nat
  w2 : Nat
  w3 : Nat
  w4 : Nat
  w5 : Nat
  w6 : Nat
  da : Option Addr
  dn : Nat
  dc : Nat
def Ms.cells (m : Ms) : Array Value := #[.int .i64 m.op, .bool false, .int .u8 m.fl, .int .u64 m.lun, .int .u32 m.tag, .int .u32 m.w0, .int .u32 m.w1, .int .u32 m.w2, .int .u32 m.w3, .int .u32 m.w4, .int .u32 m.w5, .int .u32 m.w6, .slice m.da m.dn m.dc]
def opsL : List Int := [0, 1, 3, 5, 6, 32, 33, 35, 37, 38, 49]
set_option maxHeartbeats 4000000 in
theorem ops_k (w : World) : Calls Try.prog 77 #[] w fun e w' => e = .returned (.slice (some ⟨w.heap.size, 0, none⟩) 11 11) ∧ w' = w.alloc (.cells #[.int .i64 0, .int .i64 1, .int .i64 3, .int .i64 5, .int .i64 6, .int .i64 32, .int .i64 33, .int .i64 35, .int .i64 37, .int .i64 38, .int .i64 49] 3) := by
  go_enter Try.func77, Try.ntmps77
  go_wp2
  go_ret
  exact ⟨rfl, rfl⟩
set_option maxRecDepth 100000 in
set_option maxHeartbeats 8000000 in
theorem checkp_k (m : Ms) (hop : (m.op : Int) ∈ opsL) (hd : m.dn ≤ 4096) (w : World) : Calls Try.prog 63 #[.agg m.cells] w fun e w' => e = .returned (.int .i64 0) ∧ Mod [] w w' := by
  have hrow : ∀ w', Mod [] (w.alloc (.cells m.cells 38)) w' → w'.cell? ⟨w.heap.size, 0, none⟩ = some (.int .i64 m.op) ∧ w'.cell? ⟨w.heap.size, 1, none⟩ = some (.bool false) ∧ w'.cell? ⟨w.heap.size, 12, none⟩ = some (.slice m.da m.dn m.dc) ∧ w.heap.size < w'.heap.size := by
    intro w' hm
    have hb := hm.blk (blk_alloc w m.cells 38) (by simp)
    exact ⟨blk_cell hb rfl, blk_cell hb rfl, blk_cell hb rfl, blk_lt hb⟩
  have hall : ∀ u : World, Rds (u.alloc (.cells #[.int .i64 0, .int .i64 1, .int .i64 3, .int .i64 5, .int .i64 6, .int .i64 32, .int .i64 33, .int .i64 35, .int .i64 37, .int .i64 38, .int .i64 49] 3)) (some ⟨u.heap.size, 0, none⟩) 11 (opsL.map (Value.int .i64)) := by
    intro u
    refine ⟨rfl, fun _ => ⟨u.heap.size, 0, rfl, by simp, fun j v hj => ?_⟩⟩
    rw [Nat.zero_add]
    exact blk_cell (blk_alloc u _ _) (by simpa [opsL] using hj)
  have k4 : ¬ (4096 : Int) < (m.dn : Int) := by omega
  have hin : decide ((m.op : Int) ∈ opsL) = true := decide_eq_true hop
  replace hin := Lib.hid hin
  go_enter Try.func63, Try.ntmps63
  go_wp2_with fail
  have hr1 := hrow (w.alloc (.cells m.cells 38)).drew (Mod.refl _ _).drew
  have hr2 := fun o => hrow ((w.alloc (.cells m.cells 38)).alloc o).drew ((Mod.refl _ _).alloc o).drew
  have c1 := hr1.1
  have c2 := fun o => (hr2 o).1
  have z1 := hr1.2.2.2
  have hall2 : Rds ((w.alloc (.cells m.cells 38)).alloc (.cells #[.int .i64 0, .int .i64 1, .int .i64 3, .int .i64 5, .int .i64 6, .int .i64 32, .int .i64 33, .int .i64 35, .int .i64 37, .int .i64 38, .int .i64 49] 3)).drew (some ⟨w.heap.size + 1, 0, none⟩) 11 (opsL.map (Value.int .i64)) := by
    have h := (hall (w.alloc (.cells m.cells 38))).mod0 (Mod.refl _ _).drew
    simpa using h
  go_region_with (first | (refine (ops_k _).mono ?_; rintro e w1 ⟨rfl, rfl⟩) | (refine (contains_int _ 11 11 opsL m.op _ (by omega) hall2).mono ?_; rintro e w1 ⟨rfl, rfl⟩; rw [hin.out]))
  all_goals
    have d1 := fun o => (hr2 o).2.1
    have d2 := fun o => (hr2 o).2.2.1
    have d3 := fun o => (hr2 o).2.2.2
    go_wp2
    go_ret
    exact ⟨rfl, (((Mod.refl [] w).alloc _).alloc _).drew⟩
end Go.Proofs.Ytfkhefoilancnaa
