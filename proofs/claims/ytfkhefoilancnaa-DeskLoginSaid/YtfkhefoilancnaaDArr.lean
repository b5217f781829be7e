/-
  The walk of DeskArray: a volume is an array of blocks.
-/
import Derived.WalkKit
import Derived.Handy
import Derived.BigQuiet
import Derived.KernelRfl
import Derived.Lib.Hide
import Derived.Deep.QuietTactic
import Derived.Deep.CutBlock
import Derived.Deep.CutRange
import Derived.Test.YtfkhefoilancnaaKnown
import Derived.Test.YtfkhefoilancnaaArgs2
namespace Go.Proofs.Ytfkhefoilancnaa
open Go.RowKit
theorem make64 (w : World) : (Instr.makeSlice 32 (.int .i64 64) (.int .i64 64)).run Try.prog w = .ok (.slice (some ⟨w.heap.size, 0, none⟩) 64 64) (w.alloc (.cells (rowOf 64 fun _ => 0).toArray 5)) :=
  run_make_bytes w 32 5 Try.underlying32 info5' 64 (by simp) .i64 .i64
/-- The laws' blocks: k of the array's rows read as f says; all of it lies above N. -/
structure Blocks (w : World) (N ab k : Nat) (f : Nat → UInt8) : Prop where
  ge : N ≤ ab
  row : ∃ vs : List Value, vs.length = 12 ∧ w.heap[ab]? = some (.cells vs.toArray 63 (0, 0)) ∧ ∀ j, j < k → j < 12 → ∃ b off c, vs[j]? = some (.slice (some ⟨b, off, none⟩) 64 c) ∧ N ≤ b ∧ b ≠ ab ∧ Rds w (some ⟨b, off, none⟩) 64 (rowOf 64 fun i => f (j * 64 + i))
namespace Blocks
variable {S : List Nat} {w w' : World} {N ab k : Nat} {f g : Nat → UInt8}
theorem mod (h : Blocks w N ab k f) (hm : Mod S w w') (hS : ∀ t, t ∈ S → t < N) : Blocks w' N ab k f := by
  obtain ⟨vs, hl, hb, hv⟩ := h.row
  refine ⟨h.ge, vs, hl, hm.blk hb (fun hin => by have := hS _ hin; have := h.ge; omega), fun j hjk hj => ?_⟩
  obtain ⟨b, off, c, hv1, hNb, hne, hr⟩ := hv j hjk hj
  exact ⟨b, off, c, hv1, hNb, hne, hr.mod hm (fun a ha _ hin => by cases ha; have := hS _ hin; simp at this; omega)⟩
theorem mod0 (h : Blocks w N ab k f) (hm : Mod [] w w') : Blocks w' N ab k f := h.mod hm (by simp)
theorem cell (h : Blocks w N ab k f) {j : Nat} (hj : j < 12) : ∃ v, w.cell? ⟨ab, j, none⟩ = some v := by
  obtain ⟨vs, hl, hb, _⟩ := h.row
  exact ⟨vs[j]'(by omega), blk_cell hb (by simp [show j < vs.length by omega])⟩
theorem frozen (h : Blocks w N ab k f) (j : Nat) : w.frozen? ⟨ab, j, none⟩ = false := by
  obtain ⟨vs, hl, hb, _⟩ := h.row
  exact blk_frozen hb j
theorem lt (h : Blocks w N ab k f) : ab < w.heap.size := by
  obtain ⟨vs, hl, hb, _⟩ := h.row
  exact blk_lt hb
theorem get (h : Blocks w N ab k f) {j : Nat} (hjk : j < k) (hj : j < 12) : ∃ b off c, w.cell? ⟨ab, j, none⟩ = some (.slice (some ⟨b, off, none⟩) 64 c) ∧ Rds w (some ⟨b, off, none⟩) 64 (rowOf 64 fun i => f (j * 64 + i)) := by
  obtain ⟨vs, hl, hb, hv⟩ := h.row
  obtain ⟨b, off, c, hv1, _, _, hr⟩ := hv j hjk hj
  exact ⟨b, off, c, blk_cell hb (by simpa using hv1), hr⟩
theorem ne (h : Blocks w N ab 12 f) {db dof L : Nat} {D : List UInt8} (hD : Rds w (some ⟨db, dof, none⟩) L (D.map By)) (hL : 0 < L) : db ≠ ab := by
  rintro rfl
  obtain ⟨vs, hl, hb, hv⟩ := h.row
  have h0 := hD.byte rfl (k := 0) hL
  rw [cell_of_row w db (dof + 0) _ 63 _ hb, Nat.add_zero] at h0
  by_cases hd : dof < 12
  · obtain ⟨b, off, c, h1, _⟩ := hv dof hd hd
    have h2 : vs.toArray[dof]? = vs[dof]? := by simp
    rw [h2, h1] at h0
    cases h0
  · rw [Array.getElem?_eq_none (by simp; omega)] at h0
    cases h0
/-- A row is laid into the array. -/
theorem set (h : Blocks w N ab k f) {j b off c : Nat} (hj : j < 12) (hN : N ≤ b) (hne : b ≠ ab) (hr : Rds w (some ⟨b, off, none⟩) 64 (rowOf 64 fun i => g (j * 64 + i))) {k' : Nat} (hk : ∀ i, i < k' → i = j ∨ i < k) (hfg : ∀ i, i ≠ j → ∀ x, x < 64 → g (i * 64 + x) = f (i * 64 + x)) :
    Blocks (w.setCell ⟨ab, j, none⟩ (.slice (some ⟨b, off, none⟩) 64 c)) N ab k' g := by
  obtain ⟨vs, hl, hb, hv⟩ := h.row
  have hm := mod_set1 w ab j (.slice (some ⟨b, off, none⟩) 64 c)
  refine ⟨h.ge, vs.set j (.slice (some ⟨b, off, none⟩) 64 c), by simp [hl], ?_, fun i hik hi => ?_⟩
  · rw [heap_setCell_same w ab j _ 63 _ hb]
    simp
  · by_cases hij : i = j
    · subst hij
      exact ⟨b, off, c, by simp [hl, hi], hN, hne, hr.mod hm (fun a ha _ hin => by cases ha; simp at hin; exact hne hin)⟩
    · obtain ⟨b', off', c', hv1, hNb, hne', hr'⟩ := hv i ((hk i hik).resolve_left hij) hi
      refine ⟨b', off', c', by rw [List.getElem?_set_ne (fun e => hij e.symm)]; exact hv1, hNb, hne', ?_⟩
      rw [rowOf_congr (g := fun x => f (i * 64 + x)) (fun x hx => hfg i hij x hx)]
      exact hr'.mod hm (fun a ha _ hin => by cases ha; simp at hin; exact hne' hin)
end Blocks
/-- What of a desk lies below N. -/
structure Below1 (w : World) (N : Nat) (G : Gh) : Prop where
  h : G.h < N
  wait : G.wait = []
  w : w.heap.size ≤ N
/-- Blocks from N on are written: a desk below N stands. -/
theorem Kn.high {s : Sh} {w wr w' : World} {N d : Nat} {G : Gh} {S : List Nat} (h : Kn s w wr N d G) (hb : Below1 w N G) (hm : Mod S wr w') (hS : ∀ t, t ∈ S → N ≤ t) : Kn s w w' N d G :=
  ⟨h.desk.mod hm (fun hin => by have := h.low d (by simp); have := hS _ hin; omega) (fun hin => by have := hb.h; have := hS _ hin; omega) (fun g hg hin => by have := h.low g (by simp [hg]); have := hS _ hin; omega) (fun a _ h0 => by rw [hb.wait] at h0; simp at h0),
    h.mod.trans hm (fun t ht => .inr (by have := hS t ht; have := hb.w; omega)), h.old, h.low, Nat.le_trans h.size hm.size⟩
theorem row_cut (f : Nat → UInt8) (j : Nat) (hj : j < 12) : ((rowOf 768 fun i => f (0 * 64 + i)).drop (64 * j)).take 64 = rowOf 64 fun i => f (j * 64 + i) := by
  apply List.ext_getElem?
  intro r
  rw [rowOf_get, List.getElem?_take]
  by_cases hr : r < 64
  · rw [if_pos hr, if_pos hr, List.getElem?_drop, rowOf_get, if_pos (by omega)]
    congr 3
    omega
  · rw [if_neg hr, if_neg hr]
theorem mo_wrap (a : Int) (n : Nat) (hn : 1 ≤ n) (hn2 : n ≤ 3000) : wrap64 ((IntKind.u64.wrap a).tmod (n : Int)) = (mo a n : Int) := by
  have h0 : (IntKind.u64.wrap a).tmod (n : Int) = mo a n := by
    rw [IntKind.wrap_u64, Int.tmod_eq_emod_of_nonneg (Int.emod_nonneg _ (by omega))]
    have h1 : 0 ≤ a % 18446744073709551616 % (n : Int) := Int.emod_nonneg _ (by omega)
    simp only [mo]; omega
  have := mo_lt a n hn
  rw [h0]
  exact IntWalk.wrap64_in _ (by omega)
theorem laid_0 (f : Nat → UInt8) (x : Nat) (D : List UInt8) : laid f x 0 D = f := by
  funext j
  unfold laid
  rw [if_neg (by omega)]
theorem laid_row (f : Nat → UInt8) (x j : Nat) (D : List UInt8) (r : Nat) (hr : r < 64) : laid f x (j + 1) D ((x + j) * 64 + r) = dat D (64 * j + r) := by
  unfold laid
  rw [if_pos (by omega)]
  congr 1
  omega
theorem laid_off (f : Nat → UInt8) (x j : Nat) (D : List UInt8) (t r : Nat) (ht : t ≠ x + j) (hr : r < 64) : laid f x (j + 1) D (t * 64 + r) = laid f x j D (t * 64 + r) := by
  unfold laid
  by_cases h : x * 64 ≤ t * 64 + r ∧ t * 64 + r < (x + j) * 64
  · rw [if_pos h, if_pos (by omega)]
  · rw [if_neg h, if_neg (by omega)]
theorem Below1.set {w : World} {N : Nat} {G : Gh} {v : Nat → Nat → UInt8} (h : Below1 w N G) : Below1 w N (G.setVol v) := ⟨h.h, h.wait, h.w⟩
set_option maxRecDepth 100000 in
set_option maxHeartbeats 4000000 in
theorem deskArray_walk (A : Option Addr) (n c : Nat) (l : List AC) (w : World) (hl : ActsIn w A n l) : Calls Try.prog 4 #[.slice A n c] w fun e w' => e = .returned (.bool true) ∧ Mod [] w w' := by
  have mk := make64
  go_enter Try.func4, Try.ntmps4
  go_wp2_with fail
  refine (shape_k _).mono ?_
  rintro e w1 ⟨rfl, hm1⟩
  go_wp2_with fail
  refine (new_1 ⟨#[]⟩ _).mono ?_
  rintro e w2 ⟨d, h, cap, gs, rfl, hD2, hm2, hfr⟩
  go_wp2_with fail
  have hK2 : ∃ G, New1 G ∧ Below1 w w2.heap.size G ∧ Kn sh1 w w2 w2.heap.size d G := by
    refine ⟨_, ⟨rfl, rfl, rfl, fun _ => rfl, hD2.len⟩, ⟨(by obtain ⟨cur, hc⟩ := hD2.headBlk; exact blk_lt hc), rfl, Nat.le_trans hm1.size hm2.size⟩, hD2, hm1.then0 hm2, fun t ht => Nat.le_trans hm1.size (hfr t ht), fun t ht => ?_, Nat.le_refl _⟩
    rcases List.mem_cons.1 ht with e | e
    · rw [e]; exact blk_lt hD2.desk
    · obtain ⟨i, _, hc⟩ := hD2.gs_chunk e
      exact blk_lt hc
  clear hD2 hm1 hm2 hfr
  obtain ⟨G, hN, hBl, hK2⟩ := hK2
  have hK3 := hK2.mod0 ((Mod.refl [] w2).alloc (.cells #[.slice none 0 0, .slice none 0 0, .slice none 0 0, .slice none 0 0, .slice none 0 0, .slice none 0 0, .slice none 0 0, .slice none 0 0, .slice none 0 0, .slice none 0 0, .slice none 0 0, .slice none 0 0] 63))
  have hB3 : Blocks (w2.alloc (.cells #[.slice none 0 0, .slice none 0 0, .slice none 0 0, .slice none 0 0, .slice none 0 0, .slice none 0 0, .slice none 0 0, .slice none 0 0, .slice none 0 0, .slice none 0 0, .slice none 0 0, .slice none 0 0] 63)) w2.heap.size w2.heap.size 0 (fun _ => 0) :=
    ⟨Nat.le_refl _, _, rfl, blk_alloc _ _ _, fun j hj => by omega⟩
  generalize hn : w2.heap.size = N at hK3 hB3 hBl ⊢
  generalize World.alloc w2 _ = V at hK3 hB3 ⊢
  clear hn hK2
  go_loopw [6] (fun i wr => ∃ k : Nat, i = .int .i64 k ∧ k ≤ 12 ∧ Kn sh1 w wr N d G ∧ Blocks wr N N k fun _ => 0) (fun i _ => 12 - (intOf i).toNat)
  case atStart => exact ⟨0, rfl, by omega, hK3, hB3⟩
  case round =>
    obtain ⟨k, rfl, hk, hK, hB⟩ := hrel
    clear hK3 hB3
    have r1 : (k : Int) ≤ 12 := by omega
    by_cases hk12 : k < 12
    · have r2 : (k : Int) < 12 := by omega
      obtain ⟨v, hv⟩ := hB.cell hk12
      have fv := hB.frozen k
      have zv := hB.lt
      have hA : Mod [] wr (wr.alloc (.cells (rowOf 64 fun _ => 0).toArray 5)) := (Mod.refl [] wr).alloc _
      have hN1 := hK.size
      have hB1 := ((hB.mod0 hA).set (j := k) (b := wr.heap.size) (off := 0) (c := 64) (g := fun _ => 0) hk12 hN1 (by omega) (Rds.whole (blk_alloc _ _ _)) (k' := k + 1) (fun i hi => by omega) (fun _ _ _ _ => rfl))
      have hK1 := (hK.mod0 hA).high hBl (mod_set1 _ N k (.slice (some ⟨wr.heap.size, 0, none⟩) 64 64)) (by simp)
      rw [World.setCell_alloc_past _ _ _ _ zv] at hB1 hK1
      go_wp2
      go_roundw
      · exact ⟨k + 1, by go_num, by omega, hK1, hB1⟩
      · simp [intOf]; omega
    · obtain rfl : k = 12 := by omega
      clear hk12 hk r1 mk
      go_wp2_with fail
      rw [show ((12 : Nat) : Int) = 12 from rfl]
      go_loopw [7] (fun i wr => ∃ (k : Nat) (vol : Nat → Nat → UInt8) (f : Nat → UInt8), i = .int .i64 k ∧ k ≤ n ∧ Kn sh1 w wr N d (G.setVol vol) ∧ (∀ j, j < 768 → view wh1 vol j = f j) ∧ Blocks wr N N 12 f) (fun i _ => n - (intOf i).toNat)
      case atStart => exact ⟨0, G.vol, fun _ => 0, rfl, by omega, hK, fun j _ => hN.vol j, hB⟩
      case round =>
        obtain ⟨i, vol, f, rfl, hi, hKi, hv, hBi⟩ := hrel
        clear hK hB
        by_cases hin : i < n ∧ i < 60
        · obtain ⟨hin, hi60⟩ := hin
          obtain ⟨q, hq⟩ : ∃ q, l[i]? = some q := ⟨_, List.getElem?_eq_getElem (by rw [hl.len]; exact hin)⟩
          obtain ⟨b, off, hA, hb, q0, q1, q2, q3, q4, q5⟩ := (hl.mod0 hKi.mod).get i q hq
          subst hA
          rw [By_def] at q5
          have r1 : (i : Int) < n := by omega
          have r2 : (i : Int) < 60 := by omega
          have hu : q.fl.toNat < 256 := UInt8.toNat_lt _
          go_upto_region 15 with fail
          have ex : ((q.lba : Int) % 14) = ((q.lba % 14 : Nat) : Int) := by omega
          have em : wrap64 ((IntKind.u64.wrap q.cnt).tmod 6) = (mo q.cnt 6 : Int) := mo_wrap q.cnt 6 (by omega) (by omega)
          rw [ex, em]
          have hx14 : q.lba % 14 < 14 := Nat.mod_lt _ (by omega)
          have hm6 := mo_lt q.cnt 6 (by omega)
          clear ex em
          generalize q.lba % 14 = x at hx14 ⊢
          generalize mo q.cnt 6 = m at hm6 ⊢
          obtain ⟨L, hL⟩ : ∃ L, L = m * 64 := ⟨_, rfl⟩
          have eL : (m : Int) * 64 = (L : Int) := by omega
          replace hL := Lib.hid hL
          replace eL := Lib.hid eL
          have hm6' : (m : Int) < 6 := by omega
          have hx14' : (x : Int) < 14 := by omega
          have hA1 : Mod [] wr (wr.alloc (.cells #[.int .i64 q.op, .int .u64 q.lba, .int .i64 q.cnt, .int .i64 q.room] 40)) := (Mod.refl [] wr).alloc _
          have q5' : (wr.alloc (.cells #[.int .i64 q.op, .int .u64 q.lba, .int .i64 q.cnt, .int .i64 q.room] 40)).cell? ⟨b, off + i * 6 + 5, none⟩ = some (.int .u8 (q.fl.toNat : Int)) := by
            rw [hA1.cells.1 _ _ hb]; exact q5
          have hb' := Nat.lt_of_lt_of_le hb hA1.size
          have hKi1 := hKi.mod0 hA1
          have hBi1 := hBi.mod0 hA1
          generalize World.alloc wr _ = V1 at q5' hb' hKi1 hBi1 ⊢
          clear hKi hBi hA1 q0 q1 q2 q3 q4 q5 hb
          go_upto_region 16 with fail
          rw [eL.out]
          have hA2 := (Mod.refl [] V1).alloc (.cells #[.int .i64 0, .int .u64 0, .int .i64 0, .int .i64 0, .int .i64 L, .int .u8 (q.fl.toNat : Int)] 65)
          have hKi2 := hKi1.mod0 hA2
          have hBi2 := hBi1.mod0 hA2
          have hbA := blk_alloc V1 #[.int .i64 0, .int .u64 0, .int .i64 0, .int .i64 0, .int .i64 L, .int .u8 (q.fl.toNat : Int)] 65
          generalize World.alloc V1 _ = V2 at hKi2 hBi2 hbA ⊢
          have y0 : V2.cell? ⟨V1.heap.size, 0, none⟩ = some (.int .i64 0) := blk_cell hbA rfl
          have y1 : V2.cell? ⟨V1.heap.size, 1, none⟩ = some (.int .u64 0) := blk_cell hbA rfl
          have y2 : V2.cell? ⟨V1.heap.size, 2, none⟩ = some (.int .i64 0) := blk_cell hbA rfl
          have y3 : V2.cell? ⟨V1.heap.size, 3, none⟩ = some (.int .i64 0) := blk_cell hbA rfl
          have y4 : V2.cell? ⟨V1.heap.size, 4, none⟩ = some (.int .i64 L) := blk_cell hbA rfl
          have y5 : V2.cell? ⟨V1.heap.size, 5, none⟩ = some (.int .u8 (q.fl.toNat : Int)) := blk_cell hbA rfl
          have zA := blk_lt hbA
          clear hKi1 hBi1 hA2 q5' hb'
          have hdat := data_k q.fl L (by have := hL.out; omega) 0 0 0 0 V2
          rw [By_def] at hdat
          go_wp2_with fail
          refine hdat.mono ?_
          rintro e V3 ⟨da, dc, rfl, ho3, hm3⟩
          have hKi3 := hKi2.mod0 hm3
          have hBi3 := hBi2.mod0 hm3
          have hda : ∀ a, da = some a → N ≤ a.block := fun a ha => by
            have h1 := (own_ge ho3 a.block (by rw [ha]; simp [Value.ownBlock])).1
            have := hKi2.size
            omega
          have hdc : L ≤ dc := by
            rcases ho3.2 with ⟨_, h2⟩ | ⟨g, cap, cur, h1, _, _, hc1, _⟩
            · omega
            · injection h1 with _ _ h3
              omega
          have hD3 : Rds V3 da L (((List.range L).map (fillD q.fl)).map By) := Rds.own ho3
          have hDl : ((List.range L).map (fillD q.fl)).length = L := by simp
          generalize (List.range L).map (fillD q.fl) = D at hD3 hDl
          have HDl := Lib.hid hDl
          clear hdat ho3 hm3 hKi2 hBi2 hDl y0 y1 y2 y3 y4 y5 zA hbA
          by_cases hfit : x + m ≤ 12
          · have f1 : (x : Int) + (m : Int) ≤ 12 := by omega
            go_wp2_with fail
            have hdo := write138 V3 d (G.setVol vol) f hKi3.desk hv x m hfit da dc D (by rw [HDl.out]; exact hL.out) (by rw [HDl.out]; exact hD3) (by rw [HDl.out]; exact hdc) (by rw [HDl.out]; exact hKi3.off hda)
            rw [HDl.out] at hdo
            with_reducible refine hdo.mono ?_
            rintro e V4 ⟨vol4, rfl, hD4, hv4, hm4⟩
            have hKi4 : Kn sh1 w V4 N d (G.setVol vol4) := hKi3.turn (Kn.gsMod hm4) hD4 rfl rfl
            have hBi4 := hBi3.mod hm4 (fun t ht => hKi3.low t (List.mem_cons_of_mem _ ht))
            have hD5 := hD3.mod hm4 (hKi3.off hda)
            clear hdo hD4 hm4 hKi3 hBi3 hD3 hv
            have hA4 := (Mod.refl [] V4).alloc (.cells #[.int .u8 0, .int .u16 0] 70)
            have hKi5 := hKi4.mod0 hA4
            have hBi5 := hBi4.mod0 hA4
            replace hD5 := hD5.mod0 hA4
            have hb5 := blk_alloc V4 #[.int .u8 0, .int .u16 0] 70
            go_upto_region 19 with fail
            generalize hn5 : V4.heap.size = n5 at hb5 ⊢
            generalize World.alloc V4 _ = V5 at hKi5 hBi5 hD5 hb5 ⊢
            have s50 : V5.cell? ⟨n5, 0, none⟩ = some (.int .u8 0) := blk_cell hb5 rfl
            have s51 : V5.cell? ⟨n5, 1, none⟩ = some (.int .u16 0) := blk_cell hb5 rfl
            have z5 := blk_lt hb5
            clear hA4 hKi4 hBi4 hn5
            go_wp2_with fail
            clear s50 s51 z5 hb5
            go_loopw [16] (fun k wr => ∃ j : Nat, k = .int .i64 j ∧ j ≤ m ∧ Kn sh1 w wr N d (G.setVol vol4) ∧ Blocks wr N N 12 (laid f x j D) ∧ Rds wr da L (D.map By)) (fun k _ => m - (intOf k).toNat)
            case atStart => exact ⟨0, rfl, by omega, hKi5, by rw [laid_0]; exact hBi5, hD5⟩
            case round =>
              obtain ⟨j, rfl, hj, hK6, hB6, hD6⟩ := hrel
              clear hKi5 hBi5 hD5
              by_cases hjm : j < m
              · have r3 : (j : Int) < m := by omega
                obtain ⟨db, dof, hda1, hdb, _⟩ := hD6.2 (by have := hL.out; omega)
                subst hda1
                have hNdb : N ≤ db := hda _ rfl
                have hLo := hL.out
                obtain ⟨A1, hA1, hs1⟩ := slice_32 db dof L dc (64 * j) 64 (by omega)
                obtain rfl := hA1 (by decide)
                have i1 : ((64 * j : Nat) : Int) = 64 * (j : Int) := by omega
                have i2 : ((64 * j + 64 : Nat) : Int) = 64 * (j : Int) + 64 := by omega
                rw [i1, i2] at hs1
                have i3 : ((x : Int) + (j : Int)).toNat = x + j := by omega
                have i4 : (x : Int) + (j : Int) < 12 := by omega
                have i5 : (0 : Int) ≤ (x : Int) + (j : Int) := by omega
                have i6 : IntKind.i64.wrap ((x : Int) + (j : Int)) = (x : Int) + (j : Int) := IntWalk.i64_in _ (by omega)
                have i7 : IntKind.i64.wrap (64 * (j : Int)) = 64 * (j : Int) := IntWalk.i64_in _ (by omega)
                have i8 : IntKind.i64.wrap (64 * (j : Int) + 64) = 64 * (j : Int) + 64 := IntWalk.i64_in _ (by omega)
                obtain ⟨v, hcv⟩ := hB6.cell (j := x + j) (by omega)
                have fv := hB6.frozen (x + j)
                have zN := hB6.lt
                have hne : db ≠ N := hB6.ne hD6 (by omega)
                have hrow : Rds wr (some ⟨db, dof + 64 * j, none⟩) 64 (rowOf 64 fun r => laid f x (j + 1) D ((x + j) * 64 + r)) := by
                  have h1 := hD6.cut (a := 64 * j) (m := 64) (A' := some ⟨db, dof + 64 * j, none⟩) (fun _ => rfl) (by omega)
                  rw [List.map_take, List.map_drop, dat_cut D (64 * j) 64 (by rw [HDl.out]; omega)] at h1
                  rw [rowOf_congr (g := fun r => dat D (64 * j + r)) fun r hr => laid_row f x j D r hr]
                  exact h1
                have hB7 := hB6.set (c := dc - 64 * j) (g := laid f x (j + 1) D) (j := x + j) (by omega) hNdb hne hrow (k' := 12) (fun _ h => .inr h) (fun t ht r hr => laid_off f x j D t r ht hr)
                have hm7 := mod_set1 wr N (x + j) (.slice (some ⟨db, dof + 64 * j, none⟩) 64 (dc - 64 * j))
                have hK7 := hK6.high hBl.set hm7 (by simp)
                have hD7 := hD6.mod hm7 (fun a ha _ hin => by cases ha; simp at hin; exact hne hin)
                clear i1 i2 hLo
                go_wp2
                go_roundw
                · exact ⟨j + 1, by go_num, by omega, hK7, hB7, hD7⟩
                · simp [intOf]; omega
              · obtain rfl : j = m := by omega
                clear hjm hj
                have hv6 := hv4
                generalize laid f x j D = f6 at hB6 hv6
                clear hv4
                go_wp2_with fail
                refine (do_f_42_1 _ d _ hK6.desk 3 2 (by decide) da (min (L : Int) 60).toNat dc (by omega)).mono ?_
                rintro e V6 ⟨rfl, hm6'⟩
                have hK7 := hK6.mod0 hm6'
                have hB7 := hB6.mod0 hm6'
                clear hm6' hK6 hB6 hD6
                have hA6 := (Mod.refl [] V6).alloc (.cells #[.int .u8 5, .int .u16 9216] 70)
                have hK8 := hK7.mod0 hA6
                have hB8 := hB7.mod0 hA6
                have hb6 := blk_alloc V6 #[.int .u8 5, .int .u16 9216] 70
                clear hA6 hK7 hB7
                go_wp2_with fail
                generalize V6.heap.size = n6 at hb6 ⊢
                generalize World.alloc V6 _ = V7 at hb6 hK8 hB8 ⊢
                refine (read40 V7 d _ f6 hK8.desk hv6 0 12 (by decide) 768 rfl).mono ?_
                rintro e V8 ⟨gb, rfl, hgb, hbb, hm8⟩
                have hK9 := hK8.mod0 hm8
                have hB9 := hB8.mod0 hm8
                replace hb6 := hm8.blk hb6 (by simp)
                clear hm8 hK8 hB8 hgb
                have hA8 := (Mod.refl [] V8).alloc (.cells #[.int .u8 0, .int .u16 0] 70)
                have hKa := hK9.mod0 hA8
                have hBa := hB9.mod0 hA8
                have hb8 := blk_alloc V8 #[.int .u8 0, .int .u16 0] 70
                replace hb6 := hA8.blk hb6 (by simp)
                have hRa := (Rds.whole hbb).mod0 hA8
                clear hA8 hK9 hB9 hbb
                go_upto_region 27 with fail
                generalize V8.heap.size = n8 at hb8 ⊢
                generalize World.alloc V8 _ = V9 at hb6 hb8 hKa hBa hRa ⊢
                have s60 : V9.cell? ⟨n6, 0, none⟩ = some (.int .u8 5) := blk_cell hb6 rfl
                have s80 : V9.cell? ⟨n8, 0, none⟩ = some (.int .u8 0) := blk_cell hb8 rfl
                have s81 : V9.cell? ⟨n8, 1, none⟩ = some (.int .u16 0) := blk_cell hb8 rfl
                have z6 := blk_lt hb6
                have z8 := blk_lt hb8
                go_wp2_with fail
                clear s60 s80 s81 z6 z8 hb6 hb8
                go_loopw [21] (fun k wr => ∃ j : Nat, k = .int .i64 j ∧ j ≤ 12 ∧ Kn sh1 w wr N d (G.setVol vol4) ∧ Blocks wr N N 12 f6 ∧ Rds wr (some ⟨gb, 0, none⟩) 768 (rowOf 768 fun i => f6 (0 * 64 + i))) (fun k _ => 12 - (intOf k).toNat)
                case atStart => exact ⟨0, rfl, by omega, hKa, hBa, hRa⟩
                case round =>
                  obtain ⟨j, rfl, hj, hKb, hBb, hRb⟩ := hrel
                  clear hKa hBa hRa
                  have t1 : (j : Int) ≤ 12 := by omega
                  by_cases hj12 : j < 12
                  · have t2 : (j : Int) < 12 := by omega
                    obtain ⟨b2, off2, c2, hc2, hr2⟩ := hBb.get hj12 hj12
                    have zN := hBb.lt
                    obtain ⟨A1, hA1, hs1⟩ := slice_32 gb 0 768 768 (64 * j) 64 (by omega)
                    obtain rfl := hA1 (by decide)
                    have i1 : ((64 * j : Nat) : Int) = 64 * (j : Int) := by omega
                    have i2 : ((64 * j + 64 : Nat) : Int) = 64 * (j : Int) + 64 := by omega
                    rw [i1, i2] at hs1
                    have i7 : IntKind.i64.wrap (64 * (j : Int)) = 64 * (j : Int) := IntWalk.i64_in _ (by omega)
                    have i8 : IntKind.i64.wrap (64 * (j : Int) + 64) = 64 * (j : Int) + 64 := IntWalk.i64_in _ (by omega)
                    have hl2 : rowOf 64 (fun i => f6 (j * 64 + i)) = ((List.range 64).map fun i => f6 (j * 64 + i)).map By := rowOf_map _ _
                    have hr1 : Rds wr (some ⟨gb, 0 + 64 * j, none⟩) 64 (((List.range 64).map fun i => f6 (j * 64 + i)).map By) := by
                      rw [← hl2]
                      have h1 := hRb.drop (k := 64 * j) (A' := some ⟨gb, 0 + 64 * j, none⟩) (by omega) (fun b' off' e _ => by cases e; rfl)
                      have h2 := h1.take (k := 64) (by omega)
                      have h3 : ((rowOf 768 fun i => f6 (0 * 64 + i)).drop (64 * j)).take 64 = rowOf 64 fun i => f6 (j * 64 + i) := row_cut f6 j hj12
                      rw [h3] at h2
                      exact h2
                    rw [hl2] at hr2
                    have hsame : ∀ n', Calls Try.prog 19 #[.slice (some ⟨gb, 0 + 64 * j, none⟩) 64 (768 - 64 * j), .slice (some ⟨b2, off2, none⟩) 64 c2] (wr.drewN n') fun e w' => e = .returned (.bool true) ∧ w' = wr.drewN n' := fun n' => by
                      have h1 := same_k (wr.drewN n') _ _ 64 64 (768 - 64 * j) c2 _ _ (hr1.mod0 ((Mod.refl [] wr).drewN n')) (hr2.mod0 ((Mod.refl [] wr).drewN n'))
                      rw [decide_eq_true rfl] at h1
                      exact h1
                    rw [Nat.zero_add] at hsame hs1
                    clear hr1 hr2 hl2 i1 i2
                    go_wp2_with fail
                    go_quiet ((go_at_call 19; exact Calls.quiet_of_same (hsame _)))
                    go_wp2
                    go_roundw
                    · exact ⟨j + 1, by go_num, by omega, hKb.mod0 ((Mod.refl [] wr).drewN _), hBb.mod0 ((Mod.refl [] wr).drewN _), hRb.mod0 ((Mod.refl [] wr).drewN _)⟩
                    · simp [intOf]; omega
                  · obtain rfl : j = 12 := by omega
                    go_wp2
                    go_roundw
                    · exact ⟨i + 1, vol4, f6, by go_num, by omega, hKb, hv6, hBb⟩
                    · simp [intOf]; omega
          · have f1 : ¬ (x : Int) + (m : Int) ≤ 12 := by omega
            go_wp2_with fail
            have hdo := do_x_138_1 V3 d (G.setVol vol) hKi3.desk x m hfit (by omega) (by omega) da L dc
            with_reducible refine hdo.mono ?_
            rintro e V4 ⟨rfl, hm4⟩
            have hKi4 := hKi3.mod0 hm4
            have hBi4 := hBi3.mod0 hm4
            have hD5 := hD3.mod0 hm4
            clear hdo hm4 hKi3 hBi3 hD3
            have hA4 := (Mod.refl [] V4).alloc (.cells #[.int .u8 5, .int .u16 8448] 70)
            have hK6 := hKi4.mod0 hA4
            have hB6 := hBi4.mod0 hA4
            have hD6 := hD5.mod0 hA4
            have hb5 := blk_alloc V4 #[.int .u8 5, .int .u16 8448] 70
            go_upto_region 19 with fail
            generalize hn5 : V4.heap.size = n5 at hb5 ⊢
            generalize World.alloc V4 _ = V5 at hK6 hB6 hD6 hb5 ⊢
            have s50 : V5.cell? ⟨n5, 0, none⟩ = some (.int .u8 5) := blk_cell hb5 rfl
            have s51 : V5.cell? ⟨n5, 1, none⟩ = some (.int .u16 8448) := blk_cell hb5 rfl
            have z5 := blk_lt hb5
            clear hA4 hKi4 hBi4 hn5 hD5
            have hv6 := hv
            generalize f = f6 at hB6 hv6
            generalize vol = vol4 at hK6 hv6
            clear hv
            go_wp2_with fail
            clear s50 s51 z5 hb5
            refine wp_loop_rounds 1 ?_
            rw [rounds_succ]
            go_wp2_with fail
            all_goals
              refine (do_f_42_1 _ d _ hK6.desk 3 2 (by decide) da (min (L : Int) 60).toNat dc (by omega)).mono ?_
              rintro e V6 ⟨rfl, hm6'⟩
              have hK7 := hK6.mod0 hm6'
              have hB7 := hB6.mod0 hm6'
              clear hm6' hK6 hB6 hD6
              have hA6 := (Mod.refl [] V6).alloc (.cells #[.int .u8 5, .int .u16 9216] 70)
              have hK8 := hK7.mod0 hA6
              have hB8 := hB7.mod0 hA6
              have hb6 := blk_alloc V6 #[.int .u8 5, .int .u16 9216] 70
              clear hA6 hK7 hB7
              go_wp2_with fail
              generalize V6.heap.size = n6 at hb6 ⊢
              generalize World.alloc V6 _ = V7 at hb6 hK8 hB8 ⊢
              refine (read40 V7 d _ f6 hK8.desk hv6 0 12 (by decide) 768 rfl).mono ?_
              rintro e V8 ⟨gb, rfl, hgb, hbb, hm8⟩
              have hK9 := hK8.mod0 hm8
              have hB9 := hB8.mod0 hm8
              replace hb6 := hm8.blk hb6 (by simp)
              clear hm8 hK8 hB8 hgb
              have hA8 := (Mod.refl [] V8).alloc (.cells #[.int .u8 0, .int .u16 0] 70)
              have hKa := hK9.mod0 hA8
              have hBa := hB9.mod0 hA8
              have hb8 := blk_alloc V8 #[.int .u8 0, .int .u16 0] 70
              replace hb6 := hA8.blk hb6 (by simp)
              have hRa := (Rds.whole hbb).mod0 hA8
              clear hA8 hK9 hB9 hbb
              go_upto_region 27 with fail
              generalize V8.heap.size = n8 at hb8 ⊢
              generalize World.alloc V8 _ = V9 at hb6 hb8 hKa hBa hRa ⊢
              have s60 : V9.cell? ⟨n6, 0, none⟩ = some (.int .u8 5) := blk_cell hb6 rfl
              have s80 : V9.cell? ⟨n8, 0, none⟩ = some (.int .u8 0) := blk_cell hb8 rfl
              have s81 : V9.cell? ⟨n8, 1, none⟩ = some (.int .u16 0) := blk_cell hb8 rfl
              have z6 := blk_lt hb6
              have z8 := blk_lt hb8
              go_wp2_with fail
              clear s60 s80 s81 z6 z8 hb6 hb8
              go_loopw [21] (fun k wr => ∃ j : Nat, k = .int .i64 j ∧ j ≤ 12 ∧ Kn sh1 w wr N d (G.setVol vol4) ∧ Blocks wr N N 12 f6 ∧ Rds wr (some ⟨gb, 0, none⟩) 768 (rowOf 768 fun i => f6 (0 * 64 + i))) (fun k _ => 12 - (intOf k).toNat)
              case atStart => exact ⟨0, rfl, by omega, hKa, hBa, hRa⟩
              case round =>
                obtain ⟨j, rfl, hj, hKb, hBb, hRb⟩ := hrel
                clear hKa hBa hRa
                have t1 : (j : Int) ≤ 12 := by omega
                by_cases hj12 : j < 12
                · have t2 : (j : Int) < 12 := by omega
                  obtain ⟨b2, off2, c2, hc2, hr2⟩ := hBb.get hj12 hj12
                  have zN := hBb.lt
                  obtain ⟨A1, hA1, hs1⟩ := slice_32 gb 0 768 768 (64 * j) 64 (by omega)
                  obtain rfl := hA1 (by decide)
                  have i1 : ((64 * j : Nat) : Int) = 64 * (j : Int) := by omega
                  have i2 : ((64 * j + 64 : Nat) : Int) = 64 * (j : Int) + 64 := by omega
                  rw [i1, i2] at hs1
                  have i7 : IntKind.i64.wrap (64 * (j : Int)) = 64 * (j : Int) := IntWalk.i64_in _ (by omega)
                  have i8 : IntKind.i64.wrap (64 * (j : Int) + 64) = 64 * (j : Int) + 64 := IntWalk.i64_in _ (by omega)
                  have hl2 : rowOf 64 (fun i => f6 (j * 64 + i)) = ((List.range 64).map fun i => f6 (j * 64 + i)).map By := rowOf_map _ _
                  have hr1 : Rds wr (some ⟨gb, 0 + 64 * j, none⟩) 64 (((List.range 64).map fun i => f6 (j * 64 + i)).map By) := by
                    rw [← hl2]
                    have h1 := hRb.drop (k := 64 * j) (A' := some ⟨gb, 0 + 64 * j, none⟩) (by omega) (fun b' off' e _ => by cases e; rfl)
                    have h2 := h1.take (k := 64) (by omega)
                    have h3 : ((rowOf 768 fun i => f6 (0 * 64 + i)).drop (64 * j)).take 64 = rowOf 64 fun i => f6 (j * 64 + i) := row_cut f6 j hj12
                    rw [h3] at h2
                    exact h2
                  rw [hl2] at hr2
                  have hsame : ∀ n', Calls Try.prog 19 #[.slice (some ⟨gb, 0 + 64 * j, none⟩) 64 (768 - 64 * j), .slice (some ⟨b2, off2, none⟩) 64 c2] (wr.drewN n') fun e w' => e = .returned (.bool true) ∧ w' = wr.drewN n' := fun n' => by
                    have h1 := same_k (wr.drewN n') _ _ 64 64 (768 - 64 * j) c2 _ _ (hr1.mod0 ((Mod.refl [] wr).drewN n')) (hr2.mod0 ((Mod.refl [] wr).drewN n'))
                    rw [decide_eq_true rfl] at h1
                    exact h1
                  rw [Nat.zero_add] at hsame hs1
                  clear hr1 hr2 hl2 i1 i2
                  go_wp2_with fail
                  go_quiet ((go_at_call 19; exact Calls.quiet_of_same (hsame _)))
                  go_wp2
                  go_roundw
                  · exact ⟨j + 1, by go_num, by omega, hKb.mod0 ((Mod.refl [] wr).drewN _), hBb.mod0 ((Mod.refl [] wr).drewN _), hRb.mod0 ((Mod.refl [] wr).drewN _)⟩
                  · simp [intOf]; omega
                · obtain rfl : j = 12 := by omega
                  go_wp2
                  go_roundw
                  · exact ⟨i + 1, vol4, f6, by go_num, by omega, hKb, hv6, hBb⟩
                  · simp [intOf]; omega
        · have key := known_k wr
          by_cases hi2 : i < n
          · have r1 : (i : Int) < n := by omega
            have r2 : ¬ (i : Int) < 60 := by omega
            go_wp2_with fail
            refine key.mono ?_
            rintro e w9 ⟨rfl, hm9⟩
            go_wp2
            go_ret
            exact ⟨rfl, hKi.mod.then0 hm9⟩
          · have r1 : ¬ (i : Int) < n := by omega
            go_wp2_with fail
            refine key.mono ?_
            rintro e w9 ⟨rfl, hm9⟩
            go_wp2
            go_ret
            exact ⟨rfl, hKi.mod.then0 hm9⟩
end Go.Proofs.Ytfkhefoilancnaa

