/-
  pdu's Get: the message at the beginning of bytes, where there is a whole one; and that there is none in less than 48 bytes.
-/
import Derived.WalkKit
import Derived.Handy
import Derived.BigQuiet
import Derived.Deep.QuietTactic
import Derived.Deep.RegionWith
import Derived.Deep.RegionHeld3
import Derived.Deep.CutBlock
import Derived.Deep.CutRange
import Derived.Lib.Hide
import Derived.Test.YtfkhefoilancnaaPdu1
import Derived.Test.YtfkhefoilancnaaDoes
import Derived.Test.YtfkhefoilancnaaNew
import Derived.Test.YtfkhefoilancnaaSched
namespace Go.Proofs.Ytfkhefoilancnaa
open Go.RowKit
theorem op_bits : ∀ o : Fin 64, bits .andNot .u8 ((o.val : Nat) : Int) 64 = ((o.val : Nat) : Int) ∧ bits .and .u8 ((o.val : Nat) : Int) 64 = 0 := by decide +kernel
theorem info38 : (Try.prog.info? 38).map (·.size) = some 13 := by kernel_rfl
/-- What a list of bytes says of a message at its beginning. -/
structure Enc (l : List UInt8) (op fl tag : Nat) (ws : Nat → Nat) (dn : Nat) : Prop where
  eln : 48 + dn + padN dn ≤ l.length
  eop : bt l 0 = op
  eops : (op : Int) ∈ opsL
  efl : bt l 1 = fl
  ez2 : bt l 2 = 0
  ez3 : bt l 3 = 0
  ez4 : bt l 4 = 0
  edn : W32 l 4 = dn
  edle : dn ≤ 4096
  el0 : W32 l 8 = 0
  el1 : W32 l 12 = 0
  etag : W32 l 16 = tag
  ews : ∀ i, i < 7 → W32 l (20 + 4 * i) = ws i
  epad : ∀ j, 48 + dn ≤ j → j < 48 + dn + padN dn → bt l j = 0
/-- The cells of a message that has been read so far: k of its words. -/
def gotCells (op fl tag : Nat) (ws : Nat → Nat) (k : Nat) (d : Value) : Array Value := #[.int .i64 op, .bool false, .int .u8 fl, .int .u64 0, .int .u32 tag, .int .u32 ((if 0 < k then ws 0 else 0 : Nat) : Int), .int .u32 ((if 1 < k then ws 1 else 0 : Nat) : Int), .int .u32 ((if 2 < k then ws 2 else 0 : Nat) : Int), .int .u32 ((if 3 < k then ws 3 else 0 : Nat) : Int), .int .u32 ((if 4 < k then ws 4 else 0 : Nat) : Int), .int .u32 ((if 5 < k then ws 5 else 0 : Nat) : Int), .int .u32 ((if 6 < k then ws 6 else 0 : Nat) : Int), d]
theorem set13 (v : World) (g : Nat) (cs : Array Value) (hb : v.heap[g]? = some (.cells cs 38 (0, 0))) (hc : cs.size = 13) (a0 a1 a2 a3 a4 a5 a6 a7 a8 a9 a10 a11 a12 : Value) : (((((((((((((v.setCell ⟨g, 0, none⟩ a0).setCell ⟨g, 1, none⟩ a1).setCell ⟨g, 2, none⟩ a2).setCell ⟨g, 3, none⟩ a3).setCell ⟨g, 4, none⟩ a4).setCell ⟨g, 5, none⟩ a5).setCell ⟨g, 6, none⟩ a6).setCell ⟨g, 7, none⟩ a7).setCell ⟨g, 8, none⟩ a8).setCell ⟨g, 9, none⟩ a9).setCell ⟨g, 10, none⟩ a10).setCell ⟨g, 11, none⟩ a11).setCell ⟨g, 12, none⟩ a12).heap[g]? = some (.cells #[a0, a1, a2, a3, a4, a5, a6, a7, a8, a9, a10, a11, a12] 38 (0, 0)) := by
  have h := (setCells_blk [a0, a1, a2, a3, a4, a5, a6, a7, a8, a9, a10, a11, a12] v g 0 cs.toList 38 (by simpa using hb) (by simp [hc])).1
  have e : cs.toList.take 0 ++ ([a0, a1, a2, a3, a4, a5, a6, a7, a8, a9, a10, a11, a12] ++ cs.toList.drop (0 + 13)) = [a0, a1, a2, a3, a4, a5, a6, a7, a8, a9, a10, a11, a12] := by simp [List.drop_eq_nil_of_le (show cs.toList.length ≤ 13 by simp [hc])]
  have e' : ([a0, a1, a2, a3, a4, a5, a6, a7, a8, a9, a10, a11, a12] : List Value).length = 13 := rfl
  rw [e', e] at h
  exact h
theorem slice_32 (b off n c lo m : Nat) (h2 : lo + m ≤ c) : ∃ A', (0 < m → A' = some ⟨b, off + lo, none⟩) ∧ ∀ W, (Instr.slice 32 (.slice (some ⟨b, off, none⟩) n c) (some (.int .i64 (lo : Int))) (some (.int .i64 ((lo + m : Nat) : Int))) none).run Try.prog W = .ok (.slice A' m (c - lo)) W := by
  have h := fun W => run_slice_lh (P := Try.prog) W 32 (some ⟨b, off, none⟩) n c (und_of Try.underlying32) .i64 .i64 (lo : Int) ((lo + m : Nat) : Int) (by omega) (by omega) (by omega)
  simp only [elem_of Try.underlying32, size_of_5, Result.andThen_ok, sliced, Int.toNat_natCast, Nat.add_sub_cancel_left] at h
  by_cases h0 : c = lo
  · refine ⟨some ⟨b, off, none⟩, by omega, fun W => ?_⟩
    rw [h W, if_pos h0]
  · refine ⟨some ⟨b, off + lo, none⟩, fun _ => rfl, fun W => ?_⟩
    rw [h W, if_neg h0]
    simp [addr_add]
theorem mod_set1 (w : World) (b i : Nat) (v : Value) : Mod [b] w (w.setCell ⟨b, i, none⟩ v) := (Mod.refl _ _).setCell (.inl (by simp)) _
theorem got_cell {w : World} {g op fl tag : Nat} {ws : Nat → Nat} {k : Nat} {d : Value} (h : w.heap[g]? = some (.cells (gotCells op fl tag ws k d) 38 (0, 0))) (hk : k < 7) : w.cell? ⟨g, 5 + k, none⟩ = some (.int .u32 0) := by
  refine blk_cell h ?_
  match k, hk with
  | 0, _ => rfl
  | 1, _ => rfl
  | 2, _ => rfl
  | 3, _ => rfl
  | 4, _ => rfl
  | 5, _ => rfl
  | 6, _ => rfl
theorem got_set {w : World} {g op fl tag : Nat} {ws : Nat → Nat} {k : Nat} {d : Value} (h : w.heap[g]? = some (.cells (gotCells op fl tag ws k d) 38 (0, 0))) (hk : k < 7) : (w.setCell ⟨g, 5 + k, none⟩ (.int .u32 (ws k))).heap[g]? = some (.cells (gotCells op fl tag ws (k + 1) d) 38 (0, 0)) := by
  rw [heap_setCell_same w g (5 + k) _ 38 _ h]
  match k, hk with
  | 0, _ => rfl
  | 1, _ => rfl
  | 2, _ => rfl
  | 3, _ => rfl
  | 4, _ => rfl
  | 5, _ => rfl
  | 6, _ => rfl
set_option maxRecDepth 100000 in
set_option maxHeartbeats 16000000 in
theorem get_k (w : World) (A : Option Addr) (n c : Nat) (l : List UInt8) (h : Rds w A n (l.map By)) (hn : n ≤ 1000000) (hnc : n ≤ c) (op fl tag : Nat) (ws : Nat → Nat) (dn : Nat) (hE : Enc l op fl tag ws dn) :
    Calls Try.prog 41 #[.slice A n c] w fun e w' => ∃ da dc, e = .returned (.tuple #[.agg (gotCells op fl tag ws 7 (.slice da dn dc)), .int .i64 (48 + (dn : Int) + (padN dn : Int)), .int .i64 0]) ∧ Rds w' da dn (((l.drop 48).take dn).map By) ∧ dn ≤ dc ∧ (∀ a, da = some a → w.heap.size ≤ a.block) ∧ Mod [] w w' := by
  have hl : l.length = n := by simpa using h.1
  have hat : 48 ≤ n := by have := hE.eln; omega
  have k1 : ¬ (n : Int) < 48 := by omega
  have hop64 : op < 64 := by
    have := hE.eops
    simp only [opsL, List.mem_cons, List.not_mem_nil, or_false] at this
    omega
  obtain ⟨ob1, ob2⟩ := op_bits ⟨op, hop64⟩
  simp only at ob1 ob2
  have hword : ∀ w' a, Mod [] w w' → a + 4 ≤ n → Calls Try.prog 62 #[.slice A n c, .int .i64 a] w' fun e w'' => e = .returned (.int .u32 (W32 l a)) ∧ ∃ m, w'' = w'.drewN m := fun w' a hm ha => word_k w' A n c a l (h.mod0 hm) ha hn
  obtain ⟨b, off, hA, hb, _⟩ := h.2 (by omega)
  have hby : ∀ w' k, Mod [] w w' → k < n → w'.cell? ⟨b, off + k, none⟩ = some (.int .u8 (bt l k)) := fun w' k hm hk => (h.mod0 hm).byte hA hk
  have hbz : ∀ w', Mod [] w w' → b < w'.heap.size := fun w' hm => Nat.lt_of_lt_of_le hb hm.size
  subst hA
  go_enter Try.func41, Try.ntmps41
  go_upto_region 3 with fail
  have hresX := blk_alloc w #[.int .i64 0, .bool false, .int .u8 0, .int .u64 0, .int .u32 0, .int .u32 0, .int .u32 0, .int .u32 0, .int .u32 0, .int .u32 0, .int .u32 0, .int .u32 0, .slice none 0 0] 38
  generalize hX : World.alloc w _ = X at hresX ⊢
  have hmX : Mod [] w X := by rw [← hX]; exact (Mod.refl _ _).alloc _
  have hzX : X.heap.size = w.heap.size + 1 := by rw [← hX]; simp
  have hS : ∀ w', Mod [] X w' → Mod [] X w' ∧ b < w'.heap.size ∧ w'.cell? ⟨b, off, none⟩ = some (.int .u8 op) ∧ w'.cell? ⟨b, off + 1, none⟩ = some (.int .u8 fl) := by
    intro w' hm
    have h1 := hmX.then0 hm
    have e0 := hby _ 0 h1 (by omega)
    have e1 := hby _ 1 h1 (by omega)
    rw [hE.eop] at e0
    rw [hE.efl] at e1
    exact ⟨hm, hbz _ h1, e0, e1⟩
  have hword' : ∀ w' a, Mod [] X w' → a + 4 ≤ n → Calls Try.prog 62 #[.slice (some ⟨b, off, none⟩) n c, .int .i64 a] w' fun e w'' => e = .returned (.int .u32 (W32 l a)) ∧ ∃ m, w'' = w'.drewN m := fun w' a hm ha => hword w' a (hmX.then0 hm) ha
  have hwd8 : ∀ w', Mod [] X w' → Calls Try.prog 62 #[.slice (some ⟨b, off, none⟩) n c, .int .i64 8] w' fun e w'' => e = .returned (.int .u32 0) ∧ ∃ m, w'' = w'.drewN m := fun w' hm => by have := hword' w' 8 hm (by omega); rw [hE.el0] at this; exact this
  have hwd12 : ∀ w', Mod [] X w' → Calls Try.prog 62 #[.slice (some ⟨b, off, none⟩) n c, .int .i64 12] w' fun e w'' => e = .returned (.int .u32 0) ∧ ∃ m, w'' = w'.drewN m := fun w' hm => by have := hword' w' 12 hm (by omega); rw [hE.el1] at this; exact this
  have hwd16 : ∀ w', Mod [] X w' → Calls Try.prog 62 #[.slice (some ⟨b, off, none⟩) n c, .int .i64 16] w' fun e w'' => e = .returned (.int .u32 tag) ∧ ∃ m, w'' = w'.drewN m := fun w' hm => by have := hword' w' 16 hm (by omega); rw [hE.etag] at this; exact this
  have hresX' : X.heap[w.heap.size]? = some (.cells #[.int .i64 0, .bool false, .int .u8 0, .int .u64 0, .int .u32 0, .int .u32 0, .int .u32 0, .int .u32 0, .int .u32 0, .int .u32 0, .int .u32 0, .int .u32 0, .slice none 0 0] 38 (0, 0)) := hresX
  clear hX hresX
  have p0 : 0 < n := by omega
  have p1 : 1 < n := by omega
  have kop : IntKind.i64.wrap (op : Int) = (op : Int) := IntWalk.i64_in _ (by omega)
  have klun : bits BinOp.or IntKind.u64 (IntKind.u64.wrap (IntKind.u64.wrap 0 * 4294967296)) (IntKind.u64.wrap 0) = 0 := by decide
  have hA1 : ∀ m cs, ((X.drewN m).alloc (.cells cs 38)).heap[w.heap.size + 1]? = some (.cells cs 38 (0, 0)) := fun m cs => by
    have h1 := blk_alloc (X.drewN m) cs 38
    have e : (X.drewN m).heap.size = w.heap.size + 1 := hzX
    rw [e] at h1
    exact h1
  have hA2 : ∀ m m', (((X.drewN m).alloc (.cells #[.int .i64 0, .bool false, .int .u8 0, .int .u64 0, .int .u32 0, .int .u32 0, .int .u32 0, .int .u32 0, .int .u32 0, .int .u32 0, .int .u32 0, .int .u32 0, .slice none 0 0] 38)).drewN m').heap[w.heap.size + 1]? = some (.cells #[.int .i64 0, .bool false, .int .u8 0, .int .u64 0, .int .u32 0, .int .u32 0, .int .u32 0, .int .u32 0, .int .u32 0, .int .u32 0, .int .u32 0, .int .u32 0, .slice none 0 0] 38 (0, 0)) := fun m m' => hA1 m _
  have hA3 : ∀ m', ((X.alloc (.cells #[.int .i64 0, .bool false, .int .u8 0, .int .u64 0, .int .u32 0, .int .u32 0, .int .u32 0, .int .u32 0, .int .u32 0, .int .u32 0, .int .u32 0, .int .u32 0, .slice none 0 0] 38)).drewN m').heap[w.heap.size + 1]? = some (.cells #[.int .i64 0, .bool false, .int .u8 0, .int .u64 0, .int .u32 0, .int .u32 0, .int .u32 0, .int .u32 0, .int .u32 0, .int .u32 0, .int .u32 0, .int .u32 0, .slice none 0 0] 38 (0, 0)) := fun m' => hA1 0 _
  have q0 : (0 : Int) < n := by omega
  have q1 : (1 : Int) < n := by omega
  go_cut [5] from 16 to 39 (fun p wx => p = .pointer (some ⟨w.heap.size + 1, 0, none⟩) ∧ Mod [] X wx ∧ wx.heap[w.heap.size + 1]? = some (.cells #[.int .i64 op, .bool false, .int .u8 fl, .int .u64 0, .int .u32 tag, .int .u32 0, .int .u32 0, .int .u32 0, .int .u32 0, .int .u32 0, .int .u32 0, .int .u32 0, .slice none 0 0] 38 (0, 0)))
  case first =>
    go_region_held3 (fun w' => Mod [] X w' ∧ b < w'.heap.size ∧ w'.cell? ⟨b, off, none⟩ = some (.int .u8 op) ∧ w'.cell? ⟨b, off + 1, none⟩ = some (.int .u8 fl))
      (first | with_reducible assumption | (with_reducible refine hS _ ?_; repeat (first | with_reducible exact Mod.refl _ _ | with_reducible refine Mod.drewN ?_ _ | with_reducible refine Mod.drew ?_ | with_reducible refine Mod.alloc ?_ _ | with_reducible refine Mod.setCell ?_ (.inr (by simp <;> omega)) _)))
      (first | (go_at_call_of 62 (Value.int .i64 8); refine (hwd8 _ (by (repeat (first | with_reducible exact Mod.refl _ _ | with_reducible refine Mod.drewN ?_ _ | with_reducible refine Mod.drew ?_ | with_reducible refine Mod.alloc ?_ _)))).mono ?_; rintro e w1 ⟨rfl, m, rfl⟩) | (go_at_call_of 62 (Value.int .i64 12); refine (hwd12 _ (by (repeat (first | with_reducible exact Mod.refl _ _ | with_reducible refine Mod.drewN ?_ _ | with_reducible refine Mod.drew ?_ | with_reducible refine Mod.alloc ?_ _)))).mono ?_; rintro e w1 ⟨rfl, m, rfl⟩) | (go_at_call_of 62 (Value.int .i64 16); refine (hwd16 _ (by (repeat (first | with_reducible exact Mod.refl _ _ | with_reducible refine Mod.drewN ?_ _ | with_reducible refine Mod.drew ?_ | with_reducible refine Mod.alloc ?_ _)))).mono ?_; rintro e w1 ⟨rfl, m, rfl⟩))
    all_goals go_wp2_with fail
    all_goals go_meet
    all_goals refine ⟨rfl, ?_, ?_⟩
    all_goals first
      | ((repeat (first | with_reducible exact Mod.refl _ _ | with_reducible refine Mod.drewN ?_ _ | with_reducible refine Mod.drew ?_ | with_reducible refine Mod.alloc ?_ _ | with_reducible refine Mod.setCell ?_ (.inr (by simp <;> omega)) _)); done)
      | with_reducible exact hA1 _ _
      | with_reducible exact set13 _ _ _ (hA2 _ _) rfl _ _ _ _ _ _ _ _ _ _ _ _ _
      | with_reducible exact set13 _ _ _ (hA3 _) rfl _ _ _ _ _ _ _ _ _ _ _ _ _
  case rest =>
    obtain ⟨rfl, hmc, hbc⟩ := hcut
    have hmw := hmX.then0 hmc
    have hres := hmc.blk hresX' (by simp)
    clear hS hwd8 hwd12 hwd16 hA1 hA2 hA3 hmX hzX hmc hresX' kop klun
    generalize wc = V at hmw hres hbc ⊢
    go_wp2_with fail
    go_loopw [40] (fun i wr => ∃ k : Nat, i = .int .i64 k ∧ k ≤ 7 ∧ Mod [] w wr ∧ wr.heap[w.heap.size]? = some (.cells #[.int .i64 0, .bool false, .int .u8 0, .int .u64 0, .int .u32 0, .int .u32 0, .int .u32 0, .int .u32 0, .int .u32 0, .int .u32 0, .int .u32 0, .int .u32 0, .slice none 0 0] 38 (0, 0)) ∧ wr.heap[w.heap.size + 1]? = some (.cells (gotCells op fl tag ws k (.slice none 0 0)) 38 (0, 0))) (fun i _ => 7 - (intOf i).toNat)
    case atStart => exact ⟨0, rfl, by omega, hmw, hres, by rw [hbc]; rfl⟩
    case round =>
      obtain ⟨k, rfl, hk, hm, hres', hg⟩ := hrel
      clear hmw hres hbc
      have r1 : (k : Int) ≤ 7 := by omega
      have z1 := blk_lt hg
      by_cases hk7 : k < 7
      · have r2 : (k : Int) < 7 := by omega
        have hwk := hword wr (20 + 4 * k) hm (by omega)
        have hws := hE.ews k hk7
        rw [hws] at hwk
        have e1 : (20 : Int) + 4 * (k : Int) = ((20 + 4 * k : Nat) : Int) := by omega
        replace e1 := Lib.hid e1
        have w1 : IntKind.i64.wrap (4 * (k : Int)) = 4 * (k : Int) := IntWalk.i64_in _ (by omega)
        have w2 : IntKind.i64.wrap (20 + 4 * (k : Int)) = 20 + 4 * (k : Int) := IntWalk.i64_in _ (by omega)
        have f1 := fun m => blk_frozen (w := wr.drewN m) hg (5 + k)
        have c1 := fun m => got_cell (w := wr.drewN m) hg hk7
        go_wp2_with fail
        rw [e1.out]
        refine hwk.mono ?_
        rintro e w2 ⟨rfl, m, rfl⟩
        go_wp2
        go_roundw
        · exact ⟨k + 1, by go_num, by omega, (hm.drewN m).setCell (.inr (by simp)) _, ((mod_set1 (wr.drewN m) (w.heap.size + 1) (5 + k) _).blk hres' (by simp)), got_set (w := wr.drewN m) hg hk7⟩
        · simp [intOf]; omega
      · obtain rfl : k = 7 := by omega
        clear hk7 hk r1
        have hck := checkp_k ⟨op, fl, 0, tag, ws 0, ws 1, ws 2, ws 3, ws 4, ws 5, ws 6, none, 0, 0⟩ hE.eops (Nat.zero_le _) wr
        have y0 : wr.cell? ⟨w.heap.size + 1, 0, none⟩ = some (.int .i64 op) := blk_cell hg rfl
        have y1 : wr.cell? ⟨w.heap.size + 1, 1, none⟩ = some (.bool false) := blk_cell hg rfl
        have y2 : wr.cell? ⟨w.heap.size + 1, 2, none⟩ = some (.int .u8 fl) := blk_cell hg rfl
        have y3 : wr.cell? ⟨w.heap.size + 1, 3, none⟩ = some (.int .u64 0) := blk_cell hg rfl
        have y4 : wr.cell? ⟨w.heap.size + 1, 4, none⟩ = some (.int .u32 tag) := blk_cell hg rfl
        have y5 : wr.cell? ⟨w.heap.size + 1, 5, none⟩ = some (.int .u32 (ws 0)) := blk_cell hg rfl
        have y6 : wr.cell? ⟨w.heap.size + 1, 6, none⟩ = some (.int .u32 (ws 1)) := blk_cell hg rfl
        have y7 : wr.cell? ⟨w.heap.size + 1, 7, none⟩ = some (.int .u32 (ws 2)) := blk_cell hg rfl
        have y8 : wr.cell? ⟨w.heap.size + 1, 8, none⟩ = some (.int .u32 (ws 3)) := blk_cell hg rfl
        have y9 : wr.cell? ⟨w.heap.size + 1, 9, none⟩ = some (.int .u32 (ws 4)) := blk_cell hg rfl
        have y10 : wr.cell? ⟨w.heap.size + 1, 10, none⟩ = some (.int .u32 (ws 5)) := blk_cell hg rfl
        have y11 : wr.cell? ⟨w.heap.size + 1, 11, none⟩ = some (.int .u32 (ws 6)) := blk_cell hg rfl
        have y12 : wr.cell? ⟨w.heap.size + 1, 12, none⟩ = some (.slice none 0 0) := blk_cell hg rfl
        go_wp2_with fail
        refine hck.mono ?_
        rintro e w5 ⟨rfl, hm5⟩
        have hm' := hm.then0 hm5
        have hg5 := hm5.blk hg (by simp)
        have hr5 := hm5.blk hres' (by simp)
        clear hck hg hres' hm hm5 y0 y1 y2 y3 y4 y5 y6 y7 y8 y9 y10 y11 y12
        have hw4 := hword w5 4 hm' (by omega)
        rw [hE.edn] at hw4
        have dle := hE.edle
        have eln := hE.eln
        have kd : IntKind.i64.wrap (dn : Int) = (dn : Int) := IntWalk.i64_in _ (by omega)
        go_wp2_with fail
        refine hw4.mono ?_
        rintro e w6 ⟨rfl, md, rfl⟩
        go_wp2_with fail
        refine (pad_k dn (by omega) _).mono ?_
        rintro e w7 ⟨rfl, hw⟩
        obtain rfl := hw.symm
        have hpad : padN dn < 4 := by unfold padN; omega
        generalize hV : w5.drewN md = V
        have hmV : Mod [] w V := by rw [← hV]; exact hm'.drewN md
        have hgV : V.heap[w.heap.size + 1]? = some (.cells (gotCells op fl tag ws 7 (.slice none 0 0)) 38 (0, 0)) := by rw [← hV]; exact hg5
        have hrV : V.heap[w.heap.size]? = some (.cells #[.int .i64 0, .bool false, .int .u8 0, .int .u64 0, .int .u32 0, .int .u32 0, .int .u32 0, .int .u32 0, .int .u32 0, .int .u32 0, .int .u32 0, .int .u32 0, .slice none 0 0] 38 (0, 0)) := by rw [← hV]; exact hr5
        clear hV hm' hg5 hr5 hword hw4
        obtain ⟨A1, hA1, hs1⟩ := slice_32 b off n c (48 + dn) (padN dn) (by omega)
        have epd := hE.epad
        obtain ⟨P, hP⟩ : ∃ P, P = padN dn := ⟨_, rfl⟩
        rw [← hP] at hs1 hA1 epd hpad eln ⊢
        replace hP := Lib.hid hP
        have i1 : ((48 + dn : Nat) : Int) = 48 + (dn : Int) := by omega
        have i2 : ((48 + dn + P : Nat) : Int) = 48 + (dn : Int) + (P : Int) := by omega
        rw [i1, i2] at hs1
        clear i1 i2
        have kw1 : IntKind.i64.wrap (48 + (dn : Int)) = 48 + (dn : Int) := IntWalk.i64_in _ (by omega)
        have kw2 : IntKind.i64.wrap (48 + (dn : Int) + (P : Int)) = 48 + (dn : Int) + (P : Int) := IntWalk.i64_in _ (by omega)
        have c2 := hby V 2 hmV (by omega)
        have c3 := hby V 3 hmV (by omega)
        have c4 := hby V 4 hmV (by omega)
        rw [hE.ez2] at c2
        rw [hE.ez3] at c3
        rw [hE.ez4] at c4
        have zV := hbz V hmV
        have s2 : (2 : Int) < n := by omega
        have s3 : (3 : Int) < n := by omega
        have s4 : (4 : Int) < n := by omega
        have s5 : ¬ (4096 : Int) < (dn : Int) := by omega
        have s6 : ¬ (n : Int) < 48 + (dn : Int) + (P : Int) := by omega
        go_wp2_with fail
        clear c2 c3 c4 zV
        go_loopw [109] (fun i wr => ∃ j : Nat, i = .int .i64 j ∧ j ≤ P ∧ Mod [] w wr ∧ wr.heap[w.heap.size]? = some (.cells #[.int .i64 0, .bool false, .int .u8 0, .int .u64 0, .int .u32 0, .int .u32 0, .int .u32 0, .int .u32 0, .int .u32 0, .int .u32 0, .int .u32 0, .int .u32 0, .slice none 0 0] 38 (0, 0)) ∧ wr.heap[w.heap.size + 1]? = some (.cells (gotCells op fl tag ws 7 (.slice none 0 0)) 38 (0, 0))) (fun i _ => P - (intOf i).toNat)
        case atStart => exact ⟨0, rfl, by omega, hmV, hrV, hgV⟩
        case round =>
          obtain ⟨j, rfl, hj, hm, hr, hg⟩ := hrel
          clear hmV hrV hgV hs1
          have j1 : (j : Int) ≤ P := by omega
          by_cases hjP : j < P
          · have j2 : (j : Int) < P := by omega
            obtain rfl := hA1 (by omega)
            have c2 := hby _ (48 + dn + j) hm (by omega)
            rw [epd (48 + dn + j) (by omega) (by omega), ← Nat.add_assoc] at c2
            have zV := hbz _ hm
            go_wp2
            go_roundw
            · exact ⟨j + 1, by go_num, by omega, hm, hr, hg⟩
            · simp [intOf]; omega
          · obtain rfl : j = P := by omega
            clear hjP hj j1
            have hrd := (h.mod0 hm)
            obtain ⟨A2, hA2, hs2⟩ := slice_32 b off n c 48 dn (by omega)
            have i1 : ((48 : Nat) : Int) = 48 := rfl
            have i2 : ((48 + dn : Nat) : Int) = 48 + (dn : Int) := by omega
            rw [i1, i2] at hs2
            clear i1 i2
            have hrs : Rds wr A2 dn (((l.drop 48).take dn).map By) := by
              by_cases hd0 : dn = 0
              · subst hd0
                exact Rds.nil _ _
              · have e := hA2 (by omega)
                subst e
                have h1 := (hrd.drop (k := 48) (A' := some ⟨b, off + 48, none⟩) (by omega) (fun b' off' e _ => by injection e with e; injection e with e1 e2; subst e1 e2; rfl)).take (k := dn) (by omega)
                rw [List.map_take, List.map_drop]
                exact h1
            have zr := blk_lt hr
            have zg := blk_lt hg
            go_wp2_with (at_builtin; refine wpList_cat (wr.alloc (.cells #[] 5)) rfl (.tmp 117) (.tmp 121) 32 rfl wr.heap.size 5 _ 1 Try.underlying32 info5 rfl (by decide) (.slice (some ⟨wr.heap.size, 0, none⟩) 0 0) 0 [] rfl (World.ownsRow_lit wr #[] 0 (Nat.le_refl _) (by simp [maxLen]) rfl) A2 dn (c - 48) (((l.drop 48).take dn).map By) rfl (hrs.mod0 ((Mod.refl _ _).alloc _)) (bytes_one _) (by omega) (by simp) ?_)
            intro ao cp w2 hown2 hm2
            replace hown2 : w2.ownsRow wr.heap.size 5 1 (.slice ao dn cp) dn (((l.drop 48).take dn).map By) := by simpa using hown2
            have ha2 : Mod [] wr (wr.alloc (.cells #[] 5)) := (Mod.refl _ _).alloc _
            have hm3 : Mod [] wr w2 := ha2.trans hm2 (fun t ht => .inr (by simp [Value.ownBlock] at ht; omega))
            have hg2 := hm3.blk hg (by simp)
            have hr2 := hm3.blk hr (by simp)
            have f2 := blk_frozen hg2 12
            have c2 := blk_cell (i := 12) hg2 rfl
            have z2 := blk_lt hg2
            go_upto_region 27 with fail
            have hY1 : (w2.setCell ⟨w.heap.size + 1, 12, none⟩ (.slice ao dn cp)).heap[w.heap.size + 1]? = some (.cells (gotCells op fl tag ws 7 (.slice ao dn cp)) 38 (0, 0)) := by
              rw [heap_setCell_same w2 (w.heap.size + 1) 12 _ 38 _ hg2]
              rfl
            have hYr := (mod_set1 w2 (w.heap.size + 1) 12 (.slice ao dn cp)).blk hr2 (by simp)
            have hYo := (mod_set1 w2 (w.heap.size + 1) 12 (.slice ao dn cp)).own hown2 (off1 hown2 hg2 (by decide))
            have hYm : Mod [] w (w2.setCell ⟨w.heap.size + 1, 12, none⟩ (.slice ao dn cp)) := (hm.then0 hm3).setCell (.inr (by simp)) _
            have hww := hm.size
            generalize w2.setCell ⟨w.heap.size + 1, 12, none⟩ (.slice ao dn cp) = Y at hY1 hYr hYo hYm ⊢
            clear hm hr hg hrd hrs hown2 hm2 ha2 hm3 hg2 hr2 f2 c2 z2 zr zg hs2 hA2
            have y0 : Y.cell? ⟨w.heap.size + 1, 0, none⟩ = some (.int .i64 op) := blk_cell hY1 rfl
            have y1 : Y.cell? ⟨w.heap.size + 1, 1, none⟩ = some (.bool false) := blk_cell hY1 rfl
            have y2 : Y.cell? ⟨w.heap.size + 1, 2, none⟩ = some (.int .u8 fl) := blk_cell hY1 rfl
            have y3 : Y.cell? ⟨w.heap.size + 1, 3, none⟩ = some (.int .u64 0) := blk_cell hY1 rfl
            have y4 : Y.cell? ⟨w.heap.size + 1, 4, none⟩ = some (.int .u32 tag) := blk_cell hY1 rfl
            have y5 : Y.cell? ⟨w.heap.size + 1, 5, none⟩ = some (.int .u32 (ws 0)) := blk_cell hY1 rfl
            have y6 : Y.cell? ⟨w.heap.size + 1, 6, none⟩ = some (.int .u32 (ws 1)) := blk_cell hY1 rfl
            have y7 : Y.cell? ⟨w.heap.size + 1, 7, none⟩ = some (.int .u32 (ws 2)) := blk_cell hY1 rfl
            have y8 : Y.cell? ⟨w.heap.size + 1, 8, none⟩ = some (.int .u32 (ws 3)) := blk_cell hY1 rfl
            have y9 : Y.cell? ⟨w.heap.size + 1, 9, none⟩ = some (.int .u32 (ws 4)) := blk_cell hY1 rfl
            have y10 : Y.cell? ⟨w.heap.size + 1, 10, none⟩ = some (.int .u32 (ws 5)) := blk_cell hY1 rfl
            have y11 : Y.cell? ⟨w.heap.size + 1, 11, none⟩ = some (.int .u32 (ws 6)) := blk_cell hY1 rfl
            have y12 : Y.cell? ⟨w.heap.size + 1, 12, none⟩ = some (.slice ao dn cp) := blk_cell hY1 rfl
            have o0 : Y.cell? ⟨w.heap.size, 0, none⟩ = some (.int .i64 0) := blk_cell hYr rfl
            have o1 : Y.cell? ⟨w.heap.size, 1, none⟩ = some (.bool false) := blk_cell hYr rfl
            have o2 : Y.cell? ⟨w.heap.size, 2, none⟩ = some (.int .u8 0) := blk_cell hYr rfl
            have o3 : Y.cell? ⟨w.heap.size, 3, none⟩ = some (.int .u64 0) := blk_cell hYr rfl
            have o4 : Y.cell? ⟨w.heap.size, 4, none⟩ = some (.int .u32 0) := blk_cell hYr rfl
            have o5 : Y.cell? ⟨w.heap.size, 5, none⟩ = some (.int .u32 0) := blk_cell hYr rfl
            have o6 : Y.cell? ⟨w.heap.size, 6, none⟩ = some (.int .u32 0) := blk_cell hYr rfl
            have o7 : Y.cell? ⟨w.heap.size, 7, none⟩ = some (.int .u32 0) := blk_cell hYr rfl
            have o8 : Y.cell? ⟨w.heap.size, 8, none⟩ = some (.int .u32 0) := blk_cell hYr rfl
            have o9 : Y.cell? ⟨w.heap.size, 9, none⟩ = some (.int .u32 0) := blk_cell hYr rfl
            have o10 : Y.cell? ⟨w.heap.size, 10, none⟩ = some (.int .u32 0) := blk_cell hYr rfl
            have o11 : Y.cell? ⟨w.heap.size, 11, none⟩ = some (.int .u32 0) := blk_cell hYr rfl
            have o12 : Y.cell? ⟨w.heap.size, 12, none⟩ = some (.slice none 0 0) := blk_cell hYr rfl
            have zr := blk_lt hYr
            have zg := blk_lt hY1
            have fr := fun i => blk_frozen hYr i
            go_wp2
            have hP' := hP.out
            clear hP
            subst hP'
            have hs := setCells_blk [.int .i64 op, .bool false, .int .u8 fl, .int .u64 0, .int .u32 tag, .int .u32 (ws 0), .int .u32 (ws 1), .int .u32 (ws 2), .int .u32 (ws 3), .int .u32 (ws 4), .int .u32 (ws 5), .int .u32 (ws 6), .slice ao dn cp] Y w.heap.size 0 [.int .i64 0, .bool false, .int .u8 0, .int .u64 0, .int .u32 0, .int .u32 0, .int .u32 0, .int .u32 0, .int .u32 0, .int .u32 0, .int .u32 0, .int .u32 0, .slice none 0 0] 38 hYr (by simp)
            refine bodyPost_ret (res_cell_tmp_tmp _ _ w.heap.size 38 _ rfl hs.1 Try.underlying38 info38 rfl) rfl ⟨ao, cp, rfl, ?_, ?_, ?_, ?_⟩
            · have ho := hs.2.own hYo (off1 hYo hYr (by decide))
              exact Rds.own ho
            · rcases hYo.2 with ⟨h1, h2⟩ | ⟨g, cap, cur, h1, hb1, hg1, hc1, _⟩
              · omega
              · injection h1 with _ _ h3
                omega
            · intro a ha
              subst ha
              rcases hYo.2 with ⟨h1, _⟩ | ⟨g, cap, cur, h1, hb1, _⟩
              · cases h1
              · injection h1 with h1
                injection h1 with h1
                rw [h1]
                exact Nat.le_trans hww hb1
            · exact hYm.trans hs.2 (fun t ht => .inr (by simp at ht; omega))
set_option maxRecDepth 100000 in
set_option maxHeartbeats 4000000 in
theorem get_short (w : World) (A : Option Addr) (n c : Nat) (hn : n < 48) : Calls Try.prog 41 #[.slice A n c] w fun e w' => e = .returned (.tuple #[.agg #[.int .i64 0, .bool false, .int .u8 0, .int .u64 0, .int .u32 0, .int .u32 0, .int .u32 0, .int .u32 0, .int .u32 0, .int .u32 0, .int .u32 0, .int .u32 0, .slice none 0 0], .int .i64 0, .int .i64 10]) ∧ Mod [] w w' := by
  have k1 : (n : Int) < 48 := by omega
  go_enter Try.func41, Try.ntmps41
  go_wp2
  have hA := blk_alloc w #[.int .i64 0, .bool false, .int .u8 0, .int .u64 0, .int .u32 0, .int .u32 0, .int .u32 0, .int .u32 0, .int .u32 0, .int .u32 0, .int .u32 0, .int .u32 0, .slice none 0 0] 38
  refine bodyPost_ret (res_cell_tmp_tmp _ _ w.heap.size 38 _ rfl hA Try.underlying38 info38 rfl) rfl ⟨rfl, (Mod.refl _ _).alloc _⟩
end Go.Proofs.Ytfkhefoilancnaa
