/-
  The reference's Get: the message at the beginning of bytes, where there is a whole one.
-/
import Derived.WalkKit
import Derived.Handy
import Derived.BigQuiet
import Derived.Deep.QuietTactic
import Derived.Deep.RegionWith
import Derived.Deep.RegionHeld3
import Derived.Deep.CutBlock
import Derived.Deep.CutRange
import Derived.Lib.Hide
import Derived.Test.YtfkhefoilancnaaBits3
import Derived.Test.YtfkhefoilancnaaRef1
namespace Go.Proofs.Ytfkhefoilancnaa
open Go.RowKit
theorem cut_at (l : List UInt8) (a m : Nat) (h : a + m ≤ l.length) : (l.drop a).take m = (List.range m).map fun i => l.getD (a + i) 0 := by
  apply List.ext_getElem?
  intro j
  rw [List.getElem?_take, List.getElem?_map]
  by_cases hj : j < m
  · rw [if_pos hj, List.getElem?_drop, List.getElem?_range hj]
    simp [List.getD, show a + j < l.length by omega]
  · rw [if_neg hj, List.getElem?_eq_none (by simp; omega)]
    rfl
theorem num4 (l : List UInt8) (a : Nat) (h : a + 4 ≤ l.length) : num ((l.drop a).take 4) = W32 l a := by
  rw [cut_at l a 4 h, show List.range 4 = [0, 1, 2, 3] from rfl]
  simp only [List.map_cons, List.map_nil, num, List.foldl_cons, List.foldl_nil, Nat.add_zero, W32, bt]
  omega
theorem num3 (l : List UInt8) (a : Nat) (h : a + 4 ≤ l.length) (h0 : bt l a = 0) : num ((l.drop (a + 1)).take 3) = W32 l a := by
  rw [cut_at l (a + 1) 3 (by omega), show List.range 3 = [0, 1, 2] from rfl]
  simp only [bt] at h0
  simp only [List.map_cons, List.map_nil, num, List.foldl_cons, List.foldl_nil, Nat.add_zero, W32, bt, Nat.add_assoc, Nat.reduceAdd, h0]
  omega
theorem num8 (l : List UInt8) (a : Nat) (h : a + 8 ≤ l.length) (h0 : W32 l a = 0) (h1 : W32 l (a + 4) = 0) : num ((l.drop a).take 8) = 0 := by
  rw [cut_at l a 8 h, show List.range 8 = [0, 1, 2, 3, 4, 5, 6, 7] from rfl]
  simp only [W32, bt, Nat.add_assoc, Nat.reduceAdd] at h0 h1
  simp only [List.map_cons, List.map_nil, num, List.foldl_cons, List.foldl_nil, Nat.add_zero]
  rw [show (l.getD a 0).toNat = 0 by omega, show (l.getD (a + 1) 0).toNat = 0 by omega, show (l.getD (a + 2) 0).toNat = 0 by omega, show (l.getD (a + 3) 0).toNat = 0 by omega, show (l.getD (a + 4) 0).toNat = 0 by omega, show (l.getD (a + 5) 0).toNat = 0 by omega, show (l.getD (a + 6) 0).toNat = 0 by omega, show (l.getD (a + 7) 0).toNat = 0 by omega]
theorem Rds.cut {w : World} {b off n a m : Nat} {l : List UInt8} (h : Rds w (some ⟨b, off, none⟩) n (l.map By)) {A' : Option Addr} (hA : 0 < m → A' = some ⟨b, off + a, none⟩) (ham : a + m ≤ n) : Rds w A' m (((l.drop a).take m).map By) := by
  by_cases hm : m = 0
  · subst hm
    simpa using Rds.nil w A'
  · have e := hA (by omega)
    subst e
    have h1 := (h.drop (k := a) (A' := some ⟨b, off + a, none⟩) (by omega) (fun b' off' e _ => by injection e with e; injection e with e1 e2; subst e1 e2; rfl)).take (k := m) (by omega)
    rw [List.map_take, List.map_drop]
    exact h1
set_option maxRecDepth 100000 in
set_option maxHeartbeats 4000000 in
theorem get20_k (w : World) (A : Option Addr) (n c : Nat) (l : List UInt8) (h : Rds w A n (l.map By)) (hn : n ≤ 1000000) (hnc : n ≤ c) (op fl tag : Nat) (ws : Nat → Nat) (dn : Nat) (hE : Enc l op fl tag ws dn) :
    Calls Try.prog 26 #[.slice A n c] w fun e w' => ∃ da dc, e = .returned (.tuple #[.agg (gotCells op fl tag ws 7 (.slice da dn dc)), .int .i64 (48 + (dn : Int) + (padN dn : Int)), .int .i64 0]) ∧ Rds w' da dn (((l.drop 48).take dn).map By) ∧ (∀ a, da = some a → w.heap.size ≤ a.block) ∧ Mod [] w w' := by
  have hl : l.length = n := by simpa using h.1
  have hat : 48 ≤ n := by have := hE.eln; omega
  have k1 : ¬ (n : Int) < 48 := by omega
  have hop64 : op < 64 := by
    have := hE.eops
    simp only [opsL, List.mem_cons, List.not_mem_nil, or_false] at this
    omega
  obtain ⟨b, off, hA, hb, _⟩ := h.2 (by omega)
  have hby : ∀ w' k, Mod [] w w' → k < n → w'.cell? ⟨b, off + k, none⟩ = some (.int .u8 (bt l k)) := fun w' k hm hk => (h.mod0 hm).byte hA hk
  have hbz : ∀ w', Mod [] w w' → b < w'.heap.size := fun w' hm => Nat.lt_of_lt_of_le hb hm.size
  subst hA
  obtain ⟨A8, hA8, hs8⟩ : ∃ A', (0 < 8 → A' = some ⟨b, off + 8, none⟩) ∧ ∀ W, (Instr.slice 32 (.slice (some ⟨b, off, none⟩) n c) (some (.int .i64 8)) (some (.int .i64 16)) none).run Try.prog W = .ok (.slice A' 8 (c - 8)) W := slice_32 b off n c 8 8 (by omega)
  obtain ⟨A16, hA16, hs16⟩ : ∃ A', (0 < 4 → A' = some ⟨b, off + 16, none⟩) ∧ ∀ W, (Instr.slice 32 (.slice (some ⟨b, off, none⟩) n c) (some (.int .i64 16)) (some (.int .i64 20)) none).run Try.prog W = .ok (.slice A' 4 (c - 16)) W := slice_32 b off n c 16 4 (by omega)
  obtain rfl := hA8 (by decide)
  obtain rfl := hA16 (by decide)
  clear hA8 hA16
  obtain ⟨o8, ho8⟩ : ∃ o8, o8 = off + 8 := ⟨_, rfl⟩
  obtain ⟨o16, ho16⟩ : ∃ o16, o16 = off + 16 := ⟨_, rfl⟩
  rw [← ho8] at hs8
  rw [← ho16] at hs16
  have hg8 : ∀ w', Mod [] w w' → Calls Try.prog 13 #[.slice (some ⟨b, o8, none⟩) 8 (c - 8)] w' fun e w'' => e = .returned (.int .u64 0) ∧ w'' = w' := fun w' hm => by
    have h1 := get19_k (some ⟨b, o8, none⟩) 8 (c - 8) _ w' ((h.mod0 hm).cut (a := 8) (fun _ => by rw [ho8]) (by omega)) (by omega)
    rw [num8 l 8 (by omega) hE.el0 hE.el1] at h1
    exact h1
  have hg16 : ∀ w', Mod [] w w' → Calls Try.prog 13 #[.slice (some ⟨b, o16, none⟩) 4 (c - 16)] w' fun e w'' => e = .returned (.int .u64 tag) ∧ w'' = w' := fun w' hm => by
    have h1 := get19_k (some ⟨b, o16, none⟩) 4 (c - 16) _ w' ((h.mod0 hm).cut (a := 16) (fun _ => by rw [ho16]) (by omega)) (by omega)
    rw [num4 l 16 (by omega), hE.etag] at h1
    exact h1
  clear ho8 ho16
  go_enter Try.func26, Try.ntmps26
  go_upto_region 3 with fail
  have hresX := blk_alloc w #[.int .i64 0, .bool false, .int .u8 0, .int .u64 0, .int .u32 0, .int .u32 0, .int .u32 0, .int .u32 0, .int .u32 0, .int .u32 0, .int .u32 0, .int .u32 0, .slice none 0 0] 38
  generalize hX : World.alloc w _ = X at hresX ⊢
  have hmX : Mod [] w X := by rw [← hX]; exact (Mod.refl _ _).alloc _
  have hzX : X.heap.size = w.heap.size + 1 := by rw [← hX]; simp
  have hS : ∀ w', Mod [] X w' → Mod [] X w' ∧ b < w'.heap.size ∧ w'.cell? ⟨b, off, none⟩ = some (.int .u8 op) ∧ w'.cell? ⟨b, off + 1, none⟩ = some (.int .u8 fl) := by
    intro w' hm
    have h1 := hmX.then0 hm
    have e0 := hby _ 0 h1 (by omega)
    have e1 := hby _ 1 h1 (by omega)
    rw [hE.eop] at e0
    rw [hE.efl] at e1
    exact ⟨hm, hbz _ h1, e0, e1⟩
  replace hg8 := fun w' (hm : Mod [] X w') => hg8 w' (hmX.then0 hm)
  replace hg16 := fun w' (hm : Mod [] X w') => hg16 w' (hmX.then0 hm)
  have hresX' : X.heap[w.heap.size]? = some (.cells #[.int .i64 0, .bool false, .int .u8 0, .int .u64 0, .int .u32 0, .int .u32 0, .int .u32 0, .int .u32 0, .int .u32 0, .int .u32 0, .int .u32 0, .int .u32 0, .slice none 0 0] 38 (0, 0)) := hresX
  clear hX hresX
  have htag : tag < 4294967296 := by rw [← hE.etag]; exact W32_lt _ _
  have p0 : 0 < n := by omega
  have p1 : 1 < n := by omega
  have kop : IntKind.i64.wrap (op : Int) = (op : Int) := IntWalk.i64_in _ (by omega)
  have ktag : IntKind.u32.wrap (tag : Int) = (tag : Int) := wraps_u32 _ (by omega) (by omega)
  have hA4 : ((X.alloc (.cells #[.int .i64 op, .bool false, .int .u8 fl, .int .u64 0, .int .u32 tag, .int .u32 0, .int .u32 0, .int .u32 0, .int .u32 0, .int .u32 0, .int .u32 0, .int .u32 0, .slice none 0 0] 38)).drew).heap[w.heap.size + 1]? = some (.cells #[.int .i64 op, .bool false, .int .u8 fl, .int .u64 0, .int .u32 tag, .int .u32 0, .int .u32 0, .int .u32 0, .int .u32 0, .int .u32 0, .int .u32 0, .int .u32 0, .slice none 0 0] 38 (0, 0)) := by
    have h1 := blk_alloc X #[.int .i64 op, .bool false, .int .u8 fl, .int .u64 0, .int .u32 tag, .int .u32 0, .int .u32 0, .int .u32 0, .int .u32 0, .int .u32 0, .int .u32 0, .int .u32 0, .slice none 0 0] 38
    rw [hzX] at h1
    exact h1
  have q0 : (0 : Int) < n := by omega
  have q1 : (1 : Int) < n := by omega
  go_cut [5] from 15 to 29 (fun p wx => p = .pointer (some ⟨w.heap.size + 1, 0, none⟩) ∧ Mod [] X wx ∧ wx.heap[w.heap.size + 1]? = some (.cells #[.int .i64 op, .bool false, .int .u8 fl, .int .u64 0, .int .u32 tag, .int .u32 0, .int .u32 0, .int .u32 0, .int .u32 0, .int .u32 0, .int .u32 0, .int .u32 0, .slice none 0 0] 38 (0, 0)))
  case first =>
    go_region_held3 (fun w' => Mod [] X w' ∧ b < w'.heap.size ∧ w'.cell? ⟨b, off, none⟩ = some (.int .u8 op) ∧ w'.cell? ⟨b, off + 1, none⟩ = some (.int .u8 fl))
      (first | with_reducible assumption | (with_reducible refine hS _ ?_; repeat (first | with_reducible exact Mod.refl _ _ | with_reducible refine Mod.drewN ?_ _ | with_reducible refine Mod.drew ?_ | with_reducible refine Mod.alloc ?_ _ | with_reducible refine Mod.setCell ?_ (.inr (by simp <;> omega)) _)))
      (first | (go_at_call_of 13 o8; (with_reducible refine (hg8 _ ?_).mono ?_); (focus (repeat (first | with_reducible exact Mod.refl _ _ | with_reducible refine Mod.drewN ?_ _ | with_reducible refine Mod.drew ?_ | with_reducible refine Mod.alloc ?_ _))); rintro e w1 ⟨rfl, hw⟩; obtain rfl := hw.symm) | (go_at_call_of 13 o16; (with_reducible refine (hg16 _ ?_).mono ?_); (focus (repeat (first | with_reducible exact Mod.refl _ _ | with_reducible refine Mod.drewN ?_ _ | with_reducible refine Mod.drew ?_ | with_reducible refine Mod.alloc ?_ _))); rintro e w1 ⟨rfl, hw⟩; obtain rfl := hw.symm))
    all_goals go_wp2_with fail
    all_goals go_meet
    all_goals exact ⟨rfl, ((Mod.refl _ _).alloc _).drew, hA4⟩
  case rest =>
    obtain ⟨rfl, hmc, hbc⟩ := hcut
    have hmw := hmX.then0 hmc
    have hres := hmc.blk hresX' (by simp)
    clear hS hg8 hg16 hA4 hmX hzX hmc hresX' ktag hs8 hs16
    generalize wc = V at hmw hres hbc ⊢
    have y0 : V.cell? ⟨w.heap.size + 1, 0, none⟩ = some (.int .i64 op) := blk_cell hbc rfl
    have zy := blk_lt hbc
    have kmod : ¬ (64 : Int) ≤ (op : Int) % 128 := by omega
    go_wp2_with fail
    clear y0 zy kmod
    go_loopw [6] (fun i wr => ∃ k : Nat, i = .int .i64 k ∧ k ≤ 7 ∧ Mod [] w wr ∧ wr.heap[w.heap.size]? = some (.cells #[.int .i64 0, .bool false, .int .u8 0, .int .u64 0, .int .u32 0, .int .u32 0, .int .u32 0, .int .u32 0, .int .u32 0, .int .u32 0, .int .u32 0, .int .u32 0, .slice none 0 0] 38 (0, 0)) ∧ wr.heap[w.heap.size + 1]? = some (.cells (gotCells op fl tag ws k (.slice none 0 0)) 38 (0, 0))) (fun i _ => 7 - (intOf i).toNat)
    case atStart => exact ⟨0, rfl, by omega, hmw, hres, by rw [hbc]; rfl⟩
    case round =>
      obtain ⟨k, rfl, hk, hm, hres', hg⟩ := hrel
      clear hmw hres hbc
      have r1 : (k : Int) ≤ 7 := by omega
      have z1 := blk_lt hg
      by_cases hk7 : k < 7
      · have r2 : (k : Int) < 7 := by omega
        obtain ⟨A1, hA1, hs1⟩ := slice_32 b off n c (20 + 4 * k) 4 (by omega)
        obtain rfl := hA1 (by decide)
        clear hA1
        have i1 : ((20 + 4 * k : Nat) : Int) = 20 + 4 * (k : Int) := by omega
        have i2 : ((20 + 4 * k + 4 : Nat) : Int) = 24 + 4 * (k : Int) := by omega
        rw [i1, i2] at hs1
        clear i1 i2
        have hwk := get19_k (some ⟨b, off + (20 + 4 * k), none⟩) 4 (c - (20 + 4 * k)) _ wr ((h.mod0 hm).cut (a := 20 + 4 * k) (fun _ => rfl) (by omega)) (by omega)
        have hwlt := W32_lt l (20 + 4 * k)
        rw [num4 l (20 + 4 * k) (by omega), hE.ews k hk7] at hwk
        rw [hE.ews k hk7] at hwlt
        have w0 : IntKind.u32.wrap (ws k : Int) = (ws k : Int) := wraps_u32 _ (by omega) (by omega)
        have w1 : IntKind.i64.wrap (4 * (k : Int)) = 4 * (k : Int) := IntWalk.i64_in _ (by omega)
        have w2 : IntKind.i64.wrap (20 + 4 * (k : Int)) = 20 + 4 * (k : Int) := IntWalk.i64_in _ (by omega)
        have w3 : IntKind.i64.wrap (24 + 4 * (k : Int)) = 24 + 4 * (k : Int) := IntWalk.i64_in _ (by omega)
        have f1 := blk_frozen (w := wr) hg (5 + k)
        have c1 := got_cell (w := wr) hg hk7
        have i0 : (0 : Int) ≤ 20 + 4 * (k : Int) := by omega
        go_wp2_with fail
        with_reducible refine hwk.mono ?_
        rintro e w2 ⟨rfl, hw⟩
        obtain rfl := hw.symm
        go_wp2
        go_roundw
        · exact ⟨k + 1, by go_num, by omega, hm.setCell (.inr (by simp)) _, ((mod_set1 wr (w.heap.size + 1) (5 + k) _).blk hres' (by simp)), got_set (w := wr) hg hk7⟩
        · simp [intOf]; omega
      · obtain rfl : k = 7 := by omega
        clear hk7 hk r1
        have hck := check20_k ⟨op, fl, 0, tag, ws 0, ws 1, ws 2, ws 3, ws 4, ws 5, ws 6, none, 0, 0⟩ hE.eops (Nat.zero_le _) wr
        have y0 : wr.cell? ⟨w.heap.size + 1, 0, none⟩ = some (.int .i64 op) := blk_cell hg rfl
        have y1 : wr.cell? ⟨w.heap.size + 1, 1, none⟩ = some (.bool false) := blk_cell hg rfl
        have y2 : wr.cell? ⟨w.heap.size + 1, 2, none⟩ = some (.int .u8 fl) := blk_cell hg rfl
        have y3 : wr.cell? ⟨w.heap.size + 1, 3, none⟩ = some (.int .u64 0) := blk_cell hg rfl
        have y4 : wr.cell? ⟨w.heap.size + 1, 4, none⟩ = some (.int .u32 tag) := blk_cell hg rfl
        have y5 : wr.cell? ⟨w.heap.size + 1, 5, none⟩ = some (.int .u32 (ws 0)) := blk_cell hg rfl
        have y6 : wr.cell? ⟨w.heap.size + 1, 6, none⟩ = some (.int .u32 (ws 1)) := blk_cell hg rfl
        have y7 : wr.cell? ⟨w.heap.size + 1, 7, none⟩ = some (.int .u32 (ws 2)) := blk_cell hg rfl
        have y8 : wr.cell? ⟨w.heap.size + 1, 8, none⟩ = some (.int .u32 (ws 3)) := blk_cell hg rfl
        have y9 : wr.cell? ⟨w.heap.size + 1, 9, none⟩ = some (.int .u32 (ws 4)) := blk_cell hg rfl
        have y10 : wr.cell? ⟨w.heap.size + 1, 10, none⟩ = some (.int .u32 (ws 5)) := blk_cell hg rfl
        have y11 : wr.cell? ⟨w.heap.size + 1, 11, none⟩ = some (.int .u32 (ws 6)) := blk_cell hg rfl
        have y12 : wr.cell? ⟨w.heap.size + 1, 12, none⟩ = some (.slice none 0 0) := blk_cell hg rfl
        go_wp2_with fail
        refine hck.mono ?_
        rintro e w5 ⟨rfl, hm5⟩
        have hm' := hm.then0 hm5
        have hg5 := hm5.blk hg (by simp)
        have hr5 := hm5.blk hres' (by simp)
        clear hck hg hres' hm hm5 y0 y1 y2 y3 y4 y5 y6 y7 y8 y9 y10 y11 y12
        obtain ⟨A3, hA3, hs3⟩ : ∃ A', (0 < 3 → A' = some ⟨b, off + 5, none⟩) ∧ ∀ W, (Instr.slice 32 (.slice (some ⟨b, off, none⟩) n c) (some (.int .i64 5)) (some (.int .i64 8)) none).run Try.prog W = .ok (.slice A' 3 (c - 5)) W := slice_32 b off n c 5 3 (by omega)
        obtain rfl := hA3 (by decide)
        clear hA3
        have hw3 := get19_k (some ⟨b, off + 5, none⟩) 3 (c - 5) _ w5 ((h.mod0 hm').cut (a := 5) (fun _ => rfl) (by omega)) (by omega)
        rw [num3 l 4 (by omega) hE.ez4, hE.edn] at hw3
        have dle := hE.edle
        have eln := hE.eln
        have kd : IntKind.i64.wrap (dn : Int) = (dn : Int) := IntWalk.i64_in _ (by omega)
        go_wp2_with fail
        refine hw3.mono ?_
        rintro e w6 ⟨rfl, hw⟩
        obtain rfl := hw.symm
        clear hw3 hs3
        go_upto_region 14 with fail
        have hpad : padN dn < 4 := by unfold padN; omega
        have he : (48 : Int) + ((dn : Int) + 3) / 4 * 4 = 48 + (dn : Int) + (padN dn : Int) := by unfold padN; omega
        rw [he]
        clear he
        have epd := hE.epad
        obtain ⟨P, hP⟩ : ∃ P, P = padN dn := ⟨_, rfl⟩
        rw [← hP] at epd hpad eln ⊢
        replace hP := Lib.hid hP
        have c2 := hby w5 2 hm' (by omega)
        have c3 := hby w5 3 hm' (by omega)
        have c4 := hby w5 4 hm' (by omega)
        rw [hE.ez2] at c2
        rw [hE.ez3] at c3
        rw [hE.ez4] at c4
        have zV := hbz w5 hm'
        have s2 : (2 : Int) < n := by omega
        have s3 : (3 : Int) < n := by omega
        have s4 : (4 : Int) < n := by omega
        have s5 : ¬ (4096 : Int) < (dn : Int) := by omega
        have s6 : ¬ (n : Int) < 48 + (dn : Int) + (P : Int) := by omega
        have kw1 : IntKind.i64.wrap (48 + (dn : Int)) = 48 + (dn : Int) := IntWalk.i64_in _ (by omega)
        go_wp2_with fail
        clear c2 c3 c4 zV
        go_loopw [10] (fun i wr => ∃ j : Nat, i = .int .i64 (48 + (dn : Int) + (j : Int)) ∧ j ≤ P ∧ Mod [] w wr ∧ wr.heap[w.heap.size]? = some (.cells #[.int .i64 0, .bool false, .int .u8 0, .int .u64 0, .int .u32 0, .int .u32 0, .int .u32 0, .int .u32 0, .int .u32 0, .int .u32 0, .int .u32 0, .int .u32 0, .slice none 0 0] 38 (0, 0)) ∧ wr.heap[w.heap.size + 1]? = some (.cells (gotCells op fl tag ws 7 (.slice none 0 0)) 38 (0, 0))) (fun i _ => (48 + dn + P : Nat) - (intOf i).toNat)
        case atStart => exact ⟨0, by simp, by omega, hm', hr5, hg5⟩
        case round =>
          obtain ⟨j, rfl, hj, hm, hr, hg⟩ := hrel
          clear hm' hr5 hg5
          have j1 : (j : Int) ≤ P := by omega
          by_cases hjP : j < P
          · have j2 : 48 + (dn : Int) + (j : Int) < 48 + (dn : Int) + (P : Int) := by omega
            have j3 : (0 : Int) ≤ 48 + (dn : Int) + (j : Int) := by omega
            have j4 : 48 + (dn : Int) + (j : Int) < n := by omega
            have j5 : (48 + (dn : Int) + (j : Int)).toNat = 48 + dn + j := by omega
            have j6 : IntKind.i64.wrap (48 + (dn : Int) + (j : Int) + 1) = 48 + (dn : Int) + (j : Int) + 1 := IntWalk.i64_in _ (by omega)
            have c2 := hby _ (48 + dn + j) hm (by omega)
            rw [epd (48 + dn + j) (by omega) (by omega)] at c2
            have zV := hbz _ hm
            go_wp2
            go_roundw
            · exact ⟨j + 1, by congr 1, by omega, hm, hr, hg⟩
            · simp [intOf]; omega
          · obtain rfl : j = P := by omega
            clear hjP hj j1
            obtain ⟨A2, hA2, hs2⟩ := slice_32 b off n c 48 dn (by omega)
            have i1 : ((48 : Nat) : Int) = 48 := rfl
            have i2 : ((48 + dn : Nat) : Int) = 48 + (dn : Int) := by omega
            rw [i1, i2] at hs2
            clear i1 i2
            have hrs := (h.mod0 hm).cut (a := 48) (m := dn) hA2 (by omega)
            have hcp := copy_k wr A2 dn (c - 48) _ (by omega) hrs (bytes_one _)
            go_wp2_with fail
            with_reducible refine hcp.mono ?_
            rintro e w2 ⟨ao, cp, rfl, hown2, hm2⟩
            clear hcp
            have hm3 := hm.then0 hm2
            have hg2 := hm2.blk hg (by simp)
            have hr2 := hm2.blk hr (by simp)
            have hf2 := own_ge hown2
            have f2 := blk_frozen hg2 12
            have c2 := blk_cell (i := 12) hg2 rfl
            have z2 := blk_lt hg2
            have hsz := hm.size
            go_upto_region 28 with fail
            have hY1 : (w2.setCell ⟨w.heap.size + 1, 12, none⟩ (.slice ao dn cp)).heap[w.heap.size + 1]? = some (.cells (gotCells op fl tag ws 7 (.slice ao dn cp)) 38 (0, 0)) := by
              rw [heap_setCell_same w2 (w.heap.size + 1) 12 _ 38 _ hg2]
              rfl
            have hYr := (mod_set1 w2 (w.heap.size + 1) 12 (.slice ao dn cp)).blk hr2 (by simp)
            have hYo := (mod_set1 w2 (w.heap.size + 1) 12 (.slice ao dn cp)).own hown2 (off1 hown2 hg2 (by decide))
            have hYm : Mod [] w (w2.setCell ⟨w.heap.size + 1, 12, none⟩ (.slice ao dn cp)) := hm3.setCell (.inr (by simp)) _
            generalize w2.setCell ⟨w.heap.size + 1, 12, none⟩ (.slice ao dn cp) = Y at hY1 hYr hYo hYm ⊢
            clear hm hr hg hrs hown2 hm2 hm3 hg2 hr2 f2 c2 z2 hs2 hA2
            have y0 : Y.cell? ⟨w.heap.size + 1, 0, none⟩ = some (.int .i64 op) := blk_cell hY1 rfl
            have y1 : Y.cell? ⟨w.heap.size + 1, 1, none⟩ = some (.bool false) := blk_cell hY1 rfl
            have y2 : Y.cell? ⟨w.heap.size + 1, 2, none⟩ = some (.int .u8 fl) := blk_cell hY1 rfl
            have y3 : Y.cell? ⟨w.heap.size + 1, 3, none⟩ = some (.int .u64 0) := blk_cell hY1 rfl
            have y4 : Y.cell? ⟨w.heap.size + 1, 4, none⟩ = some (.int .u32 tag) := blk_cell hY1 rfl
            have y5 : Y.cell? ⟨w.heap.size + 1, 5, none⟩ = some (.int .u32 (ws 0)) := blk_cell hY1 rfl
            have y6 : Y.cell? ⟨w.heap.size + 1, 6, none⟩ = some (.int .u32 (ws 1)) := blk_cell hY1 rfl
            have y7 : Y.cell? ⟨w.heap.size + 1, 7, none⟩ = some (.int .u32 (ws 2)) := blk_cell hY1 rfl
            have y8 : Y.cell? ⟨w.heap.size + 1, 8, none⟩ = some (.int .u32 (ws 3)) := blk_cell hY1 rfl
            have y9 : Y.cell? ⟨w.heap.size + 1, 9, none⟩ = some (.int .u32 (ws 4)) := blk_cell hY1 rfl
            have y10 : Y.cell? ⟨w.heap.size + 1, 10, none⟩ = some (.int .u32 (ws 5)) := blk_cell hY1 rfl
            have y11 : Y.cell? ⟨w.heap.size + 1, 11, none⟩ = some (.int .u32 (ws 6)) := blk_cell hY1 rfl
            have y12 : Y.cell? ⟨w.heap.size + 1, 12, none⟩ = some (.slice ao dn cp) := blk_cell hY1 rfl
            have o0 : Y.cell? ⟨w.heap.size, 0, none⟩ = some (.int .i64 0) := blk_cell hYr rfl
            have o1 : Y.cell? ⟨w.heap.size, 1, none⟩ = some (.bool false) := blk_cell hYr rfl
            have o2 : Y.cell? ⟨w.heap.size, 2, none⟩ = some (.int .u8 0) := blk_cell hYr rfl
            have o3 : Y.cell? ⟨w.heap.size, 3, none⟩ = some (.int .u64 0) := blk_cell hYr rfl
            have o4 : Y.cell? ⟨w.heap.size, 4, none⟩ = some (.int .u32 0) := blk_cell hYr rfl
            have o5 : Y.cell? ⟨w.heap.size, 5, none⟩ = some (.int .u32 0) := blk_cell hYr rfl
            have o6 : Y.cell? ⟨w.heap.size, 6, none⟩ = some (.int .u32 0) := blk_cell hYr rfl
            have o7 : Y.cell? ⟨w.heap.size, 7, none⟩ = some (.int .u32 0) := blk_cell hYr rfl
            have o8 : Y.cell? ⟨w.heap.size, 8, none⟩ = some (.int .u32 0) := blk_cell hYr rfl
            have o9 : Y.cell? ⟨w.heap.size, 9, none⟩ = some (.int .u32 0) := blk_cell hYr rfl
            have o10 : Y.cell? ⟨w.heap.size, 10, none⟩ = some (.int .u32 0) := blk_cell hYr rfl
            have o11 : Y.cell? ⟨w.heap.size, 11, none⟩ = some (.int .u32 0) := blk_cell hYr rfl
            have o12 : Y.cell? ⟨w.heap.size, 12, none⟩ = some (.slice none 0 0) := blk_cell hYr rfl
            have zr := blk_lt hYr
            have zg := blk_lt hY1
            have fr := fun i => blk_frozen hYr i
            go_wp2
            have hP' := hP.out
            clear hP
            subst hP'
            have hs := setCells_blk [.int .i64 op, .bool false, .int .u8 fl, .int .u64 0, .int .u32 tag, .int .u32 (ws 0), .int .u32 (ws 1), .int .u32 (ws 2), .int .u32 (ws 3), .int .u32 (ws 4), .int .u32 (ws 5), .int .u32 (ws 6), .slice ao dn cp] Y w.heap.size 0 [.int .i64 0, .bool false, .int .u8 0, .int .u64 0, .int .u32 0, .int .u32 0, .int .u32 0, .int .u32 0, .int .u32 0, .int .u32 0, .int .u32 0, .int .u32 0, .slice none 0 0] 38 hYr (by simp)
            refine bodyPost_ret (res_cell_tmp_tmp _ _ w.heap.size 38 _ rfl hs.1 Try.underlying38 info38 rfl) rfl ⟨ao, cp, rfl, ?_, ?_, ?_⟩
            · have ho := hs.2.own hYo (off1 hYo hYr (by decide))
              exact Rds.own ho
            · intro a ha
              subst ha
              have h1 := hf2 a.block (by simp [Value.ownBlock])
              omega
            · exact hYm.trans hs.2 (fun t ht => .inr (by simp at ht; omega))
end Go.Proofs.Ytfkhefoilancnaa
