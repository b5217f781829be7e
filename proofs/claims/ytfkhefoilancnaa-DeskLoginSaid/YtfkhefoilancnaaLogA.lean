/-
  cdb's put and get: a number into its bytes, and out of them.
  cdb's Print at the commands of the laws: sixteen bytes. Printed by gen_print.py.
  cdb's Parse at the commands of the laws. Printed by gen_parse.py.
  pdu's Command; cdb's PutSense at the sense of a block beyond the end; the desk's status.
  The desk's status: how a command went.
  The desk's Feed, where a message may change the volume: the volume is known by what it reads as.
  The desk's command: a command is done; what is read goes out in pieces; then how it went. Printed by gen_cmd67.py.
  The desk's does at a command, and what messages do in the words of Feed2. Printed by gen_msg2.py.
  The desk's login where the text names nobody: that is the end; and a feed behind the end.
  DeskLogin's feeds: a command ahead of a login; a login that names nobody; a login, a command, a logout.
-/
import Derived.WalkKit
import Derived.Handy
import Derived.BigQuiet
import Derived.Deep.QuietTactic
import Derived.Deep.RegionWith
import Derived.Laws.BitsLemmas
import Derived.Lib.Hide
import Derived.Test.YtfkhefoilancnaaGet20
import Derived.Deep.CutBlock
import Derived.Deep.CutRange
import Derived.Test.YtfkhefoilancnaaCheck
import Derived.Deep.RegionHeld3
import Derived.KernelRfl
import Derived.Test.YtfkhefoilancnaaKnown
import Derived.WalkMore
import Derived.Deep.LoopGhost
import Derived.Test.YtfkhefoilancnaaFeed
import Derived.Test.YtfkhefoilancnaaVol1
namespace Go.Proofs.Ytfkhefoilancnaa
open Go.RowKit
/-- A row behind a put: the last k of the field's bytes. -/
def fput (f : Nat → UInt8) (at_ n k v : Nat) : Nat → UInt8 := fun i => if at_ + n ≤ i + k ∧ i < at_ + n then UInt8.ofNat (v / 2 ^ (8 * (at_ + n - 1 - i))) else f i
theorem rowOf_set (N : Nat) (f : Nat → UInt8) (j : Nat) (u : UInt8) : (rowOf N f).set j (By u) = rowOf N fun i => if i = j then u else f i := by
  apply List.ext_getElem?
  intro i
  rw [List.getElem?_set, rowOf_get, rowOf_get, rowOf_length]
  by_cases e : j = i
  · subst e
    simp
  · have e' : ¬ i = j := fun h => e h.symm
    simp [e, e']
set_option maxRecDepth 100000 in
set_option maxHeartbeats 4000000 in
theorem fput_k (w : World) (g N : Nat) (f : Nat → UInt8) (hg : w.heap[g]? = some (.cells (rowOf N f).toArray 5 (0, 0))) (hN : N ≤ 64) (at_ n v : Nat) (hn : at_ + n ≤ N) (hn8 : n ≤ 8) (c : Nat) :
    Calls Try.prog 92 #[.slice (some ⟨g, 0, none⟩) N c, .agg #[.int .i64 at_, .int .i64 n], .int .u64 v] w fun e w' => e = .returned (.tuple #[]) ∧ w'.heap[g]? = some (.cells (rowOf N (fput f at_ n n v)).toArray 5 (0, 0)) ∧ Mod [g] w w' := by
  have hb0 := blk_alloc w #[.int .i64 at_, .int .i64 n] 140
  have hg0 := ((Mod.refl [] w).alloc (.cells #[.int .i64 at_, .int .i64 n] 140)).blk hg (by simp)
  have zg := blk_lt hg
  go_enter Try.func92, Try.ntmps92
  go_wp2_with fail
  generalize hX : World.alloc w _ = X at hb0 hg0 ⊢
  have hmX : Mod [g] w X := by rw [← hX]; exact (Mod.refl _ _).alloc _
  clear hX
  go_loopw [9] (fun i wr => ∃ k : Nat, i = .int .i64 k ∧ k ≤ n ∧ wr.heap[g]? = some (.cells (rowOf N (fput f at_ n k v)).toArray 5 (0, 0)) ∧ wr.heap[w.heap.size]? = some (.cells #[.int .i64 at_, .int .i64 n] 140 (0, 0)) ∧ Mod [g] w wr) (fun i _ => n - (intOf i).toNat)
  case atStart => exact ⟨0, rfl, by omega, by rw [rowOf_congr (g := f) fun i _ => by unfold fput; rw [if_neg (by omega)]]; exact hg0, hb0, hmX⟩
  case round =>
    obtain ⟨k, rfl, hk, hgr, hbr, hm⟩ := hrel
    clear hb0 hg0 hmX
    by_cases hkn : k < n
    · have r1 : (k : Int) < n := by omega
      have y0 : wr.cell? ⟨w.heap.size, 0, none⟩ = some (.int .i64 at_) := blk_cell hbr rfl
      have y1 : wr.cell? ⟨w.heap.size, 1, none⟩ = some (.int .i64 n) := blk_cell hbr rfl
      have zb := blk_lt hbr
      have zgr := blk_lt hgr
      obtain ⟨j, hj⟩ : ∃ j, j = at_ + n - 1 - k := ⟨_, rfl⟩
      have cj : wr.cell? ⟨g, j, none⟩ = some (By (fput f at_ n k v j)) := blk_cell hgr (by
        have h1 := rowOf_get N (fput f at_ n k v) j
        rw [if_pos (by omega)] at h1
        simpa using h1)
      have fj := blk_frozen hgr j
      have s1 : (at_ : Int) + n - 1 - k = (j : Int) := by omega
      have s2 : (0 : Int) ≤ (at_ : Int) + n - 1 - k := by omega
      have s3 : (at_ : Int) + n - 1 - k < N := by omega
      have s4 : ((at_ : Int) + n - 1 - k).toNat = j := by omega
      have HJ := Lib.hid hj
      have w1 : IntKind.i64.wrap ((at_ : Int) + n) = (at_ : Int) + n := IntWalk.i64_in _ (by omega)
      have w2 : IntKind.i64.wrap ((at_ : Int) + n - 1) = (at_ : Int) + n - 1 := IntWalk.i64_in _ (by omega)
      have w3 : IntKind.i64.wrap ((at_ : Int) + n - 1 - k) = (at_ : Int) + n - 1 - k := IntWalk.i64_in _ (by omega)
      have w4 : IntKind.i64.wrap (8 * (k : Int)) = 8 * (k : Int) := IntWalk.i64_in _ (by omega)
      clear hj s1
      go_wp2_with fail
      go_region
      have hv1 : By (UInt8.ofNat (v / 2 ^ (8 * k))) = .int .u8 ((v : Int) / 2 ^ (8 * k) % 256) := by
        rw [By_of]
        simp [Int.natCast_ediv, Int.natCast_pow]
      have hgn : (wr.setCell ⟨g, j, none⟩ (.int .u8 ((v : Int) / 2 ^ (8 * k) % 256))).heap[g]? = some (.cells (rowOf N (fput f at_ n (k + 1) v)).toArray 5 (0, 0)) := by
        rw [← hv1, heap_setCell_same wr g j _ 5 _ hgr]
        have h1 := rowOf_set N (fput f at_ n k v) j (UInt8.ofNat (v / 2 ^ (8 * k)))
        have h2 : (rowOf N (fput f at_ n k v)).toArray.setIfInBounds j (By (UInt8.ofNat (v / 2 ^ (8 * k)))) = (rowOf N (fput f at_ n (k + 1) v)).toArray := by
          rw [List.setIfInBounds_toArray, h1]
          congr 1
          refine rowOf_congr fun i hi => ?_
          have hj := HJ.out
          by_cases e : i = j
          · rw [if_pos e]
            unfold fput
            rw [if_pos (by omega)]
            congr 3
            omega
          · rw [if_neg e]
            unfold fput
            by_cases h3 : at_ + n ≤ i + k ∧ i < at_ + n
            · rw [if_pos h3, if_pos (by omega)]
            · rw [if_neg h3, if_neg (by omega)]
        rw [← h2]
      have hbn := (mod_set1 wr g j (.int .u8 ((v : Int) / 2 ^ (8 * k) % 256))).blk hbr (by simp; omega)
      have hmn : Mod [g] w (wr.setCell ⟨g, j, none⟩ (.int .u8 ((v : Int) / 2 ^ (8 * k) % 256))).drew := (hm.setCell (.inl (by simp)) _).drew
      clear y0 y1 zb zgr cj fj s2 s3 s4 w1 w2 w3 w4
      go_wp2
      go_roundw
      · exact ⟨k + 1, by go_num, by omega, hgn, hbn, hmn⟩
      · simp [intOf]; omega
    · obtain rfl : k = n := by omega
      go_wp2
      go_end0
      exact ⟨rfl, hgr, hm⟩
theorem or_u64 (v x : Nat) (hv : v < 72057594037927936) (hx : x < 256) : bits .or .u64 ((v : Int) * 256) (x : Int) = (v : Int) * 256 + x := by
  have wraps_u64 : ∀ n : Int, 0 ≤ n → n < 2 ^ 64 → IntKind.u64.wrap n = n := fun n h0 h1 => by rw [IntKind.wrap_u64]; omega
  exact bits_join .u64 64 (by decide) wraps_u64 8 ((v : Int) * 256) (x : Int) (by omega) (by omega) (by omega) (by omega) (by omega) (by omega)
set_option maxRecDepth 100000 in
set_option maxHeartbeats 4000000 in
theorem fget_k (A : Option Addr) (N c : Nat) (l : List UInt8) (w : World) (h : Rds w A N (l.map By)) (hNc : N ≤ c) (at_ n : Nat) (hn : at_ + n ≤ N) (hn8 : n ≤ 8) (hN : N ≤ 64) (hN0 : 0 < N) :
    Calls Try.prog 97 #[.slice A N c, .agg #[.int .i64 at_, .int .i64 n]] w fun e w' => e = .returned (.int .u64 (num ((l.drop at_).take n))) ∧ Mod [] w w' := by
  have hl : l.length = N := by simpa using h.1
  obtain ⟨b, off, hA, hb, _⟩ := h.2 hN0
  subst hA
  obtain ⟨A1, hA1, hs1⟩ := slice_32 b off N c at_ n (by omega)
  have i2 : ((at_ + n : Nat) : Int) = (at_ : Int) + (n : Int) := by omega
  rw [i2] at hs1
  have hr0 := h.cut (a := at_) (m := n) hA1 hn
  have w1 : IntKind.i64.wrap ((at_ : Int) + n) = (at_ : Int) + n := IntWalk.i64_in _ (by omega)
  have hll : ((l.drop at_).take n).length = n := by rw [List.length_take, List.length_drop]; omega
  generalize (l.drop at_).take n = s at hr0 hll ⊢
  have HLL := Lib.hid hll
  clear i2 hll hl hA1
  go_enter Try.func97, Try.ntmps97
  go_wp2_with fail
  have hm1 : Mod [] w (w.alloc (.cells #[.int .i64 at_, .int .i64 n] 140)) := (Mod.refl _ _).alloc _
  have hr1 := hr0.mod0 hm1
  generalize World.alloc w _ = V at hm1 hr1 ⊢
  clear hs1 w1 hr0
  go_loop [5, 18] (fun a i => ∃ k : Nat, k ≤ n ∧ i = .int .i64 k ∧ a = .int .u64 (num (s.take k))) (fun _ i => n - (intOf i).toNat)
  case atStart => exact ⟨0, Nat.zero_le _, rfl, rfl⟩
  case round =>
    obtain ⟨k, hk, rfl, rfl⟩ := hrel
    by_cases hkn : k < n
    · obtain ⟨b1, off1, hA1, hb1, _⟩ := hr1.2 (by omega)
      have hc := hr1.byte hA1 (k := k) hkn
      subst hA1
      have hb2 := bt_lt s k
      have hs := take_snoc8 s k (by rw [HLL.out]; exact hkn)
      have hlt := num_lt (s.take k)
      have hlen : (s.take k).length ≤ 7 := by rw [List.length_take]; omega
      have hlt2 : num (s.take k) < 72057594037927936 := Nat.lt_of_lt_of_le hlt (by
        have := Nat.pow_le_pow_right (n := 256) (by omega) hlen
        simpa using this)
      clear hlt hlen
      generalize hv : num (s.take k) = v at hs hlt2 ⊢
      generalize hx : bt s k = x at hs hb2 hc
      have HS := Lib.hid hs
      have hor := or_u64 v x hlt2 hb2
      clear hs hv hx
      have w1 : IntKind.u64.wrap ((v : Int) * 256) = (v : Int) * 256 := by rw [IntKind.wrap_u64]; omega
      have w3 : IntKind.u64.wrap (x : Int) = (x : Int) := by rw [IntKind.wrap_u64]; omega
      have r1 : (k : Int) < n := by omega
      go_wp2
      go_round
      case rel => exact ⟨k + 1, by omega, by go_num, by rw [HS.out]; go_num⟩
      case measure => simp [intOf]; omega
    · obtain rfl : k = n := by omega
      have e : s.take k = s := List.take_of_length_le (by rw [HLL.out]; exact Nat.le_refl _)
      have E := Lib.hid e
      clear e
      go_wp2
      go_ret
      rw [E.out]
      exact ⟨rfl, hm1⟩
end Go.Proofs.Ytfkhefoilancnaa
namespace Go.Proofs.Ytfkhefoilancnaa
open Go.RowKit
theorem make16 (w : World) : (Instr.makeSlice 32 (.int .i64 16) (.int .i64 16)).run Try.prog w = .ok (.slice (some ⟨w.heap.size, 0, none⟩) 16 16) (w.alloc (.cells (rowOf 16 fun _ => 0).toArray 5)) :=
  run_make_bytes w 32 5 Try.underlying32 info5' 16 (by simp) .i64 .i64
/-- A command's bytes. -/
def prnF (op la ln ca cn x n : Nat) : Nat → UInt8 := fput (fput (fun i => if i = 0 then UInt8.ofNat op else 0) la ln ln x) ca cn cn n
def prn (op la ln ca cn x n : Nat) : List UInt8 := (List.range 16).map (prnF op la ln ca cn x n)
theorem fput_0 (f : Nat → UInt8) (a v : Nat) : fput f a 0 0 v = f := by
  funext i
  unfold fput
  rw [if_neg (by omega)]
set_option maxRecDepth 100000 in
set_option maxHeartbeats 4000000 in
theorem print_40 (x n : Nat) (hx : x ≤ 4294967295) (hn : n ≤ 65535) (w : World) : Calls Try.prog 98 #[.agg #[.int .i64 40, .int .u64 x, .int .i64 n, .int .i64 0]] w fun e w' => ∃ g, e = .returned (.tuple #[.slice (some ⟨g, 0, none⟩) 16 16, .int .i64 0]) ∧ w'.heap[g]? = some (.cells (rowOf 16 (prnF 40 2 4 7 2 x n)).toArray 5 (0, 0)) ∧ w.heap.size ≤ g ∧ Mod [] w w' := by
  have mk := make16
  have hb0 := blk_alloc w #[.int .i64 40, .int .u64 x, .int .i64 n, .int .i64 0] 40
  have hm0 : Mod [] w (w.alloc (.cells #[.int .i64 40, .int .u64 x, .int .i64 n, .int .i64 0] 40)) := (Mod.refl _ _).alloc _
  go_enter Try.func98, Try.ntmps98
  go_wp2_with fail
  generalize World.alloc w _ = V0 at hb0 hm0 ⊢
  refine (check_40 x n (by omega) (by omega) V0).mono ?_
  rintro e w1 ⟨rfl, hm1⟩
  have hb1 := hm1.blk hb0 (by simp)
  have hm01 := hm0.then0 hm1
  have x0 : w1.cell? ⟨w.heap.size, 0, none⟩ = some (.int .i64 40) := blk_cell hb1 rfl
  have zx := blk_lt hb1
  clear hb0 hm0 hm1
  go_wp2_with fail
  refine (find_40 w1).mono ?_
  rintro e w2 ⟨rfl, hm2⟩
  have hA2 : Mod [] w2 (w2.alloc (.cells #[.int .i64 40, .int .i64 2, .int .i64 4, .int .i64 7, .int .i64 2, .int .i64 0, .int .i64 0, .int .u8 0] 142)) := (Mod.refl _ _).alloc _
  have hbF := blk_alloc w2 #[.int .i64 40, .int .i64 2, .int .i64 4, .int .i64 7, .int .i64 2, .int .i64 0, .int .i64 0, .int .u8 0] 142
  have hb2 := hA2.blk (hm2.blk hb1 (by simp)) (by simp)
  have hm02 := (hm01.then0 hm2).then0 hA2
  have hz2 := hm01.size
  have hz3 := hm2.size
  clear hb1 hm01 hm2 hA2 x0 zx
  go_upto_region 5 with fail
  generalize hf : w2.heap.size = fb at hbF ⊢
  generalize World.alloc w2 _ = V2 at hbF hb2 hm02 ⊢
  have hA3 : Mod [] V2 (V2.alloc (.cells (rowOf 16 fun _ => 0).toArray 5)) := (Mod.refl _ _).alloc _
  have hbG := blk_alloc V2 (rowOf 16 fun _ => 0).toArray 5
  replace hbF := hA3.blk hbF (by simp)
  replace hb2 := hA3.blk hb2 (by simp)
  have hgw : w.heap.size ≤ V2.heap.size := hm02.size
  have hm03 := hm02.then0 hA3
  clear hm02 hA3 hf hz2 hz3
  go_upto_region 6 with fail
  generalize hgg : V2.heap.size = g at hbG hgw ⊢
  generalize World.alloc V2 _ = V3 at hbF hb2 hbG hm03 ⊢
  clear mk hgg
  have x0 : V3.cell? ⟨w.heap.size, 0, none⟩ = some (.int .i64 40) := blk_cell hb2 rfl
  have x4 : V3.cell? ⟨fb, 7, none⟩ = some (.int .u8 0) := blk_cell hbF rfl
  have g0 : V3.cell? ⟨g, 0, none⟩ = some (.int .u8 0) := blk_cell hbG rfl
  have g1 : V3.cell? ⟨g, 1, none⟩ = some (.int .u8 0) := blk_cell hbG rfl
  have f0 := blk_frozen hbG 0
  have f1 := blk_frozen hbG 1
  have zx := blk_lt hb2
  have zf := blk_lt hbF
  have zg := blk_lt hbG
  go_region
  have hm4 : Mod [g] V3 ((V3.setCell ⟨g, 0, none⟩ (.int .u8 40)).setCell ⟨g, 1, none⟩ (.int .u8 0)).drew := ((mod_set1 V3 g 0 (.int .u8 40)).setCell (.inl (by simp)) _).drew
  have hbH : ((V3.setCell ⟨g, 0, none⟩ (.int .u8 40)).setCell ⟨g, 1, none⟩ (.int .u8 0)).drew.heap[g]? = some (.cells (rowOf 16 fun i => if i = 0 then UInt8.ofNat 40 else 0).toArray 5 (0, 0)) := by
    have h1 := heap_setCell_same V3 g 0 _ 5 (.int .u8 40) hbG
    have h2 := heap_setCell_same _ g 1 _ 5 (.int .u8 0) h1
    exact h2.trans (by kernel_rfl)
  have hwg : w.heap.size ≠ g := by
    intro e
    rw [e] at hb2
    exact DeskAt.blk_ne hb2 hbG (by decide) rfl
  have hfg : fb ≠ g := by
    intro e
    rw [e] at hbF
    exact DeskAt.blk_ne hbF hbG (by decide) rfl
  replace hb2 := hm4.blk hb2 (by simpa using hwg)
  replace hbF := hm4.blk hbF (by simpa using hfg)
  have hm5 := hm03.trans hm4 (fun t ht => .inr (by simp at ht; omega))
  generalize World.drew _ = V4 at hb2 hbF hbH hm5 ⊢
  clear hm4 hm03 hbG x0 x4 g0 g1 f0 f1 zx zf zg
  have p1 : V4.cell? ⟨fb, 1, none⟩ = some (.int .i64 2) := blk_cell hbF rfl
  have p2 : V4.cell? ⟨fb, 2, none⟩ = some (.int .i64 4) := blk_cell hbF rfl
  have c1 : V4.cell? ⟨w.heap.size, 1, none⟩ = some (.int .u64 x) := blk_cell hb2 rfl
  have zx := blk_lt hb2
  have zf := blk_lt hbF
  go_wp2_with fail
  refine (fput_k V4 g 16 _ hbH (by decide) 2 4 x (by decide) (by decide) 16).mono ?_
  rintro e V5 ⟨rfl, hbI, hm6⟩
  replace hb2 := hm6.blk hb2 (by simpa using hwg)
  replace hbF := hm6.blk hbF (by simpa using hfg)
  replace hm5 := hm5.trans hm6 (fun t ht => .inr (by simp at ht; omega))
  clear hm6 hbH p1 p2 c1 zx zf
  have p1 : V5.cell? ⟨fb, 3, none⟩ = some (.int .i64 7) := blk_cell hbF rfl
  have p2 : V5.cell? ⟨fb, 4, none⟩ = some (.int .i64 2) := blk_cell hbF rfl
  have c1 : V5.cell? ⟨w.heap.size, 2, none⟩ = some (.int .i64 n) := blk_cell hb2 rfl
  have zx := blk_lt hb2
  have zf := blk_lt hbF
  have kn : IntKind.u64.wrap (n : Int) = (n : Int) := by rw [IntKind.wrap_u64]; omega
  go_wp2_with fail
  refine (fput_k V5 g 16 _ hbI (by decide) 7 2 n (by decide) (by decide) 16).mono ?_
  rintro e V6 ⟨rfl, hbJ, hm7⟩
  replace hb2 := hm7.blk hb2 (by simpa using hwg)
  replace hbF := hm7.blk hbF (by simpa using hfg)
  replace hm5 := hm5.trans hm7 (fun t ht => .inr (by simp at ht; omega))
  clear hm7 hbI p1 p2 c1 zx zf kn
  have p1 : V6.cell? ⟨fb, 5, none⟩ = some (.int .i64 0) := blk_cell hbF rfl
  have p2 : V6.cell? ⟨fb, 6, none⟩ = some (.int .i64 0) := blk_cell hbF rfl
  have c1 : V6.cell? ⟨w.heap.size, 3, none⟩ = some (.int .i64 0) := blk_cell hb2 rfl
  have zx := blk_lt hb2
  have zf := blk_lt hbF
  go_wp2_with fail
  refine (fput_k V6 g 16 _ hbJ (by decide) 0 0 0 (by decide) (by decide) 16).mono ?_
  rintro e V7 ⟨rfl, hbK, hm8⟩
  rw [fput_0] at hbK
  replace hm5 := hm5.trans hm8 (fun t ht => .inr (by simp at ht; omega))
  clear hm8 hbJ p1 p2 c1 zx zf hb2 hbF
  go_wp2
  go_ret2
  exact ⟨g, rfl, hbK, hgw, hm5⟩
set_option maxRecDepth 100000 in
set_option maxHeartbeats 4000000 in
theorem print_42 (x n : Nat) (hx : x ≤ 4294967295) (hn : n ≤ 65535) (w : World) : Calls Try.prog 98 #[.agg #[.int .i64 42, .int .u64 x, .int .i64 n, .int .i64 0]] w fun e w' => ∃ g, e = .returned (.tuple #[.slice (some ⟨g, 0, none⟩) 16 16, .int .i64 0]) ∧ w'.heap[g]? = some (.cells (rowOf 16 (prnF 42 2 4 7 2 x n)).toArray 5 (0, 0)) ∧ w.heap.size ≤ g ∧ Mod [] w w' := by
  have mk := make16
  have hb0 := blk_alloc w #[.int .i64 42, .int .u64 x, .int .i64 n, .int .i64 0] 40
  have hm0 : Mod [] w (w.alloc (.cells #[.int .i64 42, .int .u64 x, .int .i64 n, .int .i64 0] 40)) := (Mod.refl _ _).alloc _
  go_enter Try.func98, Try.ntmps98
  go_wp2_with fail
  generalize World.alloc w _ = V0 at hb0 hm0 ⊢
  refine (check_42 x n (by omega) (by omega) V0).mono ?_
  rintro e w1 ⟨rfl, hm1⟩
  have hb1 := hm1.blk hb0 (by simp)
  have hm01 := hm0.then0 hm1
  have x0 : w1.cell? ⟨w.heap.size, 0, none⟩ = some (.int .i64 42) := blk_cell hb1 rfl
  have zx := blk_lt hb1
  clear hb0 hm0 hm1
  go_wp2_with fail
  refine (find_42 w1).mono ?_
  rintro e w2 ⟨rfl, hm2⟩
  have hA2 : Mod [] w2 (w2.alloc (.cells #[.int .i64 42, .int .i64 2, .int .i64 4, .int .i64 7, .int .i64 2, .int .i64 0, .int .i64 0, .int .u8 0] 142)) := (Mod.refl _ _).alloc _
  have hbF := blk_alloc w2 #[.int .i64 42, .int .i64 2, .int .i64 4, .int .i64 7, .int .i64 2, .int .i64 0, .int .i64 0, .int .u8 0] 142
  have hb2 := hA2.blk (hm2.blk hb1 (by simp)) (by simp)
  have hm02 := (hm01.then0 hm2).then0 hA2
  have hz2 := hm01.size
  have hz3 := hm2.size
  clear hb1 hm01 hm2 hA2 x0 zx
  go_upto_region 5 with fail
  generalize hf : w2.heap.size = fb at hbF ⊢
  generalize World.alloc w2 _ = V2 at hbF hb2 hm02 ⊢
  have hA3 : Mod [] V2 (V2.alloc (.cells (rowOf 16 fun _ => 0).toArray 5)) := (Mod.refl _ _).alloc _
  have hbG := blk_alloc V2 (rowOf 16 fun _ => 0).toArray 5
  replace hbF := hA3.blk hbF (by simp)
  replace hb2 := hA3.blk hb2 (by simp)
  have hgw : w.heap.size ≤ V2.heap.size := hm02.size
  have hm03 := hm02.then0 hA3
  clear hm02 hA3 hf hz2 hz3
  go_upto_region 6 with fail
  generalize hgg : V2.heap.size = g at hbG hgw ⊢
  generalize World.alloc V2 _ = V3 at hbF hb2 hbG hm03 ⊢
  clear mk hgg
  have x0 : V3.cell? ⟨w.heap.size, 0, none⟩ = some (.int .i64 42) := blk_cell hb2 rfl
  have x4 : V3.cell? ⟨fb, 7, none⟩ = some (.int .u8 0) := blk_cell hbF rfl
  have g0 : V3.cell? ⟨g, 0, none⟩ = some (.int .u8 0) := blk_cell hbG rfl
  have g1 : V3.cell? ⟨g, 1, none⟩ = some (.int .u8 0) := blk_cell hbG rfl
  have f0 := blk_frozen hbG 0
  have f1 := blk_frozen hbG 1
  have zx := blk_lt hb2
  have zf := blk_lt hbF
  have zg := blk_lt hbG
  go_region
  have hm4 : Mod [g] V3 ((V3.setCell ⟨g, 0, none⟩ (.int .u8 42)).setCell ⟨g, 1, none⟩ (.int .u8 0)).drew := ((mod_set1 V3 g 0 (.int .u8 42)).setCell (.inl (by simp)) _).drew
  have hbH : ((V3.setCell ⟨g, 0, none⟩ (.int .u8 42)).setCell ⟨g, 1, none⟩ (.int .u8 0)).drew.heap[g]? = some (.cells (rowOf 16 fun i => if i = 0 then UInt8.ofNat 42 else 0).toArray 5 (0, 0)) := by
    have h1 := heap_setCell_same V3 g 0 _ 5 (.int .u8 42) hbG
    have h2 := heap_setCell_same _ g 1 _ 5 (.int .u8 0) h1
    exact h2.trans (by kernel_rfl)
  have hwg : w.heap.size ≠ g := by
    intro e
    rw [e] at hb2
    exact DeskAt.blk_ne hb2 hbG (by decide) rfl
  have hfg : fb ≠ g := by
    intro e
    rw [e] at hbF
    exact DeskAt.blk_ne hbF hbG (by decide) rfl
  replace hb2 := hm4.blk hb2 (by simpa using hwg)
  replace hbF := hm4.blk hbF (by simpa using hfg)
  have hm5 := hm03.trans hm4 (fun t ht => .inr (by simp at ht; omega))
  generalize World.drew _ = V4 at hb2 hbF hbH hm5 ⊢
  clear hm4 hm03 hbG x0 x4 g0 g1 f0 f1 zx zf zg
  have p1 : V4.cell? ⟨fb, 1, none⟩ = some (.int .i64 2) := blk_cell hbF rfl
  have p2 : V4.cell? ⟨fb, 2, none⟩ = some (.int .i64 4) := blk_cell hbF rfl
  have c1 : V4.cell? ⟨w.heap.size, 1, none⟩ = some (.int .u64 x) := blk_cell hb2 rfl
  have zx := blk_lt hb2
  have zf := blk_lt hbF
  go_wp2_with fail
  refine (fput_k V4 g 16 _ hbH (by decide) 2 4 x (by decide) (by decide) 16).mono ?_
  rintro e V5 ⟨rfl, hbI, hm6⟩
  replace hb2 := hm6.blk hb2 (by simpa using hwg)
  replace hbF := hm6.blk hbF (by simpa using hfg)
  replace hm5 := hm5.trans hm6 (fun t ht => .inr (by simp at ht; omega))
  clear hm6 hbH p1 p2 c1 zx zf
  have p1 : V5.cell? ⟨fb, 3, none⟩ = some (.int .i64 7) := blk_cell hbF rfl
  have p2 : V5.cell? ⟨fb, 4, none⟩ = some (.int .i64 2) := blk_cell hbF rfl
  have c1 : V5.cell? ⟨w.heap.size, 2, none⟩ = some (.int .i64 n) := blk_cell hb2 rfl
  have zx := blk_lt hb2
  have zf := blk_lt hbF
  have kn : IntKind.u64.wrap (n : Int) = (n : Int) := by rw [IntKind.wrap_u64]; omega
  go_wp2_with fail
  refine (fput_k V5 g 16 _ hbI (by decide) 7 2 n (by decide) (by decide) 16).mono ?_
  rintro e V6 ⟨rfl, hbJ, hm7⟩
  replace hb2 := hm7.blk hb2 (by simpa using hwg)
  replace hbF := hm7.blk hbF (by simpa using hfg)
  replace hm5 := hm5.trans hm7 (fun t ht => .inr (by simp at ht; omega))
  clear hm7 hbI p1 p2 c1 zx zf kn
  have p1 : V6.cell? ⟨fb, 5, none⟩ = some (.int .i64 0) := blk_cell hbF rfl
  have p2 : V6.cell? ⟨fb, 6, none⟩ = some (.int .i64 0) := blk_cell hbF rfl
  have c1 : V6.cell? ⟨w.heap.size, 3, none⟩ = some (.int .i64 0) := blk_cell hb2 rfl
  have zx := blk_lt hb2
  have zf := blk_lt hbF
  go_wp2_with fail
  refine (fput_k V6 g 16 _ hbJ (by decide) 0 0 0 (by decide) (by decide) 16).mono ?_
  rintro e V7 ⟨rfl, hbK, hm8⟩
  rw [fput_0] at hbK
  replace hm5 := hm5.trans hm8 (fun t ht => .inr (by simp at ht; omega))
  clear hm8 hbJ p1 p2 c1 zx zf hb2 hbF
  go_wp2
  go_ret2
  exact ⟨g, rfl, hbK, hgw, hm5⟩
set_option maxRecDepth 100000 in
set_option maxHeartbeats 4000000 in
theorem print_136 (x n : Nat) (hx : x ≤ 4294967295) (hn : n ≤ 65535) (w : World) : Calls Try.prog 98 #[.agg #[.int .i64 136, .int .u64 x, .int .i64 n, .int .i64 0]] w fun e w' => ∃ g, e = .returned (.tuple #[.slice (some ⟨g, 0, none⟩) 16 16, .int .i64 0]) ∧ w'.heap[g]? = some (.cells (rowOf 16 (prnF 136 2 8 10 4 x n)).toArray 5 (0, 0)) ∧ w.heap.size ≤ g ∧ Mod [] w w' := by
  have mk := make16
  have hb0 := blk_alloc w #[.int .i64 136, .int .u64 x, .int .i64 n, .int .i64 0] 40
  have hm0 : Mod [] w (w.alloc (.cells #[.int .i64 136, .int .u64 x, .int .i64 n, .int .i64 0] 40)) := (Mod.refl _ _).alloc _
  go_enter Try.func98, Try.ntmps98
  go_wp2_with fail
  generalize World.alloc w _ = V0 at hb0 hm0 ⊢
  refine (check_136 x n (by omega) (by omega) V0).mono ?_
  rintro e w1 ⟨rfl, hm1⟩
  have hb1 := hm1.blk hb0 (by simp)
  have hm01 := hm0.then0 hm1
  have x0 : w1.cell? ⟨w.heap.size, 0, none⟩ = some (.int .i64 136) := blk_cell hb1 rfl
  have zx := blk_lt hb1
  clear hb0 hm0 hm1
  go_wp2_with fail
  refine (find_136 w1).mono ?_
  rintro e w2 ⟨rfl, hm2⟩
  have hA2 : Mod [] w2 (w2.alloc (.cells #[.int .i64 136, .int .i64 2, .int .i64 8, .int .i64 10, .int .i64 4, .int .i64 0, .int .i64 0, .int .u8 0] 142)) := (Mod.refl _ _).alloc _
  have hbF := blk_alloc w2 #[.int .i64 136, .int .i64 2, .int .i64 8, .int .i64 10, .int .i64 4, .int .i64 0, .int .i64 0, .int .u8 0] 142
  have hb2 := hA2.blk (hm2.blk hb1 (by simp)) (by simp)
  have hm02 := (hm01.then0 hm2).then0 hA2
  have hz2 := hm01.size
  have hz3 := hm2.size
  clear hb1 hm01 hm2 hA2 x0 zx
  go_upto_region 5 with fail
  generalize hf : w2.heap.size = fb at hbF ⊢
  generalize World.alloc w2 _ = V2 at hbF hb2 hm02 ⊢
  have hA3 : Mod [] V2 (V2.alloc (.cells (rowOf 16 fun _ => 0).toArray 5)) := (Mod.refl _ _).alloc _
  have hbG := blk_alloc V2 (rowOf 16 fun _ => 0).toArray 5
  replace hbF := hA3.blk hbF (by simp)
  replace hb2 := hA3.blk hb2 (by simp)
  have hgw : w.heap.size ≤ V2.heap.size := hm02.size
  have hm03 := hm02.then0 hA3
  clear hm02 hA3 hf hz2 hz3
  go_upto_region 6 with fail
  generalize hgg : V2.heap.size = g at hbG hgw ⊢
  generalize World.alloc V2 _ = V3 at hbF hb2 hbG hm03 ⊢
  clear mk hgg
  have x0 : V3.cell? ⟨w.heap.size, 0, none⟩ = some (.int .i64 136) := blk_cell hb2 rfl
  have x4 : V3.cell? ⟨fb, 7, none⟩ = some (.int .u8 0) := blk_cell hbF rfl
  have g0 : V3.cell? ⟨g, 0, none⟩ = some (.int .u8 0) := blk_cell hbG rfl
  have g1 : V3.cell? ⟨g, 1, none⟩ = some (.int .u8 0) := blk_cell hbG rfl
  have f0 := blk_frozen hbG 0
  have f1 := blk_frozen hbG 1
  have zx := blk_lt hb2
  have zf := blk_lt hbF
  have zg := blk_lt hbG
  go_region
  have hm4 : Mod [g] V3 ((V3.setCell ⟨g, 0, none⟩ (.int .u8 136)).setCell ⟨g, 1, none⟩ (.int .u8 0)).drew := ((mod_set1 V3 g 0 (.int .u8 136)).setCell (.inl (by simp)) _).drew
  have hbH : ((V3.setCell ⟨g, 0, none⟩ (.int .u8 136)).setCell ⟨g, 1, none⟩ (.int .u8 0)).drew.heap[g]? = some (.cells (rowOf 16 fun i => if i = 0 then UInt8.ofNat 136 else 0).toArray 5 (0, 0)) := by
    have h1 := heap_setCell_same V3 g 0 _ 5 (.int .u8 136) hbG
    have h2 := heap_setCell_same _ g 1 _ 5 (.int .u8 0) h1
    exact h2.trans (by kernel_rfl)
  have hwg : w.heap.size ≠ g := by
    intro e
    rw [e] at hb2
    exact DeskAt.blk_ne hb2 hbG (by decide) rfl
  have hfg : fb ≠ g := by
    intro e
    rw [e] at hbF
    exact DeskAt.blk_ne hbF hbG (by decide) rfl
  replace hb2 := hm4.blk hb2 (by simpa using hwg)
  replace hbF := hm4.blk hbF (by simpa using hfg)
  have hm5 := hm03.trans hm4 (fun t ht => .inr (by simp at ht; omega))
  generalize World.drew _ = V4 at hb2 hbF hbH hm5 ⊢
  clear hm4 hm03 hbG x0 x4 g0 g1 f0 f1 zx zf zg
  have p1 : V4.cell? ⟨fb, 1, none⟩ = some (.int .i64 2) := blk_cell hbF rfl
  have p2 : V4.cell? ⟨fb, 2, none⟩ = some (.int .i64 8) := blk_cell hbF rfl
  have c1 : V4.cell? ⟨w.heap.size, 1, none⟩ = some (.int .u64 x) := blk_cell hb2 rfl
  have zx := blk_lt hb2
  have zf := blk_lt hbF
  go_wp2_with fail
  refine (fput_k V4 g 16 _ hbH (by decide) 2 8 x (by decide) (by decide) 16).mono ?_
  rintro e V5 ⟨rfl, hbI, hm6⟩
  replace hb2 := hm6.blk hb2 (by simpa using hwg)
  replace hbF := hm6.blk hbF (by simpa using hfg)
  replace hm5 := hm5.trans hm6 (fun t ht => .inr (by simp at ht; omega))
  clear hm6 hbH p1 p2 c1 zx zf
  have p1 : V5.cell? ⟨fb, 3, none⟩ = some (.int .i64 10) := blk_cell hbF rfl
  have p2 : V5.cell? ⟨fb, 4, none⟩ = some (.int .i64 4) := blk_cell hbF rfl
  have c1 : V5.cell? ⟨w.heap.size, 2, none⟩ = some (.int .i64 n) := blk_cell hb2 rfl
  have zx := blk_lt hb2
  have zf := blk_lt hbF
  have kn : IntKind.u64.wrap (n : Int) = (n : Int) := by rw [IntKind.wrap_u64]; omega
  go_wp2_with fail
  refine (fput_k V5 g 16 _ hbI (by decide) 10 4 n (by decide) (by decide) 16).mono ?_
  rintro e V6 ⟨rfl, hbJ, hm7⟩
  replace hb2 := hm7.blk hb2 (by simpa using hwg)
  replace hbF := hm7.blk hbF (by simpa using hfg)
  replace hm5 := hm5.trans hm7 (fun t ht => .inr (by simp at ht; omega))
  clear hm7 hbI p1 p2 c1 zx zf kn
  have p1 : V6.cell? ⟨fb, 5, none⟩ = some (.int .i64 0) := blk_cell hbF rfl
  have p2 : V6.cell? ⟨fb, 6, none⟩ = some (.int .i64 0) := blk_cell hbF rfl
  have c1 : V6.cell? ⟨w.heap.size, 3, none⟩ = some (.int .i64 0) := blk_cell hb2 rfl
  have zx := blk_lt hb2
  have zf := blk_lt hbF
  go_wp2_with fail
  refine (fput_k V6 g 16 _ hbJ (by decide) 0 0 0 (by decide) (by decide) 16).mono ?_
  rintro e V7 ⟨rfl, hbK, hm8⟩
  rw [fput_0] at hbK
  replace hm5 := hm5.trans hm8 (fun t ht => .inr (by simp at ht; omega))
  clear hm8 hbJ p1 p2 c1 zx zf hb2 hbF
  go_wp2
  go_ret2
  exact ⟨g, rfl, hbK, hgw, hm5⟩
set_option maxRecDepth 100000 in
set_option maxHeartbeats 4000000 in
theorem print_138 (x n : Nat) (hx : x ≤ 4294967295) (hn : n ≤ 65535) (w : World) : Calls Try.prog 98 #[.agg #[.int .i64 138, .int .u64 x, .int .i64 n, .int .i64 0]] w fun e w' => ∃ g, e = .returned (.tuple #[.slice (some ⟨g, 0, none⟩) 16 16, .int .i64 0]) ∧ w'.heap[g]? = some (.cells (rowOf 16 (prnF 138 2 8 10 4 x n)).toArray 5 (0, 0)) ∧ w.heap.size ≤ g ∧ Mod [] w w' := by
  have mk := make16
  have hb0 := blk_alloc w #[.int .i64 138, .int .u64 x, .int .i64 n, .int .i64 0] 40
  have hm0 : Mod [] w (w.alloc (.cells #[.int .i64 138, .int .u64 x, .int .i64 n, .int .i64 0] 40)) := (Mod.refl _ _).alloc _
  go_enter Try.func98, Try.ntmps98
  go_wp2_with fail
  generalize World.alloc w _ = V0 at hb0 hm0 ⊢
  refine (check_138 x n (by omega) (by omega) V0).mono ?_
  rintro e w1 ⟨rfl, hm1⟩
  have hb1 := hm1.blk hb0 (by simp)
  have hm01 := hm0.then0 hm1
  have x0 : w1.cell? ⟨w.heap.size, 0, none⟩ = some (.int .i64 138) := blk_cell hb1 rfl
  have zx := blk_lt hb1
  clear hb0 hm0 hm1
  go_wp2_with fail
  refine (find_138 w1).mono ?_
  rintro e w2 ⟨rfl, hm2⟩
  have hA2 : Mod [] w2 (w2.alloc (.cells #[.int .i64 138, .int .i64 2, .int .i64 8, .int .i64 10, .int .i64 4, .int .i64 0, .int .i64 0, .int .u8 0] 142)) := (Mod.refl _ _).alloc _
  have hbF := blk_alloc w2 #[.int .i64 138, .int .i64 2, .int .i64 8, .int .i64 10, .int .i64 4, .int .i64 0, .int .i64 0, .int .u8 0] 142
  have hb2 := hA2.blk (hm2.blk hb1 (by simp)) (by simp)
  have hm02 := (hm01.then0 hm2).then0 hA2
  have hz2 := hm01.size
  have hz3 := hm2.size
  clear hb1 hm01 hm2 hA2 x0 zx
  go_upto_region 5 with fail
  generalize hf : w2.heap.size = fb at hbF ⊢
  generalize World.alloc w2 _ = V2 at hbF hb2 hm02 ⊢
  have hA3 : Mod [] V2 (V2.alloc (.cells (rowOf 16 fun _ => 0).toArray 5)) := (Mod.refl _ _).alloc _
  have hbG := blk_alloc V2 (rowOf 16 fun _ => 0).toArray 5
  replace hbF := hA3.blk hbF (by simp)
  replace hb2 := hA3.blk hb2 (by simp)
  have hgw : w.heap.size ≤ V2.heap.size := hm02.size
  have hm03 := hm02.then0 hA3
  clear hm02 hA3 hf hz2 hz3
  go_upto_region 6 with fail
  generalize hgg : V2.heap.size = g at hbG hgw ⊢
  generalize World.alloc V2 _ = V3 at hbF hb2 hbG hm03 ⊢
  clear mk hgg
  have x0 : V3.cell? ⟨w.heap.size, 0, none⟩ = some (.int .i64 138) := blk_cell hb2 rfl
  have x4 : V3.cell? ⟨fb, 7, none⟩ = some (.int .u8 0) := blk_cell hbF rfl
  have g0 : V3.cell? ⟨g, 0, none⟩ = some (.int .u8 0) := blk_cell hbG rfl
  have g1 : V3.cell? ⟨g, 1, none⟩ = some (.int .u8 0) := blk_cell hbG rfl
  have f0 := blk_frozen hbG 0
  have f1 := blk_frozen hbG 1
  have zx := blk_lt hb2
  have zf := blk_lt hbF
  have zg := blk_lt hbG
  go_region
  have hm4 : Mod [g] V3 ((V3.setCell ⟨g, 0, none⟩ (.int .u8 138)).setCell ⟨g, 1, none⟩ (.int .u8 0)).drew := ((mod_set1 V3 g 0 (.int .u8 138)).setCell (.inl (by simp)) _).drew
  have hbH : ((V3.setCell ⟨g, 0, none⟩ (.int .u8 138)).setCell ⟨g, 1, none⟩ (.int .u8 0)).drew.heap[g]? = some (.cells (rowOf 16 fun i => if i = 0 then UInt8.ofNat 138 else 0).toArray 5 (0, 0)) := by
    have h1 := heap_setCell_same V3 g 0 _ 5 (.int .u8 138) hbG
    have h2 := heap_setCell_same _ g 1 _ 5 (.int .u8 0) h1
    exact h2.trans (by kernel_rfl)
  have hwg : w.heap.size ≠ g := by
    intro e
    rw [e] at hb2
    exact DeskAt.blk_ne hb2 hbG (by decide) rfl
  have hfg : fb ≠ g := by
    intro e
    rw [e] at hbF
    exact DeskAt.blk_ne hbF hbG (by decide) rfl
  replace hb2 := hm4.blk hb2 (by simpa using hwg)
  replace hbF := hm4.blk hbF (by simpa using hfg)
  have hm5 := hm03.trans hm4 (fun t ht => .inr (by simp at ht; omega))
  generalize World.drew _ = V4 at hb2 hbF hbH hm5 ⊢
  clear hm4 hm03 hbG x0 x4 g0 g1 f0 f1 zx zf zg
  have p1 : V4.cell? ⟨fb, 1, none⟩ = some (.int .i64 2) := blk_cell hbF rfl
  have p2 : V4.cell? ⟨fb, 2, none⟩ = some (.int .i64 8) := blk_cell hbF rfl
  have c1 : V4.cell? ⟨w.heap.size, 1, none⟩ = some (.int .u64 x) := blk_cell hb2 rfl
  have zx := blk_lt hb2
  have zf := blk_lt hbF
  go_wp2_with fail
  refine (fput_k V4 g 16 _ hbH (by decide) 2 8 x (by decide) (by decide) 16).mono ?_
  rintro e V5 ⟨rfl, hbI, hm6⟩
  replace hb2 := hm6.blk hb2 (by simpa using hwg)
  replace hbF := hm6.blk hbF (by simpa using hfg)
  replace hm5 := hm5.trans hm6 (fun t ht => .inr (by simp at ht; omega))
  clear hm6 hbH p1 p2 c1 zx zf
  have p1 : V5.cell? ⟨fb, 3, none⟩ = some (.int .i64 10) := blk_cell hbF rfl
  have p2 : V5.cell? ⟨fb, 4, none⟩ = some (.int .i64 4) := blk_cell hbF rfl
  have c1 : V5.cell? ⟨w.heap.size, 2, none⟩ = some (.int .i64 n) := blk_cell hb2 rfl
  have zx := blk_lt hb2
  have zf := blk_lt hbF
  have kn : IntKind.u64.wrap (n : Int) = (n : Int) := by rw [IntKind.wrap_u64]; omega
  go_wp2_with fail
  refine (fput_k V5 g 16 _ hbI (by decide) 10 4 n (by decide) (by decide) 16).mono ?_
  rintro e V6 ⟨rfl, hbJ, hm7⟩
  replace hb2 := hm7.blk hb2 (by simpa using hwg)
  replace hbF := hm7.blk hbF (by simpa using hfg)
  replace hm5 := hm5.trans hm7 (fun t ht => .inr (by simp at ht; omega))
  clear hm7 hbI p1 p2 c1 zx zf kn
  have p1 : V6.cell? ⟨fb, 5, none⟩ = some (.int .i64 0) := blk_cell hbF rfl
  have p2 : V6.cell? ⟨fb, 6, none⟩ = some (.int .i64 0) := blk_cell hbF rfl
  have c1 : V6.cell? ⟨w.heap.size, 3, none⟩ = some (.int .i64 0) := blk_cell hb2 rfl
  have zx := blk_lt hb2
  have zf := blk_lt hbF
  go_wp2_with fail
  refine (fput_k V6 g 16 _ hbJ (by decide) 0 0 0 (by decide) (by decide) 16).mono ?_
  rintro e V7 ⟨rfl, hbK, hm8⟩
  rw [fput_0] at hbK
  replace hm5 := hm5.trans hm8 (fun t ht => .inr (by simp at ht; omega))
  clear hm8 hbJ p1 p2 c1 zx zf hb2 hbF
  go_wp2
  go_ret2
  exact ⟨g, rfl, hbK, hgw, hm5⟩
end Go.Proofs.Ytfkhefoilancnaa
namespace Go.Proofs.Ytfkhefoilancnaa
open Go.RowKit
theorem num_be4 (x : Nat) : num (be4 x) = x % 4294967296 := by
  simp [num, be4]
  omega
theorem num_be2 (x : Nat) : num [UInt8.ofNat (x / 256), UInt8.ofNat x] = x % 65536 := by
  simp [num]
  omega
theorem num_be8 (x : Nat) (h : x < 4294967296) : num [UInt8.ofNat (x / 72057594037927936), UInt8.ofNat (x / 281474976710656), UInt8.ofNat (x / 1099511627776), UInt8.ofNat (x / 4294967296), UInt8.ofNat (x / 16777216), UInt8.ofNat (x / 65536), UInt8.ofNat (x / 256), UInt8.ofNat x] = x := by
  rw [show x / 72057594037927936 = 0 by omega, show x / 281474976710656 = 0 by omega, show x / 1099511627776 = 0 by omega, show x / 4294967296 = 0 by omega]
  simp [num]
  omega
theorem prn_len (op la ln ca cn x n : Nat) : (prn op la ln ca cn x n).length = 16 := by simp [prn]
theorem prn_row (op la ln ca cn x n : Nat) : rowOf 16 (prnF op la ln ca cn x n) = (prn op la ln ca cn x n).map By := by simp [prn, rowOf]
theorem info40s : (Try.prog.info? 40).map (·.size) = some 4 := by kernel_rfl
theorem set4 (v : World) (g : Nat) {cs : Array Value} (hb : v.heap[g]? = some (.cells cs 40 (0, 0))) (hc : cs.size = 4) (a0 a1 a2 a3 : Value) : ((((v.setCell ⟨g, 0, none⟩ a0).setCell ⟨g, 1, none⟩ a1).setCell ⟨g, 2, none⟩ a2).setCell ⟨g, 3, none⟩ a3).heap[g]? = some (.cells #[a0, a1, a2, a3] 40 (0, 0)) := by
  have h := (setCells_blk [a0, a1, a2, a3] v g 0 cs.toList 40 (by simpa using hb) (by simp [hc])).1
  have e : cs.toList.take 0 ++ ([a0, a1, a2, a3] ++ cs.toList.drop (0 + 4)) = [a0, a1, a2, a3] := by simp [List.drop_eq_nil_of_le (show cs.toList.length ≤ 4 by simp [hc])]
  have e' : ([a0, a1, a2, a3] : List Value).length = 4 := rfl
  rw [e', e] at h
  exact h
theorem keepF {X w w' : World} {p : Nat} {v1 v2 v3 v4 : Value} (h : Mod [] X w ∧ p < w.heap.size ∧ w.cell? ⟨p, 3, none⟩ = some v1 ∧ w.cell? ⟨p, 4, none⟩ = some v2 ∧ w.cell? ⟨p, 5, none⟩ = some v3 ∧ w.cell? ⟨p, 6, none⟩ = some v4) (hm : Mod [] w w') :
    Mod [] X w' ∧ p < w'.heap.size ∧ w'.cell? ⟨p, 3, none⟩ = some v1 ∧ w'.cell? ⟨p, 4, none⟩ = some v2 ∧ w'.cell? ⟨p, 5, none⟩ = some v3 ∧ w'.cell? ⟨p, 6, none⟩ = some v4 := by
  obtain ⟨h0, hp, h1, h2, h3, h4⟩ := h
  have hc := hm.cells.1
  have := hm.size
  exact ⟨h0.then0 hm, by omega, (hc _ _ hp).trans h1, (hc _ _ hp).trans h2, (hc _ _ hp).trans h3, (hc _ _ hp).trans h4⟩
theorem keepG {X w w' : World} {p : Nat} {v1 v2 v3 : Value} (h : Mod [] X w ∧ p < w.heap.size ∧ w.cell? ⟨p, 0, none⟩ = some v1 ∧ w.cell? ⟨p, 1, none⟩ = some v2 ∧ w.cell? ⟨p, 2, none⟩ = some v3) (hm : Mod [] w w') :
    Mod [] X w' ∧ p < w'.heap.size ∧ w'.cell? ⟨p, 0, none⟩ = some v1 ∧ w'.cell? ⟨p, 1, none⟩ = some v2 ∧ w'.cell? ⟨p, 2, none⟩ = some v3 := by
  obtain ⟨h0, hp, h1, h2, h3⟩ := h
  have hc := hm.cells.1
  have := hm.size
  exact ⟨h0.then0 hm, by omega, (hc _ _ hp).trans h1, (hc _ _ hp).trans h2, (hc _ _ hp).trans h3⟩
theorem keepA {X w : World} {o : Obj} {p : Nat} {v1 v2 v3 : Value} (h : Mod [] X w ∧ p < w.heap.size ∧ w.cell? ⟨p, 0, none⟩ = some v1 ∧ w.cell? ⟨p, 1, none⟩ = some v2 ∧ w.cell? ⟨p, 2, none⟩ = some v3) :
    Mod [] X (w.alloc o) ∧ p < (w.alloc o).heap.size ∧ (w.alloc o).cell? ⟨p, 0, none⟩ = some v1 ∧ (w.alloc o).cell? ⟨p, 1, none⟩ = some v2 ∧ (w.alloc o).cell? ⟨p, 2, none⟩ = some v3 := keepG h ((Mod.refl _ _).alloc _)
theorem prn_cnt_40 (x n : Nat) (hn : n ≤ 65535) : num (((prn 40 2 4 7 2 x n).drop 7).take 2) = n := by
  have e : ((prn 40 2 4 7 2 x n).drop 7).take 2 = [UInt8.ofNat (n / 256), UInt8.ofNat (n / 1)] := by
    kernel_rfl
  rw [e, Nat.div_one]
  have h := num_be2 n
  rw [h]
  omega
theorem prn_lba_40 (x n : Nat) (hx : x ≤ 4294967295) : num (((prn 40 2 4 7 2 x n).drop 2).take 4) = x := by
  have e : ((prn 40 2 4 7 2 x n).drop 2).take 4 = [UInt8.ofNat (x / 16777216), UInt8.ofNat (x / 65536), UInt8.ofNat (x / 256), UInt8.ofNat (x / 1)] := by
    kernel_rfl
  rw [e, Nat.div_one]
  have h := num_be4 x
  rw [show num [UInt8.ofNat (x / 16777216), UInt8.ofNat (x / 65536), UInt8.ofNat (x / 256), UInt8.ofNat x] = _ from h]; omega
theorem prn_op_40 (x n : Nat) : bt (prn 40 2 4 7 2 x n) 0 = 40 := by
  kernel_rfl
set_option maxRecDepth 100000 in
set_option maxHeartbeats 4000000 in
theorem parse_40 (A : Option Addr) (c x n : Nat) (hx : x ≤ 4294967295) (hn : n ≤ 65535) (w : World) (hr : Rds w A 16 ((prn 40 2 4 7 2 x n).map By)) (hc : 16 ≤ c) : Calls Try.prog 91 #[.slice A 16 c] w fun e w' => e = .returned (.tuple #[.agg #[.int .i64 40, .int .u64 x, .int .i64 n, .int .i64 0], .int .i64 0]) ∧ Mod [] w w' := by
  have hcn := prn_cnt_40 x n hn
  have hla := prn_lba_40 x n hx
  have hop := prn_op_40 x n
  have hprow := prn_row 40 2 4 7 2 x n
  have hplen := prn_len 40 2 4 7 2 x n
  generalize hl : prn 40 2 4 7 2 x n = l at hr hcn hla hop hprow hplen
  obtain ⟨b, off, hA, hb, _⟩ := hr.2 (by decide)
  have hby : ∀ w', Mod [] w w' → w'.cell? ⟨b, off, none⟩ = some (.int .u8 40) := fun w' hm => by
    have h1 := (hr.mod0 hm).byte hA (k := 0) (by decide)
    rw [hop] at h1
    exact h1
  have hgc : ∀ w', Mod [] w w' → Calls Try.prog 97 #[.slice A 16 c, .agg #[.int .i64 7, .int .i64 2]] w' fun e w'' => e = .returned (.int .u64 n) ∧ Mod [] w' w'' := fun w' hm => by
    have h1 := fget_k A 16 c l w' (hr.mod0 hm) hc 7 2 (by decide) (by decide) (by decide) (by decide)
    rw [hcn] at h1
    exact h1
  have hgl : ∀ w', Mod [] w w' → Calls Try.prog 97 #[.slice A 16 c, .agg #[.int .i64 2, .int .i64 4]] w' fun e w'' => e = .returned (.int .u64 x) ∧ Mod [] w' w'' := fun w' hm => by
    have h1 := fget_k A 16 c l w' (hr.mod0 hm) hc 2 4 (by decide) (by decide) (by decide) (by decide)
    rw [hla] at h1
    exact h1
  have hg0 : ∀ w', Mod [] w w' → Calls Try.prog 97 #[.slice A 16 c, .agg #[.int .i64 0, .int .i64 0]] w' fun e w'' => e = .returned (.int .u64 0) ∧ Mod [] w' w'' := fun w' hm => by
    have h1 := fget_k A 16 c l w' (hr.mod0 hm) hc 0 0 (by decide) (by decide) (by decide) (by decide)
    exact h1
  have kc : ∀ w', Mod [] w w' → (convert 32 9 (.slice A 16 c)).run Try.prog w' = .ok (.string ⟨l.toArray⟩) w' := fun w' hm => conv_bytes w' A 16 c l (hr.mod0 hm)
  subst hA
  replace hl := Lib.hid hl
  replace hprow := Lib.hid hprow
  replace hplen := Lib.hid hplen
  clear hcn hla hop
  have hci : (16 : Int) ≤ c := by omega
  have hb0 := blk_alloc w #[.int .i64 0, .int .u64 0, .int .i64 0, .int .i64 0] 40
  have hm0 : Mod [] w (w.alloc (.cells #[.int .i64 0, .int .u64 0, .int .i64 0, .int .i64 0] 40)) := (Mod.refl _ _).alloc _
  have b0 := hby _ hm0
  have kw : IntKind.i64.wrap 40 = 40 := IntWalk.i64_in _ (by omega)
  go_enter Try.func91, Try.ntmps91
  go_wp2_with fail
  generalize World.alloc w _ = V0 at hb0 hm0 b0 ⊢
  refine (find_40 V0).mono ?_
  rintro e w2 ⟨rfl, hm2⟩
  have hA2 : Mod [] w2 (w2.alloc (.cells #[.int .i64 40, .int .i64 2, .int .i64 4, .int .i64 7, .int .i64 2, .int .i64 0, .int .i64 0, .int .u8 0] 142)) := (Mod.refl _ _).alloc _
  have hbF := blk_alloc w2 #[.int .i64 40, .int .i64 2, .int .i64 4, .int .i64 7, .int .i64 2, .int .i64 0, .int .i64 0, .int .u8 0] 142
  have hb2 := hA2.blk (hm2.blk hb0 (by simp)) (by simp)
  have hm02 := (hm0.then0 hm2).then0 hA2
  clear hb0 hm0 hm2 hA2 b0
  go_upto_region 7 with fail
  generalize hf : w2.heap.size = fb at hbF ⊢
  generalize World.alloc w2 _ = X at hbF hb2 hm02 ⊢
  clear hf
  have d3 : X.cell? ⟨fb, 3, none⟩ = some (.int .i64 7) := blk_cell hbF rfl
  have d4 : X.cell? ⟨fb, 4, none⟩ = some (.int .i64 2) := blk_cell hbF rfl
  have d5 : X.cell? ⟨fb, 5, none⟩ = some (.int .i64 0) := blk_cell hbF rfl
  have d6 : X.cell? ⟨fb, 6, none⟩ = some (.int .i64 0) := blk_cell hbF rfl
  have zf := blk_lt hbF
  replace hgc := fun w' (hm : Mod [] X w') => hgc w' (hm02.then0 hm)
  replace hg0 := fun w' (hm : Mod [] X w') => hg0 w' (hm02.then0 hm)
  go_region_held3 (fun w' => Mod [] X w' ∧ fb < w'.heap.size ∧ w'.cell? ⟨fb, 3, none⟩ = some (.int .i64 7) ∧ w'.cell? ⟨fb, 4, none⟩ = some (.int .i64 2) ∧ w'.cell? ⟨fb, 5, none⟩ = some (.int .i64 0) ∧ w'.cell? ⟨fb, 6, none⟩ = some (.int .i64 0))
    (first | exact ⟨(Mod.refl _ _).drew, zf, d3, d4, d5, d6⟩ | exact keepF (by assumption) (by assumption))
    (first | (go_at_call_of 97 (Value.int .i64 7); (with_reducible refine (hgc _ ?_).mono ?_); (focus exact And.left (by assumption)); rintro e w' ⟨rfl, hm⟩) | (go_at_call_of 97 (Value.agg #[Value.int .i64 0, Value.int .i64 0]); (with_reducible refine (hg0 _ ?_).mono ?_); (focus exact And.left (by assumption)); rintro e w' ⟨rfl, hm⟩))
  have HS : ∀ w7, (Mod [] X w7 ∧ fb < w7.heap.size ∧ w7.cell? ⟨fb, 3, none⟩ = some (.int .i64 7) ∧ w7.cell? ⟨fb, 4, none⟩ = some (.int .i64 2) ∧ w7.cell? ⟨fb, 5, none⟩ = some (.int .i64 0) ∧ w7.cell? ⟨fb, 6, none⟩ = some (.int .i64 0)) → Mod [] X w7 := fun _ h => h.1
  have hm7 := HS _ (by assumption)
  clear HS
  have hm03 := hm02.then0 hm7
  replace hbF := hm7.blk hbF (by simp)
  replace hb2 := hm7.blk hb2 (by simp)
  replace hgl := fun w'' (hm : Mod [] w' w'') => hgl w'' (hm03.then0 hm)
  clear hm7 hm02 d3 d4 d5 d6 zf hgc hg0
  clear hby
  have d3 : w'.cell? ⟨fb, 3, none⟩ = some (.int .i64 7) := blk_cell hbF rfl
  have d4 : w'.cell? ⟨fb, 4, none⟩ = some (.int .i64 2) := blk_cell hbF rfl
  have zf := blk_lt hbF
  have k3 : ¬ (65535 : Int) < (n : Int) := by omega
  go_wp2_with fail
  refine (most_2 _ _).mono ?_
  rintro e w8 ⟨rfl, hm8⟩
  have hm38 := hm03.then0 hm8
  replace hbF := hm8.blk hbF (by simp)
  replace hb2 := hm8.blk hb2 (by simp)
  replace hgl := fun w'' (hm : Mod [] w8 w'') => hgl w'' (hm8.then0 hm)
  clear hm8 hm03 d3 d4 zf
  have d5 : w8.cell? ⟨fb, 5, none⟩ = some (.int .i64 0) := blk_cell hbF rfl
  have d6 : w8.cell? ⟨fb, 6, none⟩ = some (.int .i64 0) := blk_cell hbF rfl
  have zf := blk_lt hbF
  go_wp2_with fail
  refine (most_0 _ _).mono ?_
  rintro e w9 ⟨rfl, hm9⟩
  have hm39 := hm38.then0 hm9
  replace hbF := hm9.blk hbF (by simp)
  replace hb2 := hm9.blk hb2 (by simp)
  replace hgl := fun w'' (hm : Mod [] w9 w'') => hgl w'' (hm9.then0 hm)
  clear hm9 hm38 d5 d6 zf
  have d0 : w9.cell? ⟨fb, 0, none⟩ = some (.int .i64 40) := blk_cell hbF rfl
  have d1 : w9.cell? ⟨fb, 1, none⟩ = some (.int .i64 2) := blk_cell hbF rfl
  have d2 : w9.cell? ⟨fb, 2, none⟩ = some (.int .i64 4) := blk_cell hbF rfl
  have zf := blk_lt hbF
  have kn : IntKind.i64.wrap (n : Int) = (n : Int) := IntWalk.i64_in _ (by omega)
  have k0 : IntKind.i64.wrap 0 = 0 := IntWalk.i64_in _ (by omega)
  go_upto_region 10 with fail
  clear k3
  have hS : ∀ w', Mod [] w9 w' → Mod [] w9 w' ∧ fb < w'.heap.size ∧ w'.cell? ⟨fb, 0, none⟩ = some (.int .i64 40) ∧ w'.cell? ⟨fb, 1, none⟩ = some (.int .i64 2) ∧ w'.cell? ⟨fb, 2, none⟩ = some (.int .i64 4) := fun w' hm => by
    have hb := hm.blk hbF (by simp)
    exact ⟨hm, blk_lt hb, blk_cell hb rfl, blk_cell hb rfl, blk_cell hb rfl⟩
  go_cut [8] from 49 to 59 (fun p wx => ∃ g, p = .pointer (some ⟨g, 0, none⟩) ∧ Mod [] w9 wx ∧ wx.heap[g]? = some (.cells #[.int .i64 40, .int .u64 x, .int .i64 n, .int .i64 0] 40 (0, 0)) ∧ w9.heap.size ≤ g)
  case first =>
    go_region_held3 (fun w' => Mod [] w9 w' ∧ fb < w'.heap.size ∧ w'.cell? ⟨fb, 0, none⟩ = some (.int .i64 40) ∧ w'.cell? ⟨fb, 1, none⟩ = some (.int .i64 2) ∧ w'.cell? ⟨fb, 2, none⟩ = some (.int .i64 4))
      (first | with_reducible assumption | (with_reducible refine hS _ ?_; (repeat (first | with_reducible exact Mod.refl _ _ | with_reducible refine Mod.drew ?_ | with_reducible refine Mod.alloc ?_ _ | with_reducible refine Mod.setCell ?_ (.inr (by simp <;> omega)) _ | with_reducible refine Mod.then0 ?_ (by with_reducible assumption)))))
      ((go_at_call 97; (with_reducible refine (hgl _ ?_).mono ?_); (focus (repeat (first | with_reducible exact Mod.refl _ _ | with_reducible refine Mod.drew ?_ | with_reducible refine Mod.alloc ?_ _ | with_reducible refine Mod.setCell ?_ (.inr (by simp <;> omega)) _ | with_reducible refine Mod.then0 ?_ (by with_reducible assumption)))); rintro e w' ⟨rfl, hm⟩; obtain ⟨hc1, hf1⟩ := hm.cells; have hz1 := hm.size))
    all_goals go_wp2_with fail
    all_goals go_meet
    all_goals refine ⟨_, rfl, ?_, ?_, ?_⟩
    all_goals first
      | ((repeat (first | with_reducible exact Mod.refl _ _ | with_reducible refine Mod.drew ?_ | with_reducible refine Mod.alloc ?_ _ | with_reducible refine Mod.setCell ?_ (.inr (by simp <;> omega)) _ | with_reducible refine Mod.then0 ?_ (by with_reducible assumption))); done)
      | with_reducible exact blk_alloc _ _ _
      | (have hb9 := hm.blk (g := w9.heap.size) (o := .cells #[.int .i64 0, .int .u64 0, .int .i64 0, .int .i64 0] 40 (0, 0)) (blk_alloc w9 #[.int .i64 0, .int .u64 0, .int .i64 0, .int .i64 0] 40) (by simp); with_reducible exact set4 _ _ hb9 rfl _ _ _ _)
      | exact Nat.le_refl _
      | (have := hm.size; simp at this; omega)
  case rest =>
    obtain ⟨g, rfl, hm10, hbC, hgw⟩ := hcut
    have hm310 := hm39.then0 hm10
    replace hb2 := hm10.blk hb2 (by simp)
    have hw9 := hm39.size
    clear hS d0 d1 d2 zf hgl hbF kn k0
    have c0 : wc.cell? ⟨g, 0, none⟩ = some (.int .i64 40) := blk_cell hbC rfl
    have c1 : wc.cell? ⟨g, 1, none⟩ = some (.int .u64 x) := blk_cell hbC rfl
    have c2 : wc.cell? ⟨g, 2, none⟩ = some (.int .i64 n) := blk_cell hbC rfl
    have c3 : wc.cell? ⟨g, 3, none⟩ = some (.int .i64 0) := blk_cell hbC rfl
    have zc := blk_lt hbC
    go_wp2_with fail
    refine (print_40 x n hx hn wc).mono ?_
    rintro e w11 ⟨pg, rfl, hbP, hpg, hm11⟩
    have hm311 := hm310.then0 hm11
    replace hb2 := hm11.blk hb2 (by simp)
    replace hbC := hm11.blk hbC (by simp)
    clear hm11 hm310 c0 c1 c2 c3 zc
    have kc1 := kc w11 hm311
    have kc2 : (convert 32 9 (.slice (some ⟨pg, 0, none⟩) 16 16)).run Try.prog w11 = .ok (.string ⟨l.toArray⟩) w11 := by
      refine conv_bytes w11 _ 16 16 l ?_
      have h1 := Rds.whole hbP
      rw [hprow.out] at h1
      exact h1
    clear kc
    have c0 : w11.cell? ⟨g, 0, none⟩ = some (.int .i64 40) := blk_cell hbC rfl
    have c1 : w11.cell? ⟨g, 1, none⟩ = some (.int .u64 x) := blk_cell hbC rfl
    have c2 : w11.cell? ⟨g, 2, none⟩ = some (.int .i64 n) := blk_cell hbC rfl
    have c3 : w11.cell? ⟨g, 3, none⟩ = some (.int .i64 0) := blk_cell hbC rfl
    have zc := blk_lt hbC
    have z2 := blk_lt hb2
    have r0 : w11.cell? ⟨w.heap.size, 0, none⟩ = some (.int .i64 0) := blk_cell hb2 rfl
    have r1 : w11.cell? ⟨w.heap.size, 1, none⟩ = some (.int .u64 0) := blk_cell hb2 rfl
    have r2 : w11.cell? ⟨w.heap.size, 2, none⟩ = some (.int .i64 0) := blk_cell hb2 rfl
    have r3 : w11.cell? ⟨w.heap.size, 3, none⟩ = some (.int .i64 0) := blk_cell hb2 rfl
    have fr := fun i => blk_frozen hb2 i
    go_wp2
    have hs := set4 w11 w.heap.size hb2 rfl (.int .i64 40) (.int .u64 x) (.int .i64 n) (.int .i64 0)
    refine bodyPost_ret (res_cell_tmp _ _ w.heap.size 40 _ rfl hs Try.underlying40 info40s rfl) rfl ⟨rfl, ?_⟩
    exact (((hm311.setCell (.inr (Nat.le_refl _)) _).setCell (.inr (Nat.le_refl _)) _).setCell (.inr (Nat.le_refl _)) _).setCell (.inr (Nat.le_refl _)) _
theorem prn_cnt_42 (x n : Nat) (hn : n ≤ 65535) : num (((prn 42 2 4 7 2 x n).drop 7).take 2) = n := by
  have e : ((prn 42 2 4 7 2 x n).drop 7).take 2 = [UInt8.ofNat (n / 256), UInt8.ofNat (n / 1)] := by
    kernel_rfl
  rw [e, Nat.div_one]
  have h := num_be2 n
  rw [h]
  omega
theorem prn_lba_42 (x n : Nat) (hx : x ≤ 4294967295) : num (((prn 42 2 4 7 2 x n).drop 2).take 4) = x := by
  have e : ((prn 42 2 4 7 2 x n).drop 2).take 4 = [UInt8.ofNat (x / 16777216), UInt8.ofNat (x / 65536), UInt8.ofNat (x / 256), UInt8.ofNat (x / 1)] := by
    kernel_rfl
  rw [e, Nat.div_one]
  have h := num_be4 x
  rw [show num [UInt8.ofNat (x / 16777216), UInt8.ofNat (x / 65536), UInt8.ofNat (x / 256), UInt8.ofNat x] = _ from h]; omega
theorem prn_op_42 (x n : Nat) : bt (prn 42 2 4 7 2 x n) 0 = 42 := by
  kernel_rfl
set_option maxRecDepth 100000 in
set_option maxHeartbeats 4000000 in
theorem parse_42 (A : Option Addr) (c x n : Nat) (hx : x ≤ 4294967295) (hn : n ≤ 65535) (w : World) (hr : Rds w A 16 ((prn 42 2 4 7 2 x n).map By)) (hc : 16 ≤ c) : Calls Try.prog 91 #[.slice A 16 c] w fun e w' => e = .returned (.tuple #[.agg #[.int .i64 42, .int .u64 x, .int .i64 n, .int .i64 0], .int .i64 0]) ∧ Mod [] w w' := by
  have hcn := prn_cnt_42 x n hn
  have hla := prn_lba_42 x n hx
  have hop := prn_op_42 x n
  have hprow := prn_row 42 2 4 7 2 x n
  have hplen := prn_len 42 2 4 7 2 x n
  generalize hl : prn 42 2 4 7 2 x n = l at hr hcn hla hop hprow hplen
  obtain ⟨b, off, hA, hb, _⟩ := hr.2 (by decide)
  have hby : ∀ w', Mod [] w w' → w'.cell? ⟨b, off, none⟩ = some (.int .u8 42) := fun w' hm => by
    have h1 := (hr.mod0 hm).byte hA (k := 0) (by decide)
    rw [hop] at h1
    exact h1
  have hgc : ∀ w', Mod [] w w' → Calls Try.prog 97 #[.slice A 16 c, .agg #[.int .i64 7, .int .i64 2]] w' fun e w'' => e = .returned (.int .u64 n) ∧ Mod [] w' w'' := fun w' hm => by
    have h1 := fget_k A 16 c l w' (hr.mod0 hm) hc 7 2 (by decide) (by decide) (by decide) (by decide)
    rw [hcn] at h1
    exact h1
  have hgl : ∀ w', Mod [] w w' → Calls Try.prog 97 #[.slice A 16 c, .agg #[.int .i64 2, .int .i64 4]] w' fun e w'' => e = .returned (.int .u64 x) ∧ Mod [] w' w'' := fun w' hm => by
    have h1 := fget_k A 16 c l w' (hr.mod0 hm) hc 2 4 (by decide) (by decide) (by decide) (by decide)
    rw [hla] at h1
    exact h1
  have hg0 : ∀ w', Mod [] w w' → Calls Try.prog 97 #[.slice A 16 c, .agg #[.int .i64 0, .int .i64 0]] w' fun e w'' => e = .returned (.int .u64 0) ∧ Mod [] w' w'' := fun w' hm => by
    have h1 := fget_k A 16 c l w' (hr.mod0 hm) hc 0 0 (by decide) (by decide) (by decide) (by decide)
    exact h1
  have kc : ∀ w', Mod [] w w' → (convert 32 9 (.slice A 16 c)).run Try.prog w' = .ok (.string ⟨l.toArray⟩) w' := fun w' hm => conv_bytes w' A 16 c l (hr.mod0 hm)
  subst hA
  replace hl := Lib.hid hl
  replace hprow := Lib.hid hprow
  replace hplen := Lib.hid hplen
  clear hcn hla hop
  have hci : (16 : Int) ≤ c := by omega
  have hb0 := blk_alloc w #[.int .i64 0, .int .u64 0, .int .i64 0, .int .i64 0] 40
  have hm0 : Mod [] w (w.alloc (.cells #[.int .i64 0, .int .u64 0, .int .i64 0, .int .i64 0] 40)) := (Mod.refl _ _).alloc _
  have b0 := hby _ hm0
  have kw : IntKind.i64.wrap 42 = 42 := IntWalk.i64_in _ (by omega)
  go_enter Try.func91, Try.ntmps91
  go_wp2_with fail
  generalize World.alloc w _ = V0 at hb0 hm0 b0 ⊢
  refine (find_42 V0).mono ?_
  rintro e w2 ⟨rfl, hm2⟩
  have hA2 : Mod [] w2 (w2.alloc (.cells #[.int .i64 42, .int .i64 2, .int .i64 4, .int .i64 7, .int .i64 2, .int .i64 0, .int .i64 0, .int .u8 0] 142)) := (Mod.refl _ _).alloc _
  have hbF := blk_alloc w2 #[.int .i64 42, .int .i64 2, .int .i64 4, .int .i64 7, .int .i64 2, .int .i64 0, .int .i64 0, .int .u8 0] 142
  have hb2 := hA2.blk (hm2.blk hb0 (by simp)) (by simp)
  have hm02 := (hm0.then0 hm2).then0 hA2
  clear hb0 hm0 hm2 hA2 b0
  go_upto_region 7 with fail
  generalize hf : w2.heap.size = fb at hbF ⊢
  generalize World.alloc w2 _ = X at hbF hb2 hm02 ⊢
  clear hf
  have d3 : X.cell? ⟨fb, 3, none⟩ = some (.int .i64 7) := blk_cell hbF rfl
  have d4 : X.cell? ⟨fb, 4, none⟩ = some (.int .i64 2) := blk_cell hbF rfl
  have d5 : X.cell? ⟨fb, 5, none⟩ = some (.int .i64 0) := blk_cell hbF rfl
  have d6 : X.cell? ⟨fb, 6, none⟩ = some (.int .i64 0) := blk_cell hbF rfl
  have zf := blk_lt hbF
  replace hgc := fun w' (hm : Mod [] X w') => hgc w' (hm02.then0 hm)
  replace hg0 := fun w' (hm : Mod [] X w') => hg0 w' (hm02.then0 hm)
  go_region_held3 (fun w' => Mod [] X w' ∧ fb < w'.heap.size ∧ w'.cell? ⟨fb, 3, none⟩ = some (.int .i64 7) ∧ w'.cell? ⟨fb, 4, none⟩ = some (.int .i64 2) ∧ w'.cell? ⟨fb, 5, none⟩ = some (.int .i64 0) ∧ w'.cell? ⟨fb, 6, none⟩ = some (.int .i64 0))
    (first | exact ⟨(Mod.refl _ _).drew, zf, d3, d4, d5, d6⟩ | exact keepF (by assumption) (by assumption))
    (first | (go_at_call_of 97 (Value.int .i64 7); (with_reducible refine (hgc _ ?_).mono ?_); (focus exact And.left (by assumption)); rintro e w' ⟨rfl, hm⟩) | (go_at_call_of 97 (Value.agg #[Value.int .i64 0, Value.int .i64 0]); (with_reducible refine (hg0 _ ?_).mono ?_); (focus exact And.left (by assumption)); rintro e w' ⟨rfl, hm⟩))
  have HS : ∀ w7, (Mod [] X w7 ∧ fb < w7.heap.size ∧ w7.cell? ⟨fb, 3, none⟩ = some (.int .i64 7) ∧ w7.cell? ⟨fb, 4, none⟩ = some (.int .i64 2) ∧ w7.cell? ⟨fb, 5, none⟩ = some (.int .i64 0) ∧ w7.cell? ⟨fb, 6, none⟩ = some (.int .i64 0)) → Mod [] X w7 := fun _ h => h.1
  have hm7 := HS _ (by assumption)
  clear HS
  have hm03 := hm02.then0 hm7
  replace hbF := hm7.blk hbF (by simp)
  replace hb2 := hm7.blk hb2 (by simp)
  replace hgl := fun w'' (hm : Mod [] w' w'') => hgl w'' (hm03.then0 hm)
  clear hm7 hm02 d3 d4 d5 d6 zf hgc hg0
  clear hby
  have d3 : w'.cell? ⟨fb, 3, none⟩ = some (.int .i64 7) := blk_cell hbF rfl
  have d4 : w'.cell? ⟨fb, 4, none⟩ = some (.int .i64 2) := blk_cell hbF rfl
  have zf := blk_lt hbF
  have k3 : ¬ (65535 : Int) < (n : Int) := by omega
  go_wp2_with fail
  refine (most_2 _ _).mono ?_
  rintro e w8 ⟨rfl, hm8⟩
  have hm38 := hm03.then0 hm8
  replace hbF := hm8.blk hbF (by simp)
  replace hb2 := hm8.blk hb2 (by simp)
  replace hgl := fun w'' (hm : Mod [] w8 w'') => hgl w'' (hm8.then0 hm)
  clear hm8 hm03 d3 d4 zf
  have d5 : w8.cell? ⟨fb, 5, none⟩ = some (.int .i64 0) := blk_cell hbF rfl
  have d6 : w8.cell? ⟨fb, 6, none⟩ = some (.int .i64 0) := blk_cell hbF rfl
  have zf := blk_lt hbF
  go_wp2_with fail
  refine (most_0 _ _).mono ?_
  rintro e w9 ⟨rfl, hm9⟩
  have hm39 := hm38.then0 hm9
  replace hbF := hm9.blk hbF (by simp)
  replace hb2 := hm9.blk hb2 (by simp)
  replace hgl := fun w'' (hm : Mod [] w9 w'') => hgl w'' (hm9.then0 hm)
  clear hm9 hm38 d5 d6 zf
  have d0 : w9.cell? ⟨fb, 0, none⟩ = some (.int .i64 42) := blk_cell hbF rfl
  have d1 : w9.cell? ⟨fb, 1, none⟩ = some (.int .i64 2) := blk_cell hbF rfl
  have d2 : w9.cell? ⟨fb, 2, none⟩ = some (.int .i64 4) := blk_cell hbF rfl
  have zf := blk_lt hbF
  have kn : IntKind.i64.wrap (n : Int) = (n : Int) := IntWalk.i64_in _ (by omega)
  have k0 : IntKind.i64.wrap 0 = 0 := IntWalk.i64_in _ (by omega)
  go_upto_region 10 with fail
  clear k3
  have hS : ∀ w', Mod [] w9 w' → Mod [] w9 w' ∧ fb < w'.heap.size ∧ w'.cell? ⟨fb, 0, none⟩ = some (.int .i64 42) ∧ w'.cell? ⟨fb, 1, none⟩ = some (.int .i64 2) ∧ w'.cell? ⟨fb, 2, none⟩ = some (.int .i64 4) := fun w' hm => by
    have hb := hm.blk hbF (by simp)
    exact ⟨hm, blk_lt hb, blk_cell hb rfl, blk_cell hb rfl, blk_cell hb rfl⟩
  go_cut [8] from 49 to 59 (fun p wx => ∃ g, p = .pointer (some ⟨g, 0, none⟩) ∧ Mod [] w9 wx ∧ wx.heap[g]? = some (.cells #[.int .i64 42, .int .u64 x, .int .i64 n, .int .i64 0] 40 (0, 0)) ∧ w9.heap.size ≤ g)
  case first =>
    go_region_held3 (fun w' => Mod [] w9 w' ∧ fb < w'.heap.size ∧ w'.cell? ⟨fb, 0, none⟩ = some (.int .i64 42) ∧ w'.cell? ⟨fb, 1, none⟩ = some (.int .i64 2) ∧ w'.cell? ⟨fb, 2, none⟩ = some (.int .i64 4))
      (first | with_reducible assumption | (with_reducible refine hS _ ?_; (repeat (first | with_reducible exact Mod.refl _ _ | with_reducible refine Mod.drew ?_ | with_reducible refine Mod.alloc ?_ _ | with_reducible refine Mod.setCell ?_ (.inr (by simp <;> omega)) _ | with_reducible refine Mod.then0 ?_ (by with_reducible assumption)))))
      ((go_at_call 97; (with_reducible refine (hgl _ ?_).mono ?_); (focus (repeat (first | with_reducible exact Mod.refl _ _ | with_reducible refine Mod.drew ?_ | with_reducible refine Mod.alloc ?_ _ | with_reducible refine Mod.setCell ?_ (.inr (by simp <;> omega)) _ | with_reducible refine Mod.then0 ?_ (by with_reducible assumption)))); rintro e w' ⟨rfl, hm⟩; obtain ⟨hc1, hf1⟩ := hm.cells; have hz1 := hm.size))
    all_goals go_wp2_with fail
    all_goals go_meet
    all_goals refine ⟨_, rfl, ?_, ?_, ?_⟩
    all_goals first
      | ((repeat (first | with_reducible exact Mod.refl _ _ | with_reducible refine Mod.drew ?_ | with_reducible refine Mod.alloc ?_ _ | with_reducible refine Mod.setCell ?_ (.inr (by simp <;> omega)) _ | with_reducible refine Mod.then0 ?_ (by with_reducible assumption))); done)
      | with_reducible exact blk_alloc _ _ _
      | (have hb9 := hm.blk (g := w9.heap.size) (o := .cells #[.int .i64 0, .int .u64 0, .int .i64 0, .int .i64 0] 40 (0, 0)) (blk_alloc w9 #[.int .i64 0, .int .u64 0, .int .i64 0, .int .i64 0] 40) (by simp); with_reducible exact set4 _ _ hb9 rfl _ _ _ _)
      | exact Nat.le_refl _
      | (have := hm.size; simp at this; omega)
  case rest =>
    obtain ⟨g, rfl, hm10, hbC, hgw⟩ := hcut
    have hm310 := hm39.then0 hm10
    replace hb2 := hm10.blk hb2 (by simp)
    have hw9 := hm39.size
    clear hS d0 d1 d2 zf hgl hbF kn k0
    have c0 : wc.cell? ⟨g, 0, none⟩ = some (.int .i64 42) := blk_cell hbC rfl
    have c1 : wc.cell? ⟨g, 1, none⟩ = some (.int .u64 x) := blk_cell hbC rfl
    have c2 : wc.cell? ⟨g, 2, none⟩ = some (.int .i64 n) := blk_cell hbC rfl
    have c3 : wc.cell? ⟨g, 3, none⟩ = some (.int .i64 0) := blk_cell hbC rfl
    have zc := blk_lt hbC
    go_wp2_with fail
    refine (print_42 x n hx hn wc).mono ?_
    rintro e w11 ⟨pg, rfl, hbP, hpg, hm11⟩
    have hm311 := hm310.then0 hm11
    replace hb2 := hm11.blk hb2 (by simp)
    replace hbC := hm11.blk hbC (by simp)
    clear hm11 hm310 c0 c1 c2 c3 zc
    have kc1 := kc w11 hm311
    have kc2 : (convert 32 9 (.slice (some ⟨pg, 0, none⟩) 16 16)).run Try.prog w11 = .ok (.string ⟨l.toArray⟩) w11 := by
      refine conv_bytes w11 _ 16 16 l ?_
      have h1 := Rds.whole hbP
      rw [hprow.out] at h1
      exact h1
    clear kc
    have c0 : w11.cell? ⟨g, 0, none⟩ = some (.int .i64 42) := blk_cell hbC rfl
    have c1 : w11.cell? ⟨g, 1, none⟩ = some (.int .u64 x) := blk_cell hbC rfl
    have c2 : w11.cell? ⟨g, 2, none⟩ = some (.int .i64 n) := blk_cell hbC rfl
    have c3 : w11.cell? ⟨g, 3, none⟩ = some (.int .i64 0) := blk_cell hbC rfl
    have zc := blk_lt hbC
    have z2 := blk_lt hb2
    have r0 : w11.cell? ⟨w.heap.size, 0, none⟩ = some (.int .i64 0) := blk_cell hb2 rfl
    have r1 : w11.cell? ⟨w.heap.size, 1, none⟩ = some (.int .u64 0) := blk_cell hb2 rfl
    have r2 : w11.cell? ⟨w.heap.size, 2, none⟩ = some (.int .i64 0) := blk_cell hb2 rfl
    have r3 : w11.cell? ⟨w.heap.size, 3, none⟩ = some (.int .i64 0) := blk_cell hb2 rfl
    have fr := fun i => blk_frozen hb2 i
    go_wp2
    have hs := set4 w11 w.heap.size hb2 rfl (.int .i64 42) (.int .u64 x) (.int .i64 n) (.int .i64 0)
    refine bodyPost_ret (res_cell_tmp _ _ w.heap.size 40 _ rfl hs Try.underlying40 info40s rfl) rfl ⟨rfl, ?_⟩
    exact (((hm311.setCell (.inr (Nat.le_refl _)) _).setCell (.inr (Nat.le_refl _)) _).setCell (.inr (Nat.le_refl _)) _).setCell (.inr (Nat.le_refl _)) _
theorem prn_cnt_136 (x n : Nat) (hn : n ≤ 65535) : num (((prn 136 2 8 10 4 x n).drop 10).take 4) = n := by
  have e : ((prn 136 2 8 10 4 x n).drop 10).take 4 = [UInt8.ofNat (n / 16777216), UInt8.ofNat (n / 65536), UInt8.ofNat (n / 256), UInt8.ofNat (n / 1)] := by
    kernel_rfl
  rw [e, Nat.div_one]
  have h := num_be4 n
  rw [show num [UInt8.ofNat (n / 16777216), UInt8.ofNat (n / 65536), UInt8.ofNat (n / 256), UInt8.ofNat n] = _ from h]
  omega
theorem prn_lba_136 (x n : Nat) (hx : x ≤ 4294967295) : num (((prn 136 2 8 10 4 x n).drop 2).take 8) = x := by
  have e : ((prn 136 2 8 10 4 x n).drop 2).take 8 = [UInt8.ofNat (x / 72057594037927936), UInt8.ofNat (x / 281474976710656), UInt8.ofNat (x / 1099511627776), UInt8.ofNat (x / 4294967296), UInt8.ofNat (x / 16777216), UInt8.ofNat (x / 65536), UInt8.ofNat (x / 256), UInt8.ofNat (x / 1)] := by
    kernel_rfl
  rw [e, Nat.div_one]
  exact num_be8 x (by omega)
  
theorem prn_op_136 (x n : Nat) : bt (prn 136 2 8 10 4 x n) 0 = 136 := by
  kernel_rfl
set_option maxRecDepth 100000 in
set_option maxHeartbeats 4000000 in
theorem parse_136 (A : Option Addr) (c x n : Nat) (hx : x ≤ 4294967295) (hn : n ≤ 65535) (w : World) (hr : Rds w A 16 ((prn 136 2 8 10 4 x n).map By)) (hc : 16 ≤ c) : Calls Try.prog 91 #[.slice A 16 c] w fun e w' => e = .returned (.tuple #[.agg #[.int .i64 136, .int .u64 x, .int .i64 n, .int .i64 0], .int .i64 0]) ∧ Mod [] w w' := by
  have hcn := prn_cnt_136 x n hn
  have hla := prn_lba_136 x n hx
  have hop := prn_op_136 x n
  have hprow := prn_row 136 2 8 10 4 x n
  have hplen := prn_len 136 2 8 10 4 x n
  generalize hl : prn 136 2 8 10 4 x n = l at hr hcn hla hop hprow hplen
  obtain ⟨b, off, hA, hb, _⟩ := hr.2 (by decide)
  have hby : ∀ w', Mod [] w w' → w'.cell? ⟨b, off, none⟩ = some (.int .u8 136) := fun w' hm => by
    have h1 := (hr.mod0 hm).byte hA (k := 0) (by decide)
    rw [hop] at h1
    exact h1
  have hgc : ∀ w', Mod [] w w' → Calls Try.prog 97 #[.slice A 16 c, .agg #[.int .i64 10, .int .i64 4]] w' fun e w'' => e = .returned (.int .u64 n) ∧ Mod [] w' w'' := fun w' hm => by
    have h1 := fget_k A 16 c l w' (hr.mod0 hm) hc 10 4 (by decide) (by decide) (by decide) (by decide)
    rw [hcn] at h1
    exact h1
  have hgl : ∀ w', Mod [] w w' → Calls Try.prog 97 #[.slice A 16 c, .agg #[.int .i64 2, .int .i64 8]] w' fun e w'' => e = .returned (.int .u64 x) ∧ Mod [] w' w'' := fun w' hm => by
    have h1 := fget_k A 16 c l w' (hr.mod0 hm) hc 2 8 (by decide) (by decide) (by decide) (by decide)
    rw [hla] at h1
    exact h1
  have hg0 : ∀ w', Mod [] w w' → Calls Try.prog 97 #[.slice A 16 c, .agg #[.int .i64 0, .int .i64 0]] w' fun e w'' => e = .returned (.int .u64 0) ∧ Mod [] w' w'' := fun w' hm => by
    have h1 := fget_k A 16 c l w' (hr.mod0 hm) hc 0 0 (by decide) (by decide) (by decide) (by decide)
    exact h1
  have kc : ∀ w', Mod [] w w' → (convert 32 9 (.slice A 16 c)).run Try.prog w' = .ok (.string ⟨l.toArray⟩) w' := fun w' hm => conv_bytes w' A 16 c l (hr.mod0 hm)
  subst hA
  replace hl := Lib.hid hl
  replace hprow := Lib.hid hprow
  replace hplen := Lib.hid hplen
  clear hcn hla hop
  have hci : (16 : Int) ≤ c := by omega
  have hb0 := blk_alloc w #[.int .i64 0, .int .u64 0, .int .i64 0, .int .i64 0] 40
  have hm0 : Mod [] w (w.alloc (.cells #[.int .i64 0, .int .u64 0, .int .i64 0, .int .i64 0] 40)) := (Mod.refl _ _).alloc _
  have b0 := hby _ hm0
  have kw : IntKind.i64.wrap 136 = 136 := IntWalk.i64_in _ (by omega)
  go_enter Try.func91, Try.ntmps91
  go_wp2_with fail
  generalize World.alloc w _ = V0 at hb0 hm0 b0 ⊢
  refine (find_136 V0).mono ?_
  rintro e w2 ⟨rfl, hm2⟩
  have hA2 : Mod [] w2 (w2.alloc (.cells #[.int .i64 136, .int .i64 2, .int .i64 8, .int .i64 10, .int .i64 4, .int .i64 0, .int .i64 0, .int .u8 0] 142)) := (Mod.refl _ _).alloc _
  have hbF := blk_alloc w2 #[.int .i64 136, .int .i64 2, .int .i64 8, .int .i64 10, .int .i64 4, .int .i64 0, .int .i64 0, .int .u8 0] 142
  have hb2 := hA2.blk (hm2.blk hb0 (by simp)) (by simp)
  have hm02 := (hm0.then0 hm2).then0 hA2
  clear hb0 hm0 hm2 hA2 b0
  go_upto_region 7 with fail
  generalize hf : w2.heap.size = fb at hbF ⊢
  generalize World.alloc w2 _ = X at hbF hb2 hm02 ⊢
  clear hf
  have d3 : X.cell? ⟨fb, 3, none⟩ = some (.int .i64 10) := blk_cell hbF rfl
  have d4 : X.cell? ⟨fb, 4, none⟩ = some (.int .i64 4) := blk_cell hbF rfl
  have d5 : X.cell? ⟨fb, 5, none⟩ = some (.int .i64 0) := blk_cell hbF rfl
  have d6 : X.cell? ⟨fb, 6, none⟩ = some (.int .i64 0) := blk_cell hbF rfl
  have zf := blk_lt hbF
  replace hgc := fun w' (hm : Mod [] X w') => hgc w' (hm02.then0 hm)
  replace hg0 := fun w' (hm : Mod [] X w') => hg0 w' (hm02.then0 hm)
  go_region_held3 (fun w' => Mod [] X w' ∧ fb < w'.heap.size ∧ w'.cell? ⟨fb, 3, none⟩ = some (.int .i64 10) ∧ w'.cell? ⟨fb, 4, none⟩ = some (.int .i64 4) ∧ w'.cell? ⟨fb, 5, none⟩ = some (.int .i64 0) ∧ w'.cell? ⟨fb, 6, none⟩ = some (.int .i64 0))
    (first | exact ⟨(Mod.refl _ _).drew, zf, d3, d4, d5, d6⟩ | exact keepF (by assumption) (by assumption))
    (first | (go_at_call_of 97 (Value.int .i64 10); (with_reducible refine (hgc _ ?_).mono ?_); (focus exact And.left (by assumption)); rintro e w' ⟨rfl, hm⟩) | (go_at_call_of 97 (Value.agg #[Value.int .i64 0, Value.int .i64 0]); (with_reducible refine (hg0 _ ?_).mono ?_); (focus exact And.left (by assumption)); rintro e w' ⟨rfl, hm⟩))
  have HS : ∀ w7, (Mod [] X w7 ∧ fb < w7.heap.size ∧ w7.cell? ⟨fb, 3, none⟩ = some (.int .i64 10) ∧ w7.cell? ⟨fb, 4, none⟩ = some (.int .i64 4) ∧ w7.cell? ⟨fb, 5, none⟩ = some (.int .i64 0) ∧ w7.cell? ⟨fb, 6, none⟩ = some (.int .i64 0)) → Mod [] X w7 := fun _ h => h.1
  have hm7 := HS _ (by assumption)
  clear HS
  have hm03 := hm02.then0 hm7
  replace hbF := hm7.blk hbF (by simp)
  replace hb2 := hm7.blk hb2 (by simp)
  replace hgl := fun w'' (hm : Mod [] w' w'') => hgl w'' (hm03.then0 hm)
  clear hm7 hm02 d3 d4 d5 d6 zf hgc hg0
  clear hby
  have d3 : w'.cell? ⟨fb, 3, none⟩ = some (.int .i64 10) := blk_cell hbF rfl
  have d4 : w'.cell? ⟨fb, 4, none⟩ = some (.int .i64 4) := blk_cell hbF rfl
  have zf := blk_lt hbF
  have k3 : ¬ (2147483647 : Int) < (n : Int) := by omega
  go_wp2_with fail
  refine (most_4 _ _).mono ?_
  rintro e w8 ⟨rfl, hm8⟩
  have hm38 := hm03.then0 hm8
  replace hbF := hm8.blk hbF (by simp)
  replace hb2 := hm8.blk hb2 (by simp)
  replace hgl := fun w'' (hm : Mod [] w8 w'') => hgl w'' (hm8.then0 hm)
  clear hm8 hm03 d3 d4 zf
  have d5 : w8.cell? ⟨fb, 5, none⟩ = some (.int .i64 0) := blk_cell hbF rfl
  have d6 : w8.cell? ⟨fb, 6, none⟩ = some (.int .i64 0) := blk_cell hbF rfl
  have zf := blk_lt hbF
  go_wp2_with fail
  refine (most_0 _ _).mono ?_
  rintro e w9 ⟨rfl, hm9⟩
  have hm39 := hm38.then0 hm9
  replace hbF := hm9.blk hbF (by simp)
  replace hb2 := hm9.blk hb2 (by simp)
  replace hgl := fun w'' (hm : Mod [] w9 w'') => hgl w'' (hm9.then0 hm)
  clear hm9 hm38 d5 d6 zf
  have d0 : w9.cell? ⟨fb, 0, none⟩ = some (.int .i64 136) := blk_cell hbF rfl
  have d1 : w9.cell? ⟨fb, 1, none⟩ = some (.int .i64 2) := blk_cell hbF rfl
  have d2 : w9.cell? ⟨fb, 2, none⟩ = some (.int .i64 8) := blk_cell hbF rfl
  have zf := blk_lt hbF
  have kn : IntKind.i64.wrap (n : Int) = (n : Int) := IntWalk.i64_in _ (by omega)
  have k0 : IntKind.i64.wrap 0 = 0 := IntWalk.i64_in _ (by omega)
  go_upto_region 10 with fail
  clear k3
  have hS : ∀ w', Mod [] w9 w' → Mod [] w9 w' ∧ fb < w'.heap.size ∧ w'.cell? ⟨fb, 0, none⟩ = some (.int .i64 136) ∧ w'.cell? ⟨fb, 1, none⟩ = some (.int .i64 2) ∧ w'.cell? ⟨fb, 2, none⟩ = some (.int .i64 8) := fun w' hm => by
    have hb := hm.blk hbF (by simp)
    exact ⟨hm, blk_lt hb, blk_cell hb rfl, blk_cell hb rfl, blk_cell hb rfl⟩
  go_cut [8] from 49 to 59 (fun p wx => ∃ g, p = .pointer (some ⟨g, 0, none⟩) ∧ Mod [] w9 wx ∧ wx.heap[g]? = some (.cells #[.int .i64 136, .int .u64 x, .int .i64 n, .int .i64 0] 40 (0, 0)) ∧ w9.heap.size ≤ g)
  case first =>
    go_region_held3 (fun w' => Mod [] w9 w' ∧ fb < w'.heap.size ∧ w'.cell? ⟨fb, 0, none⟩ = some (.int .i64 136) ∧ w'.cell? ⟨fb, 1, none⟩ = some (.int .i64 2) ∧ w'.cell? ⟨fb, 2, none⟩ = some (.int .i64 8))
      (first | with_reducible assumption | (with_reducible refine hS _ ?_; (repeat (first | with_reducible exact Mod.refl _ _ | with_reducible refine Mod.drew ?_ | with_reducible refine Mod.alloc ?_ _ | with_reducible refine Mod.setCell ?_ (.inr (by simp <;> omega)) _ | with_reducible refine Mod.then0 ?_ (by with_reducible assumption)))))
      ((go_at_call 97; (with_reducible refine (hgl _ ?_).mono ?_); (focus (repeat (first | with_reducible exact Mod.refl _ _ | with_reducible refine Mod.drew ?_ | with_reducible refine Mod.alloc ?_ _ | with_reducible refine Mod.setCell ?_ (.inr (by simp <;> omega)) _ | with_reducible refine Mod.then0 ?_ (by with_reducible assumption)))); rintro e w' ⟨rfl, hm⟩; obtain ⟨hc1, hf1⟩ := hm.cells; have hz1 := hm.size))
    all_goals go_wp2_with fail
    all_goals go_meet
    all_goals refine ⟨_, rfl, ?_, ?_, ?_⟩
    all_goals first
      | ((repeat (first | with_reducible exact Mod.refl _ _ | with_reducible refine Mod.drew ?_ | with_reducible refine Mod.alloc ?_ _ | with_reducible refine Mod.setCell ?_ (.inr (by simp <;> omega)) _ | with_reducible refine Mod.then0 ?_ (by with_reducible assumption))); done)
      | with_reducible exact blk_alloc _ _ _
      | (have hb9 := hm.blk (g := w9.heap.size) (o := .cells #[.int .i64 0, .int .u64 0, .int .i64 0, .int .i64 0] 40 (0, 0)) (blk_alloc w9 #[.int .i64 0, .int .u64 0, .int .i64 0, .int .i64 0] 40) (by simp); with_reducible exact set4 _ _ hb9 rfl _ _ _ _)
      | exact Nat.le_refl _
      | (have := hm.size; simp at this; omega)
  case rest =>
    obtain ⟨g, rfl, hm10, hbC, hgw⟩ := hcut
    have hm310 := hm39.then0 hm10
    replace hb2 := hm10.blk hb2 (by simp)
    have hw9 := hm39.size
    clear hS d0 d1 d2 zf hgl hbF kn k0
    have c0 : wc.cell? ⟨g, 0, none⟩ = some (.int .i64 136) := blk_cell hbC rfl
    have c1 : wc.cell? ⟨g, 1, none⟩ = some (.int .u64 x) := blk_cell hbC rfl
    have c2 : wc.cell? ⟨g, 2, none⟩ = some (.int .i64 n) := blk_cell hbC rfl
    have c3 : wc.cell? ⟨g, 3, none⟩ = some (.int .i64 0) := blk_cell hbC rfl
    have zc := blk_lt hbC
    go_wp2_with fail
    refine (print_136 x n hx hn wc).mono ?_
    rintro e w11 ⟨pg, rfl, hbP, hpg, hm11⟩
    have hm311 := hm310.then0 hm11
    replace hb2 := hm11.blk hb2 (by simp)
    replace hbC := hm11.blk hbC (by simp)
    clear hm11 hm310 c0 c1 c2 c3 zc
    have kc1 := kc w11 hm311
    have kc2 : (convert 32 9 (.slice (some ⟨pg, 0, none⟩) 16 16)).run Try.prog w11 = .ok (.string ⟨l.toArray⟩) w11 := by
      refine conv_bytes w11 _ 16 16 l ?_
      have h1 := Rds.whole hbP
      rw [hprow.out] at h1
      exact h1
    clear kc
    have c0 : w11.cell? ⟨g, 0, none⟩ = some (.int .i64 136) := blk_cell hbC rfl
    have c1 : w11.cell? ⟨g, 1, none⟩ = some (.int .u64 x) := blk_cell hbC rfl
    have c2 : w11.cell? ⟨g, 2, none⟩ = some (.int .i64 n) := blk_cell hbC rfl
    have c3 : w11.cell? ⟨g, 3, none⟩ = some (.int .i64 0) := blk_cell hbC rfl
    have zc := blk_lt hbC
    have z2 := blk_lt hb2
    have r0 : w11.cell? ⟨w.heap.size, 0, none⟩ = some (.int .i64 0) := blk_cell hb2 rfl
    have r1 : w11.cell? ⟨w.heap.size, 1, none⟩ = some (.int .u64 0) := blk_cell hb2 rfl
    have r2 : w11.cell? ⟨w.heap.size, 2, none⟩ = some (.int .i64 0) := blk_cell hb2 rfl
    have r3 : w11.cell? ⟨w.heap.size, 3, none⟩ = some (.int .i64 0) := blk_cell hb2 rfl
    have fr := fun i => blk_frozen hb2 i
    go_wp2
    have hs := set4 w11 w.heap.size hb2 rfl (.int .i64 136) (.int .u64 x) (.int .i64 n) (.int .i64 0)
    refine bodyPost_ret (res_cell_tmp _ _ w.heap.size 40 _ rfl hs Try.underlying40 info40s rfl) rfl ⟨rfl, ?_⟩
    exact (((hm311.setCell (.inr (Nat.le_refl _)) _).setCell (.inr (Nat.le_refl _)) _).setCell (.inr (Nat.le_refl _)) _).setCell (.inr (Nat.le_refl _)) _
theorem prn_cnt_138 (x n : Nat) (hn : n ≤ 65535) : num (((prn 138 2 8 10 4 x n).drop 10).take 4) = n := by
  have e : ((prn 138 2 8 10 4 x n).drop 10).take 4 = [UInt8.ofNat (n / 16777216), UInt8.ofNat (n / 65536), UInt8.ofNat (n / 256), UInt8.ofNat (n / 1)] := by
    kernel_rfl
  rw [e, Nat.div_one]
  have h := num_be4 n
  rw [show num [UInt8.ofNat (n / 16777216), UInt8.ofNat (n / 65536), UInt8.ofNat (n / 256), UInt8.ofNat n] = _ from h]
  omega
theorem prn_lba_138 (x n : Nat) (hx : x ≤ 4294967295) : num (((prn 138 2 8 10 4 x n).drop 2).take 8) = x := by
  have e : ((prn 138 2 8 10 4 x n).drop 2).take 8 = [UInt8.ofNat (x / 72057594037927936), UInt8.ofNat (x / 281474976710656), UInt8.ofNat (x / 1099511627776), UInt8.ofNat (x / 4294967296), UInt8.ofNat (x / 16777216), UInt8.ofNat (x / 65536), UInt8.ofNat (x / 256), UInt8.ofNat (x / 1)] := by
    kernel_rfl
  rw [e, Nat.div_one]
  exact num_be8 x (by omega)
  
theorem prn_op_138 (x n : Nat) : bt (prn 138 2 8 10 4 x n) 0 = 138 := by
  kernel_rfl
set_option maxRecDepth 100000 in
set_option maxHeartbeats 4000000 in
theorem parse_138 (A : Option Addr) (c x n : Nat) (hx : x ≤ 4294967295) (hn : n ≤ 65535) (w : World) (hr : Rds w A 16 ((prn 138 2 8 10 4 x n).map By)) (hc : 16 ≤ c) : Calls Try.prog 91 #[.slice A 16 c] w fun e w' => e = .returned (.tuple #[.agg #[.int .i64 138, .int .u64 x, .int .i64 n, .int .i64 0], .int .i64 0]) ∧ Mod [] w w' := by
  have hcn := prn_cnt_138 x n hn
  have hla := prn_lba_138 x n hx
  have hop := prn_op_138 x n
  have hprow := prn_row 138 2 8 10 4 x n
  have hplen := prn_len 138 2 8 10 4 x n
  generalize hl : prn 138 2 8 10 4 x n = l at hr hcn hla hop hprow hplen
  obtain ⟨b, off, hA, hb, _⟩ := hr.2 (by decide)
  have hby : ∀ w', Mod [] w w' → w'.cell? ⟨b, off, none⟩ = some (.int .u8 138) := fun w' hm => by
    have h1 := (hr.mod0 hm).byte hA (k := 0) (by decide)
    rw [hop] at h1
    exact h1
  have hgc : ∀ w', Mod [] w w' → Calls Try.prog 97 #[.slice A 16 c, .agg #[.int .i64 10, .int .i64 4]] w' fun e w'' => e = .returned (.int .u64 n) ∧ Mod [] w' w'' := fun w' hm => by
    have h1 := fget_k A 16 c l w' (hr.mod0 hm) hc 10 4 (by decide) (by decide) (by decide) (by decide)
    rw [hcn] at h1
    exact h1
  have hgl : ∀ w', Mod [] w w' → Calls Try.prog 97 #[.slice A 16 c, .agg #[.int .i64 2, .int .i64 8]] w' fun e w'' => e = .returned (.int .u64 x) ∧ Mod [] w' w'' := fun w' hm => by
    have h1 := fget_k A 16 c l w' (hr.mod0 hm) hc 2 8 (by decide) (by decide) (by decide) (by decide)
    rw [hla] at h1
    exact h1
  have hg0 : ∀ w', Mod [] w w' → Calls Try.prog 97 #[.slice A 16 c, .agg #[.int .i64 0, .int .i64 0]] w' fun e w'' => e = .returned (.int .u64 0) ∧ Mod [] w' w'' := fun w' hm => by
    have h1 := fget_k A 16 c l w' (hr.mod0 hm) hc 0 0 (by decide) (by decide) (by decide) (by decide)
    exact h1
  have kc : ∀ w', Mod [] w w' → (convert 32 9 (.slice A 16 c)).run Try.prog w' = .ok (.string ⟨l.toArray⟩) w' := fun w' hm => conv_bytes w' A 16 c l (hr.mod0 hm)
  subst hA
  replace hl := Lib.hid hl
  replace hprow := Lib.hid hprow
  replace hplen := Lib.hid hplen
  clear hcn hla hop
  have hci : (16 : Int) ≤ c := by omega
  have hb0 := blk_alloc w #[.int .i64 0, .int .u64 0, .int .i64 0, .int .i64 0] 40
  have hm0 : Mod [] w (w.alloc (.cells #[.int .i64 0, .int .u64 0, .int .i64 0, .int .i64 0] 40)) := (Mod.refl _ _).alloc _
  have b0 := hby _ hm0
  have kw : IntKind.i64.wrap 138 = 138 := IntWalk.i64_in _ (by omega)
  go_enter Try.func91, Try.ntmps91
  go_wp2_with fail
  generalize World.alloc w _ = V0 at hb0 hm0 b0 ⊢
  refine (find_138 V0).mono ?_
  rintro e w2 ⟨rfl, hm2⟩
  have hA2 : Mod [] w2 (w2.alloc (.cells #[.int .i64 138, .int .i64 2, .int .i64 8, .int .i64 10, .int .i64 4, .int .i64 0, .int .i64 0, .int .u8 0] 142)) := (Mod.refl _ _).alloc _
  have hbF := blk_alloc w2 #[.int .i64 138, .int .i64 2, .int .i64 8, .int .i64 10, .int .i64 4, .int .i64 0, .int .i64 0, .int .u8 0] 142
  have hb2 := hA2.blk (hm2.blk hb0 (by simp)) (by simp)
  have hm02 := (hm0.then0 hm2).then0 hA2
  clear hb0 hm0 hm2 hA2 b0
  go_upto_region 7 with fail
  generalize hf : w2.heap.size = fb at hbF ⊢
  generalize World.alloc w2 _ = X at hbF hb2 hm02 ⊢
  clear hf
  have d3 : X.cell? ⟨fb, 3, none⟩ = some (.int .i64 10) := blk_cell hbF rfl
  have d4 : X.cell? ⟨fb, 4, none⟩ = some (.int .i64 4) := blk_cell hbF rfl
  have d5 : X.cell? ⟨fb, 5, none⟩ = some (.int .i64 0) := blk_cell hbF rfl
  have d6 : X.cell? ⟨fb, 6, none⟩ = some (.int .i64 0) := blk_cell hbF rfl
  have zf := blk_lt hbF
  replace hgc := fun w' (hm : Mod [] X w') => hgc w' (hm02.then0 hm)
  replace hg0 := fun w' (hm : Mod [] X w') => hg0 w' (hm02.then0 hm)
  go_region_held3 (fun w' => Mod [] X w' ∧ fb < w'.heap.size ∧ w'.cell? ⟨fb, 3, none⟩ = some (.int .i64 10) ∧ w'.cell? ⟨fb, 4, none⟩ = some (.int .i64 4) ∧ w'.cell? ⟨fb, 5, none⟩ = some (.int .i64 0) ∧ w'.cell? ⟨fb, 6, none⟩ = some (.int .i64 0))
    (first | exact ⟨(Mod.refl _ _).drew, zf, d3, d4, d5, d6⟩ | exact keepF (by assumption) (by assumption))
    (first | (go_at_call_of 97 (Value.int .i64 10); (with_reducible refine (hgc _ ?_).mono ?_); (focus exact And.left (by assumption)); rintro e w' ⟨rfl, hm⟩) | (go_at_call_of 97 (Value.agg #[Value.int .i64 0, Value.int .i64 0]); (with_reducible refine (hg0 _ ?_).mono ?_); (focus exact And.left (by assumption)); rintro e w' ⟨rfl, hm⟩))
  have HS : ∀ w7, (Mod [] X w7 ∧ fb < w7.heap.size ∧ w7.cell? ⟨fb, 3, none⟩ = some (.int .i64 10) ∧ w7.cell? ⟨fb, 4, none⟩ = some (.int .i64 4) ∧ w7.cell? ⟨fb, 5, none⟩ = some (.int .i64 0) ∧ w7.cell? ⟨fb, 6, none⟩ = some (.int .i64 0)) → Mod [] X w7 := fun _ h => h.1
  have hm7 := HS _ (by assumption)
  clear HS
  have hm03 := hm02.then0 hm7
  replace hbF := hm7.blk hbF (by simp)
  replace hb2 := hm7.blk hb2 (by simp)
  replace hgl := fun w'' (hm : Mod [] w' w'') => hgl w'' (hm03.then0 hm)
  clear hm7 hm02 d3 d4 d5 d6 zf hgc hg0
  clear hby
  have d3 : w'.cell? ⟨fb, 3, none⟩ = some (.int .i64 10) := blk_cell hbF rfl
  have d4 : w'.cell? ⟨fb, 4, none⟩ = some (.int .i64 4) := blk_cell hbF rfl
  have zf := blk_lt hbF
  have k3 : ¬ (2147483647 : Int) < (n : Int) := by omega
  go_wp2_with fail
  refine (most_4 _ _).mono ?_
  rintro e w8 ⟨rfl, hm8⟩
  have hm38 := hm03.then0 hm8
  replace hbF := hm8.blk hbF (by simp)
  replace hb2 := hm8.blk hb2 (by simp)
  replace hgl := fun w'' (hm : Mod [] w8 w'') => hgl w'' (hm8.then0 hm)
  clear hm8 hm03 d3 d4 zf
  have d5 : w8.cell? ⟨fb, 5, none⟩ = some (.int .i64 0) := blk_cell hbF rfl
  have d6 : w8.cell? ⟨fb, 6, none⟩ = some (.int .i64 0) := blk_cell hbF rfl
  have zf := blk_lt hbF
  go_wp2_with fail
  refine (most_0 _ _).mono ?_
  rintro e w9 ⟨rfl, hm9⟩
  have hm39 := hm38.then0 hm9
  replace hbF := hm9.blk hbF (by simp)
  replace hb2 := hm9.blk hb2 (by simp)
  replace hgl := fun w'' (hm : Mod [] w9 w'') => hgl w'' (hm9.then0 hm)
  clear hm9 hm38 d5 d6 zf
  have d0 : w9.cell? ⟨fb, 0, none⟩ = some (.int .i64 138) := blk_cell hbF rfl
  have d1 : w9.cell? ⟨fb, 1, none⟩ = some (.int .i64 2) := blk_cell hbF rfl
  have d2 : w9.cell? ⟨fb, 2, none⟩ = some (.int .i64 8) := blk_cell hbF rfl
  have zf := blk_lt hbF
  have kn : IntKind.i64.wrap (n : Int) = (n : Int) := IntWalk.i64_in _ (by omega)
  have k0 : IntKind.i64.wrap 0 = 0 := IntWalk.i64_in _ (by omega)
  go_upto_region 10 with fail
  clear k3
  have hS : ∀ w', Mod [] w9 w' → Mod [] w9 w' ∧ fb < w'.heap.size ∧ w'.cell? ⟨fb, 0, none⟩ = some (.int .i64 138) ∧ w'.cell? ⟨fb, 1, none⟩ = some (.int .i64 2) ∧ w'.cell? ⟨fb, 2, none⟩ = some (.int .i64 8) := fun w' hm => by
    have hb := hm.blk hbF (by simp)
    exact ⟨hm, blk_lt hb, blk_cell hb rfl, blk_cell hb rfl, blk_cell hb rfl⟩
  go_cut [8] from 49 to 59 (fun p wx => ∃ g, p = .pointer (some ⟨g, 0, none⟩) ∧ Mod [] w9 wx ∧ wx.heap[g]? = some (.cells #[.int .i64 138, .int .u64 x, .int .i64 n, .int .i64 0] 40 (0, 0)) ∧ w9.heap.size ≤ g)
  case first =>
    go_region_held3 (fun w' => Mod [] w9 w' ∧ fb < w'.heap.size ∧ w'.cell? ⟨fb, 0, none⟩ = some (.int .i64 138) ∧ w'.cell? ⟨fb, 1, none⟩ = some (.int .i64 2) ∧ w'.cell? ⟨fb, 2, none⟩ = some (.int .i64 8))
      (first | with_reducible assumption | (with_reducible refine hS _ ?_; (repeat (first | with_reducible exact Mod.refl _ _ | with_reducible refine Mod.drew ?_ | with_reducible refine Mod.alloc ?_ _ | with_reducible refine Mod.setCell ?_ (.inr (by simp <;> omega)) _ | with_reducible refine Mod.then0 ?_ (by with_reducible assumption)))))
      ((go_at_call 97; (with_reducible refine (hgl _ ?_).mono ?_); (focus (repeat (first | with_reducible exact Mod.refl _ _ | with_reducible refine Mod.drew ?_ | with_reducible refine Mod.alloc ?_ _ | with_reducible refine Mod.setCell ?_ (.inr (by simp <;> omega)) _ | with_reducible refine Mod.then0 ?_ (by with_reducible assumption)))); rintro e w' ⟨rfl, hm⟩; obtain ⟨hc1, hf1⟩ := hm.cells; have hz1 := hm.size))
    all_goals go_wp2_with fail
    all_goals go_meet
    all_goals refine ⟨_, rfl, ?_, ?_, ?_⟩
    all_goals first
      | ((repeat (first | with_reducible exact Mod.refl _ _ | with_reducible refine Mod.drew ?_ | with_reducible refine Mod.alloc ?_ _ | with_reducible refine Mod.setCell ?_ (.inr (by simp <;> omega)) _ | with_reducible refine Mod.then0 ?_ (by with_reducible assumption))); done)
      | with_reducible exact blk_alloc _ _ _
      | (have hb9 := hm.blk (g := w9.heap.size) (o := .cells #[.int .i64 0, .int .u64 0, .int .i64 0, .int .i64 0] 40 (0, 0)) (blk_alloc w9 #[.int .i64 0, .int .u64 0, .int .i64 0, .int .i64 0] 40) (by simp); with_reducible exact set4 _ _ hb9 rfl _ _ _ _)
      | exact Nat.le_refl _
      | (have := hm.size; simp at this; omega)
  case rest =>
    obtain ⟨g, rfl, hm10, hbC, hgw⟩ := hcut
    have hm310 := hm39.then0 hm10
    replace hb2 := hm10.blk hb2 (by simp)
    have hw9 := hm39.size
    clear hS d0 d1 d2 zf hgl hbF kn k0
    have c0 : wc.cell? ⟨g, 0, none⟩ = some (.int .i64 138) := blk_cell hbC rfl
    have c1 : wc.cell? ⟨g, 1, none⟩ = some (.int .u64 x) := blk_cell hbC rfl
    have c2 : wc.cell? ⟨g, 2, none⟩ = some (.int .i64 n) := blk_cell hbC rfl
    have c3 : wc.cell? ⟨g, 3, none⟩ = some (.int .i64 0) := blk_cell hbC rfl
    have zc := blk_lt hbC
    go_wp2_with fail
    refine (print_138 x n hx hn wc).mono ?_
    rintro e w11 ⟨pg, rfl, hbP, hpg, hm11⟩
    have hm311 := hm310.then0 hm11
    replace hb2 := hm11.blk hb2 (by simp)
    replace hbC := hm11.blk hbC (by simp)
    clear hm11 hm310 c0 c1 c2 c3 zc
    have kc1 := kc w11 hm311
    have kc2 : (convert 32 9 (.slice (some ⟨pg, 0, none⟩) 16 16)).run Try.prog w11 = .ok (.string ⟨l.toArray⟩) w11 := by
      refine conv_bytes w11 _ 16 16 l ?_
      have h1 := Rds.whole hbP
      rw [hprow.out] at h1
      exact h1
    clear kc
    have c0 : w11.cell? ⟨g, 0, none⟩ = some (.int .i64 138) := blk_cell hbC rfl
    have c1 : w11.cell? ⟨g, 1, none⟩ = some (.int .u64 x) := blk_cell hbC rfl
    have c2 : w11.cell? ⟨g, 2, none⟩ = some (.int .i64 n) := blk_cell hbC rfl
    have c3 : w11.cell? ⟨g, 3, none⟩ = some (.int .i64 0) := blk_cell hbC rfl
    have zc := blk_lt hbC
    have z2 := blk_lt hb2
    have r0 : w11.cell? ⟨w.heap.size, 0, none⟩ = some (.int .i64 0) := blk_cell hb2 rfl
    have r1 : w11.cell? ⟨w.heap.size, 1, none⟩ = some (.int .u64 0) := blk_cell hb2 rfl
    have r2 : w11.cell? ⟨w.heap.size, 2, none⟩ = some (.int .i64 0) := blk_cell hb2 rfl
    have r3 : w11.cell? ⟨w.heap.size, 3, none⟩ = some (.int .i64 0) := blk_cell hb2 rfl
    have fr := fun i => blk_frozen hb2 i
    go_wp2
    have hs := set4 w11 w.heap.size hb2 rfl (.int .i64 138) (.int .u64 x) (.int .i64 n) (.int .i64 0)
    refine bodyPost_ret (res_cell_tmp _ _ w.heap.size 40 _ rfl hs Try.underlying40 info40s rfl) rfl ⟨rfl, ?_⟩
    exact (((hm311.setCell (.inr (Nat.le_refl _)) _).setCell (.inr (Nat.le_refl _)) _).setCell (.inr (Nat.le_refl _)) _).setCell (.inr (Nat.le_refl _)) _
end Go.Proofs.Ytfkhefoilancnaa
namespace Go.Proofs.Ytfkhefoilancnaa
open Go.RowKit
theorem slice_36_3 (g : Nat) (W : World) : (Instr.sliceAt 36 (.pointer (some ⟨g, 5, none⟩)) (some (.int .i64 3)) none none).run Try.prog W = .ok (.slice (some ⟨g, 8, none⟩) 4 4) W := by
  rw [run_sliceAt_array_l W 36 ⟨g, 5, none⟩ und36 .i64 3 (by omega) (by rw [arr36]; omega), el36, size_of_35]
  simp [slicedAt, arr36, addr_add]
def cmdCells (op x n : Nat) : Array Value := #[.int .i64 op, .int .u64 x, .int .i64 n, .int .i64 0]
/-- Bytes that cdb.Parse reads as a command. -/
def ParseOk (l : List UInt8) (op x n : Nat) : Prop := ∀ (A : Option Addr) (c : Nat) (w : World), Rds w A 16 (l.map By) → 16 ≤ c → Calls Try.prog 91 #[.slice A 16 c] w fun e w' => e = .returned (.tuple #[.agg (cmdCells op x n), .int .i64 0]) ∧ Mod [] w w'
set_option maxRecDepth 100000 in
set_option maxHeartbeats 4000000 in
theorem command81_k (m : Ms) (hop : m.op = 1) (hF : m.Fit) (l : List UInt8) (hl : [m.w3, m.w4, m.w5, m.w6].flatMap be4 = l) (op x n : Nat) (hp : ParseOk l op x n) (w : World) : Calls Try.prog 81 #[.agg m.cells] w fun e w' => e = .returned (.tuple #[.agg (cmdCells op x n), .int .i64 0]) ∧ Mod [] w w' := by
  obtain ⟨mop, fl, lun, tag, w0, w1, w2, w3, w4, w5, w6, da, dn, dc⟩ := m
  simp only at hop
  subst hop
  have hws := hF.ws
  simp only [Ms.ws, List.mem_cons, List.not_mem_nil, or_false] at hws
  simp only at hl
  clear hF
  simp only [Ms.cells]
  have hb0 := ((Mod.refl [] _).alloc (.cells #[.int .i64 0, .int .u64 0, .int .i64 0, .int .i64 0] 40)).blk (blk_alloc w #[.int .i64 1, .bool false, .int .u8 fl, .int .u64 lun, .int .u32 tag, .int .u32 w0, .int .u32 w1, .int .u32 w2, .int .u32 w3, .int .u32 w4, .int .u32 w5, .int .u32 w6, .slice da dn dc] 38) (by simp)
  have hb1 := heap_alloc_new' (w.alloc (.cells #[.int .i64 1, .bool false, .int .u8 fl, .int .u64 lun, .int .u32 tag, .int .u32 w0, .int .u32 w1, .int .u32 w2, .int .u32 w3, .int .u32 w4, .int .u32 w5, .int .u32 w6, .slice da dn dc] 38)) (.cells #[.int .i64 0, .int .u64 0, .int .i64 0, .int .i64 0] 40) (w.heap.size + 1) (by simp)
  have hm0 : Mod [] w ((w.alloc (.cells #[.int .i64 1, .bool false, .int .u8 fl, .int .u64 lun, .int .u32 tag, .int .u32 w0, .int .u32 w1, .int .u32 w2, .int .u32 w3, .int .u32 w4, .int .u32 w5, .int .u32 w6, .slice da dn dc] 38)).alloc (.cells #[.int .i64 0, .int .u64 0, .int .i64 0, .int .i64 0] 40)) := ((Mod.refl _ _).alloc _).alloc _
  have hs := slice_36_3
  go_enter Try.func81, Try.ntmps81
  go_upto_region 1 with fail
  generalize World.alloc (World.alloc w _) _ = X at hb0 hb1 hm0 ⊢
  have x0 : X.cell? ⟨w.heap.size, 0, none⟩ = some (.int .i64 1) := blk_cell hb0 rfl
  have zx := blk_lt hb0
  have hrw : Rds X (some ⟨w.heap.size, 8, none⟩) 4 ([w3, w4, w5, w6].map fun (x : Nat) => Value.int .u32 (x : Int)) := by
    refine ⟨rfl, fun _ => ⟨w.heap.size, 8, rfl, zx, fun j u hj => ?_⟩⟩
    refine blk_cell hb0 ?_
    match j, hj with
    | 0, hj => simpa using hj
    | 1, hj => simpa using hj
    | 2, hj => simpa using hj
    | 3, hj => simpa using hj
    | j + 4, hj => simp at hj
  have hwd := words_k X.heap.size none 0 0 [] (some ⟨w.heap.size, 8, none⟩) 4 4 [w3, w4, w5, w6] X (World.ownsRow_nil _ _ _ _) (Nat.le_refl _) hrw (fun y hy => hws y (by simp only [List.mem_cons, List.not_mem_nil, or_false] at hy; omega)) (by intro a _ _ hin; simp [Value.ownBlock] at hin) (by decide) (by decide)
  rw [List.nil_append, hl] at hwd
  go_wp2_with fail
  refine hwd.mono ?_
  rintro e w2' ⟨a2, c2, rfl, ho2, hm2, _⟩
  have hc16 : 16 ≤ c2 := by
    rcases ho2.2 with ⟨_, h2⟩ | ⟨g, cap, cur, h1, _, _, hc1, _⟩
    · omega
    · injection h1 with _ _ h3
      omega
  rw [show 0 + 4 * 4 = 16 from rfl] at ho2 ⊢
  have hm02 := hm0.trans hm2 (fun t ht => by simp [Value.ownBlock] at ht)
  replace hb1 := hm2.blk hb1 (by simp [Value.ownBlock])
  clear hwd hrw x0 zx hb0 hm0 hm2
  go_wp2_with fail
  refine (hp a2 c2 w2' (Rds.own ho2) hc16).mono ?_
  rintro e w3' ⟨rfl, hm3⟩
  simp only [cmdCells]
  replace hb1 := hm3.blk hb1 (by simp)
  have hm03 := hm02.then0 hm3
  have z1 := blk_lt hb1
  have r0 : w3'.cell? ⟨w.heap.size + 1, 0, none⟩ = some (.int .i64 0) := blk_cell hb1 rfl
  have r1 : w3'.cell? ⟨w.heap.size + 1, 1, none⟩ = some (.int .u64 0) := blk_cell hb1 rfl
  have r2 : w3'.cell? ⟨w.heap.size + 1, 2, none⟩ = some (.int .i64 0) := blk_cell hb1 rfl
  have r3 : w3'.cell? ⟨w.heap.size + 1, 3, none⟩ = some (.int .i64 0) := blk_cell hb1 rfl
  have fr := fun i => blk_frozen hb1 i
  go_wp2
  have hs4 := set4 w3' (w.heap.size + 1) hb1 rfl (.int .i64 op) (.int .u64 x) (.int .i64 n) (.int .i64 0)
  refine bodyPost_ret (res_cell_tmp _ _ (w.heap.size + 1) 40 _ rfl hs4 Try.underlying40 info40s rfl) rfl ⟨rfl, ?_⟩
  exact (((hm03.setCell (.inr (by simp)) _).setCell (.inr (by simp)) _).setCell (.inr (by simp)) _).setCell (.inr (by simp)) _
theorem make18 (w : World) : (Instr.makeSlice 32 (.int .i64 18) (.int .i64 18)).run Try.prog w = .ok (.slice (some ⟨w.heap.size, 0, none⟩) 18 18) (w.alloc (.cells (rowOf 18 fun _ => 0).toArray 5)) :=
  run_make_bytes w 32 5 Try.underlying32 info5' 18 (by simp) .i64 .i64
/-- The sense of a block beyond the end, in bytes. -/
def senseL : List UInt8 := [112, 0, 5, 0, 0, 0, 0, 10, 0, 0, 0, 0, 33, 0, 0, 0, 0, 0]
set_option maxRecDepth 100000 in
set_option maxHeartbeats 4000000 in
theorem putSense_k (w : World) : Calls Try.prog 82 #[.agg #[.int .u8 5, .int .u16 8448]] w fun e w' => ∃ g, e = .returned (.slice (some ⟨g, 0, none⟩) 18 18) ∧ Rds w' (some ⟨g, 0, none⟩) 18 (senseL.map By) ∧ w.heap.size ≤ g ∧ Mod [] w w' := by
  have mk := make18
  have hm0 : Mod [] w (w.alloc (.cells #[.int .u8 5, .int .u16 8448] 70)) := (Mod.refl _ _).alloc _
  have hb0 := blk_alloc w #[.int .u8 5, .int .u16 8448] 70
  go_enter Try.func82, Try.ntmps82
  go_upto_region 1 with fail
  generalize World.alloc w _ = X at hm0 hb0 ⊢
  have hm1 := hm0.alloc (.cells (rowOf 18 fun _ => 0).toArray 5)
  have hbG := blk_alloc X (rowOf 18 fun _ => 0).toArray 5
  have hb1 := ((Mod.refl [] X).alloc (.cells (rowOf 18 fun _ => 0).toArray 5)).blk hb0 (by simp)
  have hgw := blk_lt hb0
  go_upto_region 2 with fail
  generalize X.heap.size = g at hbG hgw ⊢
  generalize World.alloc X _ = V at hm1 hbG hb1 ⊢
  clear hm0 hb0 mk
  have x0 : V.cell? ⟨w.heap.size, 0, none⟩ = some (.int .u8 5) := blk_cell hb1 rfl
  have g0 : V.cell? ⟨g, 0, none⟩ = some (.int .u8 0) := blk_cell hbG rfl
  have g2 : V.cell? ⟨g, 2, none⟩ = some (.int .u8 0) := blk_cell hbG rfl
  have g7 : V.cell? ⟨g, 7, none⟩ = some (.int .u8 0) := blk_cell hbG rfl
  have fr := fun i => blk_frozen hbG i
  have zg := blk_lt hbG
  have z1 := blk_lt hb1
  have k5 : bits .and .u8 5 15 = 5 := by decide
  go_region
  have hm4 : Mod [g] V ((((V.setCell ⟨g, 0, none⟩ (.int .u8 112)).setCell ⟨g, 2, none⟩ (.int .u8 5)).setCell ⟨g, 7, none⟩ (.int .u8 10)).drew) := (((mod_set1 V g 0 (.int .u8 112)).setCell (.inl (by simp)) _).setCell (.inl (by simp)) _).drew
  have hbH : (((V.setCell ⟨g, 0, none⟩ (.int .u8 112)).setCell ⟨g, 2, none⟩ (.int .u8 5)).setCell ⟨g, 7, none⟩ (.int .u8 10)).drew.heap[g]? = some (.cells (rowOf 18 fun i => if i = 0 then 112 else if i = 2 then 5 else if i = 7 then 10 else 0).toArray 5 (0, 0)) := by
    have h1 := heap_setCell_same V g 0 _ 5 (.int .u8 112) hbG
    have h2 := heap_setCell_same _ g 2 _ 5 (.int .u8 5) h1
    have h3 := heap_setCell_same _ g 7 _ 5 (.int .u8 10) h2
    exact h3.trans (by kernel_rfl)
  replace hb1 := hm4.blk hb1 (by simp; omega)
  have hm5 := hm1.trans hm4 (fun t ht => .inr (by simp at ht; omega))
  generalize World.drew _ = V4 at hb1 hbH hm5 ⊢
  clear hm4 hm1 hbG x0 g0 g2 g7 fr zg z1 k5
  have c1 : V4.cell? ⟨w.heap.size, 1, none⟩ = some (.int .u16 8448) := blk_cell hb1 rfl
  have zx := blk_lt hb1
  have kw : IntKind.u64.wrap 8448 = 8448 := by rw [IntKind.wrap_u64]; omega
  go_wp2_with fail
  refine (fput_k V4 g 18 _ hbH (by decide) 12 2 8448 (by decide) (by decide) 18).mono ?_
  rintro e V5 ⟨rfl, hbI, hm6⟩
  replace hm5 := hm5.trans hm6 (fun t ht => .inr (by simp at ht; omega))
  have hR := Rds.list (xs := rowOf 18 _) hbI
  rw [show rowOf 18 (fput (fun i => if i = 0 then 112 else if i = 2 then 5 else if i = 7 then 10 else 0) 12 2 2 8448) = senseL.map By from by kernel_rfl] at hR
  clear hm6 hbH c1 zx kw hbI
  go_wp2
  go_ret
  exact ⟨g, rfl, hR, Nat.le_of_lt hgw, hm5⟩
end Go.Proofs.Ytfkhefoilancnaa
namespace Go.Proofs.Ytfkhefoilancnaa
open Go.RowKit
def statusMs (tag k w1 : Nat) (da : Option Addr) (dn dc : Nat) : Ms := ⟨33, 128, 0, tag, k, w1, 0, 0, 0, 0, 0, da, dn, dc⟩
def statusOk (tag k : Nat) : List UInt8 := (statusMs tag k 0 none 0 0).enc []
def statusBad (tag k : Nat) : List UInt8 := (statusMs tag k 2 none 18 0).enc senseL
theorem statusMs_fit (tag w1 : Nat) (ht : tag < 4294967296) (hw : w1 < 4294967296) (da : Option Addr) (dn dc : Nat) (hd : dn ≤ 4096) : (statusMs tag 0 w1 da dn dc).Fit := ⟨by simp [statusMs, opsL], by simp [statusMs], rfl, by simpa [statusMs] using ht, by simpa [statusMs] using hd, by simpa [statusMs, Ms.ws] using hw⟩
set_option maxRecDepth 100000 in
set_option maxHeartbeats 4000000 in
theorem statusF_ok (s : Sh) (W w : World) (d : Nat) (G : Gh) (oa : Option Addr) (oc : Nat) (ob : List UInt8) (h : FeedAt s W w d G oa oc ob) (k : Nat) (hk : G.count = (k : Int)) (hk2 : k ≤ 1000000) (hn : ob.length ≤ 10000000) (tag : Nat) (ht : tag < 4294967296) :
    Calls Try.prog 68 #[.pointer (some ⟨d, 0, none⟩), .slice oa ob.length oc, .int .u32 tag, .agg #[.int .u8 0, .int .u16 0]] w fun e w' => ∃ oa' oc', e = .returned (.slice oa' (ob ++ statusOk tag (k + 1)).length oc') ∧
      FeedAt s W w' d (G.counted (k + 1)) oa' oc' (ob ++ statusOk tag (k + 1)) := by
  have hb0 := ((Mod.refl [] _).alloc (.cells #[.int .i64 33, .bool false, .int .u8 128, .int .u64 0, .int .u32 tag, .int .u32 0, .int .u32 0, .int .u32 0, .int .u32 0, .int .u32 0, .int .u32 0, .int .u32 0, .slice none 0 0] 38)).blk (blk_alloc w #[.int .u8 0, .int .u16 0] 70) (by simp)
  have hb1 := heap_alloc_new' (w.alloc (.cells #[.int .u8 0, .int .u16 0] 70)) (.cells #[.int .i64 33, .bool false, .int .u8 128, .int .u64 0, .int .u32 tag, .int .u32 0, .int .u32 0, .int .u32 0, .int .u32 0, .int .u32 0, .int .u32 0, .int .u32 0, .slice none 0 0] 38) (w.heap.size + 1) (by simp)
  have hF := h.mod0 (((Mod.refl [] w).alloc (.cells #[.int .u8 0, .int .u16 0] 70)).alloc (.cells #[.int .i64 33, .bool false, .int .u8 128, .int .u64 0, .int .u32 tag, .int .u32 0, .int .u32 0, .int .u32 0, .int .u32 0, .int .u32 0, .int .u32 0, .int .u32 0, .slice none 0 0] 38))
  go_enter Try.func68, Try.ntmps68
  go_upto_region 2 with fail
  generalize World.alloc (World.alloc w _) _ = X at hb0 hb1 hF ⊢
  have s0 : X.cell? ⟨w.heap.size, 0, none⟩ = some (.int .u8 0) := blk_cell hb0 rfl
  have s1 : X.cell? ⟨w.heap.size, 1, none⟩ = some (.int .u16 0) := blk_cell hb0 rfl
  have y0 : X.cell? ⟨w.heap.size + 1, 0, none⟩ = some (.int .i64 33) := blk_cell hb1 rfl
  have y1 : X.cell? ⟨w.heap.size + 1, 1, none⟩ = some (.bool false) := blk_cell hb1 rfl
  have y2 : X.cell? ⟨w.heap.size + 1, 2, none⟩ = some (.int .u8 128) := blk_cell hb1 rfl
  have y3 : X.cell? ⟨w.heap.size + 1, 3, none⟩ = some (.int .u64 0) := blk_cell hb1 rfl
  have y4 : X.cell? ⟨w.heap.size + 1, 4, none⟩ = some (.int .u32 tag) := blk_cell hb1 rfl
  have y5 : X.cell? ⟨w.heap.size + 1, 5, none⟩ = some (.int .u32 0) := blk_cell hb1 rfl
  have y6 : X.cell? ⟨w.heap.size + 1, 6, none⟩ = some (.int .u32 0) := blk_cell hb1 rfl
  have y7 : X.cell? ⟨w.heap.size + 1, 7, none⟩ = some (.int .u32 0) := blk_cell hb1 rfl
  have y8 : X.cell? ⟨w.heap.size + 1, 8, none⟩ = some (.int .u32 0) := blk_cell hb1 rfl
  have y9 : X.cell? ⟨w.heap.size + 1, 9, none⟩ = some (.int .u32 0) := blk_cell hb1 rfl
  have y10 : X.cell? ⟨w.heap.size + 1, 10, none⟩ = some (.int .u32 0) := blk_cell hb1 rfl
  have y11 : X.cell? ⟨w.heap.size + 1, 11, none⟩ = some (.int .u32 0) := blk_cell hb1 rfl
  have y12 : X.cell? ⟨w.heap.size + 1, 12, none⟩ = some (.slice none 0 0) := blk_cell hb1 rfl
  have z0 := blk_lt hb0
  have z1 := blk_lt hb1
  go_wp2_with fail
  have hans := answerF s W X d _ oa oc ob hF k hk hk2 hn (statusMs tag 0 0 none 0 0) (statusMs_fit _ _ ht (by omega) _ _ _ (by omega)) [] (Rds.none_ _) (by intro a ha; cases ha)
  simp only [Ms.cells, statusMs] at hans
  refine hans.mono ?_
  rintro e w6 ⟨oa', oc', rfl, hF6⟩
  clear hans y0 y1 y2 y3 y4 y5 y6 y7 y8 y9 y10 y11 y12
  go_wp2
  go_ret
  exact ⟨oa', oc', by rw [List.length_append]; rfl, hF6⟩
set_option maxRecDepth 100000 in
set_option maxHeartbeats 4000000 in
theorem statusF_bad (s : Sh) (W w : World) (d : Nat) (G : Gh) (oa : Option Addr) (oc : Nat) (ob : List UInt8) (h : FeedAt s W w d G oa oc ob) (k : Nat) (hk : G.count = (k : Int)) (hk2 : k ≤ 1000000) (hn : ob.length ≤ 10000000) (tag : Nat) (ht : tag < 4294967296) :
    Calls Try.prog 68 #[.pointer (some ⟨d, 0, none⟩), .slice oa ob.length oc, .int .u32 tag, .agg #[.int .u8 5, .int .u16 8448]] w fun e w' => ∃ oa' oc', e = .returned (.slice oa' (ob ++ statusBad tag (k + 1)).length oc') ∧
      FeedAt s W w' d (G.counted (k + 1)) oa' oc' (ob ++ statusBad tag (k + 1)) := by
  have hb0 := ((Mod.refl [] _).alloc (.cells #[.int .i64 33, .bool false, .int .u8 128, .int .u64 0, .int .u32 tag, .int .u32 0, .int .u32 0, .int .u32 0, .int .u32 0, .int .u32 0, .int .u32 0, .int .u32 0, .slice none 0 0] 38)).blk (blk_alloc w #[.int .u8 5, .int .u16 8448] 70) (by simp)
  have hb1 := heap_alloc_new' (w.alloc (.cells #[.int .u8 5, .int .u16 8448] 70)) (.cells #[.int .i64 33, .bool false, .int .u8 128, .int .u64 0, .int .u32 tag, .int .u32 0, .int .u32 0, .int .u32 0, .int .u32 0, .int .u32 0, .int .u32 0, .int .u32 0, .slice none 0 0] 38) (w.heap.size + 1) (by simp)
  have hF := h.mod0 (((Mod.refl [] w).alloc (.cells #[.int .u8 5, .int .u16 8448] 70)).alloc (.cells #[.int .i64 33, .bool false, .int .u8 128, .int .u64 0, .int .u32 tag, .int .u32 0, .int .u32 0, .int .u32 0, .int .u32 0, .int .u32 0, .int .u32 0, .int .u32 0, .slice none 0 0] 38))
  go_enter Try.func68, Try.ntmps68
  go_upto_region 2 with fail
  generalize World.alloc (World.alloc w _) _ = X at hb0 hb1 hF ⊢
  have s0 : X.cell? ⟨w.heap.size, 0, none⟩ = some (.int .u8 5) := blk_cell hb0 rfl
  have s1 : X.cell? ⟨w.heap.size, 1, none⟩ = some (.int .u16 8448) := blk_cell hb0 rfl
  have y6 : X.cell? ⟨w.heap.size + 1, 6, none⟩ = some (.int .u32 0) := blk_cell hb1 rfl
  have f6 := blk_frozen hb1 6
  have z0 := blk_lt hb0
  have z1 := blk_lt hb1
  go_upto_region 4 with fail
  have hm2 := mod_set1 X (w.heap.size + 1) 6 (.int .u32 2)
  have hF2 := hF.keep hm2 w.heap.size h.size h.outLt (by simp)
  have hb2 : (X.setCell ⟨w.heap.size + 1, 6, none⟩ (.int .u32 2)).heap[w.heap.size + 1]? = some (.cells #[.int .i64 33, .bool false, .int .u8 128, .int .u64 0, .int .u32 tag, .int .u32 0, .int .u32 2, .int .u32 0, .int .u32 0, .int .u32 0, .int .u32 0, .int .u32 0, .slice none 0 0] 38 (0, 0)) := by
    rw [heap_setCell_same X (w.heap.size + 1) 6 _ 38 _ hb1]
    rfl
  replace hb0 := hm2.blk hb0 (by simp)
  generalize X.setCell _ _ = V at hb0 hb2 hF2 ⊢
  clear hm2 hF hb1 s0 s1 y6 f6 z0 z1
  have s0 : V.cell? ⟨w.heap.size, 0, none⟩ = some (.int .u8 5) := blk_cell hb0 rfl
  have s1 : V.cell? ⟨w.heap.size, 1, none⟩ = some (.int .u16 8448) := blk_cell hb0 rfl
  have z0 := blk_lt hb0
  have zV := blk_lt hb2
  go_wp2_with fail
  refine (putSense_k V).mono ?_
  rintro e V2 ⟨g, rfl, hR, hgV, hm3⟩
  have hF3 := hF2.mod0 hm3
  replace hb2 := hm3.blk hb2 (by simp)
  have c12 : V2.cell? ⟨w.heap.size + 1, 12, none⟩ = some (.slice none 0 0) := blk_cell hb2 rfl
  have f12 := blk_frozen hb2 12
  have z4 := blk_lt hb2
  have hdV := blk_lt hF2.desk.desk
  have hbV := hm3.size
  have hg1 : w.heap.size + 1 < g := by omega
  clear s0 s1 z0 hF2 hb0
  go_upto_region 5 with fail
  have hm5 := mod_set1 V2 (w.heap.size + 1) 12 (.slice (some ⟨g, 0, none⟩) 18 18)
  have hF5 := hF3.keep hm5 w.heap.size h.size h.outLt (by simp)
  have hb5 : (V2.setCell ⟨w.heap.size + 1, 12, none⟩ (.slice (some ⟨g, 0, none⟩) 18 18)).heap[w.heap.size + 1]? = some (.cells #[.int .i64 33, .bool false, .int .u8 128, .int .u64 0, .int .u32 tag, .int .u32 0, .int .u32 2, .int .u32 0, .int .u32 0, .int .u32 0, .int .u32 0, .int .u32 0, .slice (some ⟨g, 0, none⟩) 18 18] 38 (0, 0)) := by
    rw [heap_setCell_same V2 (w.heap.size + 1) 12 _ 38 _ hb2]
    rfl
  have hR5 := hR.mod hm5 (fun a ha _ hin => by cases ha; simp at hin; omega)
  generalize V2.setCell _ _ = V5 at hb5 hF5 hR5 ⊢
  clear hm5 hF3 hb2 hR c12 f12 z4
  have y0 : V5.cell? ⟨w.heap.size + 1, 0, none⟩ = some (.int .i64 33) := blk_cell hb5 rfl
  have y1 : V5.cell? ⟨w.heap.size + 1, 1, none⟩ = some (.bool false) := blk_cell hb5 rfl
  have y2 : V5.cell? ⟨w.heap.size + 1, 2, none⟩ = some (.int .u8 128) := blk_cell hb5 rfl
  have y3 : V5.cell? ⟨w.heap.size + 1, 3, none⟩ = some (.int .u64 0) := blk_cell hb5 rfl
  have y4 : V5.cell? ⟨w.heap.size + 1, 4, none⟩ = some (.int .u32 tag) := blk_cell hb5 rfl
  have y5 : V5.cell? ⟨w.heap.size + 1, 5, none⟩ = some (.int .u32 0) := blk_cell hb5 rfl
  have y6 : V5.cell? ⟨w.heap.size + 1, 6, none⟩ = some (.int .u32 2) := blk_cell hb5 rfl
  have y7 : V5.cell? ⟨w.heap.size + 1, 7, none⟩ = some (.int .u32 0) := blk_cell hb5 rfl
  have y8 : V5.cell? ⟨w.heap.size + 1, 8, none⟩ = some (.int .u32 0) := blk_cell hb5 rfl
  have y9 : V5.cell? ⟨w.heap.size + 1, 9, none⟩ = some (.int .u32 0) := blk_cell hb5 rfl
  have y10 : V5.cell? ⟨w.heap.size + 1, 10, none⟩ = some (.int .u32 0) := blk_cell hb5 rfl
  have y11 : V5.cell? ⟨w.heap.size + 1, 11, none⟩ = some (.int .u32 0) := blk_cell hb5 rfl
  have y12 : V5.cell? ⟨w.heap.size + 1, 12, none⟩ = some (.slice (some ⟨g, 0, none⟩) 18 18) := blk_cell hb5 rfl
  have z5 := blk_lt hb5
  go_wp2_with fail
  have hans := answerF s W V5 d _ oa oc ob hF5 k hk hk2 hn (statusMs tag 0 2 (some ⟨g, 0, none⟩) 18 18) (statusMs_fit _ _ ht (by omega) _ _ _ (by omega)) senseL hR5 (by intro a ha _ hin; cases ha; simp at hin; omega)
  simp only [Ms.cells, statusMs] at hans
  refine hans.mono ?_
  rintro e w6 ⟨oa', oc', rfl, hF6⟩
  clear hans y0 y1 y2 y3 y4 y5 y6 y7 y8 y9 y10 y11 y12
  go_wp2
  go_ret
  exact ⟨oa', oc', by rw [List.length_append]; rfl, hF6⟩
end Go.Proofs.Ytfkhefoilancnaa
namespace Go.Proofs.Ytfkhefoilancnaa
open Go.RowKit
/-- What a volume is. -/
abbrev VP := (Nat → Nat → UInt8) → Prop
/-- What a message does, as its own contract says. -/
def StepOk2 (s : Sh) (d : Nat) (G : Gh) (V : VP) (o : List UInt8) (m : Ms) (data mid : List UInt8) (G' : Gh) (V' : VP) (o' st' : List UInt8) : Prop :=
  ∀ (W w : World) (vol : Nat → Nat → UInt8) (wa : Option Addr) (wc : Nat) (oa : Option Addr) (oc : Nat) (da : Option Addr) (dc : Nat), V vol → FeedAt s W w d ((G.setVol vol).waits wa wc mid) oa oc o → mid.length ≤ wc → Rds w da m.dn (data.map By) → m.dn ≤ dc → Off (d :: G.gs) da m.dn →
    Calls Try.prog 42 #[.pointer (some ⟨d, 0, none⟩), .slice oa o.length oc, .agg (Ms.cells { m with da := da, dc := dc })] w fun e w' => ∃ oa' oc' wa' wc' vol', e = .returned (.slice oa' o'.length oc') ∧ V' vol' ∧ FeedAt s W w' d ((G'.setVol vol').waits wa' wc' st') oa' oc' o' ∧ st'.length ≤ wc'
structure FeedPlan2 (s : Sh) (d : Nat) (N : Nat) (Gs : Nat → Gh) (Vs : Nat → VP) (outs st mid dts : Nat → List UInt8) (ms : Nat → Ms) : Prop where
  out0 : outs 0 = []
  small : (st 0).length ≤ 1000000
  cut : ∀ j, j < N → st j = (ms j).enc (dts j) ++ mid j
  less : ∀ j, j < N → (st (j + 1)).length ≤ (mid j).length
  fit : ∀ j, j < N → (ms j).Fit
  dlen : ∀ j, j < N → (dts j).length = (ms j).dn
  open_ : ∀ j, j < N → (Gs j).phase < 2
  done : (Gs N).phase = 2 ∨ ((Gs N).phase < 2 ∧ Short (st N))
  rest : (st N).length ≤ 20000
  lens : ∀ j, j ≤ N → (st j).length ≤ 1000000
  gs : ∀ j, j ≤ N → (Gs j).gs = (Gs 0).gs
  step : ∀ j, j < N → StepOk2 s d (Gs j) (Vs j) (outs j) (ms j) (dts j) (mid j) (Gs (j + 1)) (Vs (j + 1)) (outs (j + 1)) (st (j + 1))
  vol0 : Vs 0 (Gs 0).vol
  first : (Gs 0).phase < 2
/-- What holds at the head of Feed's loop, k messages still to come. -/
def FeedInv2 (s : Sh) (W : World) (d N : Nat) (Gs : Nat → Gh) (Vs : Nat → VP) (outs st : Nat → List UInt8) (k : Nat) (o : Value) (wr : World) : Prop :=
  ∃ j ao ac wa wc vol, j + k = N ∧ o = .slice ao (outs j).length ac ∧ FeedAt s W wr d (((Gs j).setVol vol).waits wa wc (st j)) ao ac (outs j) ∧ (st j).length ≤ wc ∧ Vs j vol
set_option maxRecDepth 100000 in
set_option maxHeartbeats 4000000 in
theorem feed2_k (s : Sh) (w : World) (d : Nat) (N : Nat) (Gs : Nat → Gh) (Vs : Nat → VP) (outs st mid dts : Nat → List UInt8) (ms : Nat → Ms) (hP : FeedPlan2 s d N Gs Vs outs st mid dts ms) (hD : DeskAt s w d (Gs 0)) (ba : Option Addr) (bc : Nat) (bl : List UInt8) (hb : Rds w ba bl.length (bl.map By)) (hst0 : st 0 = (Gs 0).wait ++ bl) :
    Calls Try.prog 15 #[.pointer (some ⟨d, 0, none⟩), .slice ba bl.length bc] w fun e w' => ∃ oa oc wa wc vol, e = .returned (.tuple #[.slice oa (outs N).length oc, .int .i64 0]) ∧ Vs N vol ∧ DeskAt s w' d (((Gs N).setVol vol).waits wa wc (st N)) ∧
      w'.ownsRow w.heap.size 5 1 (.slice oa (outs N).length oc) (outs N).length ((outs N).map By) ∧ Mod (d :: (Gs 0).gs) w w' := by
  have c6 : w.cell? ⟨d, 6, none⟩ = some (.int .i64 (Gs 0).phase) := hD.cell rfl
  have c7 : (w.alloc (.cells #[] 5)).cell? ⟨d, 7, none⟩ = some (.slice (Gs 0).wa (Gs 0).wait.length (Gs 0).wc) := (hD.mod0 ((Mod.refl _ _).alloc _)).cell rfl
  have zd := blk_lt hD.desk
  have p0 := hP.first
  have p1 : ¬ (Gs 0).phase = 2 := by omega
  have hlen : (st 0).length = (Gs 0).wait.length + bl.length := by rw [hst0, List.length_append]
  have hsm := hP.small
  generalize hL : (Gs 0).wait.length = L at c7 hlen
  go_enter Try.func15, Try.ntmps15
  go_wp2_with fail
  go_step3
  go_wp2_with (at_builtin; refine wpList_cat (w.alloc (.cells #[] 5)) rfl (.tmp 20) (.tmp 24) 32 rfl w.heap.size 5 _ 1 Try.underlying32 info5 rfl (by decide) (.slice (some ⟨w.heap.size, 0, none⟩) 0 0) 0 [] rfl (World.ownsRow_lit w #[] 0 (Nat.le_refl _) (by simp [maxLen]) rfl) (Gs 0).wa L (Gs 0).wc ((Gs 0).wait.map By) rfl (by rw [← hL]; exact hD.wait.mod0 ((Mod.refl _ _).alloc _)) (bytes_one _) (by omega) (by simp) ?_)
  intro a1 e1 w1 ho1 hm1
  replace ho1 : w1.ownsRow w.heap.size 5 1 (.slice a1 L e1) L ((Gs 0).wait.map By) := by simpa using ho1
  have hw1 : Mod [] w w1 := ((Mod.refl [] w).alloc (.cells #[] 5)).trans hm1 (fun t ht => .inr (by simp [Value.ownBlock] at ht; omega))
  clear c7 hm1
  go_wp2_with (at_builtin; refine wpList_cat w1 rfl (.tmp 25) (.tmp 26) 32 rfl w.heap.size 5 _ 1 Try.underlying32 info5 rfl (by decide) (.slice a1 L e1) L ((Gs 0).wait.map By) rfl ho1 ba bl.length bc (bl.map By) rfl (hb.mod0 hw1) (bytes_one _) (by omega) hw1.size ?_)
  intro a2 e2 w2 ho2 hm2
  have hw2 : Mod [] w w2 := hw1.trans hm2 (fun t ht => .inr (own_ge ho1 t ht).1)
  rw [← List.map_append, ← hst0, ← hlen] at ho2
  have hge2 := own_ge ho1
  clear ho1 hm2 hw1 c6
  have hD2 := hD.mod0 hw2
  have c7 : w2.cell? ⟨d, 7, none⟩ = some (.slice (Gs 0).wa L (Gs 0).wc) := by
    have h1 : w2.cell? ⟨d, 7, none⟩ = some (.slice (Gs 0).wa (Gs 0).wait.length (Gs 0).wc) := hD2.cell rfl
    rw [hL] at h1
    exact h1
  have f7 := blk_frozen hD2.desk 7
  have z2 := blk_lt hD2.desk
  have HL := Lib.hid hlen
  clear hlen
  go_upto_region 6 with fail
  rw [← HL.out]
  clear c7 f7 z2
  have hge := own_ge ho2
  have hF0 : FeedAt s (w2.setCell ⟨d, 7, none⟩ (.slice a2 (st 0).length e2)) (w2.setCell ⟨d, 7, none⟩ (.slice a2 (st 0).length e2)) d ((Gs 0).waits a2 e2 (st 0)) none 0 (outs 0) := by
    have hW : Mod [d] w2 (w2.setCell ⟨d, 7, none⟩ (.slice a2 (st 0).length e2)) := mod_set1 _ _ _ _
    have hsz := hW.size
    have hsz2 := hw2.size
    have hoff : Off (d :: (Gs 0).gs) a2 (st 0).length := by
      intro a ha _ hin
      have h1 := (hge a.block (by rw [ha]; simp [Value.ownBlock])).1
      rcases List.mem_cons.1 hin with h2 | h2
      · omega
      · obtain ⟨i, _, hc⟩ := hD.gs_chunk h2
        have := blk_lt hc
        omega
    have hdesk : DeskAt s (w2.setCell ⟨d, 7, none⟩ (.slice a2 (st 0).length e2)) d ((Gs 0).waits a2 e2 (st 0)) := by
      refine hD2.turn hW ?_ rfl rfl rfl rfl (Rds.own ho2) hoff
      rw [heap_setCell_same w2 d 7 _ 103 _ hD2.desk]
      rfl
    refine ⟨hdesk, ?_, ?_, ?_, ?_, ?_, hoff, Mod.refl _ _⟩
    · rw [hP.out0]; exact World.ownsRow_nil _ _ _ _
    · omega
    · obtain ⟨cur, hc⟩ := hD2.headBlk
      have := blk_lt hc
      show (Gs 0).h < _
      omega
    · intro g hg
      obtain ⟨i, _, hc⟩ := hD2.gs_chunk hg
      have := blk_lt hc
      omega
    · intro a ha _
      have h1 := (hge a.block (by
        have ha' : a2 = some a := ha
        rw [ha']; simp [Value.ownBlock])).2
      omega
  have hcap : (st 0).length ≤ e2 := by
    rcases ho2.2 with ⟨h1, h2⟩ | ⟨g, cap, cur, h1, hb1, hg1, hc1, _⟩
    · omega
    · injection h1 with _ _ h3
      omega
  have hWd : Mod [d] w (w2.setCell ⟨d, 7, none⟩ (.slice a2 (st 0).length e2)) := (hw2.mono (by simp)).trans (mod_set1 w2 d 7 (.slice a2 (st 0).length e2)) (by simp)
  generalize w2.setCell ⟨d, 7, none⟩ (.slice a2 (st 0).length e2) = W at hF0 hWd ⊢
  have hI0 : FeedInv2 s W d N Gs Vs outs st N (.slice none 0 0) W := ⟨0, none, 0, a2, e2, (Gs 0).vol, by omega, by rw [hP.out0]; rfl, hF0, hcap, hP.vol0⟩
  clear hF0 hcap hge hD2 ho2 hge2 hw2 hb
  go_wp2_with fail
  go_step3
  go_wp2_with fail
  clear p1 p0 hsm hst0 zd HL hL
  go_loopg [6] N (fun k o wr => FeedInv2 s W d N Gs Vs outs st k o wr)
  case atStart => exact hI0
  case round =>
    clear hI0
    obtain ⟨j, ao, ac, wa, wc, vol, hj, rfl, hF, hcap, hV⟩ := hrel
    have c6 : wr.cell? ⟨d, 6, none⟩ = some (.int .i64 (Gs j).phase) := hF.desk.cell rfl
    have c7 : wr.cell? ⟨d, 7, none⟩ = some (.slice wa (st j).length wc) := hF.desk.cell rfl
    have zd := blk_lt hF.desk.desk
    by_cases hjN : j < N
    · have p1 := hP.open_ j hjN
      have hst := hP.cut j hjN
      have hfit := hP.fit j hjN
      have hdl := hP.dlen j hjN
      have hstep := hP.step j hjN
      have hles := hP.less j hjN
      generalize ms j = m at hst hfit hdl hstep
      generalize dts j = data at hst hdl hstep
      generalize hmid : mid j = md at hst hstep hles
      have hlen : (st j).length = 48 + m.dn + padN m.dn + md.length := by rw [hst, List.length_append, enc_len _ _ hdl]
      have hsmall : (st j).length ≤ 1000000 := hP.lens j (by omega)
      have henc := hfit.enc data hdl md
      have hdrop := enc_drop m data md hdl
      have hdat := enc_data m data md hdl
      rw [← hst] at henc hdrop hdat
      have hget := get_k wr wa (st j).length wc (st j) hF.desk.wait hsmall hcap _ _ _ _ _ henc
      rw [hdat] at hget
      obtain ⟨op, fl, lun, tag, w0, w1, w2, w3, w4, w5, w6, da0, dn, dc0⟩ := m
      have hlun : lun = 0 := hfit.lun
      subst hlun
      simp only at hlen hdl hget hdrop
      have hgc : ∀ da dc, gotCells op fl tag (fun i => (Ms.ws ⟨op, fl, 0, tag, w0, w1, w2, w3, w4, w5, w6, da0, dn, dc0⟩).getD i 0) 7 (.slice da dn dc) = #[.int .i64 op, .bool false, .int .u8 fl, .int .u64 0, .int .u32 tag, .int .u32 w0, .int .u32 w1, .int .u32 w2, .int .u32 w3, .int .u32 w4, .int .u32 w5, .int .u32 w6, .slice da dn dc] := fun _ _ => rfl
      simp only [hgc] at hget
      have HL := Lib.hid hlen
      clear hst hlen henc hdat hgc
      go_wp2_with fail
      with_reducible refine hget.mono ?_
      rintro e v1 ⟨da, dc, rfl, hda, hdc, hfr, hm1⟩
      clear hget c6 c7
      have hF1 := hF.mod0 hm1
      have hlen := HL.out
      obtain ⟨b, off, hwa, _, _⟩ := hF.desk.wait.2 (show 0 < (st j).length by omega)
      have hwa' : wa = some ⟨b, off, none⟩ := hwa
      subst hwa'
      obtain ⟨A', hA', hAb, hs⟩ := slice_lo b off (st j).length wc (48 + dn + padN dn) (by omega) hcap
      have hml : (st j).length - (48 + dn + padN dn) = md.length := by omega
      have hie : ((48 + dn + padN dn : Nat) : Int) = 48 + (dn : Int) + (padN dn : Int) := by omega
      rw [hml] at hs hA'
      rw [hie] at hs
      have hrd : Rds v1 A' md.length (md.map By) := by
        have h1 := hF1.desk.wait.drop (k := 48 + dn + padN dn) (A' := A') (by show _ ≤ (st j).length; omega) (fun b' off' e hlt => by
          have e' : (some ⟨b, off, none⟩ : Option Addr) = some ⟨b', off', none⟩ := e
          injection e' with e'
          injection e' with e1 e2
          subst e1 e2
          exact hA' (by have : 48 + dn + padN dn < (st j).length := hlt; omega))
        have e1 : ((((Gs j).setVol vol).waits (some ⟨b, off, none⟩) wc (st j)).wait.length - (48 + dn + padN dn)) = md.length := hml
        have e2 : (((((Gs j).setVol vol).waits (some ⟨b, off, none⟩) wc (st j)).wait.map By).drop (48 + dn + padN dn)) = md.map By := by
          rw [← List.map_drop]
          exact congrArg _ hdrop
        rw [e1, e2] at h1
        exact h1
      have hpos : 0 < (st j).length := by omega
      have hF2 := (hF1.setWait A' (wc - (48 + dn + padN dn)) md hrd (fun a ha h0 hin => hF.wo ⟨b, off, none⟩ rfl hpos (by have h2 := hAb a ha; rw [← h2]; exact hin)) (fun a ha h0 => by have h2 := hAb a ha; rw [h2]; exact hF.wl ⟨b, off, none⟩ rfl hpos)).mod0 ((Mod.refl [] _).alloc (.cells #[.int .i64 op, .bool false, .int .u8 fl, .int .u64 0, .int .u32 tag, .int .u32 w0, .int .u32 w1, .int .u32 w2, .int .u32 w3, .int .u32 w4, .int .u32 w5, .int .u32 w6, .slice da dn dc] 38))
      have hcap2 : md.length ≤ wc - (48 + dn + padN dn) := by omega
      have hbV0 := heap_alloc_new' (v1.setCell ⟨d, 7, none⟩ (.slice A' md.length (wc - (48 + dn + padN dn)))) (.cells #[.int .i64 op, .bool false, .int .u8 fl, .int .u64 0, .int .u32 tag, .int .u32 w0, .int .u32 w1, .int .u32 w2, .int .u32 w3, .int .u32 w4, .int .u32 w5, .int .u32 w6, .slice da dn dc] 38) v1.heap.size (by simp)
      have hdaV := (hda.mod (mod_set1 v1 d 7 (.slice A' md.length (wc - (48 + dn + padN dn)))) (fun a ha h0 hin => by
        have h1 := hfr a ha
        simp at hin
        have := blk_lt hF.desk.desk
        omega)).mod0 ((Mod.refl [] _).alloc (.cells #[.int .i64 op, .bool false, .int .u8 fl, .int .u64 0, .int .u32 tag, .int .u32 w0, .int .u32 w1, .int .u32 w2, .int .u32 w3, .int .u32 w4, .int .u32 w5, .int .u32 w6, .slice da dn dc] 38))
      have hoffD : Off (d :: (Gs j).gs) da dn := fun a ha h0 hin => by
        have h1 := hfr a ha
        rcases List.mem_cons.1 hin with h2 | h2
        · have := blk_lt hF.desk.desk
          omega
        · obtain ⟨i, _, hc⟩ := hF.desk.gs_chunk h2
          have := blk_lt hc
          omega
      have hD1 := hF1.desk.mod0 ((Mod.refl [] v1).alloc (.cells #[.int .i64 op, .bool false, .int .u8 fl, .int .u64 0, .int .u32 tag, .int .u32 w0, .int .u32 w1, .int .u32 w2, .int .u32 w3, .int .u32 w4, .int .u32 w5, .int .u32 w6, .slice da dn dc] 38))
      have c7 : (v1.alloc (.cells #[.int .i64 op, .bool false, .int .u8 fl, .int .u64 0, .int .u32 tag, .int .u32 w0, .int .u32 w1, .int .u32 w2, .int .u32 w3, .int .u32 w4, .int .u32 w5, .int .u32 w6, .slice da dn dc] 38)).cell? ⟨d, 7, none⟩ = some (.slice (some ⟨b, off, none⟩) (st j).length wc) := hD1.cell rfl
      have f7 := blk_frozen hD1.desk 7
      have z1 := blk_lt hF1.desk.desk
      clear hlen hie hml hA' hAb hrd hD1 hF1 hdrop hda hfr hdl hles hsmall hpos zd
      go_upto_region 14 with fail
      generalize World.alloc (World.setCell _ _ _) _ = V2 at hF2 hbV0 hdaV ⊢
      clear c7 f7 z1 hs
      have y0 : V2.cell? ⟨v1.heap.size, 0, none⟩ = some (.int .i64 op) := blk_cell hbV0 rfl
      have y1 : V2.cell? ⟨v1.heap.size, 1, none⟩ = some (.bool false) := blk_cell hbV0 rfl
      have y2 : V2.cell? ⟨v1.heap.size, 2, none⟩ = some (.int .u8 fl) := blk_cell hbV0 rfl
      have y3 : V2.cell? ⟨v1.heap.size, 3, none⟩ = some (.int .u64 0) := blk_cell hbV0 rfl
      have y4 : V2.cell? ⟨v1.heap.size, 4, none⟩ = some (.int .u32 tag) := blk_cell hbV0 rfl
      have y5 : V2.cell? ⟨v1.heap.size, 5, none⟩ = some (.int .u32 w0) := blk_cell hbV0 rfl
      have y6 : V2.cell? ⟨v1.heap.size, 6, none⟩ = some (.int .u32 w1) := blk_cell hbV0 rfl
      have y7 : V2.cell? ⟨v1.heap.size, 7, none⟩ = some (.int .u32 w2) := blk_cell hbV0 rfl
      have y8 : V2.cell? ⟨v1.heap.size, 8, none⟩ = some (.int .u32 w3) := blk_cell hbV0 rfl
      have y9 : V2.cell? ⟨v1.heap.size, 9, none⟩ = some (.int .u32 w4) := blk_cell hbV0 rfl
      have y10 : V2.cell? ⟨v1.heap.size, 10, none⟩ = some (.int .u32 w5) := blk_cell hbV0 rfl
      have y11 : V2.cell? ⟨v1.heap.size, 11, none⟩ = some (.int .u32 w6) := blk_cell hbV0 rfl
      have y12 : V2.cell? ⟨v1.heap.size, 12, none⟩ = some (.slice da dn dc) := blk_cell hbV0 rfl
      have zb := blk_lt hbV0
      go_wp2_with fail
      have hdo := hstep W V2 vol A' (wc - (48 + dn + padN dn)) ao ac da dc hV hF2 hcap2 hdaV hdc hoffD
      simp only [Ms.cells] at hdo
      refine hdo.mono ?_
      rintro e v5 ⟨oa', oc', wa', wc', vol', rfl, hV5, hF5, hc5⟩
      clear hdo y0 y1 y2 y3 y4 y5 y6 y7 y8 y9 y10 y11 y12 hstep
      go_wp2
      go_roundg (gk - 1)
      case measure => omega
      case rel => exact ⟨j + 1, oa', oc', wa', wc', vol', by omega, rfl, hF5, hc5, hV5⟩
    · obtain rfl : j = N := by omega
      have s20 : ¬ (20000 : Int) < ((st j).length : Int) := by have := hP.rest; omega
      have fin : ∀ w', FeedAt s W w' d (((Gs j).setVol vol).waits wa wc (st j)) ao ac (outs j) → ∃ oa oc wa wc vol, Ending.returned (.tuple #[.slice ao (outs j).length ac, .int .i64 0]) = Ending.returned (.tuple #[.slice oa (outs j).length oc, .int .i64 0]) ∧ Vs j vol ∧ DeskAt s w' d (((Gs j).setVol vol).waits wa wc (st j)) ∧
          w'.ownsRow w.heap.size 5 1 (.slice oa (outs j).length oc) (outs j).length ((outs j).map By) ∧ Mod (d :: (Gs 0).gs) w w' := by
        intro w' h
        refine ⟨ao, ac, wa, wc, vol, rfl, hV, h.desk, own_mono h.out hWd.size, ?_⟩
        have h1 := h.mod
        have e1 : (((Gs j).setVol vol).waits wa wc (st j)).gs = (Gs 0).gs := hP.gs j (by omega)
        rw [e1] at h1
        exact (hWd.mono (fun t ht => by simp at ht; simp [ht])).trans h1 (fun t ht => .inl ht)
      rcases hP.done with h2 | ⟨h2, hsh⟩
      · rw [h2] at c6
        clear h2
        go_wp2
        try rw [Exit.noGoto_ret]
        go_ret2
        exact fin wr hF
      · have hget := hsh wr wa wc hF.desk.wait
        have c7' : ∀ v1, Mod [] wr v1 → (v1.alloc (.cells #[.int .i64 0, .bool false, .int .u8 0, .int .u64 0, .int .u32 0, .int .u32 0, .int .u32 0, .int .u32 0, .int .u32 0, .int .u32 0, .int .u32 0, .int .u32 0, .slice none 0 0] 38)).cell? ⟨d, 7, none⟩ = some (.slice wa (st j).length wc) := fun v1 hm => (hF.desk.mod0 (hm.alloc _)).cell rfl
        replace c7' := Lib.hid c7'
        go_wp2_with fail
        refine hget.mono ?_
        rintro e v1 ⟨rfl, hm1⟩
        have c8 := c7'.out v1 hm1
        have hF1 := hF.mod0 (hm1.alloc (.cells #[.int .i64 0, .bool false, .int .u8 0, .int .u64 0, .int .u32 0, .int .u32 0, .int .u32 0, .int .u32 0, .int .u32 0, .int .u32 0, .int .u32 0, .int .u32 0, .slice none 0 0] 38))
        have z1 := blk_lt (hF.mod0 hm1).desk.desk
        clear c7' hget c6 c7
        go_wp2
        try rw [Exit.noGoto_ret]
        go_ret2
        exact fin _ hF1
end Go.Proofs.Ytfkhefoilancnaa
namespace Go.Proofs.Ytfkhefoilancnaa
open Go.RowKit
/-- The desk's answer, with what it leaves alone. -/
theorem answerG (s : Sh) (W w : World) (d : Nat) (G : Gh) (oa : Option Addr) (oc : Nat) (ob : List UInt8) (h : FeedAt s W w d G oa oc ob) (k : Nat) (hk : G.count = (k : Int)) (hk2 : k ≤ 1000000) (hn : ob.length ≤ 10000000)
    (m : Ms) (hF : m.Fit) (data : List UInt8) (hd : Rds w m.da m.dn (data.map By)) (hda : Off [d] m.da m.dn) :
    Calls Try.prog 66 #[.pointer (some ⟨d, 0, none⟩), .slice oa ob.length oc, .agg m.cells] w fun e w' => ∃ oa' oc', e = .returned (.slice oa' (ob ++ Ms.enc { m with w0 := k + 1 } data).length oc') ∧
      FeedAt s W w' d (G.counted (k + 1)) oa' oc' (ob ++ Ms.enc { m with w0 := k + 1 } data) ∧ Mod (d :: (Value.slice oa ob.length oc).ownBlock.toList) w w' ∧
      ∀ g, (Value.slice oa' (ob ++ Ms.enc { m with w0 := k + 1 } data).length oc').ownBlock = some g → (Value.slice oa ob.length oc).ownBlock = some g ∨ w.heap.size ≤ g := by
  refine (answer_k s w d G h.desk k hk hk2 W.heap.size oa ob.length oc ob h.out h.size hn m hF data hd hda).mono ?_
  rintro e w' ⟨oa', oc', rfl, ho, hdesk, hm, hfr⟩
  have hlen : (ob ++ Ms.enc { m with w0 := k + 1 } data).length = ob.length + (48 + m.dn + padN m.dn) := by
    rw [List.length_append, enc_len _ _ (by simpa using hd.1)]
  rw [← hlen] at ho hfr ⊢
  have hge : ∀ t, t ∈ (Value.slice oa ob.length oc).ownBlock.toList → W.heap.size ≤ t := fun t ht => (own_ge h.out t ht).1
  have hlow : ∀ t, t < W.heap.size → t ≠ d → t ∉ d :: (Value.slice oa ob.length oc).ownBlock.toList := by
    intro t ht hne hin
    rcases List.mem_cons.1 hin with e | h1
    · exact hne e
    · have := hge t h1
      omega
  have hgd : ∀ g, g ∈ G.gs → g ≠ d := fun g hg e => h.desk.d_notin (by rw [← e]; exact hg)
  have hhd : G.h ≠ d := by
    obtain ⟨cur, hc⟩ := h.desk.headBlk
    exact DeskAt.blk_ne hc h.desk.desk (by decide)
  have hoff : Off (d :: (Value.slice oa ob.length oc).ownBlock.toList) G.wa G.wait.length := by
    intro a ha h0
    exact hlow _ (h.wl a ha h0) (fun e => h.wo a ha h0 (by simp [e]))
  refine ⟨oa', oc', rfl, ⟨⟨hdesk, ?_, ?_, h.desk.nodup, h.desk.wait.mod hm hoff, h.desk.apart⟩, ho, h.dl, h.hl, h.gl, h.wl, h.wo, ?_⟩, hm, hfr⟩
  · exact hm.own h.desk.head (fun g e => by
      simp [Value.ownBlock] at e
      rw [← e]
      exact hlow _ h.hl hhd)
  · intro i g hi
    have hg := List.mem_of_getElem? hi
    exact hm.blk (h.desk.chunk i g hi) (hlow _ (h.gl g hg) (hgd g hg))
  · refine h.mod.trans hm (fun t ht => ?_)
    rcases List.mem_cons.1 ht with e | h1
    · exact .inl (by simp [e])
    · exact .inr (hge t h1)
/-- The volume's blocks are written. -/
theorem FeedAt.vol {s : Sh} {W w w' : World} {d : Nat} {G : Gh} {oa : Option Addr} {oc : Nat} {ob : List UInt8} (h : FeedAt s W w d G oa oc ob) (hm : Mod G.gs w w') {vol : Nat → Nat → UInt8} (hD : DeskAt s w' d (G.setVol vol)) : FeedAt s W w' d (G.setVol vol) oa oc ob where
  desk := hD
  out := hm.own h.out (fun g e hin => by
    have h1 := own_ge h.out g (by rw [e]; simp)
    have h2 := h.gl g hin
    omega)
  dl := h.dl
  hl := h.hl
  gl := h.gl
  wl := h.wl
  wo := h.wo
  mod := h.mod.trans hm (fun _ ht => .inl (List.mem_cons_of_mem _ ht))
/-- A sense: none, or beyond the end. -/
def sA (good : Bool) : Int := match good with
  | true => 0
  | false => 5
def sB (good : Bool) : Int := match good with
  | true => 0
  | false => 8448
def statusOut (good : Bool) (tag k : Nat) : List UInt8 := match good with
  | true => statusOk tag k
  | false => statusBad tag k
theorem statusF (good : Bool) (s : Sh) (W w : World) (d : Nat) (G : Gh) (oa : Option Addr) (oc : Nat) (ob : List UInt8) (h : FeedAt s W w d G oa oc ob) (k : Nat) (hk : G.count = (k : Int)) (hk2 : k ≤ 1000000) (hn : ob.length ≤ 10000000) (tag : Nat) (ht : tag < 4294967296) :
    Calls Try.prog 68 #[.pointer (some ⟨d, 0, none⟩), .slice oa ob.length oc, .int .u32 tag, .agg #[.int .u8 (sA good), .int .u16 (sB good)]] w fun e w' => ∃ oa' oc', e = .returned (.slice oa' (ob ++ statusOut good tag (k + 1)).length oc') ∧
      FeedAt s W w' d (G.counted (k + 1)) oa' oc' (ob ++ statusOut good tag (k + 1)) := by
  cases good
  · exact statusF_bad s W w d G oa oc ob h k hk hk2 hn tag ht
  · exact statusF_ok s W w d G oa oc ob h k hk hk2 hn tag ht
/-- A piece of what was read, and its message. -/
def piece (l : List UInt8) (j : Nat) : List UInt8 := (l.drop (1024 * j)).take 1024
def pieceFl (l : List UInt8) (j : Nat) : Nat := match decide (l.length ≤ 1024 * j + 1024) with
  | true => 128
  | false => 0
def pieceMs (tag k : Nat) (l : List UInt8) (j : Nat) (da : Option Addr) (dc : Nat) : Ms := ⟨37, pieceFl l j, 0, tag, k, 0, 0, 1024 * j, 0, 0, 0, da, (piece l j).length, dc⟩
def pieceOut (tag k : Nat) (l : List UInt8) (j : Nat) : List UInt8 := (pieceMs tag (k + j + 1) l j none 0).enc (piece l j)
def piecesOut (tag k : Nat) (l : List UInt8) (J : Nat) : List UInt8 := (List.range J).flatMap (pieceOut tag k l)
def pieceCount (n : Nat) : Nat := (n + 1023) / 1024
theorem pieceMs_fit (tag : Nat) (ht : tag < 4294967296) (l : List UInt8) (j : Nat) (hj : 1024 * j < 1000000) (da : Option Addr) (dc : Nat) : (pieceMs tag 0 l j da dc).Fit := ⟨by simp [pieceMs, opsL], by unfold pieceMs pieceFl; simp only; split <;> decide, rfl, by simpa [pieceMs] using ht, by simp only [pieceMs, piece, List.length_take]; omega, by simp only [pieceMs, Ms.ws, List.mem_cons, List.not_mem_nil, or_false]; omega⟩
theorem piece_enc (tag k : Nat) (l : List UInt8) (j : Nat) (da : Option Addr) (dc : Nat) : Ms.enc { pieceMs tag 0 l j da dc with w0 := k + j + 1 } (piece l j) = pieceOut tag k l j := by
  simp only [pieceOut, pieceMs, Ms.enc, Ms.ws]
theorem piecesOut_snoc (tag k : Nat) (l : List UInt8) (j : Nat) : piecesOut tag k l (j + 1) = piecesOut tag k l j ++ pieceOut tag k l j := by simp [piecesOut, List.range_succ]
theorem piecesOut_len (tag k : Nat) (l : List UInt8) (J : Nat) : (piecesOut tag k l J).length ≤ 1100 * J := by
  induction J with
  | zero => simp [piecesOut]
  | succ j ih =>
    have h1 : (pieceOut tag k l j).length = 48 + (piece l j).length + padN (piece l j).length := enc_len _ _ rfl
    have h2 : (piece l j).length ≤ 1024 := by simp only [piece, List.length_take]; omega
    have h3 : padN (piece l j).length < 4 := by unfold padN; omega
    rw [piecesOut_snoc, List.length_append]
    omega
/-- What Do answers to a command. -/
def DoOk (s : Sh) (W : World) (d : Nat) (G : Gh) (oa : Option Addr) (oc : Nat) (ob : List UInt8) (op x n : Nat) (da : Option Addr) (dn dc : Nat) (data inl : List UInt8) (good : Bool) (V : VP) : Prop :=
  ∀ w', FeedAt s W w' d G oa oc ob → Rds w' da dn (data.map By) → Calls Try.prog 22 #[.pointer (some ⟨d, 0, none⟩), .agg (cmdCells op x n), .slice da dn dc] w' fun e w'' => ∃ ia ic vol, e = .returned (.tuple #[.slice ia inl.length ic, .agg #[.int .u8 (sA good), .int .u16 (sB good)]]) ∧
    Rds w'' ia inl.length (inl.map By) ∧ inl.length ≤ ic ∧ (∀ a, ia = some a → w'.heap.size ≤ a.block) ∧ DeskAt s w'' d (G.setVol vol) ∧ V vol ∧ Mod G.gs w' w''
theorem slice_32m (b off n c lo hi : Nat) (h1 : lo < hi) (h2 : hi ≤ c) (W : World) : (Instr.slice 32 (.slice (some ⟨b, off, none⟩) n c) (some (.int .i64 (lo : Int))) (some (.int .i64 (hi : Int))) (some (.int .i64 (hi : Int)))).run Try.prog W = .ok (.slice (some ⟨b, off + lo, none⟩) (hi - lo) (hi - lo)) W := by
  rw [run_slice_lhm (P := Try.prog) W 32 (some ⟨b, off, none⟩) n c (und_of Try.underlying32) .i64 .i64 .i64 (lo : Int) (hi : Int) (hi : Int) (by omega) (by omega) (by omega) (by omega)]
  simp only [elem_of Try.underlying32, size_of_5, Result.andThen_ok, sliced, Int.toNat_natCast]
  rw [if_neg (by omega)]
  simp [addr_add]
set_option maxRecDepth 100000 in
set_option maxHeartbeats 4000000 in
theorem command67_k (s : Sh) (W w : World) (d : Nat) (G : Gh) (oa : Option Addr) (oc : Nat) (ob : List UInt8) (h : FeedAt s W w d G oa oc ob) (k : Nat) (hk : G.count = (k : Int)) (hk2 : k ≤ 100000) (hn : ob.length ≤ 1000000)
    (m : Ms) (hop : m.op = 1) (hF : m.Fit) (data : List UInt8) (hd : Rds w m.da m.dn (data.map By)) (l16 : List UInt8) (hl : [m.w3, m.w4, m.w5, m.w6].flatMap be4 = l16) (op x n : Nat) (hp : ParseOk l16 op x n)
    (inl : List UInt8) (hin : inl.length ≤ 100000) (J : Nat) (hJ0 : pieceCount inl.length = J) (good : Bool) (V : VP) (hdo : DoOk s W d G oa oc ob op x n m.da m.dn m.dc data inl good V) :
    Calls Try.prog 67 #[.pointer (some ⟨d, 0, none⟩), .slice oa ob.length oc, .agg m.cells] w fun e w' => ∃ oa' oc' vol, e = .returned (.slice oa' (ob ++ piecesOut m.tag k inl (J) ++ statusOut good m.tag (k + J + 1)).length oc') ∧ V vol ∧
      FeedAt s W w' d ((G.setVol vol).counted (k + J + 1)) oa' oc' (ob ++ piecesOut m.tag k inl (J) ++ statusOut good m.tag (k + J + 1)) := by
  have htag := fitTag hF
  have h81 := command81_k m hop hF l16 hl op x n hp
  obtain ⟨mop, fl, lun, tag, w0, w1, w2, w3, w4, w5, w6, da, dn, dc⟩ := m
  simp only at hop
  subst hop
  simp only at hd hdo htag
  clear hF hl
  simp only [Ms.cells] at h81 ⊢
  have hb0 := blk_alloc w #[.int .i64 1, .bool false, .int .u8 fl, .int .u64 lun, .int .u32 tag, .int .u32 w0, .int .u32 w1, .int .u32 w2, .int .u32 w3, .int .u32 w4, .int .u32 w5, .int .u32 w6, .slice da dn dc] 38
  have hm0 : Mod [] w (w.alloc (.cells #[.int .i64 1, .bool false, .int .u8 fl, .int .u64 lun, .int .u32 tag, .int .u32 w0, .int .u32 w1, .int .u32 w2, .int .u32 w3, .int .u32 w4, .int .u32 w5, .int .u32 w6, .slice da dn dc] 38)) := (Mod.refl _ _).alloc _
  go_enter Try.func67, Try.ntmps67
  go_wp2_with fail
  generalize World.alloc w _ = X at hb0 hm0 ⊢
  refine (h81 X).mono ?_
  rintro e X1 ⟨rfl, hm1⟩
  simp only [cmdCells]
  have hA1 : Mod [] X1 (X1.alloc (.cells #[.int .i64 op, .int .u64 x, .int .i64 n, .int .i64 0] 40)) := (Mod.refl _ _).alloc _
  have hbC := blk_alloc X1 #[.int .i64 op, .int .u64 x, .int .i64 n, .int .i64 0] 40
  have hb1 := hA1.blk (hm1.blk hb0 (by simp)) (by simp)
  have hm2 := (hm0.then0 hm1).then0 hA1
  have hF2 := h.mod0 hm2
  have hd2 := hd.mod0 hm2
  clear h81 hb0 hm0 hm1 hA1
  go_upto_region 4 with fail
  generalize X1.heap.size = cb at hbC ⊢
  generalize World.alloc X1 _ = X2 at hbC hb1 hm2 hF2 hd2 ⊢
  have y12 : X2.cell? ⟨w.heap.size, 12, none⟩ = some (.slice da dn dc) := blk_cell hb1 rfl
  have c0 : X2.cell? ⟨cb, 0, none⟩ = some (.int .i64 op) := blk_cell hbC rfl
  have c1 : X2.cell? ⟨cb, 1, none⟩ = some (.int .u64 x) := blk_cell hbC rfl
  have c2 : X2.cell? ⟨cb, 2, none⟩ = some (.int .i64 n) := blk_cell hbC rfl
  have c3 : X2.cell? ⟨cb, 3, none⟩ = some (.int .i64 0) := blk_cell hbC rfl
  have zc := blk_lt hbC
  have zb := blk_lt hb1
  have hdo2 := hdo X2 hF2 hd2
  simp only [cmdCells] at hdo2
  go_wp2_with fail
  with_reducible refine hdo2.mono ?_
  rintro e X3 ⟨ia, ic, vol, rfl, hri, hic, hif, hD3, hV, hm3⟩
  have hF3 := hF2.vol hm3 hD3
  have hbg : w.heap.size ∉ G.gs := fun hg => by have := h.gl _ hg; have := h.size; omega
  replace hb1 := hm3.blk hb1 hbg
  have hz3 := hm3.size
  have hoi : Off (d :: (Value.slice oa ob.length oc).ownBlock.toList) ia inl.length := fun a ha _ hin => by
    have h1 := hif a ha
    rcases List.mem_cons.1 hin with h2 | h2
    · have := blk_lt hF2.desk.desk
      omega
    · have := hF2.outLt a.block (by simpa using h2)
      omega
  clear hdo hdo2 hif hD3 hm3 c0 c1 c2 c3 zc y12 zb hF2 hbC hm2 hd2 hd hp hz3 hbg
  have hA3 : Mod [] X3 (X3.alloc (.cells #[.int .u8 (sA good), .int .u16 (sB good)] 70)) := (Mod.refl _ _).alloc _
  have hb70 := blk_alloc X3 #[.int .u8 (sA good), .int .u16 (sB good)] 70
  replace hb1 := hA3.blk hb1 (by simp)
  have hF4 := hF3.mod0 hA3
  replace hri := hri.mod0 hA3
  clear hA3 hF3
  go_upto_region 5 with fail
  generalize X3.heap.size = sb at hb70 ⊢
  generalize World.alloc X3 _ = X4 at hb70 hb1 hF4 hri ⊢
  go_wp2_with fail
  have hJ : J = (inl.length + 1023) / 1024 := hJ0.symm
  clear hJ0
  replace hJ := Lib.hid hJ
  have hG0 : (G.setVol vol).counted (k + 0) = G.setVol vol := by
    cases G
    simp only [Gh.counted, Gh.setVol] at hk ⊢
    rw [hk]
    rfl
  have hp0 : ob ++ piecesOut tag k inl 0 = ob := by simp [piecesOut]
  go_loopw [1, 11] (fun o at_ wr => ∃ (j a : Nat) (oa' : Option Addr) (oc' : Nat), o = .slice oa' (ob ++ piecesOut tag k inl j).length oc' ∧ at_ = .int .i64 a ∧ a = 1024 * j ∧ j ≤ J ∧ FeedAt s W wr d ((G.setVol vol).counted (k + j)) oa' oc' (ob ++ piecesOut tag k inl j) ∧ wr.heap[w.heap.size]? = some (.cells #[.int .i64 1, .bool false, .int .u8 fl, .int .u64 lun, .int .u32 tag, .int .u32 w0, .int .u32 w1, .int .u32 w2, .int .u32 w3, .int .u32 w4, .int .u32 w5, .int .u32 w6, .slice da dn dc] 38 (0, 0)) ∧ wr.heap[sb]? = some (.cells #[.int .u8 (sA good), .int .u16 (sB good)] 70 (0, 0)) ∧ Rds wr ia inl.length (inl.map By) ∧
      Off (d :: (Value.slice oa' (ob ++ piecesOut tag k inl j).length oc').ownBlock.toList) ia inl.length) (fun _ at_ _ => inl.length + 1024 - (intOf at_).toNat)
  case atStart => exact ⟨0, 0, oa, oc, by rw [hp0], rfl, rfl, Nat.zero_le _, by rw [hp0, hG0]; exact hF4, hb1, hb70, hri, by rw [hp0]; exact hoi⟩
  case round =>
    obtain ⟨j, a, oa', oc', rfl, rfl, ha, hj, hF5, hb5, hs5, hr5, ho5⟩ := hrel
    clear hF4 hb1 hb70 hri hoi hp0 hG0
    have hJo := hJ.out
    have hplen := piecesOut_len tag k inl j
    by_cases hjJ : j < J
    · have hal : a < inl.length := by omega
      obtain ⟨b, off, hia, hbl, _⟩ := hr5.2 (by omega)
      subst hia
      obtain ⟨e, he⟩ : ∃ e, e = min (a + 1024) inl.length := ⟨_, rfl⟩
      have hpl : (piece inl j).length = e - a := by
        simp only [piece, List.length_take, List.length_drop]
        omega
      have hpr : Rds wr (some ⟨b, off + a, none⟩) (piece inl j).length ((piece inl j).map By) := by
        have h1 := hr5.cut (a := a) (m := e - a) (A' := some ⟨b, off + a, none⟩) (fun _ => rfl) (by omega)
        have h2 : (inl.drop a).take (e - a) = piece inl j := by
          simp only [piece, ← ha]
          apply List.ext_getElem?
          intro r
          rw [List.getElem?_take, List.getElem?_take]
          by_cases h3 : r < e - a
          · rw [if_pos h3, if_pos (by omega)]
          · rw [if_neg h3]
            by_cases h4 : r < 1024
            · rw [if_pos h4, List.getElem?_eq_none (by rw [List.length_drop]; omega)]
            · rw [if_neg h4]
        rw [h2] at h1
        rw [hpl]
        exact h1
      have hsl : ∀ Wd, (Instr.slice 32 (.slice (some ⟨b, off, none⟩) inl.length ic) (some (.int .i64 a)) (some (.int .i64 e)) (some (.int .i64 e))).run Try.prog Wd = .ok (.slice (some ⟨b, off + a, none⟩) (piece inl j).length (piece inl j).length) Wd := fun Wd => by
        rw [hpl]
        exact slice_32m b off inl.length ic a e (by omega) (by omega) Wd
      have hmin : min ((a : Int) + 1024) (inl.length : Int) = (e : Int) := by omega
      have hi1 : (a : Int) < (inl.length : Int) := by omega
      have hai : (a : Int) ≤ 200000 := by omega
      have y4 : wr.cell? ⟨w.heap.size, 4, none⟩ = some (.int .u32 tag) := blk_cell hb5 rfl
      have zb := blk_lt hb5
      have HA := Lib.hid ha
      have HE := Lib.hid he
      have HPL := Lib.hid hpl
      have HMIN := Lib.hid hmin
      clear ha he hpl hmin
      go_upto_region 9 with fail
      rw [HMIN.out]
      go_region
      have hA6 : Mod [] wr (wr.alloc (.cells #[.int .i64 37, .bool false, .int .u8 0, .int .u64 0, .int .u32 tag, .int .u32 0, .int .u32 0, .int .u32 0, .int .u32 0, .int .u32 0, .int .u32 0, .int .u32 0, .slice (some ⟨b, off + a, none⟩) (piece inl j).length (piece inl j).length] 38)).drew := ((Mod.refl _ _).alloc _).drew
      have hbP : (wr.alloc (.cells #[.int .i64 37, .bool false, .int .u8 0, .int .u64 0, .int .u32 tag, .int .u32 0, .int .u32 0, .int .u32 0, .int .u32 0, .int .u32 0, .int .u32 0, .int .u32 0, .slice (some ⟨b, off + a, none⟩) (piece inl j).length (piece inl j).length] 38)).drew.heap[wr.heap.size]? = some (.cells #[.int .i64 37, .bool false, .int .u8 0, .int .u64 0, .int .u32 tag, .int .u32 0, .int .u32 0, .int .u32 0, .int .u32 0, .int .u32 0, .int .u32 0, .int .u32 0, .slice (some ⟨b, off + a, none⟩) (piece inl j).length (piece inl j).length] 38 (0, 0)) := blk_alloc wr _ 38
      have hF6 := hF5.mod0 hA6
      replace hb5 := hA6.blk hb5 (by simp)
      replace hs5 := hA6.blk hs5 (by simp)
      replace hr5 := hr5.mod0 hA6
      replace hpr := hpr.mod0 hA6
      generalize World.drew _ = V6 at hbP hF6 hb5 hs5 hr5 hpr ⊢
      clear hA6 y4 zb hsl
      have c8 : V6.cell? ⟨wr.heap.size, 8, none⟩ = some (.int .u32 0) := blk_cell hbP rfl
      have f8 := blk_frozen hbP 8
      have zp := blk_lt hbP
      have kw : IntKind.u32.wrap (a : Int) = (a : Int) := wraps_u32 _ (by omega) (by omega)
      go_upto_region 11 with fail
      have hm7 := mod_set1 V6 wr.heap.size 8 (.int .u32 (a : Int))
      have hF7 := hF6.keep hm7 wr.heap.size hF5.size hF5.outLt (by simp)
      have hbw : w.heap.size ≠ wr.heap.size := by
        intro e1
        rw [e1] at hb5
        rw [hbP] at hb5
        cases hb5
      have hbs : sb ≠ wr.heap.size := by
        intro e1
        rw [e1] at hs5
        rw [hbP] at hs5
        cases hs5
      have hbb : b ≠ wr.heap.size := by omega
      replace hbP : (V6.setCell ⟨wr.heap.size, 8, none⟩ (.int .u32 (a : Int))).heap[wr.heap.size]? = some (.cells #[.int .i64 37, .bool false, .int .u8 0, .int .u64 0, .int .u32 tag, .int .u32 0, .int .u32 0, .int .u32 0, .int .u32 (a : Int), .int .u32 0, .int .u32 0, .int .u32 0, .slice (some ⟨b, off + a, none⟩) (piece inl j).length (piece inl j).length] 38 (0, 0)) := by
        rw [heap_setCell_same V6 wr.heap.size 8 _ 38 _ hbP]
        rfl
      replace hb5 := hm7.blk hb5 (by simpa using hbw)
      replace hs5 := hm7.blk hs5 (by simpa using hbs)
      replace hr5 := hr5.mod hm7 (fun a' ha' _ hin => by cases ha'; simp at hin; exact hbb hin)
      replace hpr := hpr.mod hm7 (fun a' ha' _ hin => by cases ha'; simp at hin; exact hbb hin)
      generalize V6.setCell _ _ = V8 at hbP hF7 hb5 hs5 hr5 hpr ⊢
      clear hm7 hF6 c8 f8 zp kw
      by_cases hfin : inl.length ≤ 1024 * j + 1024
      · obtain rfl : e = inl.length := by have := HE.out; have := HA.out; omega
        have hfl : pieceFl inl j = 128 := by unfold pieceFl; rw [decide_eq_true hfin]
        have c2 : V8.cell? ⟨wr.heap.size, 2, none⟩ = some (.int .u8 0) := blk_cell hbP rfl
        have f2 := blk_frozen hbP 2
        have zp := blk_lt hbP
        go_upto_region 13 with fail
        have hm8 := mod_set1 V8 wr.heap.size 2 (.int .u8 128)
        have hF8 := hF7.keep hm8 wr.heap.size hF5.size hF5.outLt (by simp)
        replace hbP : (V8.setCell ⟨wr.heap.size, 2, none⟩ (.int .u8 128)).heap[wr.heap.size]? = some (.cells #[.int .i64 37, .bool false, .int .u8 128, .int .u64 0, .int .u32 tag, .int .u32 0, .int .u32 0, .int .u32 0, .int .u32 (a : Int), .int .u32 0, .int .u32 0, .int .u32 0, .slice (some ⟨b, off + a, none⟩) (piece inl j).length (piece inl j).length] 38 (0, 0)) := by
          rw [heap_setCell_same V8 wr.heap.size 2 _ 38 _ hbP]
          rfl
        replace hb5 := hm8.blk hb5 (by simpa using hbw)
        replace hs5 := hm8.blk hs5 (by simpa using hbs)
        replace hr5 := hr5.mod hm8 (fun a' ha' _ hin => by cases ha'; simp at hin; exact hbb hin)
        replace hpr := hpr.mod hm8 (fun a' ha' _ hin => by cases ha'; simp at hin; exact hbb hin)
        generalize V8.setCell _ _ = V9 at hbP hF8 hb5 hs5 hr5 hpr ⊢
        clear hm8 hF7 c2 f2 zp
        have y0 : V9.cell? ⟨wr.heap.size, 0, none⟩ = some (.int .i64 37) := blk_cell hbP rfl
        have y1 : V9.cell? ⟨wr.heap.size, 1, none⟩ = some (.bool false) := blk_cell hbP rfl
        have y2 : V9.cell? ⟨wr.heap.size, 2, none⟩ = some (.int .u8 128) := blk_cell hbP rfl
        have y3 : V9.cell? ⟨wr.heap.size, 3, none⟩ = some (.int .u64 0) := blk_cell hbP rfl
        have y4 : V9.cell? ⟨wr.heap.size, 4, none⟩ = some (.int .u32 tag) := blk_cell hbP rfl
        have y5 : V9.cell? ⟨wr.heap.size, 5, none⟩ = some (.int .u32 0) := blk_cell hbP rfl
        have y6 : V9.cell? ⟨wr.heap.size, 6, none⟩ = some (.int .u32 0) := blk_cell hbP rfl
        have y7 : V9.cell? ⟨wr.heap.size, 7, none⟩ = some (.int .u32 0) := blk_cell hbP rfl
        have y8 : V9.cell? ⟨wr.heap.size, 8, none⟩ = some (.int .u32 (a : Int)) := blk_cell hbP rfl
        have y9 : V9.cell? ⟨wr.heap.size, 9, none⟩ = some (.int .u32 0) := blk_cell hbP rfl
        have y10 : V9.cell? ⟨wr.heap.size, 10, none⟩ = some (.int .u32 0) := blk_cell hbP rfl
        have y11 : V9.cell? ⟨wr.heap.size, 11, none⟩ = some (.int .u32 0) := blk_cell hbP rfl
        have y12 : V9.cell? ⟨wr.heap.size, 12, none⟩ = some (.slice (some ⟨b, off + a, none⟩) (piece inl j).length (piece inl j).length) := blk_cell hbP rfl
        have zp := blk_lt hbP
        have HFL := Lib.hid hfl
        clear hfl
        go_wp2_with fail
        have hbd : b ≠ d := fun e1 => ho5 ⟨b, off, none⟩ rfl (by omega) (by simp [e1])
        have hfit := pieceMs_fit tag htag inl j (by have := HA.out; omega) (some ⟨b, off + a, none⟩) (piece inl j).length
        have hans := answerG s W V9 d _ oa' oc' (ob ++ piecesOut tag k inl j) hF8 (k + j) rfl (by omega) (by rw [List.length_append]; omega) (pieceMs tag 0 inl j (some ⟨b, off + a, none⟩) (piece inl j).length) hfit (piece inl j) hpr (fun a' ha' _ hin => by cases ha'; simp at hin; exact hbd hin)
        have hcells : Ms.cells (pieceMs tag 0 inl j (some ⟨b, off + a, none⟩) (piece inl j).length) = #[.int .i64 37, .bool false, .int .u8 128, .int .u64 0, .int .u32 tag, .int .u32 0, .int .u32 0, .int .u32 0, .int .u32 (a : Int), .int .u32 0, .int .u32 0, .int .u32 0, .slice (some ⟨b, off + a, none⟩) (piece inl j).length (piece inl j).length] := by
          simp only [Ms.cells, pieceMs, HFL.out, HA.out]
          rfl
        have hlen2 : (ob ++ piecesOut tag k inl j).length = ob.length + (piecesOut tag k inl j).length := List.length_append
        rw [hcells, hlen2] at hans
        with_reducible refine hans.mono ?_
        rintro e9 V10 ⟨oa2, oc2, rfl, hF10, hm10, hfr10⟩
        rw [← hlen2] at hm10 hfr10
        have hL : ob ++ piecesOut tag k inl j ++ Ms.enc { pieceMs tag 0 inl j (some ⟨b, off + a, none⟩) (piece inl j).length with w0 := k + j + 1 } (piece inl j) = ob ++ piecesOut tag k inl (j + 1) := by
          rw [piecesOut_snoc, List.append_assoc, piece_enc]
        rw [hL] at hF10 hfr10 ⊢
        have hown8 := hF8.out
        have hS8 : ∀ t, t < W.heap.size ∨ t = w.heap.size ∨ t = sb → t ≠ d → t ∉ d :: (Value.slice oa' (ob ++ piecesOut tag k inl j).length oc').ownBlock.toList := by
          intro t ht hne hin
          rcases List.mem_cons.1 hin with e1 | h1
          · exact hne e1
          · rcases ht with h2 | h2 | h2
            · have := (own_ge hown8 t h1).1
              omega
            · subst h2
              exact own_off hown8 hb5 (by decide) h1
            · subst h2
              exact own_off hown8 hs5 (by decide) h1
        have hdlt : d < w.heap.size := by have := h.dl; have := h.size; omega
        have hsd : sb ≠ d := fun e1 => DeskAt.blk_ne hs5 (e1 ▸ hF8.desk.desk) (by decide) rfl
        have hb10 := hm10.blk hb5 (hS8 _ (.inr (.inl rfl)) (by omega))
        have hs10 := hm10.blk hs5 (hS8 _ (.inr (.inr rfl)) hsd)
        have hr10 := hr5.mod hm10 ho5
        have ho10 : Off (d :: (Value.slice oa2 (ob ++ piecesOut tag k inl (j + 1)).length oc2).ownBlock.toList) (some ⟨b, off, none⟩) inl.length := by
          intro a' ha' h0 hin
          cases ha'
          rcases List.mem_cons.1 hin with e1 | h1
          · exact hbd e1
          · rcases hfr10 b (by simpa using h1) with h2 | h2
            · exact ho5 ⟨b, off, none⟩ rfl h0 (List.mem_cons_of_mem _ (by rw [h2]; simp))
            · omega
        clear hans hL hcells hlen2 y0 y1 y2 y3 y4 y5 y6 y7 y8 y9 y10 y11 y12 zp hfit hm10 hfr10 hF8 hbP hown8 hS8 hr5 hpr hb5 hs5 ho5
        have HP := Lib.hid hplen
        clear hplen
        go_wp2
        go_roundw
        · exact ⟨j + 1, a + 1024, oa2, oc2, by rw [List.length_append], by go_num, by have := HA.out; omega, by omega, hF10, hb10, hs10, hr10, ho10⟩
        · simp [intOf]; omega
      · have hne : ¬ (e : Int) = (inl.length : Int) := by have := HE.out; have := HA.out; omega
        have hfl : pieceFl inl j = 0 := by unfold pieceFl; rw [decide_eq_false hfin]
        go_upto_region 13 with fail
        have hF8 := hF7
        generalize V8 = V9 at hbP hF8 hb5 hs5 hr5 hpr ⊢
        clear hF7 hne
        have y0 : V9.cell? ⟨wr.heap.size, 0, none⟩ = some (.int .i64 37) := blk_cell hbP rfl
        have y1 : V9.cell? ⟨wr.heap.size, 1, none⟩ = some (.bool false) := blk_cell hbP rfl
        have y2 : V9.cell? ⟨wr.heap.size, 2, none⟩ = some (.int .u8 0) := blk_cell hbP rfl
        have y3 : V9.cell? ⟨wr.heap.size, 3, none⟩ = some (.int .u64 0) := blk_cell hbP rfl
        have y4 : V9.cell? ⟨wr.heap.size, 4, none⟩ = some (.int .u32 tag) := blk_cell hbP rfl
        have y5 : V9.cell? ⟨wr.heap.size, 5, none⟩ = some (.int .u32 0) := blk_cell hbP rfl
        have y6 : V9.cell? ⟨wr.heap.size, 6, none⟩ = some (.int .u32 0) := blk_cell hbP rfl
        have y7 : V9.cell? ⟨wr.heap.size, 7, none⟩ = some (.int .u32 0) := blk_cell hbP rfl
        have y8 : V9.cell? ⟨wr.heap.size, 8, none⟩ = some (.int .u32 (a : Int)) := blk_cell hbP rfl
        have y9 : V9.cell? ⟨wr.heap.size, 9, none⟩ = some (.int .u32 0) := blk_cell hbP rfl
        have y10 : V9.cell? ⟨wr.heap.size, 10, none⟩ = some (.int .u32 0) := blk_cell hbP rfl
        have y11 : V9.cell? ⟨wr.heap.size, 11, none⟩ = some (.int .u32 0) := blk_cell hbP rfl
        have y12 : V9.cell? ⟨wr.heap.size, 12, none⟩ = some (.slice (some ⟨b, off + a, none⟩) (piece inl j).length (piece inl j).length) := blk_cell hbP rfl
        have zp := blk_lt hbP
        have HFL := Lib.hid hfl
        clear hfl
        go_wp2_with fail
        have hbd : b ≠ d := fun e1 => ho5 ⟨b, off, none⟩ rfl (by omega) (by simp [e1])
        have hfit := pieceMs_fit tag htag inl j (by have := HA.out; omega) (some ⟨b, off + a, none⟩) (piece inl j).length
        have hans := answerG s W V9 d _ oa' oc' (ob ++ piecesOut tag k inl j) hF8 (k + j) rfl (by omega) (by rw [List.length_append]; omega) (pieceMs tag 0 inl j (some ⟨b, off + a, none⟩) (piece inl j).length) hfit (piece inl j) hpr (fun a' ha' _ hin => by cases ha'; simp at hin; exact hbd hin)
        have hcells : Ms.cells (pieceMs tag 0 inl j (some ⟨b, off + a, none⟩) (piece inl j).length) = #[.int .i64 37, .bool false, .int .u8 0, .int .u64 0, .int .u32 tag, .int .u32 0, .int .u32 0, .int .u32 0, .int .u32 (a : Int), .int .u32 0, .int .u32 0, .int .u32 0, .slice (some ⟨b, off + a, none⟩) (piece inl j).length (piece inl j).length] := by
          simp only [Ms.cells, pieceMs, HFL.out, HA.out]
          rfl
        have hlen2 : (ob ++ piecesOut tag k inl j).length = ob.length + (piecesOut tag k inl j).length := List.length_append
        rw [hcells, hlen2] at hans
        with_reducible refine hans.mono ?_
        rintro e9 V10 ⟨oa2, oc2, rfl, hF10, hm10, hfr10⟩
        rw [← hlen2] at hm10 hfr10
        have hL : ob ++ piecesOut tag k inl j ++ Ms.enc { pieceMs tag 0 inl j (some ⟨b, off + a, none⟩) (piece inl j).length with w0 := k + j + 1 } (piece inl j) = ob ++ piecesOut tag k inl (j + 1) := by
          rw [piecesOut_snoc, List.append_assoc, piece_enc]
        rw [hL] at hF10 hfr10 ⊢
        have hown8 := hF8.out
        have hS8 : ∀ t, t < W.heap.size ∨ t = w.heap.size ∨ t = sb → t ≠ d → t ∉ d :: (Value.slice oa' (ob ++ piecesOut tag k inl j).length oc').ownBlock.toList := by
          intro t ht hne hin
          rcases List.mem_cons.1 hin with e1 | h1
          · exact hne e1
          · rcases ht with h2 | h2 | h2
            · have := (own_ge hown8 t h1).1
              omega
            · subst h2
              exact own_off hown8 hb5 (by decide) h1
            · subst h2
              exact own_off hown8 hs5 (by decide) h1
        have hdlt : d < w.heap.size := by have := h.dl; have := h.size; omega
        have hsd : sb ≠ d := fun e1 => DeskAt.blk_ne hs5 (e1 ▸ hF8.desk.desk) (by decide) rfl
        have hb10 := hm10.blk hb5 (hS8 _ (.inr (.inl rfl)) (by omega))
        have hs10 := hm10.blk hs5 (hS8 _ (.inr (.inr rfl)) hsd)
        have hr10 := hr5.mod hm10 ho5
        have ho10 : Off (d :: (Value.slice oa2 (ob ++ piecesOut tag k inl (j + 1)).length oc2).ownBlock.toList) (some ⟨b, off, none⟩) inl.length := by
          intro a' ha' h0 hin
          cases ha'
          rcases List.mem_cons.1 hin with e1 | h1
          · exact hbd e1
          · rcases hfr10 b (by simpa using h1) with h2 | h2
            · exact ho5 ⟨b, off, none⟩ rfl h0 (List.mem_cons_of_mem _ (by rw [h2]; simp))
            · omega
        clear hans hL hcells hlen2 y0 y1 y2 y3 y4 y5 y6 y7 y8 y9 y10 y11 y12 zp hfit hm10 hfr10 hF8 hbP hown8 hS8 hr5 hpr hb5 hs5 ho5
        have HP := Lib.hid hplen
        clear hplen
        go_wp2
        go_roundw
        · exact ⟨j + 1, a + 1024, oa2, oc2, by rw [List.length_append], by go_num, by have := HA.out; omega, by omega, hF10, hb10, hs10, hr10, ho10⟩
        · simp [intOf]; omega
    · obtain rfl : j = J := by omega
      have r1 : ¬ (a : Int) < (inl.length : Int) := by omega
      have hjs : 1024 * j ≤ 200000 := by omega
      clear hJo
      have y4 : wr.cell? ⟨w.heap.size, 4, none⟩ = some (.int .u32 tag) := blk_cell hb5 rfl
      have s0 : wr.cell? ⟨sb, 0, none⟩ = some (.int .u8 (sA good)) := blk_cell hs5 rfl
      have s1 : wr.cell? ⟨sb, 1, none⟩ = some (.int .u16 (sB good)) := blk_cell hs5 rfl
      have zb := blk_lt hb5
      have zs := blk_lt hs5
      have HA := Lib.hid ha
      clear ha
      go_wp2_with fail
      have hst := statusF good s W wr d _ oa' oc' (ob ++ piecesOut tag k inl j) hF5 (k + j) rfl (by omega) (by rw [List.length_append]; omega) tag htag
      have hlen2 : (ob ++ piecesOut tag k inl j).length = ob.length + (piecesOut tag k inl j).length := List.length_append
      rw [hlen2] at hst
      clear hlen2
      with_reducible refine hst.mono ?_
      rintro e9 V10 ⟨oa2, oc2, rfl, hF10⟩
      clear hst
      go_wp2
      go_ret
      exact ⟨oa2, oc2, vol, by rw [List.length_append, List.length_append, Nat.add_assoc ob.length]; rfl, hV, hF10⟩
end Go.Proofs.Ytfkhefoilancnaa
namespace Go.Proofs.Ytfkhefoilancnaa
open Go.RowKit
set_option maxRecDepth 100000 in
set_option maxHeartbeats 4000000 in
theorem does_cmd (s : Sh) (W w : World) (d : Nat) (G : Gh) (oa : Option Addr) (oc : Nat) (ob : List UInt8) (h : FeedAt s W w d G oa oc ob) (hph : G.phase = 1) (k : Nat) (hk : G.count = (k : Int)) (hk2 : k ≤ 100000) (hn : ob.length ≤ 1000000)
    (m : Ms) (hop : m.op = 1) (hF : m.Fit) (data : List UInt8) (hd : Rds w m.da m.dn (data.map By)) (l16 : List UInt8) (hl : [m.w3, m.w4, m.w5, m.w6].flatMap be4 = l16) (cop x n : Nat) (hp : ParseOk l16 cop x n)
    (inl : List UInt8) (hin : inl.length ≤ 100000) (good : Bool) (V : VP) (hdo : DoOk s W d G oa oc ob cop x n m.da m.dn m.dc data inl good V) :
    Calls Try.prog 42 #[.pointer (some ⟨d, 0, none⟩), .slice oa ob.length oc, .agg m.cells] w fun e w' => ∃ oa' oc' vol, e = .returned (.slice oa' (ob ++ piecesOut m.tag k inl (pieceCount inl.length) ++ statusOut good m.tag (k + pieceCount inl.length + 1)).length oc') ∧ V vol ∧
      FeedAt s W w' d ((G.setVol vol).counted (k + pieceCount inl.length + 1)) oa' oc' (ob ++ piecesOut m.tag k inl (pieceCount inl.length) ++ statusOut good m.tag (k + pieceCount inl.length + 1)) := by
  have h67 := fun X hFX hdX => command67_k s W X d G oa oc ob hFX k hk hk2 hn m hop hF data hdX l16 hl cop x n hp inl hin _ rfl good V hdo
  generalize pieceCount inl.length = J at h67 ⊢
  obtain ⟨mop, fl, lun, tag, w0, w1, w2, w3, w4, w5, w6, da, dn, dc⟩ := m
  simp only at hop
  subst hop
  simp only at hd
  clear hF hl hdo hp
  have hb0 := ((Mod.refl [] _).alloc (.cells #[.int .i64 33, .bool false, .int .u8 128, .int .u64 0, .int .u32 tag, .int .u32 0, .int .u32 0, .int .u32 0, .int .u32 0, .int .u32 0, .int .u32 0, .int .u32 0, .slice none 0 0] 38)).blk (blk_alloc w #[.int .i64 1, .bool false, .int .u8 fl, .int .u64 lun, .int .u32 tag, .int .u32 w0, .int .u32 w1, .int .u32 w2, .int .u32 w3, .int .u32 w4, .int .u32 w5, .int .u32 w6, .slice da dn dc] 38) (by simp)
  have hm0 : Mod [] w ((w.alloc (.cells #[.int .i64 1, .bool false, .int .u8 fl, .int .u64 lun, .int .u32 tag, .int .u32 w0, .int .u32 w1, .int .u32 w2, .int .u32 w3, .int .u32 w4, .int .u32 w5, .int .u32 w6, .slice da dn dc] 38)).alloc (.cells #[.int .i64 33, .bool false, .int .u8 128, .int .u64 0, .int .u32 tag, .int .u32 0, .int .u32 0, .int .u32 0, .int .u32 0, .int .u32 0, .int .u32 0, .int .u32 0, .slice none 0 0] 38)) := ((Mod.refl _ _).alloc _).alloc _
  simp only [Ms.cells] at h67 ⊢
  go_enter Try.func42, Try.ntmps42
  go_upto_region 2 with fail
  generalize hX : World.alloc (World.alloc w _) _ = X
  have hbX : X.heap[w.heap.size]? = some (.cells #[.int .i64 1, .bool false, .int .u8 fl, .int .u64 lun, .int .u32 tag, .int .u32 w0, .int .u32 w1, .int .u32 w2, .int .u32 w3, .int .u32 w4, .int .u32 w5, .int .u32 w6, .slice da dn dc] 38 (0, 0)) := by rw [← hX]; exact hb0
  have hmX : Mod [] w X := by rw [← hX]; exact hm0
  clear hX hb0 hm0
  have hFX := h.mod0 hmX
  have y0 : X.cell? ⟨w.heap.size, 0, none⟩ = some (.int .i64 1) := blk_cell hbX rfl
  have y1 : X.cell? ⟨w.heap.size, 1, none⟩ = some (.bool false) := blk_cell hbX rfl
  have y2 : X.cell? ⟨w.heap.size, 2, none⟩ = some (.int .u8 fl) := blk_cell hbX rfl
  have y3 : X.cell? ⟨w.heap.size, 3, none⟩ = some (.int .u64 lun) := blk_cell hbX rfl
  have y4 : X.cell? ⟨w.heap.size, 4, none⟩ = some (.int .u32 tag) := blk_cell hbX rfl
  have y5 : X.cell? ⟨w.heap.size, 5, none⟩ = some (.int .u32 w0) := blk_cell hbX rfl
  have y6 : X.cell? ⟨w.heap.size, 6, none⟩ = some (.int .u32 w1) := blk_cell hbX rfl
  have y7 : X.cell? ⟨w.heap.size, 7, none⟩ = some (.int .u32 w2) := blk_cell hbX rfl
  have y8 : X.cell? ⟨w.heap.size, 8, none⟩ = some (.int .u32 w3) := blk_cell hbX rfl
  have y9 : X.cell? ⟨w.heap.size, 9, none⟩ = some (.int .u32 w4) := blk_cell hbX rfl
  have y10 : X.cell? ⟨w.heap.size, 10, none⟩ = some (.int .u32 w5) := blk_cell hbX rfl
  have y11 : X.cell? ⟨w.heap.size, 11, none⟩ = some (.int .u32 w6) := blk_cell hbX rfl
  have y12 : X.cell? ⟨w.heap.size, 12, none⟩ = some (.slice da dn dc) := blk_cell hbX rfl
  have z0 := blk_lt hbX
  have c6 : X.cell? ⟨d, 6, none⟩ = some (.int .i64 1) := by
    have h1 : X.cell? ⟨d, 6, none⟩ = some (.int .i64 G.phase) := hFX.desk.cell rfl
    rw [hph] at h1
    exact h1
  have zd := blk_lt hFX.desk.desk
  go_wp2_with fail
  have h68 := h67 X hFX (hd.mod0 hmX)
  refine h68.mono ?_
  rintro e w6' ⟨oa', oc', vol, rfl, hV, hF6⟩
  clear h67 h68 c6 zd z0 y0 y1 y2 y3 y4 y5 y6 y7 y8 y9 y10 y11 y12
  go_wp2
  go_ret
  exact ⟨oa', oc', vol, by rw [List.length_append, List.length_append, Nat.add_assoc ob.length]; rfl, hV, hF6⟩
/-- A command, in the words of Feed2. -/
theorem step2_cmd (s : Sh) (d : Nat) (G : Gh) (hph : G.phase = 1) (k : Nat) (hk : G.count = (k : Int)) (hk2 : k ≤ 100000) (o : List UInt8) (hn : o.length ≤ 1000000) (m : Ms) (hop : m.op = 1) (hF : m.Fit) (data mid : List UInt8)
    (l16 : List UInt8) (hl : [m.w3, m.w4, m.w5, m.w6].flatMap be4 = l16) (cop x n : Nat) (hp : ParseOk l16 cop x n) (inl : List UInt8) (hin : inl.length ≤ 100000) (good : Bool) (V V' : VP)
    (hdo : ∀ (W : World) (vol : Nat → Nat → UInt8) (wa : Option Addr) (wc : Nat) (oa : Option Addr) (oc : Nat) (da : Option Addr) (dc : Nat), V vol → m.dn ≤ dc → Off (d :: G.gs) da m.dn → DoOk s W d ((G.setVol vol).waits wa wc mid) oa oc o cop x n da m.dn dc data inl good V') :
    StepOk2 s d G V o m data mid (G.counted (k + pieceCount inl.length + 1)) V' (o ++ piecesOut m.tag k inl (pieceCount inl.length) ++ statusOut good m.tag (k + pieceCount inl.length + 1)) mid := by
  intro W w vol wa wc oa oc da dc hV hFe hcap hd hdc hoff
  refine (does_cmd s W w d ((G.setVol vol).waits wa wc mid) oa oc o hFe hph k hk hk2 hn { m with da := da, dc := dc } hop ⟨hF.op, hF.fl, hF.lun, hF.tag, hF.dn, hF.ws⟩ data hd l16 hl cop x n hp inl hin good V' (hdo W vol wa wc oa oc da dc hV hdc hoff)).mono ?_
  rintro e w' ⟨oa', oc', vol', rfl, hV', hF'⟩
  exact ⟨oa', oc', wa, wc, vol', rfl, hV', hF', hcap⟩
theorem step2_login (s : Sh) (d : Nat) (G : Gh) (k : Nat) (hk : G.count = (k : Int)) (hk2 : k ≤ 1000000) (V : VP) (o : List UInt8) (hn : o.length ≤ 1000000) (m : Ms) (hop : m.op = 3) (hF : m.Fit) (data : List UInt8) (val : ByteArray)
    (hT : ∀ (A : Option Addr) (c : Nat), OneText A m.dn c data ⟨#[73, 110, 105, 116, 105, 97, 116, 111, 114, 78, 97, 109, 101]⟩ val) (mid : List UInt8) :
    StepOk2 s d G V o m data mid { G.counted (k + 1) with phase := 1 } V (o ++ loginOut m.tag (k + 1)) mid := by
  intro W w vol wa wc oa oc da dc hV hFe hcap hd _ _
  refine (does_login s W w d _ oa oc o hFe k hk hk2 hn { m with da := da, dc := dc } hop ⟨hF.op, hF.fl, hF.lun, hF.tag, hF.dn, hF.ws⟩ data hd val (hT da dc)).mono ?_
  rintro e w' ⟨oa', oc', rfl, hF'⟩
  exact ⟨oa', oc', wa, wc, vol, rfl, hV, hF', hcap⟩
theorem step2_bye (s : Sh) (d : Nat) (G : Gh) (k : Nat) (hk : G.count = (k : Int)) (hk2 : k ≤ 1000000) (hp : G.phase = 1) (V : VP) (o : List UInt8) (hn : o.length ≤ 1000000) (m : Ms) (hop : m.op = 6) (hF : m.Fit) (data mid : List UInt8) :
    StepOk2 s d G V o m data mid { G.counted (k + 1) with phase := 2 } V (o ++ byeOut m.tag (k + 1)) [] := by
  intro W w vol wa wc oa oc da dc hV hFe hcap hd _ hoff
  refine (does_bye s W w d _ oa oc o hFe k hk hk2 hn hp { m with da := da, dc := dc } hop ⟨hF.op, hF.fl, hF.lun, hF.tag, hF.dn, hF.ws⟩).mono ?_
  rintro e w' ⟨oa', oc', rfl, hF'⟩
  exact ⟨oa', oc', none, 0, vol, rfl, hV, hF', Nat.le_refl _⟩
theorem step2_early (s : Sh) (d : Nat) (G : Gh) (hp : G.phase = 0) (V : VP) (o : List UInt8) (m : Ms) (hop : m.op = 1) (data mid : List UInt8) :
    StepOk2 s d G V o m data mid { G with phase := 2 } V o [] := by
  intro W w vol wa wc oa oc da dc hV hFe hcap hd _ hoff
  refine (does_early s W w d _ oa oc o hFe hp { m with da := da, dc := dc } hop).mono ?_
  rintro e w' ⟨rfl, hF'⟩
  exact ⟨oa, oc, none, 0, vol, rfl, hV, hF', Nat.le_refl _⟩
end Go.Proofs.Ytfkhefoilancnaa
namespace Go.Proofs.Ytfkhefoilancnaa
open Go.RowKit
def badBack (tag k : Nat) : Ms := ⟨35, 135, 0, tag, k, 512, 0, 0, 0, 0, 0, none, 0, 0⟩
def badOut (tag k : Nat) : List UInt8 := (badBack tag k).enc []
theorem badBack_fit (tag : Nat) (ht : tag < 4294967296) : (badBack tag 0).Fit := ⟨by simp [badBack, opsL], by simp [badBack], rfl, by simpa [badBack] using ht, by simp [badBack], by simp [badBack, Ms.ws]⟩
set_option maxRecDepth 100000 in
set_option maxHeartbeats 8000000 in
theorem loginF_bad (s : Sh) (W w : World) (d : Nat) (G : Gh) (oa : Option Addr) (oc : Nat) (ob : List UInt8) (h : FeedAt s W w d G oa oc ob) (k : Nat) (hk : G.count = (k : Int)) (hk2 : k ≤ 1000000) (hn : ob.length ≤ 1000000)
    (m : Ms) (hF : m.Fit) (l : List UInt8) (hd : Rds w m.da m.dn (l.map By)) (V : ByteArray) (hT : OneText m.da m.dn m.dc l ⟨#[78, 97, 109, 101]⟩ V) :
    Calls Try.prog 65 #[.pointer (some ⟨d, 0, none⟩), .slice oa ob.length oc, .agg m.cells] w fun e w' => ∃ oa' oc', e = .returned (.slice oa' (ob ++ badOut m.tag (k + 1)).length oc') ∧
      FeedAt s W w' d { G.counted (k + 1) with phase := 2, wa := none, wc := 0, wait := [] } oa' oc' (ob ++ badOut m.tag (k + 1)) := by
  obtain ⟨op, fl, lun, tag, w0, w1, w2, w3, w4, w5, w6, da, dn, dc⟩ := m
  have htag := fitTag hF
  simp only at htag hd hT
  clear hF
  simp only [Ms.cells]
  have hb0 := blk_alloc w #[.int .i64 op, .bool false, .int .u8 fl, .int .u64 lun, .int .u32 tag, .int .u32 w0, .int .u32 w1, .int .u32 w2, .int .u32 w3, .int .u32 w4, .int .u32 w5, .int .u32 w6, .slice da dn dc] 38
  have hb1 := heap_alloc_new' (w.alloc (.cells #[.int .i64 op, .bool false, .int .u8 fl, .int .u64 lun, .int .u32 tag, .int .u32 w0, .int .u32 w1, .int .u32 w2, .int .u32 w3, .int .u32 w4, .int .u32 w5, .int .u32 w6, .slice da dn dc] 38)) (.cells #[.int .i64 35, .bool false, .int .u8 135, .int .u64 0, .int .u32 tag, .int .u32 0, .int .u32 0, .int .u32 0, .int .u32 0, .int .u32 0, .int .u32 0, .int .u32 0, .slice none 0 0] 38) (w.heap.size + 1) (by simp)
  go_enter Try.func65, Try.ntmps65
  go_wp2_with fail
  generalize hX : World.alloc (World.alloc w _) _ = X at hb1 ⊢
  have hmX : Mod [] w X := by rw [← hX]; exact ((Mod.refl _ _).alloc _).alloc _
  have hFX := h.mod0 hmX
  clear hX hb0
  refine (hT _ (hd.mod0 hmX)).mono ?_
  rintro e w1 ⟨ao, cp, rfl, ho1, hm1⟩
  obtain ⟨g, rfl, hgb, hgl, _⟩ := own_block ho1 (by decide)
  have y0 : w1.cell? ⟨g, 0, none⟩ = some (.string ⟨#[78, 97, 109, 101]⟩) := ho1.cellAt 0 (by decide)
  have y1 : w1.cell? ⟨g, 1, none⟩ = some (.string V) := ho1.cellAt 1 (by decide)
  have hF1 := hFX.mod0 hm1
  have hb1' := hm1.blk hb1 (by simp)
  have hF2 := hF1.mod0 ((Mod.refl [] w1).alloc (.cells #[.string ⟨#[78, 97, 109, 101]⟩, .string V] 159))
  have d0 : (w1.alloc (.cells #[.string ⟨#[78, 97, 109, 101]⟩, .string V] 159)).cell? ⟨w1.heap.size, 0, none⟩ = some (.string ⟨#[78, 97, 109, 101]⟩) := blk_cell (blk_alloc _ _ _) rfl
  have hb2 := ((Mod.refl [] w1).alloc (.cells #[.string ⟨#[78, 97, 109, 101]⟩, .string V] 159)).blk hb1' (by simp)
  have c6 : (w1.alloc (.cells #[.string ⟨#[78, 97, 109, 101]⟩, .string V] 159)).cell? ⟨w.heap.size + 1, 6, none⟩ = some (.int .u32 0) := blk_cell hb2 rfl
  have f6 := blk_frozen hb2 6
  have z6 := blk_lt hb1'
  clear hT hd hmX hFX hm1 hb1 ho1
  go_wp2_with fail
  refine wp_loop_rounds 2 ?_
  rw [rounds_succ]
  go_wp2_with fail
  rw [rounds_succ]
  go_upto_region 11 with fail
  have hm5 := mod_set1 w1 (w.heap.size + 1) 6 (.int .u32 512)
  have hF4 := hF1.keep hm5 w.heap.size h.size h.outLt (by simp)
  have hb4 : (w1.setCell ⟨w.heap.size + 1, 6, none⟩ (.int .u32 512)).heap[w.heap.size + 1]? = some (.cells #[.int .i64 35, .bool false, .int .u8 135, .int .u64 0, .int .u32 tag, .int .u32 0, .int .u32 512, .int .u32 0, .int .u32 0, .int .u32 0, .int .u32 0, .int .u32 0, .slice none 0 0] 38 (0, 0)) := by
    rw [heap_setCell_same w1 (w.heap.size + 1) 6 _ 38 _ hb1']
    rfl
  have hF5 := hF4.mod0 ((Mod.refl [] _).alloc (.cells #[.string ⟨#[78, 97, 109, 101]⟩, .string V] 159))
  have hb5 := ((Mod.refl [] _).alloc (.cells #[.string ⟨#[78, 97, 109, 101]⟩, .string V] 159)).blk hb4 (by simp)
  generalize World.alloc (World.setCell _ _ _) _ = V5 at hb5 hF5 ⊢
  clear hm5 hF4 hb4 y0 y1 d0 c6 f6 z6 hF2 hF1 hb1' hb2
  have y0 : V5.cell? ⟨w.heap.size + 1, 0, none⟩ = some (.int .i64 35) := blk_cell hb5 rfl
  have y1 : V5.cell? ⟨w.heap.size + 1, 1, none⟩ = some (.bool false) := blk_cell hb5 rfl
  have y2 : V5.cell? ⟨w.heap.size + 1, 2, none⟩ = some (.int .u8 135) := blk_cell hb5 rfl
  have y3 : V5.cell? ⟨w.heap.size + 1, 3, none⟩ = some (.int .u64 0) := blk_cell hb5 rfl
  have y4 : V5.cell? ⟨w.heap.size + 1, 4, none⟩ = some (.int .u32 tag) := blk_cell hb5 rfl
  have y5 : V5.cell? ⟨w.heap.size + 1, 5, none⟩ = some (.int .u32 0) := blk_cell hb5 rfl
  have y6 : V5.cell? ⟨w.heap.size + 1, 6, none⟩ = some (.int .u32 512) := blk_cell hb5 rfl
  have y7 : V5.cell? ⟨w.heap.size + 1, 7, none⟩ = some (.int .u32 0) := blk_cell hb5 rfl
  have y8 : V5.cell? ⟨w.heap.size + 1, 8, none⟩ = some (.int .u32 0) := blk_cell hb5 rfl
  have y9 : V5.cell? ⟨w.heap.size + 1, 9, none⟩ = some (.int .u32 0) := blk_cell hb5 rfl
  have y10 : V5.cell? ⟨w.heap.size + 1, 10, none⟩ = some (.int .u32 0) := blk_cell hb5 rfl
  have y11 : V5.cell? ⟨w.heap.size + 1, 11, none⟩ = some (.int .u32 0) := blk_cell hb5 rfl
  have y12 : V5.cell? ⟨w.heap.size + 1, 12, none⟩ = some (.slice none 0 0) := blk_cell hb5 rfl
  have z5 := blk_lt hb5
  go_wp2_with fail
  have hans := answerF s W V5 d _ oa oc ob hF5 k hk hk2 (by omega) (badBack tag 0) (badBack_fit tag htag) [] (Rds.none_ _) (by intro a ha; cases ha)
  simp only [Ms.cells, badBack] at hans
  refine hans.mono ?_
  rintro e w6' ⟨oa', oc', rfl, hF6⟩
  clear hans y0 y1 y2 y3 y4 y5 y6 y7 y8 y9 y10 y11 y12
  go_wp2_with fail
  refine (overF s W w6' d _ oa' oc' _ hF6).mono ?_
  rintro e w7 ⟨rfl, hF7⟩
  go_wp2
  go_ret
  exact ⟨oa', oc', by rw [List.length_append]; rfl, hF7⟩
set_option maxRecDepth 100000 in
set_option maxHeartbeats 4000000 in
theorem does_bad (s : Sh) (W w : World) (d : Nat) (G : Gh) (oa : Option Addr) (oc : Nat) (ob : List UInt8) (h : FeedAt s W w d G oa oc ob) (k : Nat) (hk : G.count = (k : Int)) (hk2 : k ≤ 1000000) (hn : ob.length ≤ 1000000)
    (m : Ms) (hop : m.op = 3) (hF : m.Fit) (l : List UInt8) (hd : Rds w m.da m.dn (l.map By)) (V : ByteArray) (hT : OneText m.da m.dn m.dc l ⟨#[78, 97, 109, 101]⟩ V) :
    Calls Try.prog 42 #[.pointer (some ⟨d, 0, none⟩), .slice oa ob.length oc, .agg m.cells] w fun e w' => ∃ oa' oc', e = .returned (.slice oa' (ob ++ badOut m.tag (k + 1)).length oc') ∧
      FeedAt s W w' d { G.counted (k + 1) with phase := 2, wa := none, wc := 0, wait := [] } oa' oc' (ob ++ badOut m.tag (k + 1)) := by
  obtain ⟨op, fl, lun, tag, w0, w1, w2, w3, w4, w5, w6, da, dn, dc⟩ := m
  simp only at hop
  subst hop
  have hb0 := ((Mod.refl [] _).alloc (.cells #[.int .i64 35, .bool false, .int .u8 128, .int .u64 0, .int .u32 tag, .int .u32 0, .int .u32 0, .int .u32 0, .int .u32 0, .int .u32 0, .int .u32 0, .int .u32 0, .slice none 0 0] 38)).blk (blk_alloc w #[.int .i64 3, .bool false, .int .u8 fl, .int .u64 lun, .int .u32 tag, .int .u32 w0, .int .u32 w1, .int .u32 w2, .int .u32 w3, .int .u32 w4, .int .u32 w5, .int .u32 w6, .slice da dn dc] 38) (by simp)
  have hb1 := heap_alloc_new' (w.alloc (.cells #[.int .i64 3, .bool false, .int .u8 fl, .int .u64 lun, .int .u32 tag, .int .u32 w0, .int .u32 w1, .int .u32 w2, .int .u32 w3, .int .u32 w4, .int .u32 w5, .int .u32 w6, .slice da dn dc] 38)) (.cells #[.int .i64 35, .bool false, .int .u8 128, .int .u64 0, .int .u32 tag, .int .u32 0, .int .u32 0, .int .u32 0, .int .u32 0, .int .u32 0, .int .u32 0, .int .u32 0, .slice none 0 0] 38) (w.heap.size + 1) (by simp)
  have hm0 : Mod [] w ((w.alloc (.cells #[.int .i64 3, .bool false, .int .u8 fl, .int .u64 lun, .int .u32 tag, .int .u32 w0, .int .u32 w1, .int .u32 w2, .int .u32 w3, .int .u32 w4, .int .u32 w5, .int .u32 w6, .slice da dn dc] 38)).alloc (.cells #[.int .i64 35, .bool false, .int .u8 128, .int .u64 0, .int .u32 tag, .int .u32 0, .int .u32 0, .int .u32 0, .int .u32 0, .int .u32 0, .int .u32 0, .int .u32 0, .slice none 0 0] 38)) := ((Mod.refl _ _).alloc _).alloc _
  simp only [Ms.cells]
  go_enter Try.func42, Try.ntmps42
  go_upto_region 2 with fail
  generalize hX : World.alloc (World.alloc w _) _ = X
  have hbX : X.heap[w.heap.size]? = some (.cells #[.int .i64 3, .bool false, .int .u8 fl, .int .u64 lun, .int .u32 tag, .int .u32 w0, .int .u32 w1, .int .u32 w2, .int .u32 w3, .int .u32 w4, .int .u32 w5, .int .u32 w6, .slice da dn dc] 38 (0, 0)) := by rw [← hX]; exact hb0
  have hbY : X.heap[w.heap.size + 1]? = some (.cells #[.int .i64 35, .bool false, .int .u8 128, .int .u64 0, .int .u32 tag, .int .u32 0, .int .u32 0, .int .u32 0, .int .u32 0, .int .u32 0, .int .u32 0, .int .u32 0, .slice none 0 0] 38 (0, 0)) := by rw [← hX]; exact hb1
  have hmX : Mod [] w X := by rw [← hX]; exact hm0
  clear hX hb0 hb1 hm0
  have hFX := h.mod0 hmX
  have y0 : X.cell? ⟨w.heap.size, 0, none⟩ = some (.int .i64 3) := blk_cell hbX rfl
  have y1 : X.cell? ⟨w.heap.size, 1, none⟩ = some (.bool false) := blk_cell hbX rfl
  have y2 : X.cell? ⟨w.heap.size, 2, none⟩ = some (.int .u8 fl) := blk_cell hbX rfl
  have y3 : X.cell? ⟨w.heap.size, 3, none⟩ = some (.int .u64 lun) := blk_cell hbX rfl
  have y4 : X.cell? ⟨w.heap.size, 4, none⟩ = some (.int .u32 tag) := blk_cell hbX rfl
  have y5 : X.cell? ⟨w.heap.size, 5, none⟩ = some (.int .u32 w0) := blk_cell hbX rfl
  have y6 : X.cell? ⟨w.heap.size, 6, none⟩ = some (.int .u32 w1) := blk_cell hbX rfl
  have y7 : X.cell? ⟨w.heap.size, 7, none⟩ = some (.int .u32 w2) := blk_cell hbX rfl
  have y8 : X.cell? ⟨w.heap.size, 8, none⟩ = some (.int .u32 w3) := blk_cell hbX rfl
  have y9 : X.cell? ⟨w.heap.size, 9, none⟩ = some (.int .u32 w4) := blk_cell hbX rfl
  have y10 : X.cell? ⟨w.heap.size, 10, none⟩ = some (.int .u32 w5) := blk_cell hbX rfl
  have y11 : X.cell? ⟨w.heap.size, 11, none⟩ = some (.int .u32 w6) := blk_cell hbX rfl
  have y12 : X.cell? ⟨w.heap.size, 12, none⟩ = some (.slice da dn dc) := blk_cell hbX rfl
  have z0 := blk_lt hbX
  go_wp2_with fail
  have hlog := loginF_bad s W X d G oa oc ob hFX k hk hk2 hn ⟨3, fl, lun, tag, w0, w1, w2, w3, w4, w5, w6, da, dn, dc⟩ hF l (hd.mod0 hmX) V hT
  simp only [Ms.cells] at hlog
  refine hlog.mono ?_
  rintro e w6 ⟨oa', oc', rfl, hF6⟩
  clear hlog
  go_wp2
  go_ret
  exact ⟨oa', oc', by rw [List.length_append]; rfl, hF6⟩
theorem step2_bad (s : Sh) (d : Nat) (G : Gh) (k : Nat) (hk : G.count = (k : Int)) (hk2 : k ≤ 1000000) (V : VP) (o : List UInt8) (hn : o.length ≤ 1000000) (m : Ms) (hop : m.op = 3) (hF : m.Fit) (data : List UInt8) (val : ByteArray)
    (hT : ∀ (A : Option Addr) (c : Nat), OneText A m.dn c data ⟨#[78, 97, 109, 101]⟩ val) (mid : List UInt8) :
    StepOk2 s d G V o m data mid { G.counted (k + 1) with phase := 2 } V (o ++ badOut m.tag (k + 1)) [] := by
  intro W w vol wa wc oa oc da dc hV hFe hcap hd _ _
  refine (does_bad s W w d _ oa oc o hFe k hk hk2 hn { m with da := da, dc := dc } hop ⟨hF.op, hF.fl, hF.lun, hF.tag, hF.dn, hF.ws⟩ data hd val (hT da dc)).mono ?_
  rintro e w' ⟨oa', oc', rfl, hF'⟩
  exact ⟨oa', oc', none, 0, vol, rfl, hV, hF', Nat.le_refl _⟩
set_option maxRecDepth 100000 in
set_option maxHeartbeats 4000000 in
/-- Behind the end nothing is done. -/
theorem feed_closed (s : Sh) (w : World) (d : Nat) (G : Gh) (hD : DeskAt s w d G) (hp : G.phase = 2) (ba : Option Addr) (n bc : Nat) : Calls Try.prog 15 #[.pointer (some ⟨d, 0, none⟩), .slice ba n bc] w fun e w' => e = .returned (.tuple #[.slice none 0 0, .int .i64 100]) ∧ w' = w := by
  have c6 : w.cell? ⟨d, 6, none⟩ = some (.int .i64 2) := by
    have h1 : w.cell? ⟨d, 6, none⟩ = some (.int .i64 G.phase) := hD.cell rfl
    rw [hp] at h1
    exact h1
  have zd := blk_lt hD.desk
  clear hp
  go_enter Try.func15, Try.ntmps15
  go_wp2_with fail
  go_step3
  go_wp2
  try rw [Exit.noGoto_ret]
  go_ret2
  exact ⟨rfl, rfl⟩
set_option maxRecDepth 100000 in
set_option maxHeartbeats 4000000 in
/-- A desk that is not there. -/
theorem feed_nil (w : World) (ba : Option Addr) (n bc : Nat) : Calls Try.prog 15 #[.pointer none, .slice ba n bc] w fun e w' => e = .returned (.tuple #[.slice none 0 0, .int .i64 1]) ∧ w' = w := by
  go_enter Try.func15, Try.ntmps15
  go_wp2_with fail
  go_step3
  go_wp2
  try rw [Exit.noGoto_ret]
  go_ret2
  exact ⟨rfl, rfl⟩
end Go.Proofs.Ytfkhefoilancnaa
namespace Go.Proofs.Ytfkhefoilancnaa
open Go.RowKit
theorem be4_W32 (l : List UInt8) (a : Nat) : be4 (W32 l a) = [l.getD a 0, l.getD (a + 1) 0, l.getD (a + 2) 0, l.getD (a + 3) 0] := by
  have h0 := bt_lt l a
  have h1 := bt_lt l (a + 1)
  have h2 := bt_lt l (a + 2)
  have h3 := bt_lt l (a + 3)
  have e : ∀ i v, v % 256 = bt l i → UInt8.ofNat v = l.getD i 0 := fun i v hv => by
    apply UInt8.toNat_inj.1
    rw [UInt8.toNat_ofNat']
    exact hv
  have d0 : UInt8.ofNat (W32 l a / 16777216) = l.getD a 0 := e _ _ (by unfold W32; omega)
  have d1 : UInt8.ofNat (W32 l a / 65536) = l.getD (a + 1) 0 := e _ _ (by unfold W32; omega)
  have d2 : UInt8.ofNat (W32 l a / 256) = l.getD (a + 2) 0 := e _ _ (by unfold W32; omega)
  have d3 : UInt8.ofNat (W32 l a) = l.getD (a + 3) 0 := e _ _ (by unfold W32; omega)
  unfold be4
  rw [d0, d1, d2, d3]
theorem words16 (l : List UInt8) (h : l.length = 16) : [W32 l 0, W32 l 4, W32 l 8, W32 l 12].flatMap be4 = l := by
  have h1 := cut_at l 0 16 (by omega)
  rw [List.drop_zero, List.take_of_length_le (by omega)] at h1
  simp only [List.flatMap_cons, List.flatMap_nil, be4_W32, Nat.zero_add, Nat.reduceAdd]
  exact h1.symm
theorem parse42 (x n : Nat) (hx : x ≤ 4294967295) (hn : n ≤ 65535) : ParseOk (prn 42 2 4 7 2 x n) 42 x n := fun A c w hr hc => parse_42 A c x n hx hn w hr hc
/-- All chunks are noughts. -/
def ZeroV : VP := fun v => ∀ i, i < 3 → ∀ x, x < 256 → v i x = 0
/-- The laws' write, as a message: n blocks at x. -/
def writeMs (tag x : Nat) (da : Option Addr) (dc : Nat) : Ms := ⟨1, 0, 0, tag, 0, 0, 0, W32 (prn 42 2 4 7 2 x 1) 0, W32 (prn 42 2 4 7 2 x 1) 4, W32 (prn 42 2 4 7 2 x 1) 8, W32 (prn 42 2 4 7 2 x 1) 12, da, 64, dc⟩
theorem writeMs_fit (tag x : Nat) (ht : tag < 4294967296) (da : Option Addr) (dc : Nat) : (writeMs tag x da dc).Fit := ⟨by simp [writeMs, opsL], by simp [writeMs], rfl, by simpa [writeMs] using ht, by simp [writeMs], by
  intro y hy
  simp only [writeMs, Ms.ws, List.mem_cons, List.not_mem_nil, or_false] at hy
  rcases hy with h | h | h | h | h | h | h
  · omega
  · omega
  · omega
  · rw [h]; exact W32_lt _ _
  · rw [h]; exact W32_lt _ _
  · rw [h]; exact W32_lt _ _
  · rw [h]; exact W32_lt _ _⟩
/-- A write into noughts of what begins with something. -/
theorem do_write (s : Sh) (hs : s = sh1) (W : World) (d : Nat) (G : Gh) (oa : Option Addr) (oc : Nat) (ob : List UInt8) (x : Nat) (hx : x < 12) (da : Option Addr) (dc : Nat) (data : List UInt8) (hdl : data.length = 64) (hdc : 64 ≤ dc) (hoff : Off (d :: G.gs) da 64) (h0 : dat data 0 ≠ 0) :
    DoOk s W d G oa oc ob 42 x 1 da 64 dc data [] true (fun v => ¬ ZeroV v) := by
  subst hs
  intro w' hF hr
  have key := write42 w' d G (view wh1 G.vol) hF.desk (fun _ _ => rfl) x 1 (by omega) da dc data (by omega) (by rw [hdl]; exact hr) (by omega) (by rw [hdl]; exact fun a ha hn hin => hoff a ha hn (List.mem_cons_of_mem _ hin))
  rw [hdl] at key
  refine key.mono ?_
  rintro e w'' ⟨vol, rfl, hD, hv, hm⟩
  refine ⟨none, 0, vol, rfl, Rds.none_ _, Nat.le_refl _, (by rintro a ⟨⟩), hD, fun hz => ?_, hm⟩
  have h1 := hv (x * 64) (by omega)
  have h2 : laid (view wh1 G.vol) x 1 data (x * 64) = dat data 0 := by
    unfold laid
    rw [if_pos (by omega), Nat.sub_self]
  rw [h2] at h1
  have h3 : view wh1 vol (x * 64) = 0 := by
    have e1 : x * 64 / 64 = x := by omega
    have e2 : x * 64 % 64 = 0 := by omega
    unfold view
    rw [e1, e2]
    refine hz _ ?_ _ ?_
    · simp only [wh1]; omega
    · simp only [wh1]; omega
  exact h0 (by rw [← h1, h3])
/-- A feed of one message that is the end. -/
theorem feed2_1 (s : Sh) (w : World) (d : Nat) (G G' : Gh) (V V' : VP) (m : Ms) (data o' tail : List UInt8) (hD : DeskAt s w d G) (hG : G.phase < 2) (hw : G.wait = []) (hV : V G.vol) (hF : m.Fit) (hdl : data.length = m.dn) (hp : G'.phase = 2) (hgs : G'.gs = G.gs) (ht : tail.length ≤ 100000)
    (hS : StepOk2 s d G V [] m data tail G' V' o' []) (ba : Option Addr) (bc n : Nat) (hn : n = (m.enc data ++ tail).length) (hb : Rds w ba n ((m.enc data ++ tail).map By)) :
    Calls Try.prog 15 #[.pointer (some ⟨d, 0, none⟩), .slice ba n bc] w fun e w' => ∃ oa oc wa wc vol, e = .returned (.tuple #[.slice oa o'.length oc, .int .i64 0]) ∧ V' vol ∧ DeskAt s w' d ((G'.setVol vol).waits wa wc []) ∧
      w'.ownsRow w.heap.size 5 1 (.slice oa o'.length oc) o'.length (o'.map By) ∧ Mod (d :: G.gs) w w' := by
  subst hn
  have hlen := enc_len m data hdl
  have hdn := hF.dn
  have hpad : padN m.dn < 4 := by unfold padN; omega
  have z : ∀ j : Nat, j < 1 → j = 0 := fun j h => by omega
  have hP : FeedPlan2 s d 1 (fun j => if j = 0 then G else G') (fun j => if j = 0 then V else V') (fun j => if j = 0 then [] else o') (fun j => if j = 0 then m.enc data ++ tail else []) (fun _ => tail) (fun _ => data) (fun _ => m) := by
    refine ⟨rfl, ?_, ?_, ?_, fun _ _ => hF, fun _ _ => hdl, ?_, .inl hp, ?_, ?_, ?_, ?_, hV, hG⟩
    · simp; omega
    · intro j hj
      obtain rfl := z j hj
      simp
    · intro j hj
      obtain rfl := z j hj
      simp
    · intro j hj
      obtain rfl := z j hj
      exact hG
    · simp
    · intro j hj
      by_cases h0 : j = 0
      · subst h0; simp; omega
      · simp [h0]
    · intro j hj
      by_cases h0 : j = 0
      · subst h0; rfl
      · simp [h0, hgs]
    · intro j hj
      obtain rfl := z j hj
      exact hS
  exact feed2_k s w d 1 _ _ _ _ _ _ _ hP hD ba bc _ hb (by simp [hw])
/-- A feed of three messages, the third of which is the end. -/
theorem feed2_3 (s : Sh) (w : World) (d : Nat) (G0 G1 G2 G3 : Gh) (V0 V1 V2 V3 : VP) (m0 m1 m2 : Ms) (d0 d1 d2 o1 o2 o3 tail : List UInt8) (hD : DeskAt s w d G0) (hG0 : G0.phase < 2) (hG1 : G1.phase < 2) (hG2 : G2.phase < 2) (hw : G0.wait = []) (hV : V0 G0.vol) (hF0 : m0.Fit) (hF1 : m1.Fit) (hF2 : m2.Fit) (hd0 : d0.length = m0.dn) (hd1 : d1.length = m1.dn) (hd2 : d2.length = m2.dn)
    (hp : G3.phase = 2) (hgs1 : G1.gs = G0.gs) (hgs2 : G2.gs = G0.gs) (hgs3 : G3.gs = G0.gs) (ht : tail.length ≤ 100000)
    (hS0 : StepOk2 s d G0 V0 [] m0 d0 (m1.enc d1 ++ (m2.enc d2 ++ tail)) G1 V1 o1 (m1.enc d1 ++ (m2.enc d2 ++ tail))) (hS1 : StepOk2 s d G1 V1 o1 m1 d1 (m2.enc d2 ++ tail) G2 V2 o2 (m2.enc d2 ++ tail)) (hS2 : StepOk2 s d G2 V2 o2 m2 d2 tail G3 V3 o3 [])
    (ba : Option Addr) (bc n : Nat) (hn : n = (m0.enc d0 ++ (m1.enc d1 ++ (m2.enc d2 ++ tail))).length) (hb : Rds w ba n ((m0.enc d0 ++ (m1.enc d1 ++ (m2.enc d2 ++ tail))).map By)) :
    Calls Try.prog 15 #[.pointer (some ⟨d, 0, none⟩), .slice ba n bc] w fun e w' => ∃ oa oc wa wc vol, e = .returned (.tuple #[.slice oa o3.length oc, .int .i64 0]) ∧ V3 vol ∧ DeskAt s w' d ((G3.setVol vol).waits wa wc []) ∧
      w'.ownsRow w.heap.size 5 1 (.slice oa o3.length oc) o3.length (o3.map By) ∧ Mod (d :: G0.gs) w w' := by
  subst hn
  have l0 := enc_len m0 d0 hd0
  have l1 := enc_len m1 d1 hd1
  have l2 := enc_len m2 d2 hd2
  have n0 := hF0.dn
  have n1 := hF1.dn
  have n2 := hF2.dn
  have p0 : padN m0.dn < 4 := by unfold padN; omega
  have p1 : padN m1.dn < 4 := by unfold padN; omega
  have p2 : padN m2.dn < 4 := by unfold padN; omega
  have z : ∀ j : Nat, j < 3 → j = 0 ∨ j = 1 ∨ j = 2 := fun j h => by omega
  have z4 : ∀ j : Nat, j ≤ 3 → j = 0 ∨ j = 1 ∨ j = 2 ∨ j = 3 := fun j h => by omega
  have hP : FeedPlan2 s d 3 (fun j => match j with | 0 => G0 | 1 => G1 | 2 => G2 | _ => G3) (fun j => match j with | 0 => V0 | 1 => V1 | 2 => V2 | _ => V3) (fun j => match j with | 0 => [] | 1 => o1 | 2 => o2 | _ => o3) (fun j => match j with | 0 => m0.enc d0 ++ (m1.enc d1 ++ (m2.enc d2 ++ tail)) | 1 => m1.enc d1 ++ (m2.enc d2 ++ tail) | 2 => m2.enc d2 ++ tail | _ => [])
      (fun j => match j with | 0 => m1.enc d1 ++ (m2.enc d2 ++ tail) | 1 => m2.enc d2 ++ tail | _ => tail) (fun j => match j with | 0 => d0 | 1 => d1 | _ => d2) (fun j => match j with | 0 => m0 | 1 => m1 | _ => m2) := by
    refine ⟨rfl, ?_, ?_, ?_, ?_, ?_, ?_, .inl hp, ?_, ?_, ?_, ?_, hV, hG0⟩
    · simp; omega
    · intro j hj
      rcases z j hj with rfl | rfl | rfl <;> rfl
    · intro j hj
      rcases z j hj with rfl | rfl | rfl <;> simp
    · intro j hj
      rcases z j hj with rfl | rfl | rfl
      · exact hF0
      · exact hF1
      · exact hF2
    · intro j hj
      rcases z j hj with rfl | rfl | rfl
      · exact hd0
      · exact hd1
      · exact hd2
    · intro j hj
      rcases z j hj with rfl | rfl | rfl
      · exact hG0
      · exact hG1
      · exact hG2
    · simp
    · intro j hj
      rcases z4 j hj with rfl | rfl | rfl | rfl
      · simp; omega
      · simp; omega
      · simp; omega
      · simp
    · intro j hj
      rcases z4 j hj with rfl | rfl | rfl | rfl
      · rfl
      · exact hgs1
      · exact hgs2
      · exact hgs3
    · intro j hj
      rcases z j hj with rfl | rfl | rfl
      · exact hS0
      · exact hS1
      · exact hS2
  exact feed2_k s w d 3 _ _ _ _ _ _ _ hP hD ba bc _ hb (by simp [hw])
end Go.Proofs.Ytfkhefoilancnaa
