/-
  The reference's kind, Check and join, at the commands of the laws. Printed by gen_rprint.py.
  The reference's Print at the commands of the laws: the same sixteen bytes as cdb's. Printed by gen_rprint2.py.
  The reference's Split: messages one behind the other, to the end.
  The laws' still: are all chunks noughts?
  The walk of DeskLogin: nothing is done ahead of a login, or behind the end.
  DeskLogin, the given statement: at every input the law returns true, and its arguments read as they did.
-/
import Derived.WalkKit
import Derived.Handy
import Derived.BigQuiet
import Derived.Lib.Hide
import Derived.Deep.RegionWith
import Derived.Deep.CutBlock
import Derived.Deep.CutRange
import Derived.Test.YtfkhefoilancnaaLogA
import Derived.Test.YtfkhefoilancnaaRef2
import Derived.Deep.RegionHeld3
import Derived.Test.YtfkhefoilancnaaKnown
import Derived.KernelRfl
import Derived.Test.YtfkhefoilancnaaFeed
import Derived.Test.YtfkhefoilancnaaGet20
import Derived.Test.YtfkhefoilancnaaBits3
import Derived.Test.YtfkhefoilancnaaNew
import Derived.Lib.SlBytesConst
import Derived.Test.YtfkhefoilancnaaDArr
import Derived.Test.YtfkhefoilancnaaRows
import Derived.ProofKit
import Derived.OpenShut
import Derived.ShutString
import Derived.ChangeOld
import Derived.Below
import Derived.Test.YtfkhefoilancnaaArgs2
namespace Go.Proofs.Ytfkhefoilancnaa
open Go.RowKit
set_option maxRecDepth 100000 in
set_option maxHeartbeats 4000000 in
theorem kind_40 (w : World) : Calls Try.prog 39 #[.int .i64 40] w fun e w' => e = .returned (.int .i64 2) ∧ w' = w := by
  go_enter Try.func39, Try.ntmps39
  go_wp2
  go_ret
  exact ⟨rfl, rfl⟩
set_option maxRecDepth 100000 in
set_option maxHeartbeats 4000000 in
theorem rcheck_40 (x n : Nat) (hx : x ≤ 4294967295) (hn : n ≤ 65535) (w : World) : Calls Try.prog 38 #[.agg #[.int .i64 40, .int .u64 x, .int .i64 n, .int .i64 0]] w fun e w' => e = .returned (.int .i64 0) ∧ Mod [] w w' := by
  have k1 : ¬ (4294967295 : Int) < (x : Int) := by omega
  have k2 : ¬ (18446744073709551615 : Int) < (x : Int) := by omega
  have k3 : ¬ (65535 : Int) < (n : Int) := by omega
  have k4 : ¬ (2147483647 : Int) < (n : Int) := by omega
  go_enter Try.func38, Try.ntmps38
  go_wp2_with fail
  refine (kind_40 _).mono ?_
  rintro e w1 ⟨rfl, hw⟩
  obtain rfl := hw.symm
  go_wp2
  go_ret
  exact ⟨rfl, (Mod.refl _ _).alloc _⟩
set_option maxRecDepth 100000 in
set_option maxHeartbeats 4000000 in
theorem kind_42 (w : World) : Calls Try.prog 39 #[.int .i64 42] w fun e w' => e = .returned (.int .i64 2) ∧ w' = w := by
  go_enter Try.func39, Try.ntmps39
  go_wp2
  go_ret
  exact ⟨rfl, rfl⟩
set_option maxRecDepth 100000 in
set_option maxHeartbeats 4000000 in
theorem rcheck_42 (x n : Nat) (hx : x ≤ 4294967295) (hn : n ≤ 65535) (w : World) : Calls Try.prog 38 #[.agg #[.int .i64 42, .int .u64 x, .int .i64 n, .int .i64 0]] w fun e w' => e = .returned (.int .i64 0) ∧ Mod [] w w' := by
  have k1 : ¬ (4294967295 : Int) < (x : Int) := by omega
  have k2 : ¬ (18446744073709551615 : Int) < (x : Int) := by omega
  have k3 : ¬ (65535 : Int) < (n : Int) := by omega
  have k4 : ¬ (2147483647 : Int) < (n : Int) := by omega
  go_enter Try.func38, Try.ntmps38
  go_wp2_with fail
  refine (kind_42 _).mono ?_
  rintro e w1 ⟨rfl, hw⟩
  obtain rfl := hw.symm
  go_wp2
  go_ret
  exact ⟨rfl, (Mod.refl _ _).alloc _⟩
set_option maxRecDepth 100000 in
set_option maxHeartbeats 4000000 in
theorem kind_136 (w : World) : Calls Try.prog 39 #[.int .i64 136] w fun e w' => e = .returned (.int .i64 3) ∧ w' = w := by
  go_enter Try.func39, Try.ntmps39
  go_wp2
  go_ret
  exact ⟨rfl, rfl⟩
set_option maxRecDepth 100000 in
set_option maxHeartbeats 4000000 in
theorem rcheck_136 (x n : Nat) (hx : x ≤ 4294967295) (hn : n ≤ 65535) (w : World) : Calls Try.prog 38 #[.agg #[.int .i64 136, .int .u64 x, .int .i64 n, .int .i64 0]] w fun e w' => e = .returned (.int .i64 0) ∧ Mod [] w w' := by
  have k1 : ¬ (4294967295 : Int) < (x : Int) := by omega
  have k2 : ¬ (18446744073709551615 : Int) < (x : Int) := by omega
  have k3 : ¬ (65535 : Int) < (n : Int) := by omega
  have k4 : ¬ (2147483647 : Int) < (n : Int) := by omega
  go_enter Try.func38, Try.ntmps38
  go_wp2_with fail
  refine (kind_136 _).mono ?_
  rintro e w1 ⟨rfl, hw⟩
  obtain rfl := hw.symm
  go_wp2
  go_ret
  exact ⟨rfl, (Mod.refl _ _).alloc _⟩
set_option maxRecDepth 100000 in
set_option maxHeartbeats 4000000 in
theorem kind_138 (w : World) : Calls Try.prog 39 #[.int .i64 138] w fun e w' => e = .returned (.int .i64 3) ∧ w' = w := by
  go_enter Try.func39, Try.ntmps39
  go_wp2
  go_ret
  exact ⟨rfl, rfl⟩
set_option maxRecDepth 100000 in
set_option maxHeartbeats 4000000 in
theorem rcheck_138 (x n : Nat) (hx : x ≤ 4294967295) (hn : n ≤ 65535) (w : World) : Calls Try.prog 38 #[.agg #[.int .i64 138, .int .u64 x, .int .i64 n, .int .i64 0]] w fun e w' => e = .returned (.int .i64 0) ∧ Mod [] w w' := by
  have k1 : ¬ (4294967295 : Int) < (x : Int) := by omega
  have k2 : ¬ (18446744073709551615 : Int) < (x : Int) := by omega
  have k3 : ¬ (65535 : Int) < (n : Int) := by omega
  have k4 : ¬ (2147483647 : Int) < (n : Int) := by omega
  go_enter Try.func38, Try.ntmps38
  go_wp2_with fail
  refine (kind_138 _).mono ?_
  rintro e w1 ⟨rfl, hw⟩
  obtain rfl := hw.symm
  go_wp2
  go_ret
  exact ⟨rfl, (Mod.refl _ _).alloc _⟩
set_option maxRecDepth 100000 in
set_option maxHeartbeats 4000000 in
theorem join_k (w : World) (gb m c : Nat) (ls : List (List UInt8)) (hm : ls.length = m) (hmc : m ≤ 100) (hrow : ∀ i l, ls[i]? = some l → ∃ a cp, w.cell? ⟨gb, i, none⟩ = some (.slice a l.length cp) ∧ Rds w a l.length (l.map By)) (hgb : gb < w.heap.size) (N : Nat) (hN : ls.flatten.length ≤ N) (hN2 : N ≤ 1000) :
    Calls Try.prog 40 #[.slice (some ⟨gb, 0, none⟩) m c, .int .i64 N] w fun e w' => ∃ ao cp, e = .returned (.slice ao N cp) ∧ w'.ownsRow w.heap.size 5 1 (.slice ao N cp) N ((ls.flatten ++ List.replicate (N - ls.flatten.length) 0).map By) ∧ Mod [] w w' := by
  go_enter Try.func40, Try.ntmps40
  go_wp2_with fail
  go_loopw [5, 6] (fun o i wr => ∃ (k L : Nat) (ao : Option Addr) (cp : Nat), o = .slice ao L cp ∧ L = (ls.take k).flatten.length ∧ i = .int .i64 k ∧ k ≤ m ∧ wr.ownsRow w.heap.size 5 1 (.slice ao L cp) L ((ls.take k).flatten.map By) ∧ Mod [] w wr) (fun _ i _ => m - (intOf i).toNat)
  case atStart => exact ⟨0, 0, none, 0, rfl, rfl, rfl, Nat.zero_le _, World.ownsRow_nil _ _ _ _, Mod.refl _ _⟩
  case round =>
    obtain ⟨k, L, ao, cp, rfl, hL, rfl, hk, ho, hmw⟩ := hrel
    have hLN : (ls.take k).flatten.length ≤ N := by
      have h1 : ls.flatten = (ls.take k).flatten ++ (ls.drop k).flatten := by rw [← List.flatten_append, List.take_append_drop]
      rw [h1, List.length_append] at hN
      omega
    by_cases hkm : k < m
    · obtain ⟨l, hl⟩ : ∃ l, ls[k]? = some l := ⟨_, List.getElem?_eq_getElem (by omega)⟩
      obtain ⟨a, c2, hca, hra⟩ := hrow k l hl
      have hca' : wr.cell? ⟨gb, k, none⟩ = some (.slice a l.length c2) := by rw [hmw.cells.1 _ _ hgb]; exact hca
      have hra' := hra.mod0 hmw
      have hgw : gb < wr.heap.size := Nat.lt_of_lt_of_le hgb hmw.size
      have hsn : (ls.take (k + 1)).flatten = (ls.take k).flatten ++ l := by
        rw [List.take_add_one, hl]
        simp
      have hLl : L + l.length ≤ N := by
        have h1 : ls.flatten = (ls.take (k + 1)).flatten ++ (ls.drop (k + 1)).flatten := by rw [← List.flatten_append, List.take_append_drop]
        rw [h1, hsn, List.length_append, List.length_append] at hN
        omega
      have r1 : (k : Int) < m := by omega
      generalize (ls.take k).flatten = F0 at ho hsn hL hLN
      have HL := Lib.hid hL
      have HSN := Lib.hid hsn
      clear hL hsn hl hca hra hrow
      go_wp2_with (at_builtin; refine wpList_cat wr rfl (.tmp 13) (.tmp 17) 32 rfl w.heap.size 5 _ 1 Try.underlying32 info5 rfl (by decide) (.slice ao L cp) L (F0.map By) rfl ho a l.length c2 (l.map By) rfl hra' (bytes_one _) (by omega) hmw.size ?_)
      intro a3 c3 w3 ho3 hm3
      have hm03 : Mod [] w w3 := hmw.trans hm3 (fun t ht => .inr (own_ge ho t ht).1)
      rw [← List.map_append, ← HSN.out] at ho3
      clear ho hca' hra' hgw hm3 hmw
      go_wp2
      go_roundw
      · exact ⟨k + 1, L + l.length, a3, c3, rfl, by rw [HSN.out, List.length_append, HL.out], by go_num, by omega, ho3, hm03⟩
      · simp [intOf]; omega
    · obtain rfl : k = m := by omega
      have r1 : ¬ (k : Int) < k := by omega
      have hall : ls.take k = ls := List.take_of_length_le (by omega)
      rw [hall] at ho hL hLN
      clear hall hrow r1
      subst hL
      have HN := Lib.hid hN
      generalize hF : ls.flatten = F at ho hLN ⊢
      have HF := Lib.hid hF
      clear hF hN
      go_wp2_with fail
      go_loopw [5] (fun o wr => ∃ (j : Nat) (ao : Option Addr) (cp : Nat), o = .slice ao (F.length + j) cp ∧ F.length + j ≤ N ∧ wr.ownsRow w.heap.size 5 1 (.slice ao (F.length + j) cp) (F.length + j) ((F ++ List.replicate j 0).map By) ∧ Mod [] w wr) (fun o _ => N - slen o)
      case atStart => exact ⟨0, ao, cp, rfl, hLN, by simpa using ho, hmw⟩
      case round =>
        obtain ⟨j, ao2, cp2, rfl, hj, ho2, hm2⟩ := hrel
        clear ho hmw
        by_cases hjN : F.length + j < N
        · have r2 : (F.length : Int) + (j : Int) < N := by omega
          have hsz := hm2.size
          go_wp2_with (at_builtin; refine wpList_pushF (wr.alloc (.cells #[.int .u8 0] 5)) rfl (.tmp 23) (.tmp 24) 32 rfl w.heap.size 5 _ 1 1 Try.underlying32 info5 rfl (by decide) (by decide) (.slice ao2 (F.length + j) cp2) (F.length + j) _ rfl (ho2.alloc _) #[.int .u8 0] wr.heap.size 1 1 rfl (blk_alloc _ _ _) rfl (by simp [Value.oneCell']) (by omega) (by simp; omega) ?_)
          intro a3 c3 w3 ho3 hm3 _
          have ho4 : w3.ownsRow w.heap.size 5 1 (.slice a3 (F.length + (j + 1)) c3) (F.length + (j + 1)) ((F ++ List.replicate (j + 1) 0).map By) := by
            have e1 : (F ++ List.replicate (j + 1) 0).map By = F.map By ++ (List.replicate j (By 0) ++ [Value.int .u8 0]) := by
              rw [List.replicate_succ']
              simp [By_def]
            rw [e1]
            exact ho3
          have hm4 : Mod [] w w3 := (hm2.alloc _).trans hm3 (fun t ht => .inr (own_ge ho2 t ht).1)
          clear ho3 hm3 ho2 hm2
          go_wp2
          go_roundw
          · exact ⟨j + 1, a3, c3, rfl, by omega, ho4, hm4⟩
          · simp [slen]; omega
        · obtain rfl : N = F.length + j := by omega
          go_wp2
          go_ret
          exact ⟨ao2, cp2, rfl, by rw [HF.out, Nat.add_sub_cancel_left]; exact ho2, hm2⟩
end Go.Proofs.Ytfkhefoilancnaa
namespace Go.Proofs.Ytfkhefoilancnaa
open Go.RowKit
theorem join5 (W : World) (gb c : Nat) (a0 a1 a2 a3 a4 : Option Addr) (c0 c1 c2 c3 c4 : Nat) (l0 l1 l2 l3 l4 : List UInt8) (hb : W.heap[gb]? = some (.cells #[.slice a0 l0.length c0, .slice a1 l1.length c1, .slice a2 l2.length c2, .slice a3 l3.length c3, .slice a4 l4.length c4] 32 (0, 0)))
    (r0 : Rds W a0 l0.length (l0.map By)) (r1 : Rds W a1 l1.length (l1.map By)) (r2 : Rds W a2 l2.length (l2.map By)) (r3 : Rds W a3 l3.length (l3.map By)) (r4 : Rds W a4 l4.length (l4.map By)) (hN : (l0 ++ l1 ++ l2 ++ l3 ++ l4).length ≤ 16) :
    Calls Try.prog 40 #[.slice (some ⟨gb, 0, none⟩) 5 c, .int .i64 16] W fun e w' => ∃ ao cp, e = .returned (.slice ao 16 cp) ∧ w'.ownsRow W.heap.size 5 1 (.slice ao 16 cp) 16 ((l0 ++ l1 ++ l2 ++ l3 ++ l4 ++ List.replicate (16 - (l0 ++ l1 ++ l2 ++ l3 ++ l4).length) 0).map By) ∧ Mod [] W w' := by
  have e : [l0, l1, l2, l3, l4].flatten = l0 ++ l1 ++ l2 ++ l3 ++ l4 := by simp
  rw [← e] at hN ⊢
  refine join_k W gb 5 c [l0, l1, l2, l3, l4] rfl (by decide) (fun i l hi => ?_) (blk_lt hb) 16 hN (by decide)
  match i, hi with
  | 0, hi => cases hi; exact ⟨a0, c0, blk_cell hb rfl, r0⟩
  | 1, hi => cases hi; exact ⟨a1, c1, blk_cell hb rfl, r1⟩
  | 2, hi => cases hi; exact ⟨a2, c2, blk_cell hb rfl, r2⟩
  | 3, hi => cases hi; exact ⟨a3, c3, blk_cell hb rfl, r3⟩
  | 4, hi => cases hi; exact ⟨a4, c4, blk_cell hb rfl, r4⟩
  | i + 5, hi => simp at hi
theorem join4 (W : World) (gb c : Nat) (a0 a1 a2 a3 : Option Addr) (c0 c1 c2 c3 : Nat) (l0 l1 l2 l3 : List UInt8) (hb : W.heap[gb]? = some (.cells #[.slice a0 l0.length c0, .slice a1 l1.length c1, .slice a2 l2.length c2, .slice a3 l3.length c3] 32 (0, 0)))
    (r0 : Rds W a0 l0.length (l0.map By)) (r1 : Rds W a1 l1.length (l1.map By)) (r2 : Rds W a2 l2.length (l2.map By)) (r3 : Rds W a3 l3.length (l3.map By)) (hN : (l0 ++ l1 ++ l2 ++ l3).length ≤ 16) :
    Calls Try.prog 40 #[.slice (some ⟨gb, 0, none⟩) 4 c, .int .i64 16] W fun e w' => ∃ ao cp, e = .returned (.slice ao 16 cp) ∧ w'.ownsRow W.heap.size 5 1 (.slice ao 16 cp) 16 ((l0 ++ l1 ++ l2 ++ l3 ++ List.replicate (16 - (l0 ++ l1 ++ l2 ++ l3).length) 0).map By) ∧ Mod [] W w' := by
  have e : [l0, l1, l2, l3].flatten = l0 ++ l1 ++ l2 ++ l3 := by simp
  rw [← e] at hN ⊢
  refine join_k W gb 4 c [l0, l1, l2, l3] rfl (by decide) (fun i l hi => ?_) (blk_lt hb) 16 hN (by decide)
  match i, hi with
  | 0, hi => cases hi; exact ⟨a0, c0, blk_cell hb rfl, r0⟩
  | 1, hi => cases hi; exact ⟨a1, c1, blk_cell hb rfl, r1⟩
  | 2, hi => cases hi; exact ⟨a2, c2, blk_cell hb rfl, r2⟩
  | 3, hi => cases hi; exact ⟨a3, c3, blk_cell hb rfl, r3⟩
  | i + 4, hi => simp at hi
/-- A number's last n bytes. -/
def dig (v n : Nat) : List UInt8 := (List.range n).map fun j => UInt8.ofNat (v / 2 ^ (8 * (n - 1 - j)))
theorem put19_d (v n : Nat) (hn : n ≤ 8) (w : World) : Calls Try.prog 37 #[.int .u64 v, .int .i64 n] w fun e w' => ∃ ao cp, e = .returned (.slice ao (dig v n).length cp) ∧ Rds w' ao (dig v n).length ((dig v n).map By) ∧ Mod [] w w' := by
  refine (put19_k v n hn w).mono ?_
  rintro e w' ⟨ao, cp, rfl, ho, hm⟩
  have hl : (dig v n).length = n := by simp [dig]
  rw [hl]
  exact ⟨ao, cp, rfl, Rds.own ho, hm⟩
theorem rows_40 (x n : Nat) : [UInt8.ofNat 40] ++ [0] ++ dig x 4 ++ [0] ++ dig n 2 ++ List.replicate (16 - ([UInt8.ofNat 40] ++ [0] ++ dig x 4 ++ [0] ++ dig n 2).length) 0 = prn 40 2 4 7 2 x n := by
  kernel_rfl
set_option maxRecDepth 100000 in
set_option maxHeartbeats 4000000 in
theorem rprint_40 (x n : Nat) (hx : x ≤ 4294967295) (hn : n ≤ 65535) (w : World) : Calls Try.prog 12 #[.agg #[.int .i64 40, .int .u64 x, .int .i64 n, .int .i64 0]] w fun e w' => ∃ ao cp, e = .returned (.tuple #[.slice ao 16 cp, .int .i64 0]) ∧ w'.ownsRow w.heap.size 5 1 (.slice ao 16 cp) 16 ((prn 40 2 4 7 2 x n).map By) ∧ Mod [] w w' := by
  have hb0 := blk_alloc w #[.int .i64 40, .int .u64 x, .int .i64 n, .int .i64 0] 40
  have hm0 : Mod [] w (w.alloc (.cells #[.int .i64 40, .int .u64 x, .int .i64 n, .int .i64 0] 40)) := (Mod.refl _ _).alloc _
  have kn : IntKind.u64.wrap (n : Int) = (n : Int) := by rw [IntKind.wrap_u64]; omega
  go_enter Try.func12, Try.ntmps12
  go_wp2_with fail
  generalize World.alloc w _ = X at hb0 hm0 ⊢
  refine (rcheck_40 x n hx hn X).mono ?_
  rintro e X1 ⟨rfl, hm1⟩
  have hA : Mod [] X1 ((X1.alloc (.cells #[.int .u8 40] 5)).alloc (.cells #[.int .u8 0] 5)) := ((Mod.refl _ _).alloc _).alloc _
  have hbo := ((Mod.refl [] _).alloc (.cells #[.int .u8 0] 5)).blk (blk_alloc X1 #[.int .u8 40] 5) (by simp)
  have hbz := heap_alloc_new' (X1.alloc (.cells #[.int .u8 40] 5)) (.cells #[.int .u8 0] 5) (X1.heap.size + 1) (by simp)
  have hb1 := hA.blk (hm1.blk hb0 (by simp)) (by simp)
  have hm2 := (hm0.then0 hm1).then0 hA
  have x0 : X1.cell? ⟨w.heap.size, 0, none⟩ = some (.int .i64 40) := blk_cell (hm1.blk hb0 (by simp)) rfl
  have zx := blk_lt (hm1.blk hb0 (by simp))
  clear hb0 hm0 hm1 hA
  go_upto_region 6 with fail
  generalize World.alloc (World.alloc X1 _) _ = V at hbo hbz hb1 hm2 ⊢
  have ro := Rds.list (xs := [.int .u8 40]) hbo
  have rz := Rds.list (xs := [.int .u8 0]) hbz
  clear x0 zx hbo hbz
  generalize X1.heap.size = ob at ro rz ⊢
  have x0 : V.cell? ⟨w.heap.size, 0, none⟩ = some (.int .i64 40) := blk_cell hb1 rfl
  have x1 : V.cell? ⟨w.heap.size, 1, none⟩ = some (.int .u64 x) := blk_cell hb1 rfl
  have x2 : V.cell? ⟨w.heap.size, 2, none⟩ = some (.int .i64 n) := blk_cell hb1 rfl
  have zx := blk_lt hb1
  go_wp2_with fail
  refine (kind_40 _).mono ?_
  rintro e w1 ⟨rfl, hw⟩
  obtain rfl := hw.symm
  go_upto_region 10 with fail
  go_cut [2, 3] from 32 to 43 (fun t2 t3 wx => ∃ ao cp, t2 = .slice ao 16 cp ∧ t3 = .int .i64 0 ∧ wx.ownsRow w.heap.size 5 1 (.slice ao 16 cp) 16 ((prn 40 2 4 7 2 x n).map By) ∧ Mod [] w wx)
  case first =>
    have hS : ∀ w', Mod [] V w' → Mod [] V w' ∧ w.heap.size < w'.heap.size ∧ w'.cell? ⟨w.heap.size, 1, none⟩ = some (.int .u64 x) ∧ w'.cell? ⟨w.heap.size, 2, none⟩ = some (.int .i64 n) := fun w' hm => by
      have hb := hm.blk hb1 (by simp)
      exact ⟨hm, blk_lt hb, blk_cell hb rfl, blk_cell hb rfl⟩
    go_region_held3 (fun w' => Mod [] V w' ∧ w.heap.size < w'.heap.size ∧ w'.cell? ⟨w.heap.size, 1, none⟩ = some (.int .u64 x) ∧ w'.cell? ⟨w.heap.size, 2, none⟩ = some (.int .i64 n))
      (first | with_reducible assumption | (with_reducible refine hS _ ?_; (repeat (first | with_reducible exact Mod.refl _ _ | with_reducible refine Mod.drew ?_ | with_reducible refine Mod.alloc ?_ _ | with_reducible refine Mod.then0 ?_ (by with_reducible assumption)))))
      (first
      | (go_at_call_of 37 (Value.int .i64 4); refine (put19_d x 4 (by decide) _).mono ?_; rintro e w4 ⟨a4, c4, rfl, ho4, hm4⟩)
      | (go_at_call_of 37 (Value.int .i64 2); refine (put19_d n 2 (by decide) _).mono ?_; rintro e w2 ⟨a2, c2, rfl, ho2, hm2'⟩)
      | (go_at_call 40; first | (have hj := join5 (w2.alloc (.cells #[.slice (some ⟨ob, 0, none⟩) 1 1, .slice (some ⟨ob + 1, 0, none⟩) 1 1, .slice a4 (dig x 4).length c4, .slice (some ⟨ob + 1, 0, none⟩) 1 1, .slice a2 (dig n 2).length c2] 32)) w2.heap.size 5 (some ⟨ob, 0, none⟩) (some ⟨ob + 1, 0, none⟩) a4 (some ⟨ob + 1, 0, none⟩) a2 1 1 c4 1 c2 [UInt8.ofNat 40] [0] (dig x 4) [0] (dig n 2) (blk_alloc w2 _ 32) (ro.mod0 (by (repeat (first | with_reducible exact Mod.refl _ _ | with_reducible refine Mod.drew ?_ | with_reducible refine Mod.alloc ?_ _ | with_reducible refine Mod.then0 ?_ (by with_reducible assumption))))) (rz.mod0 (by (repeat (first | with_reducible exact Mod.refl _ _ | with_reducible refine Mod.drew ?_ | with_reducible refine Mod.alloc ?_ _ | with_reducible refine Mod.then0 ?_ (by with_reducible assumption))))) (ho4.mod0 (by (repeat (first | with_reducible exact Mod.refl _ _ | with_reducible refine Mod.drew ?_ | with_reducible refine Mod.alloc ?_ _ | with_reducible refine Mod.then0 ?_ (by with_reducible assumption))))) (rz.mod0 (by (repeat (first | with_reducible exact Mod.refl _ _ | with_reducible refine Mod.drew ?_ | with_reducible refine Mod.alloc ?_ _ | with_reducible refine Mod.then0 ?_ (by with_reducible assumption))))) (ho2.mod0 (by (repeat (first | with_reducible exact Mod.refl _ _ | with_reducible refine Mod.drew ?_ | with_reducible refine Mod.alloc ?_ _ | with_reducible refine Mod.then0 ?_ (by with_reducible assumption))))) (by simp [dig]); (with_reducible refine hj.mono ?_); rintro e w5 ⟨ao, cp, rfl, hoj, hmj⟩; clear hj) | (have hj := join5 (w4.alloc (.cells #[.slice (some ⟨ob, 0, none⟩) 1 1, .slice (some ⟨ob + 1, 0, none⟩) 1 1, .slice a4 (dig x 4).length c4, .slice (some ⟨ob + 1, 0, none⟩) 1 1, .slice a2 (dig n 2).length c2] 32)) w4.heap.size 5 (some ⟨ob, 0, none⟩) (some ⟨ob + 1, 0, none⟩) a4 (some ⟨ob + 1, 0, none⟩) a2 1 1 c4 1 c2 [UInt8.ofNat 40] [0] (dig x 4) [0] (dig n 2) (blk_alloc w4 _ 32) (ro.mod0 (by (repeat (first | with_reducible exact Mod.refl _ _ | with_reducible refine Mod.drew ?_ | with_reducible refine Mod.alloc ?_ _ | with_reducible refine Mod.then0 ?_ (by with_reducible assumption))))) (rz.mod0 (by (repeat (first | with_reducible exact Mod.refl _ _ | with_reducible refine Mod.drew ?_ | with_reducible refine Mod.alloc ?_ _ | with_reducible refine Mod.then0 ?_ (by with_reducible assumption))))) (ho4.mod0 (by (repeat (first | with_reducible exact Mod.refl _ _ | with_reducible refine Mod.drew ?_ | with_reducible refine Mod.alloc ?_ _ | with_reducible refine Mod.then0 ?_ (by with_reducible assumption))))) (rz.mod0 (by (repeat (first | with_reducible exact Mod.refl _ _ | with_reducible refine Mod.drew ?_ | with_reducible refine Mod.alloc ?_ _ | with_reducible refine Mod.then0 ?_ (by with_reducible assumption))))) (ho2.mod0 (by (repeat (first | with_reducible exact Mod.refl _ _ | with_reducible refine Mod.drew ?_ | with_reducible refine Mod.alloc ?_ _ | with_reducible refine Mod.then0 ?_ (by with_reducible assumption))))) (by simp [dig]); (with_reducible refine hj.mono ?_); rintro e w5 ⟨ao, cp, rfl, hoj, hmj⟩; clear hj)))
    all_goals go_wp2_with fail
    all_goals go_meet
    all_goals refine ⟨ao, cp, rfl, rfl, ?_, ?_⟩
    all_goals first
      | (rw [← rows_40]; refine own_mono hoj (Mod.size (S := []) ?_); (repeat (first | with_reducible exact Mod.refl _ _ | with_reducible refine Mod.drew ?_ | with_reducible refine Mod.alloc ?_ _ | with_reducible refine Mod.then0 ?_ (by with_reducible assumption))); done)
      | (refine Mod.then0 ?_ hmj; (repeat (first | with_reducible exact Mod.refl _ _ | with_reducible refine Mod.drew ?_ | with_reducible refine Mod.alloc ?_ _ | with_reducible refine Mod.then0 ?_ (by with_reducible assumption))); done)
  case rest =>
    obtain ⟨ao, cp, rfl, rfl, ho, hm⟩ := hcut
    go_wp2
    go_ret2
    exact ⟨ao, cp, rfl, ho, hm⟩
theorem rows_42 (x n : Nat) : [UInt8.ofNat 42] ++ [0] ++ dig x 4 ++ [0] ++ dig n 2 ++ List.replicate (16 - ([UInt8.ofNat 42] ++ [0] ++ dig x 4 ++ [0] ++ dig n 2).length) 0 = prn 42 2 4 7 2 x n := by
  kernel_rfl
set_option maxRecDepth 100000 in
set_option maxHeartbeats 4000000 in
theorem rprint_42 (x n : Nat) (hx : x ≤ 4294967295) (hn : n ≤ 65535) (w : World) : Calls Try.prog 12 #[.agg #[.int .i64 42, .int .u64 x, .int .i64 n, .int .i64 0]] w fun e w' => ∃ ao cp, e = .returned (.tuple #[.slice ao 16 cp, .int .i64 0]) ∧ w'.ownsRow w.heap.size 5 1 (.slice ao 16 cp) 16 ((prn 42 2 4 7 2 x n).map By) ∧ Mod [] w w' := by
  have hb0 := blk_alloc w #[.int .i64 42, .int .u64 x, .int .i64 n, .int .i64 0] 40
  have hm0 : Mod [] w (w.alloc (.cells #[.int .i64 42, .int .u64 x, .int .i64 n, .int .i64 0] 40)) := (Mod.refl _ _).alloc _
  have kn : IntKind.u64.wrap (n : Int) = (n : Int) := by rw [IntKind.wrap_u64]; omega
  go_enter Try.func12, Try.ntmps12
  go_wp2_with fail
  generalize World.alloc w _ = X at hb0 hm0 ⊢
  refine (rcheck_42 x n hx hn X).mono ?_
  rintro e X1 ⟨rfl, hm1⟩
  have hA : Mod [] X1 ((X1.alloc (.cells #[.int .u8 42] 5)).alloc (.cells #[.int .u8 0] 5)) := ((Mod.refl _ _).alloc _).alloc _
  have hbo := ((Mod.refl [] _).alloc (.cells #[.int .u8 0] 5)).blk (blk_alloc X1 #[.int .u8 42] 5) (by simp)
  have hbz := heap_alloc_new' (X1.alloc (.cells #[.int .u8 42] 5)) (.cells #[.int .u8 0] 5) (X1.heap.size + 1) (by simp)
  have hb1 := hA.blk (hm1.blk hb0 (by simp)) (by simp)
  have hm2 := (hm0.then0 hm1).then0 hA
  have x0 : X1.cell? ⟨w.heap.size, 0, none⟩ = some (.int .i64 42) := blk_cell (hm1.blk hb0 (by simp)) rfl
  have zx := blk_lt (hm1.blk hb0 (by simp))
  clear hb0 hm0 hm1 hA
  go_upto_region 6 with fail
  generalize World.alloc (World.alloc X1 _) _ = V at hbo hbz hb1 hm2 ⊢
  have ro := Rds.list (xs := [.int .u8 42]) hbo
  have rz := Rds.list (xs := [.int .u8 0]) hbz
  clear x0 zx hbo hbz
  generalize X1.heap.size = ob at ro rz ⊢
  have x0 : V.cell? ⟨w.heap.size, 0, none⟩ = some (.int .i64 42) := blk_cell hb1 rfl
  have x1 : V.cell? ⟨w.heap.size, 1, none⟩ = some (.int .u64 x) := blk_cell hb1 rfl
  have x2 : V.cell? ⟨w.heap.size, 2, none⟩ = some (.int .i64 n) := blk_cell hb1 rfl
  have zx := blk_lt hb1
  go_wp2_with fail
  refine (kind_42 _).mono ?_
  rintro e w1 ⟨rfl, hw⟩
  obtain rfl := hw.symm
  go_upto_region 10 with fail
  go_cut [2, 3] from 32 to 43 (fun t2 t3 wx => ∃ ao cp, t2 = .slice ao 16 cp ∧ t3 = .int .i64 0 ∧ wx.ownsRow w.heap.size 5 1 (.slice ao 16 cp) 16 ((prn 42 2 4 7 2 x n).map By) ∧ Mod [] w wx)
  case first =>
    have hS : ∀ w', Mod [] V w' → Mod [] V w' ∧ w.heap.size < w'.heap.size ∧ w'.cell? ⟨w.heap.size, 1, none⟩ = some (.int .u64 x) ∧ w'.cell? ⟨w.heap.size, 2, none⟩ = some (.int .i64 n) := fun w' hm => by
      have hb := hm.blk hb1 (by simp)
      exact ⟨hm, blk_lt hb, blk_cell hb rfl, blk_cell hb rfl⟩
    go_region_held3 (fun w' => Mod [] V w' ∧ w.heap.size < w'.heap.size ∧ w'.cell? ⟨w.heap.size, 1, none⟩ = some (.int .u64 x) ∧ w'.cell? ⟨w.heap.size, 2, none⟩ = some (.int .i64 n))
      (first | with_reducible assumption | (with_reducible refine hS _ ?_; (repeat (first | with_reducible exact Mod.refl _ _ | with_reducible refine Mod.drew ?_ | with_reducible refine Mod.alloc ?_ _ | with_reducible refine Mod.then0 ?_ (by with_reducible assumption)))))
      (first
      | (go_at_call_of 37 (Value.int .i64 4); refine (put19_d x 4 (by decide) _).mono ?_; rintro e w4 ⟨a4, c4, rfl, ho4, hm4⟩)
      | (go_at_call_of 37 (Value.int .i64 2); refine (put19_d n 2 (by decide) _).mono ?_; rintro e w2 ⟨a2, c2, rfl, ho2, hm2'⟩)
      | (go_at_call 40; first | (have hj := join5 (w2.alloc (.cells #[.slice (some ⟨ob, 0, none⟩) 1 1, .slice (some ⟨ob + 1, 0, none⟩) 1 1, .slice a4 (dig x 4).length c4, .slice (some ⟨ob + 1, 0, none⟩) 1 1, .slice a2 (dig n 2).length c2] 32)) w2.heap.size 5 (some ⟨ob, 0, none⟩) (some ⟨ob + 1, 0, none⟩) a4 (some ⟨ob + 1, 0, none⟩) a2 1 1 c4 1 c2 [UInt8.ofNat 42] [0] (dig x 4) [0] (dig n 2) (blk_alloc w2 _ 32) (ro.mod0 (by (repeat (first | with_reducible exact Mod.refl _ _ | with_reducible refine Mod.drew ?_ | with_reducible refine Mod.alloc ?_ _ | with_reducible refine Mod.then0 ?_ (by with_reducible assumption))))) (rz.mod0 (by (repeat (first | with_reducible exact Mod.refl _ _ | with_reducible refine Mod.drew ?_ | with_reducible refine Mod.alloc ?_ _ | with_reducible refine Mod.then0 ?_ (by with_reducible assumption))))) (ho4.mod0 (by (repeat (first | with_reducible exact Mod.refl _ _ | with_reducible refine Mod.drew ?_ | with_reducible refine Mod.alloc ?_ _ | with_reducible refine Mod.then0 ?_ (by with_reducible assumption))))) (rz.mod0 (by (repeat (first | with_reducible exact Mod.refl _ _ | with_reducible refine Mod.drew ?_ | with_reducible refine Mod.alloc ?_ _ | with_reducible refine Mod.then0 ?_ (by with_reducible assumption))))) (ho2.mod0 (by (repeat (first | with_reducible exact Mod.refl _ _ | with_reducible refine Mod.drew ?_ | with_reducible refine Mod.alloc ?_ _ | with_reducible refine Mod.then0 ?_ (by with_reducible assumption))))) (by simp [dig]); (with_reducible refine hj.mono ?_); rintro e w5 ⟨ao, cp, rfl, hoj, hmj⟩; clear hj) | (have hj := join5 (w4.alloc (.cells #[.slice (some ⟨ob, 0, none⟩) 1 1, .slice (some ⟨ob + 1, 0, none⟩) 1 1, .slice a4 (dig x 4).length c4, .slice (some ⟨ob + 1, 0, none⟩) 1 1, .slice a2 (dig n 2).length c2] 32)) w4.heap.size 5 (some ⟨ob, 0, none⟩) (some ⟨ob + 1, 0, none⟩) a4 (some ⟨ob + 1, 0, none⟩) a2 1 1 c4 1 c2 [UInt8.ofNat 42] [0] (dig x 4) [0] (dig n 2) (blk_alloc w4 _ 32) (ro.mod0 (by (repeat (first | with_reducible exact Mod.refl _ _ | with_reducible refine Mod.drew ?_ | with_reducible refine Mod.alloc ?_ _ | with_reducible refine Mod.then0 ?_ (by with_reducible assumption))))) (rz.mod0 (by (repeat (first | with_reducible exact Mod.refl _ _ | with_reducible refine Mod.drew ?_ | with_reducible refine Mod.alloc ?_ _ | with_reducible refine Mod.then0 ?_ (by with_reducible assumption))))) (ho4.mod0 (by (repeat (first | with_reducible exact Mod.refl _ _ | with_reducible refine Mod.drew ?_ | with_reducible refine Mod.alloc ?_ _ | with_reducible refine Mod.then0 ?_ (by with_reducible assumption))))) (rz.mod0 (by (repeat (first | with_reducible exact Mod.refl _ _ | with_reducible refine Mod.drew ?_ | with_reducible refine Mod.alloc ?_ _ | with_reducible refine Mod.then0 ?_ (by with_reducible assumption))))) (ho2.mod0 (by (repeat (first | with_reducible exact Mod.refl _ _ | with_reducible refine Mod.drew ?_ | with_reducible refine Mod.alloc ?_ _ | with_reducible refine Mod.then0 ?_ (by with_reducible assumption))))) (by simp [dig]); (with_reducible refine hj.mono ?_); rintro e w5 ⟨ao, cp, rfl, hoj, hmj⟩; clear hj)))
    all_goals go_wp2_with fail
    all_goals go_meet
    all_goals refine ⟨ao, cp, rfl, rfl, ?_, ?_⟩
    all_goals first
      | (rw [← rows_42]; refine own_mono hoj (Mod.size (S := []) ?_); (repeat (first | with_reducible exact Mod.refl _ _ | with_reducible refine Mod.drew ?_ | with_reducible refine Mod.alloc ?_ _ | with_reducible refine Mod.then0 ?_ (by with_reducible assumption))); done)
      | (refine Mod.then0 ?_ hmj; (repeat (first | with_reducible exact Mod.refl _ _ | with_reducible refine Mod.drew ?_ | with_reducible refine Mod.alloc ?_ _ | with_reducible refine Mod.then0 ?_ (by with_reducible assumption))); done)
  case rest =>
    obtain ⟨ao, cp, rfl, rfl, ho, hm⟩ := hcut
    go_wp2
    go_ret2
    exact ⟨ao, cp, rfl, ho, hm⟩
theorem rows_136 (x n : Nat) : [UInt8.ofNat 136] ++ [0] ++ dig x 8 ++ dig n 4 ++ List.replicate (16 - ([UInt8.ofNat 136] ++ [0] ++ dig x 8 ++ dig n 4).length) 0 = prn 136 2 8 10 4 x n := by
  kernel_rfl
set_option maxRecDepth 100000 in
set_option maxHeartbeats 4000000 in
theorem rprint_136 (x n : Nat) (hx : x ≤ 4294967295) (hn : n ≤ 65535) (w : World) : Calls Try.prog 12 #[.agg #[.int .i64 136, .int .u64 x, .int .i64 n, .int .i64 0]] w fun e w' => ∃ ao cp, e = .returned (.tuple #[.slice ao 16 cp, .int .i64 0]) ∧ w'.ownsRow w.heap.size 5 1 (.slice ao 16 cp) 16 ((prn 136 2 8 10 4 x n).map By) ∧ Mod [] w w' := by
  have hb0 := blk_alloc w #[.int .i64 136, .int .u64 x, .int .i64 n, .int .i64 0] 40
  have hm0 : Mod [] w (w.alloc (.cells #[.int .i64 136, .int .u64 x, .int .i64 n, .int .i64 0] 40)) := (Mod.refl _ _).alloc _
  have kn : IntKind.u64.wrap (n : Int) = (n : Int) := by rw [IntKind.wrap_u64]; omega
  go_enter Try.func12, Try.ntmps12
  go_wp2_with fail
  generalize World.alloc w _ = X at hb0 hm0 ⊢
  refine (rcheck_136 x n hx hn X).mono ?_
  rintro e X1 ⟨rfl, hm1⟩
  have hA : Mod [] X1 ((X1.alloc (.cells #[.int .u8 136] 5)).alloc (.cells #[.int .u8 0] 5)) := ((Mod.refl _ _).alloc _).alloc _
  have hbo := ((Mod.refl [] _).alloc (.cells #[.int .u8 0] 5)).blk (blk_alloc X1 #[.int .u8 136] 5) (by simp)
  have hbz := heap_alloc_new' (X1.alloc (.cells #[.int .u8 136] 5)) (.cells #[.int .u8 0] 5) (X1.heap.size + 1) (by simp)
  have hb1 := hA.blk (hm1.blk hb0 (by simp)) (by simp)
  have hm2 := (hm0.then0 hm1).then0 hA
  have x0 : X1.cell? ⟨w.heap.size, 0, none⟩ = some (.int .i64 136) := blk_cell (hm1.blk hb0 (by simp)) rfl
  have zx := blk_lt (hm1.blk hb0 (by simp))
  clear hb0 hm0 hm1 hA
  go_upto_region 6 with fail
  generalize World.alloc (World.alloc X1 _) _ = V at hbo hbz hb1 hm2 ⊢
  have ro := Rds.list (xs := [.int .u8 136]) hbo
  have rz := Rds.list (xs := [.int .u8 0]) hbz
  clear x0 zx hbo hbz
  generalize X1.heap.size = ob at ro rz ⊢
  have x0 : V.cell? ⟨w.heap.size, 0, none⟩ = some (.int .i64 136) := blk_cell hb1 rfl
  have x1 : V.cell? ⟨w.heap.size, 1, none⟩ = some (.int .u64 x) := blk_cell hb1 rfl
  have x2 : V.cell? ⟨w.heap.size, 2, none⟩ = some (.int .i64 n) := blk_cell hb1 rfl
  have zx := blk_lt hb1
  go_wp2_with fail
  refine (kind_136 _).mono ?_
  rintro e w1 ⟨rfl, hw⟩
  obtain rfl := hw.symm
  go_upto_region 12 with fail
  go_cut [2, 3] from 46 to 56 (fun t2 t3 wx => ∃ ao cp, t2 = .slice ao 16 cp ∧ t3 = .int .i64 0 ∧ wx.ownsRow w.heap.size 5 1 (.slice ao 16 cp) 16 ((prn 136 2 8 10 4 x n).map By) ∧ Mod [] w wx)
  case first =>
    have hS : ∀ w', Mod [] V w' → Mod [] V w' ∧ w.heap.size < w'.heap.size ∧ w'.cell? ⟨w.heap.size, 1, none⟩ = some (.int .u64 x) ∧ w'.cell? ⟨w.heap.size, 2, none⟩ = some (.int .i64 n) := fun w' hm => by
      have hb := hm.blk hb1 (by simp)
      exact ⟨hm, blk_lt hb, blk_cell hb rfl, blk_cell hb rfl⟩
    go_region_held3 (fun w' => Mod [] V w' ∧ w.heap.size < w'.heap.size ∧ w'.cell? ⟨w.heap.size, 1, none⟩ = some (.int .u64 x) ∧ w'.cell? ⟨w.heap.size, 2, none⟩ = some (.int .i64 n))
      (first | with_reducible assumption | (with_reducible refine hS _ ?_; (repeat (first | with_reducible exact Mod.refl _ _ | with_reducible refine Mod.drew ?_ | with_reducible refine Mod.alloc ?_ _ | with_reducible refine Mod.then0 ?_ (by with_reducible assumption)))))
      (first
      | (go_at_call_of 37 (Value.int .i64 8); refine (put19_d x 8 (by decide) _).mono ?_; rintro e w4 ⟨a4, c4, rfl, ho4, hm4⟩)
      | (go_at_call_of 37 (Value.int .i64 4); refine (put19_d n 4 (by decide) _).mono ?_; rintro e w2 ⟨a2, c2, rfl, ho2, hm2'⟩)
      | (go_at_call 40; first | (have hj := join4 (w2.alloc (.cells #[.slice (some ⟨ob, 0, none⟩) 1 1, .slice (some ⟨ob + 1, 0, none⟩) 1 1, .slice a4 (dig x 8).length c4, .slice a2 (dig n 4).length c2] 32)) w2.heap.size 4 (some ⟨ob, 0, none⟩) (some ⟨ob + 1, 0, none⟩) a4 a2 1 1 c4 c2 [UInt8.ofNat 136] [0] (dig x 8) (dig n 4) (blk_alloc w2 _ 32) (ro.mod0 (by (repeat (first | with_reducible exact Mod.refl _ _ | with_reducible refine Mod.drew ?_ | with_reducible refine Mod.alloc ?_ _ | with_reducible refine Mod.then0 ?_ (by with_reducible assumption))))) (rz.mod0 (by (repeat (first | with_reducible exact Mod.refl _ _ | with_reducible refine Mod.drew ?_ | with_reducible refine Mod.alloc ?_ _ | with_reducible refine Mod.then0 ?_ (by with_reducible assumption))))) (ho4.mod0 (by (repeat (first | with_reducible exact Mod.refl _ _ | with_reducible refine Mod.drew ?_ | with_reducible refine Mod.alloc ?_ _ | with_reducible refine Mod.then0 ?_ (by with_reducible assumption))))) (ho2.mod0 (by (repeat (first | with_reducible exact Mod.refl _ _ | with_reducible refine Mod.drew ?_ | with_reducible refine Mod.alloc ?_ _ | with_reducible refine Mod.then0 ?_ (by with_reducible assumption))))) (by simp [dig]); (with_reducible refine hj.mono ?_); rintro e w5 ⟨ao, cp, rfl, hoj, hmj⟩; clear hj) | (have hj := join4 (w4.alloc (.cells #[.slice (some ⟨ob, 0, none⟩) 1 1, .slice (some ⟨ob + 1, 0, none⟩) 1 1, .slice a4 (dig x 8).length c4, .slice a2 (dig n 4).length c2] 32)) w4.heap.size 4 (some ⟨ob, 0, none⟩) (some ⟨ob + 1, 0, none⟩) a4 a2 1 1 c4 c2 [UInt8.ofNat 136] [0] (dig x 8) (dig n 4) (blk_alloc w4 _ 32) (ro.mod0 (by (repeat (first | with_reducible exact Mod.refl _ _ | with_reducible refine Mod.drew ?_ | with_reducible refine Mod.alloc ?_ _ | with_reducible refine Mod.then0 ?_ (by with_reducible assumption))))) (rz.mod0 (by (repeat (first | with_reducible exact Mod.refl _ _ | with_reducible refine Mod.drew ?_ | with_reducible refine Mod.alloc ?_ _ | with_reducible refine Mod.then0 ?_ (by with_reducible assumption))))) (ho4.mod0 (by (repeat (first | with_reducible exact Mod.refl _ _ | with_reducible refine Mod.drew ?_ | with_reducible refine Mod.alloc ?_ _ | with_reducible refine Mod.then0 ?_ (by with_reducible assumption))))) (ho2.mod0 (by (repeat (first | with_reducible exact Mod.refl _ _ | with_reducible refine Mod.drew ?_ | with_reducible refine Mod.alloc ?_ _ | with_reducible refine Mod.then0 ?_ (by with_reducible assumption))))) (by simp [dig]); (with_reducible refine hj.mono ?_); rintro e w5 ⟨ao, cp, rfl, hoj, hmj⟩; clear hj)))
    all_goals go_wp2_with fail
    all_goals go_meet
    all_goals refine ⟨ao, cp, rfl, rfl, ?_, ?_⟩
    all_goals first
      | (rw [← rows_136]; refine own_mono hoj (Mod.size (S := []) ?_); (repeat (first | with_reducible exact Mod.refl _ _ | with_reducible refine Mod.drew ?_ | with_reducible refine Mod.alloc ?_ _ | with_reducible refine Mod.then0 ?_ (by with_reducible assumption))); done)
      | (refine Mod.then0 ?_ hmj; (repeat (first | with_reducible exact Mod.refl _ _ | with_reducible refine Mod.drew ?_ | with_reducible refine Mod.alloc ?_ _ | with_reducible refine Mod.then0 ?_ (by with_reducible assumption))); done)
  case rest =>
    obtain ⟨ao, cp, rfl, rfl, ho, hm⟩ := hcut
    go_wp2
    go_ret2
    exact ⟨ao, cp, rfl, ho, hm⟩
theorem rows_138 (x n : Nat) : [UInt8.ofNat 138] ++ [0] ++ dig x 8 ++ dig n 4 ++ List.replicate (16 - ([UInt8.ofNat 138] ++ [0] ++ dig x 8 ++ dig n 4).length) 0 = prn 138 2 8 10 4 x n := by
  kernel_rfl
set_option maxRecDepth 100000 in
set_option maxHeartbeats 4000000 in
theorem rprint_138 (x n : Nat) (hx : x ≤ 4294967295) (hn : n ≤ 65535) (w : World) : Calls Try.prog 12 #[.agg #[.int .i64 138, .int .u64 x, .int .i64 n, .int .i64 0]] w fun e w' => ∃ ao cp, e = .returned (.tuple #[.slice ao 16 cp, .int .i64 0]) ∧ w'.ownsRow w.heap.size 5 1 (.slice ao 16 cp) 16 ((prn 138 2 8 10 4 x n).map By) ∧ Mod [] w w' := by
  have hb0 := blk_alloc w #[.int .i64 138, .int .u64 x, .int .i64 n, .int .i64 0] 40
  have hm0 : Mod [] w (w.alloc (.cells #[.int .i64 138, .int .u64 x, .int .i64 n, .int .i64 0] 40)) := (Mod.refl _ _).alloc _
  have kn : IntKind.u64.wrap (n : Int) = (n : Int) := by rw [IntKind.wrap_u64]; omega
  go_enter Try.func12, Try.ntmps12
  go_wp2_with fail
  generalize World.alloc w _ = X at hb0 hm0 ⊢
  refine (rcheck_138 x n hx hn X).mono ?_
  rintro e X1 ⟨rfl, hm1⟩
  have hA : Mod [] X1 ((X1.alloc (.cells #[.int .u8 138] 5)).alloc (.cells #[.int .u8 0] 5)) := ((Mod.refl _ _).alloc _).alloc _
  have hbo := ((Mod.refl [] _).alloc (.cells #[.int .u8 0] 5)).blk (blk_alloc X1 #[.int .u8 138] 5) (by simp)
  have hbz := heap_alloc_new' (X1.alloc (.cells #[.int .u8 138] 5)) (.cells #[.int .u8 0] 5) (X1.heap.size + 1) (by simp)
  have hb1 := hA.blk (hm1.blk hb0 (by simp)) (by simp)
  have hm2 := (hm0.then0 hm1).then0 hA
  have x0 : X1.cell? ⟨w.heap.size, 0, none⟩ = some (.int .i64 138) := blk_cell (hm1.blk hb0 (by simp)) rfl
  have zx := blk_lt (hm1.blk hb0 (by simp))
  clear hb0 hm0 hm1 hA
  go_upto_region 6 with fail
  generalize World.alloc (World.alloc X1 _) _ = V at hbo hbz hb1 hm2 ⊢
  have ro := Rds.list (xs := [.int .u8 138]) hbo
  have rz := Rds.list (xs := [.int .u8 0]) hbz
  clear x0 zx hbo hbz
  generalize X1.heap.size = ob at ro rz ⊢
  have x0 : V.cell? ⟨w.heap.size, 0, none⟩ = some (.int .i64 138) := blk_cell hb1 rfl
  have x1 : V.cell? ⟨w.heap.size, 1, none⟩ = some (.int .u64 x) := blk_cell hb1 rfl
  have x2 : V.cell? ⟨w.heap.size, 2, none⟩ = some (.int .i64 n) := blk_cell hb1 rfl
  have zx := blk_lt hb1
  go_wp2_with fail
  refine (kind_138 _).mono ?_
  rintro e w1 ⟨rfl, hw⟩
  obtain rfl := hw.symm
  go_upto_region 12 with fail
  go_cut [2, 3] from 46 to 56 (fun t2 t3 wx => ∃ ao cp, t2 = .slice ao 16 cp ∧ t3 = .int .i64 0 ∧ wx.ownsRow w.heap.size 5 1 (.slice ao 16 cp) 16 ((prn 138 2 8 10 4 x n).map By) ∧ Mod [] w wx)
  case first =>
    have hS : ∀ w', Mod [] V w' → Mod [] V w' ∧ w.heap.size < w'.heap.size ∧ w'.cell? ⟨w.heap.size, 1, none⟩ = some (.int .u64 x) ∧ w'.cell? ⟨w.heap.size, 2, none⟩ = some (.int .i64 n) := fun w' hm => by
      have hb := hm.blk hb1 (by simp)
      exact ⟨hm, blk_lt hb, blk_cell hb rfl, blk_cell hb rfl⟩
    go_region_held3 (fun w' => Mod [] V w' ∧ w.heap.size < w'.heap.size ∧ w'.cell? ⟨w.heap.size, 1, none⟩ = some (.int .u64 x) ∧ w'.cell? ⟨w.heap.size, 2, none⟩ = some (.int .i64 n))
      (first | with_reducible assumption | (with_reducible refine hS _ ?_; (repeat (first | with_reducible exact Mod.refl _ _ | with_reducible refine Mod.drew ?_ | with_reducible refine Mod.alloc ?_ _ | with_reducible refine Mod.then0 ?_ (by with_reducible assumption)))))
      (first
      | (go_at_call_of 37 (Value.int .i64 8); refine (put19_d x 8 (by decide) _).mono ?_; rintro e w4 ⟨a4, c4, rfl, ho4, hm4⟩)
      | (go_at_call_of 37 (Value.int .i64 4); refine (put19_d n 4 (by decide) _).mono ?_; rintro e w2 ⟨a2, c2, rfl, ho2, hm2'⟩)
      | (go_at_call 40; first | (have hj := join4 (w2.alloc (.cells #[.slice (some ⟨ob, 0, none⟩) 1 1, .slice (some ⟨ob + 1, 0, none⟩) 1 1, .slice a4 (dig x 8).length c4, .slice a2 (dig n 4).length c2] 32)) w2.heap.size 4 (some ⟨ob, 0, none⟩) (some ⟨ob + 1, 0, none⟩) a4 a2 1 1 c4 c2 [UInt8.ofNat 138] [0] (dig x 8) (dig n 4) (blk_alloc w2 _ 32) (ro.mod0 (by (repeat (first | with_reducible exact Mod.refl _ _ | with_reducible refine Mod.drew ?_ | with_reducible refine Mod.alloc ?_ _ | with_reducible refine Mod.then0 ?_ (by with_reducible assumption))))) (rz.mod0 (by (repeat (first | with_reducible exact Mod.refl _ _ | with_reducible refine Mod.drew ?_ | with_reducible refine Mod.alloc ?_ _ | with_reducible refine Mod.then0 ?_ (by with_reducible assumption))))) (ho4.mod0 (by (repeat (first | with_reducible exact Mod.refl _ _ | with_reducible refine Mod.drew ?_ | with_reducible refine Mod.alloc ?_ _ | with_reducible refine Mod.then0 ?_ (by with_reducible assumption))))) (ho2.mod0 (by (repeat (first | with_reducible exact Mod.refl _ _ | with_reducible refine Mod.drew ?_ | with_reducible refine Mod.alloc ?_ _ | with_reducible refine Mod.then0 ?_ (by with_reducible assumption))))) (by simp [dig]); (with_reducible refine hj.mono ?_); rintro e w5 ⟨ao, cp, rfl, hoj, hmj⟩; clear hj) | (have hj := join4 (w4.alloc (.cells #[.slice (some ⟨ob, 0, none⟩) 1 1, .slice (some ⟨ob + 1, 0, none⟩) 1 1, .slice a4 (dig x 8).length c4, .slice a2 (dig n 4).length c2] 32)) w4.heap.size 4 (some ⟨ob, 0, none⟩) (some ⟨ob + 1, 0, none⟩) a4 a2 1 1 c4 c2 [UInt8.ofNat 138] [0] (dig x 8) (dig n 4) (blk_alloc w4 _ 32) (ro.mod0 (by (repeat (first | with_reducible exact Mod.refl _ _ | with_reducible refine Mod.drew ?_ | with_reducible refine Mod.alloc ?_ _ | with_reducible refine Mod.then0 ?_ (by with_reducible assumption))))) (rz.mod0 (by (repeat (first | with_reducible exact Mod.refl _ _ | with_reducible refine Mod.drew ?_ | with_reducible refine Mod.alloc ?_ _ | with_reducible refine Mod.then0 ?_ (by with_reducible assumption))))) (ho4.mod0 (by (repeat (first | with_reducible exact Mod.refl _ _ | with_reducible refine Mod.drew ?_ | with_reducible refine Mod.alloc ?_ _ | with_reducible refine Mod.then0 ?_ (by with_reducible assumption))))) (ho2.mod0 (by (repeat (first | with_reducible exact Mod.refl _ _ | with_reducible refine Mod.drew ?_ | with_reducible refine Mod.alloc ?_ _ | with_reducible refine Mod.then0 ?_ (by with_reducible assumption))))) (by simp [dig]); (with_reducible refine hj.mono ?_); rintro e w5 ⟨ao, cp, rfl, hoj, hmj⟩; clear hj)))
    all_goals go_wp2_with fail
    all_goals go_meet
    all_goals refine ⟨ao, cp, rfl, rfl, ?_, ?_⟩
    all_goals first
      | (rw [← rows_138]; refine own_mono hoj (Mod.size (S := []) ?_); (repeat (first | with_reducible exact Mod.refl _ _ | with_reducible refine Mod.drew ?_ | with_reducible refine Mod.alloc ?_ _ | with_reducible refine Mod.then0 ?_ (by with_reducible assumption))); done)
      | (refine Mod.then0 ?_ hmj; (repeat (first | with_reducible exact Mod.refl _ _ | with_reducible refine Mod.drew ?_ | with_reducible refine Mod.alloc ?_ _ | with_reducible refine Mod.then0 ?_ (by with_reducible assumption))); done)
  case rest =>
    obtain ⟨ao, cp, rfl, rfl, ho, hm⟩ := hcut
    go_wp2
    go_ret2
    exact ⟨ao, cp, rfl, ho, hm⟩
end Go.Proofs.Ytfkhefoilancnaa
namespace Go.Proofs.Ytfkhefoilancnaa
open Go.RowKit
theorem info38f : (Try.prog.info? 38).map (fun i => (i.zero, i.size, i.bytes)) = some (some (.agg #[.int .i64 0, .bool false, .int .u8 0, .int .u64 0, .int .u32 0, .int .u32 0, .int .u32 0, .int .u32 0, .int .u32 0, .int .u32 0, .int .u32 0, .int .u32 0, .slice none 0 0]), 13, 80) := by kernel_rfl
set_option maxRecDepth 100000 in
set_option maxHeartbeats 4000000 in
theorem get20_short (w : World) (A : Option Addr) (n c : Nat) (hn : n < 48) : Calls Try.prog 26 #[.slice A n c] w fun e w' => e = .returned (.tuple #[.agg #[.int .i64 0, .bool false, .int .u8 0, .int .u64 0, .int .u32 0, .int .u32 0, .int .u32 0, .int .u32 0, .int .u32 0, .int .u32 0, .int .u32 0, .int .u32 0, .slice none 0 0], .int .i64 0, .int .i64 10]) ∧ Mod [] w w' := by
  have k1 : (n : Int) < 48 := by omega
  go_enter Try.func26, Try.ntmps26
  go_wp2
  have hA := blk_alloc w #[.int .i64 0, .bool false, .int .u8 0, .int .u64 0, .int .u32 0, .int .u32 0, .int .u32 0, .int .u32 0, .int .u32 0, .int .u32 0, .int .u32 0, .int .u32 0, .slice none 0 0] 38
  refine bodyPost_ret (res_cell_tmp_tmp _ _ w.heap.size 38 _ rfl hA Try.underlying38 info38 rfl) rfl ⟨rfl, (Mod.refl _ _).alloc _⟩
structure SplitPlan (l : List UInt8) (N : Nat) (pos : Nat → Nat) (ms : Nat → Ms) (dts : Nat → List UInt8) : Prop where
  zero : pos 0 = 0
  cut : ∀ j, j < N → l.drop (pos j) = (ms j).enc (dts j) ++ l.drop (pos (j + 1))
  next : ∀ j, j < N → pos (j + 1) = pos j + (48 + (ms j).dn + padN (ms j).dn)
  last : pos N = l.length
  le : ∀ j, j ≤ N → pos j ≤ l.length
  fit : ∀ j, j < N → (ms j).Fit
  dlen : ∀ j, j < N → (dts j).length = (ms j).dn
/-- Messages in memory. -/
def MsRow (w : World) (L : List Ms) (j : Nat) (ms : Nat → Ms) (dts : Nat → List UInt8) : Prop := L.length = j ∧ ∀ i, i < j → ∃ da dc, L[i]? = some { ms i with da := da, dc := dc } ∧ Rds w da (ms i).dn ((dts i).map By)
theorem MsRow.snoc {w w' : World} {L : List Ms} {j : Nat} {ms : Nat → Ms} {dts : Nat → List UInt8} (h : MsRow w L j ms dts) (hm : Mod [] w w') {da : Option Addr} {dc : Nat} (hr : Rds w' da (ms j).dn ((dts j).map By)) : MsRow w' (L ++ [{ ms j with da := da, dc := dc }]) (j + 1) ms dts := by
  obtain ⟨hl, hh⟩ := h
  refine ⟨by simp [hl], fun i hi => ?_⟩
  by_cases hij : i < j
  · obtain ⟨da', dc', h1, h2⟩ := hh i hij
    exact ⟨da', dc', by rw [List.getElem?_append_left (by omega)]; exact h1, h2.mod0 hm⟩
  · obtain rfl : i = j := by omega
    exact ⟨da, dc, by rw [List.getElem?_append_right (by omega)]; simp [hl], hr⟩
theorem MsRow.mod {S : List Nat} {w w' : World} {L : List Ms} {j : Nat} {ms : Nat → Ms} {dts : Nat → List UInt8} (h : MsRow w L j ms dts) (hm : Mod S w w') (ho : ∀ m, m ∈ L → Off S m.da m.dn) : MsRow w' L j ms dts := ⟨h.1, fun i hi => by
  obtain ⟨da, dc, h1, h2⟩ := h.2 i hi
  exact ⟨da, dc, h1, h2.mod hm (ho _ (List.mem_of_getElem? h1))⟩⟩
theorem MsRow.lt {w : World} {L : List Ms} {j : Nat} {ms : Nat → Ms} {dts : Nat → List UInt8} (h : MsRow w L j ms dts) : ∀ m, m ∈ L → ∀ a, m.da = some a → 0 < m.dn → a.block < w.heap.size := by
  intro m hm a ha h0
  obtain ⟨i, hi⟩ := List.getElem?_of_mem hm
  have hij : i < j := by
    have := (List.getElem?_eq_some_iff.1 hi).1
    have := h.1
    omega
  obtain ⟨da, dc, h1, h2⟩ := h.2 i hij
  rw [hi] at h1
  injection h1 with h1
  subst h1
  obtain ⟨b, off, e, hb, _⟩ := h2.2 h0
  have ha' : da = some a := ha
  rw [ha'] at e
  injection e with e
  subst e
  exact hb
theorem MsRow.mod0 {w w' : World} {L : List Ms} {j : Nat} {ms : Nat → Ms} {dts : Nat → List UInt8} (h : MsRow w L j ms dts) (hm : Mod [] w w') : MsRow w' L j ms dts := ⟨h.1, fun i hi => by
  obtain ⟨da, dc, h1, h2⟩ := h.2 i hi
  exact ⟨da, dc, h1, h2.mod0 hm⟩⟩
theorem Ms.cells_one (m : Ms) : ∀ u ∈ m.cells.toList, u.oneCell' = true := by
  intro u hu
  simp [Ms.cells] at hu
  rcases hu with h | h | h | h | h | h | h | h | h | h | h | h | h <;> subst h <;> rfl
def msCells (L : List Ms) : List Value := L.flatMap fun m => m.cells.toList
set_option maxRecDepth 100000 in
set_option maxHeartbeats 4000000 in
theorem split20_k (w : World) (A : Option Addr) (c : Nat) (l : List UInt8) (h : Rds w A l.length (l.map By)) (hA0 : 0 < l.length) (hc : l.length ≤ c) (hl : l.length ≤ 200000) (N : Nat) (pos : Nat → Nat) (ms : Nat → Ms) (dts : Nat → List UInt8) (hP : SplitPlan l N pos ms dts) :
    Calls Try.prog 16 #[.slice A l.length c] w fun e w' => ∃ ao cp L, e = .returned (.tuple #[.slice ao N cp, .int .i64 l.length, .int .i64 0]) ∧ w'.ownsRow w.heap.size 38 13 (.slice ao N cp) N (msCells L) ∧ MsRow w' L N ms dts ∧ Mod [] w w' := by
  obtain ⟨b, off, hA, _, _⟩ := h.2 hA0
  subst hA
  have hNl : N ≤ 200000 := by
    have h1 : ∀ j, j ≤ N → j ≤ pos j := by
      intro j
      induction j with
      | zero => intro _; omega
      | succ j ih =>
        intro hj
        have := ih (by omega)
        have := hP.next j (by omega)
        omega
    have := h1 N (Nat.le_refl _)
    have := hP.last
    omega
  go_enter Try.func16, Try.ntmps16
  go_wp2_with fail
  go_loopw [5, 6] (fun o at_ wr => ∃ (j : Nat) (ao : Option Addr) (cp : Nat) (L : List Ms), o = .slice ao j cp ∧ at_ = .int .i64 (pos j) ∧ j ≤ N ∧ wr.ownsRow w.heap.size 38 13 (.slice ao j cp) j (msCells L) ∧ MsRow wr L j ms dts ∧ (∀ m, m ∈ L → Off (Value.slice ao j cp).ownBlock.toList m.da m.dn) ∧ Mod [] w wr) (fun _ at_ _ => l.length - (intOf at_).toNat)
  case atStart => exact ⟨0, none, 0, [], rfl, by rw [hP.zero]; rfl, Nat.zero_le _, World.ownsRow_nil _ _ _ _, ⟨rfl, fun i hi => by omega⟩, by simp, Mod.refl _ _⟩
  case round =>
    obtain ⟨j, ao, cp, L, rfl, rfl, hj, ho, hM, hO, hm⟩ := hrel
    have hle := hP.le j hj
    obtain ⟨A', hA', hAb, hs⟩ := slice_lo b off l.length c (pos j) hle hc
    have hr1 : Rds wr A' (l.length - pos j) ((l.drop (pos j)).map By) := by
      rw [List.map_drop]
      exact (h.mod0 hm).drop hle (fun b' off' e hlt => by cases e; exact hA' (by omega))
    have r0 : (0 : Int) ≤ (pos j : Int) := by omega
    have r1 : (pos j : Int) ≤ (l.length : Int) := by omega
    by_cases hjN : j < N
    · have hcut := hP.cut j hjN
      have hnext := hP.next j hjN
      have hfit := hP.fit j hjN
      have hdl := hP.dlen j hjN
      have hle2 := hP.le (j + 1) (by omega)
      have henc := hfit.enc (dts j) hdl (l.drop (pos (j + 1)))
      have hdat := enc_data (ms j) (dts j) (l.drop (pos (j + 1))) hdl
      rw [← hcut] at henc hdat
      have hget := get20_k wr A' (l.length - pos j) (c - pos j) (l.drop (pos j)) hr1 (by omega) (by omega) _ _ _ _ _ henc
      rw [hdat] at hget
      have hgc : ∀ da dc, gotCells (ms j).op (ms j).fl (ms j).tag (fun i => (ms j).ws.getD i 0) 7 (.slice da (ms j).dn dc) = Ms.cells { ms j with da := da, dc := dc } := fun da dc => by
        simp only [Ms.cells, gotCells, Ms.ws, hfit.lun]
        rfl
      simp only [hgc, Ms.cells] at hget
      have hpos2 : (pos j : Int) + (48 + ((ms j).dn : Int) + (padN (ms j).dn : Int)) = (pos (j + 1) : Int) := by omega
      have hlt : pos j < pos (j + 1) := by omega
      have hps : pos (j + 1) ≤ 200000 := by omega
      have HP2 := Lib.hid hpos2
      clear hcut hnext henc hdat hgc hA' hAb hdl hpos2
      go_wp2_with fail
      with_reducible refine hget.mono ?_
      rintro e w2 ⟨da, dc, rfl, hda, hdaf, hm2⟩
      clear hget hs hr1
      have hm3 : Mod [] wr (w2.alloc (.cells #[.int .i64 (ms j).op, .bool false, .int .u8 (ms j).fl, .int .u64 (ms j).lun, .int .u32 (ms j).tag, .int .u32 (ms j).w0, .int .u32 (ms j).w1, .int .u32 (ms j).w2, .int .u32 (ms j).w3, .int .u32 (ms j).w4, .int .u32 (ms j).w5, .int .u32 (ms j).w6, .slice da (ms j).dn dc] 38)) := hm2.alloc _
      have ho3 := hm3.own0 ho
      have hbV := blk_alloc w2 #[.int .i64 (ms j).op, .bool false, .int .u8 (ms j).fl, .int .u64 (ms j).lun, .int .u32 (ms j).tag, .int .u32 (ms j).w0, .int .u32 (ms j).w1, .int .u32 (ms j).w2, .int .u32 (ms j).w3, .int .u32 (ms j).w4, .int .u32 (ms j).w5, .int .u32 (ms j).w6, .slice da (ms j).dn dc] 38
      have hda3 := hda.mod0 ((Mod.refl [] w2).alloc (.cells #[.int .i64 (ms j).op, .bool false, .int .u8 (ms j).fl, .int .u64 (ms j).lun, .int .u32 (ms j).tag, .int .u32 (ms j).w0, .int .u32 (ms j).w1, .int .u32 (ms j).w2, .int .u32 (ms j).w3, .int .u32 (ms j).w4, .int .u32 (ms j).w5, .int .u32 (ms j).w6, .slice da (ms j).dn dc] 38))
      have hsz := (hm.then0 hm3).size
      have hdn := hfit.dn
      have hpd : padN (ms j).dn < 4 := by unfold padN; omega
      go_upto_region 4 with fail
      generalize w2.heap.size = nb at hbV ⊢
      generalize World.alloc w2 _ = V at hbV ho3 hda3 hm3 hsz ⊢
      have y0 : V.cell? ⟨nb, 0, none⟩ = some (.int .i64 (ms j).op) := blk_cell hbV rfl
      have y1 : V.cell? ⟨nb, 1, none⟩ = some (.bool false) := blk_cell hbV rfl
      have y2 : V.cell? ⟨nb, 2, none⟩ = some (.int .u8 (ms j).fl) := blk_cell hbV rfl
      have y3 : V.cell? ⟨nb, 3, none⟩ = some (.int .u64 (ms j).lun) := blk_cell hbV rfl
      have y4 : V.cell? ⟨nb, 4, none⟩ = some (.int .u32 (ms j).tag) := blk_cell hbV rfl
      have y5 : V.cell? ⟨nb, 5, none⟩ = some (.int .u32 (ms j).w0) := blk_cell hbV rfl
      have y6 : V.cell? ⟨nb, 6, none⟩ = some (.int .u32 (ms j).w1) := blk_cell hbV rfl
      have y7 : V.cell? ⟨nb, 7, none⟩ = some (.int .u32 (ms j).w2) := blk_cell hbV rfl
      have y8 : V.cell? ⟨nb, 8, none⟩ = some (.int .u32 (ms j).w3) := blk_cell hbV rfl
      have y9 : V.cell? ⟨nb, 9, none⟩ = some (.int .u32 (ms j).w4) := blk_cell hbV rfl
      have y10 : V.cell? ⟨nb, 10, none⟩ = some (.int .u32 (ms j).w5) := blk_cell hbV rfl
      have y11 : V.cell? ⟨nb, 11, none⟩ = some (.int .u32 (ms j).w6) := blk_cell hbV rfl
      have y12 : V.cell? ⟨nb, 12, none⟩ = some (.slice da (ms j).dn dc) := blk_cell hbV rfl
      have zb := blk_lt hbV
      go_wp2_with (at_builtin; refine wpList_pushF (V.alloc (.cells #[.int .i64 (ms j).op, .bool false, .int .u8 (ms j).fl, .int .u64 (ms j).lun, .int .u32 (ms j).tag, .int .u32 (ms j).w0, .int .u32 (ms j).w1, .int .u32 (ms j).w2, .int .u32 (ms j).w3, .int .u32 (ms j).w4, .int .u32 (ms j).w5, .int .u32 (ms j).w6, .slice da (ms j).dn dc] 38)) rfl (.tmp 24) (.tmp 26) 50 rfl w.heap.size 38 _ 13 80 Try.underlying50 info38f rfl (by decide) (by decide) (.slice ao j cp) j (msCells L) rfl (ho3.alloc _) #[.int .i64 (ms j).op, .bool false, .int .u8 (ms j).fl, .int .u64 (ms j).lun, .int .u32 (ms j).tag, .int .u32 (ms j).w0, .int .u32 (ms j).w1, .int .u32 (ms j).w2, .int .u32 (ms j).w3, .int .u32 (ms j).w4, .int .u32 (ms j).w5, .int .u32 (ms j).w6, .slice da (ms j).dn dc] V.heap.size 1 1 rfl (blk_alloc _ _ _) rfl (Ms.cells_one { ms j with da := da, dc := dc }) (by omega) (by simp; omega) ?_)
      intro a4 c4 V4 ho4 hm4 hf4
      have hVA : Mod [] V (V.alloc (.cells #[.int .i64 (ms j).op, .bool false, .int .u8 (ms j).fl, .int .u64 (ms j).lun, .int .u32 (ms j).tag, .int .u32 (ms j).w0, .int .u32 (ms j).w1, .int .u32 (ms j).w2, .int .u32 (ms j).w3, .int .u32 (ms j).w4, .int .u32 (ms j).w5, .int .u32 (ms j).w6, .slice da (ms j).dn dc] 38)) := (Mod.refl _ _).alloc _
      have hge := own_ge ho
      have hwz := hm3.size
      have hm5 : Mod [] w V4 := ((hm.then0 hm3).then0 hVA).trans hm4 (fun t ht => .inr (hge t ht).1)
      have hOn : ∀ m, m ∈ L ++ [{ ms j with da := da, dc := dc }] → Off (Value.slice ao j cp).ownBlock.toList m.da m.dn := by
        intro m hmm
        rcases List.mem_append.1 hmm with h1 | h1
        · exact hO m h1
        · simp at h1
          subst h1
          intro a ha _ hin
          have h2 := hdaf a ha
          have h3 := (hge a.block hin).2
          omega
      have hMV : MsRow V (L ++ [{ ms j with da := da, dc := dc }]) (j + 1) ms dts := hM.snoc hm3 hda3
      have hM4 : MsRow V4 (L ++ [{ ms j with da := da, dc := dc }]) (j + 1) ms dts := (hMV.mod0 hVA).mod hm4 hOn
      have hO4 : ∀ m, m ∈ L ++ [{ ms j with da := da, dc := dc }] → Off (Value.slice a4 (j + 1) c4).ownBlock.toList m.da m.dn := by
        intro m hmm a ha h0 hin
        have h1 : (Value.slice a4 (j + 1) c4).ownBlock = some a.block := by simpa using hin
        rcases hf4 a.block h1 with h2 | h2
        · exact hOn m hmm a ha h0 (by rw [h2]; simp)
        · have h3 := hMV.lt m hmm a ha h0
          have h4 := hVA.size
          omega
      have ho5 : V4.ownsRow w.heap.size 38 13 (.slice a4 (j + 1) c4) (j + 1) (msCells (L ++ [{ ms j with da := da, dc := dc }])) := by
        have e1 : msCells (L ++ [{ ms j with da := da, dc := dc }]) = msCells L ++ (#[Value.int .i64 (ms j).op, .bool false, .int .u8 (ms j).fl, .int .u64 (ms j).lun, .int .u32 (ms j).tag, .int .u32 (ms j).w0, .int .u32 (ms j).w1, .int .u32 (ms j).w2, .int .u32 (ms j).w3, .int .u32 (ms j).w4, .int .u32 (ms j).w5, .int .u32 (ms j).w6, .slice da (ms j).dn dc] : Array Value).toList := by
          simp [msCells, Ms.cells]
        rw [e1]
        exact ho4
      clear y0 y1 y2 y3 y4 y5 y6 y7 y8 y9 y10 y11 y12 zb ho3 ho4 hm4 hbV hda3 hm3 hM ho hda hm2 hf4 hVA hge hwz hOn hMV hO hdaf
      have hl1 : pos (j + 1) - pos j = 48 + (ms j).dn + padN (ms j).dn := by have := HP2.out; omega
      have HL1 := Lib.hid hl1
      clear hl1
      go_wp2
      go_roundw
      · exact ⟨j + 1, a4, c4, _, rfl, by rw [← HP2.out], by omega, ho5, hM4, hO4, hm5⟩
      · have := HP2.out
        simp [intOf]; omega
    · obtain rfl : j = N := by omega
      have hz : l.length - pos j = 0 := by rw [hP.last]; omega
      have hget := get20_short wr A' (l.length - pos j) (c - pos j) (by omega)
      have hlast := hP.last
      have HLA := Lib.hid hlast
      clear hz hlast
      go_wp2_with fail
      with_reducible refine hget.mono ?_
      rintro e w2 ⟨rfl, hm2⟩
      have hm3 := hm2.alloc (.cells #[.int .i64 0, .bool false, .int .u8 0, .int .u64 0, .int .u32 0, .int .u32 0, .int .u32 0, .int .u32 0, .int .u32 0, .int .u32 0, .int .u32 0, .int .u32 0, .slice none 0 0] 38)
      clear hget hs hr1
      go_wp2
      go_ret3
      exact ⟨ao, cp, L, by rw [← HLA.out]; rfl, hm3.own0 ho, hM.mod0 hm3, hm.then0 hm3⟩
end Go.Proofs.Ytfkhefoilancnaa
namespace Go.Proofs.Ytfkhefoilancnaa
open Go.RowKit
set_option maxRecDepth 100000 in
set_option maxHeartbeats 4000000 in
theorem still_k (w : World) (d : Nat) (G : Gh) (hD : DeskAt sh1 w d G) (v : Bool) (hv : v = true ↔ ∀ i, i < 3 → ∀ x, x < 256 → G.vol i x = 0) :
    Calls Try.prog 24 #[.pointer (some ⟨d, 0, none⟩)] w fun e w' => e = .returned (.bool v) ∧ Mod [] w w' := by
  have HV := Lib.hid hv
  clear hv
  go_enter Try.func24, Try.ntmps24
  go_wp2_with fail
  go_loopw [3] (fun i wr => ∃ k : Nat, i = .int .i64 k ∧ k ≤ 3 ∧ (∀ j, j < k → ∀ x, x < 256 → G.vol j x = 0) ∧ Mod [] w wr) (fun i _ => 3 - (intOf i).toNat)
  case atStart => exact ⟨0, rfl, by omega, fun j hj => by omega, Mod.refl _ _⟩
  case round =>
    obtain ⟨k, rfl, hk, hz, hm⟩ := hrel
    have HZ := Lib.hid hz
    clear hz
    by_cases hk3 : k < 3
    · have r1 : (k : Int) < 3 := by omega
      have hDr := hD.mod0 hm
      obtain ⟨g, hg⟩ : ∃ g, G.gs[k]? = some g := ⟨_, List.getElem?_eq_getElem (by rw [hD.len]; exact hk3)⟩
      go_wp2_with fail
      refine (chunk_k sh1 wr d G hDr k g hg (by decide) (by decide)).mono ?_
      rintro e w1 ⟨ca, cc, rfl, ho, hm1⟩
      rw [show sh1.n = 256 from rfl] at ho ⊢
      obtain ⟨b, rfl, _, _, _⟩ := own_block ho (by decide)
      have hr := Rds.own ho
      have hm2 := hm.then0 hm1
      clear hg ho hm1 hDr
      go_wp2_with fail
      go_loopw [5] (fun i wr => ∃ x : Nat, i = .int .i64 x ∧ x ≤ 256 ∧ (∀ y, y < x → G.vol k y = 0) ∧ Rds wr (some ⟨b, 0, none⟩) 256 (rowOf 256 (G.vol k)) ∧ Mod [] w wr) (fun i _ => 256 - (intOf i).toNat)
      case atStart => exact ⟨0, rfl, by omega, fun y hy => by omega, hr, hm2⟩
      case round =>
        obtain ⟨x, rfl, hx, hzx, hrx, hmx⟩ := hrel
        have HZX := Lib.hid hzx
        clear hzx hr hm2 hm
        by_cases hx2 : x < 256
        · have r2 : (x : Int) < 256 := by omega
          obtain ⟨b', off', e1, hb', hc⟩ := hrx.2 (by decide)
          injection e1 with e1
          injection e1 with e1 e2
          subst e1 e2
          have hcx := hc x (By (G.vol k x)) (by rw [rowOf_get, if_pos hx2])
          rw [Nat.zero_add, By_def] at hcx
          clear hc
          by_cases h0 : G.vol k x = 0
          · rw [h0] at hcx
            have h00 : (((0 : UInt8).toNat : Nat) : Int) = 0 := rfl
            rw [h00] at hcx
            have H0 := Lib.hid h0
            clear h0 h00
            go_wp2
            go_roundw
            · refine ⟨x + 1, by go_num, by omega, fun y hy => ?_, hrx, hmx⟩
              by_cases hyx : y = x
              · rw [hyx]; exact H0.out
              · exact HZX.out y (by omega)
            · simp [intOf]; omega
          · have hne : ¬ ((G.vol k x).toNat : Int) = 0 := by
              intro h1
              apply h0
              apply UInt8.toNat_inj.1
              have : (0 : UInt8).toNat = 0 := rfl
              omega
            have hvf : v = false := by
              cases v
              · rfl
              · exact absurd (HV.out.1 rfl k hk3 x hx2) h0
            subst hvf
            clear h0
            go_wp2
            go_ret
            exact ⟨rfl, hmx⟩
        · obtain rfl : x = 256 := by omega
          go_wp2
          go_roundw
          · refine ⟨k + 1, by go_num, by omega, fun j hj => ?_, hmx⟩
            by_cases hjk : j = k
            · rw [hjk]; exact HZX.out
            · exact HZ.out j (by omega)
          · simp [intOf]; omega
    · obtain rfl : k = 3 := by omega
      have hvt : v = true := HV.out.2 HZ.out
      subst hvt
      go_wp2
      go_ret
      exact ⟨rfl, hm⟩
end Go.Proofs.Ytfkhefoilancnaa
namespace Go.Proofs.Ytfkhefoilancnaa
open Go.RowKit
theorem or1_all : ∀ f : Fin 256, bits .or .u8 ((f.val : Nat) : Int) 1 = (((UInt8.ofNat f.val) ||| 1).toNat : Int) ∧ UInt8.ofNat f.val ||| 1 ≠ 0 := by decide +kernel
theorem or1 (f : UInt8) : bits .or .u8 (f.toNat : Int) 1 = ((f ||| 1).toNat : Int) ∧ f ||| 1 ≠ 0 := by
  have h := or1_all ⟨f.toNat, UInt8.toNat_lt f⟩
  simpa using h
theorem writeMs_len (tag x : Nat) (da : Option Addr) (dc : Nat) : 48 + (writeMs tag x da dc).dn + padN (writeMs tag x da dc).dn = 112 := by simp [writeMs, padN]
/-- A new desk, in the words of Kn. -/
theorem pack_new {name : ByteArray} {w w6 w7 : World} (hw : Mod [] w w6) {d h cap : Nat} {gs : List Nat} (hD : DeskAt sh1 w7 d ⟨h, cap, gs, name, fun _ _ => 0, 0, none, 0, [], 0⟩) (hm : Mod [] w6 w7) (hfr : ∀ t, t ∈ d :: h :: gs → w6.heap.size ≤ t) :
    ∃ G, New1 G ∧ ZeroV G.vol ∧ Below1 w w7.heap.size G ∧ Kn sh1 w w7 w7.heap.size d G ∧ ∀ t, t ∈ d :: G.gs → w6.heap.size ≤ t := by
  refine ⟨_, ⟨rfl, rfl, rfl, fun _ => rfl, hD.len⟩, fun _ _ _ _ => rfl, ⟨(by obtain ⟨cur, hc⟩ := hD.headBlk; exact blk_lt hc), rfl, (hw.then0 hm).size⟩, ⟨hD, hw.then0 hm, fun t ht => Nat.le_trans hw.size (hfr t ht), fun t ht => ?_, Nat.le_refl _⟩, fun t ht => hfr t ?_⟩
  · rcases List.mem_cons.1 ht with e | e
    · rw [e]; exact blk_lt hD.desk
    · obtain ⟨i, _, hc⟩ := hD.gs_chunk e
      exact blk_lt hc
  · rcases List.mem_cons.1 ht with e | e
    · simp [e]
    · exact List.mem_cons_of_mem _ (List.mem_cons_of_mem _ e)
/-- The message of a login that names nobody. -/
def nameMs (tag : Nat) (da : Option Addr) (dc : Nat) : Ms := ⟨3, 0, 0, tag, 0, 0, 0, 0, 0, 0, 0, da, 7, dc⟩
theorem nameMs_fit (tag : Nat) (ht : tag < 4294967296) (da : Option Addr) (dc : Nat) : (nameMs tag da dc).Fit := ⟨by simp [nameMs, opsL], by simp [nameMs], rfl, by simpa [nameMs] using ht, by simp [nameMs], by simp [nameMs, Ms.ws]⟩
theorem nameMs_len (tag : Nat) (da : Option Addr) (dc : Nat) : 48 + (nameMs tag da dc).dn + padN (nameMs tag da dc).dn = 56 := by simp [nameMs, padN]
theorem oneText_n (A : Option Addr) (c : Nat) : OneText A 7 c nameN ⟨#[78, 97, 109, 101]⟩ ⟨#[97]⟩ := fun w h => texts_n w A c h
theorem bad1_fit (tag : Nat) (ht : tag < 4294967296) : (badBack tag 1).Fit := ⟨by simp [badBack, opsL], by simp [badBack], rfl, by simpa [badBack] using ht, by simp [badBack], by simp [badBack, Ms.ws]⟩
/-- The message of a logout. -/
def byeMs (tag : Nat) : Ms := ⟨6, 0, 0, tag, 0, 0, 0, 0, 0, 0, 0, none, 0, 0⟩
theorem byeMs_fit (tag : Nat) (ht : tag < 4294967296) : (byeMs tag).Fit := ⟨by simp [byeMs, opsL], by simp [byeMs], rfl, by simpa [byeMs] using ht, by simp [byeMs], by simp [byeMs, Ms.ws]⟩
theorem badOut_len (tag k : Nat) : (badOut tag k).length = 48 := by
  rw [badOut, enc_len _ _ (show ([] : List UInt8).length = (badBack tag k).dn from rfl)]
  simp [badBack, padN]
theorem byeMs_len (tag : Nat) : 48 + (byeMs tag).dn + padN (byeMs tag).dn = 48 := by simp [byeMs, padN]
theorem statusOk_len (tag k : Nat) : (statusOk tag k).length = 48 := by
  rw [statusOk, enc_len _ _ (show ([] : List UInt8).length = (statusMs tag k 0 none 0 0).dn from rfl)]
  simp [statusMs, padN]
theorem byeOut_len (tag k : Nat) : (byeOut tag k).length = 48 := by
  rw [byeOut, enc_len _ _ (show ([] : List UInt8).length = (byeBack tag k).dn from rfl)]
  simp [byeBack, padN]
theorem loginOut_len (tag k : Nat) : (loginOut tag k).length = 72 := by
  rw [loginOut, enc_len _ _ (show tpgt.length = (loginBack tag k none 0).dn from rfl)]
  simp [loginBack, padN]
/-- What comes out of a login, a command, a logout. -/
def logOut3 (tag : Nat) : List UInt8 := loginOut 1 1 ++ statusOk tag 2 ++ byeOut tag 3
theorem logOut3_len (tag : Nat) : (logOut3 tag).length = 168 := by
  rw [logOut3, List.length_append, List.length_append, loginOut_len, statusOk_len, byeOut_len]
def logPos (j : Nat) : Nat := match j with
  | 0 => 0
  | 1 => 72
  | 2 => 120
  | _ => 168
def logMs (tag j : Nat) : Ms := match j with
  | 0 => loginBack 1 1 none 0
  | 1 => statusMs tag 2 0 none 0 0
  | _ => byeBack tag 3
def logDt (j : Nat) : List UInt8 := match j with
  | 0 => tpgt
  | _ => []
theorem log_split (tag : Nat) (ht : tag < 4294967296) : SplitPlan (logOut3 tag) 3 logPos (logMs tag) logDt := by
  have z : ∀ j : Nat, j < 3 → j = 0 ∨ j = 1 ∨ j = 2 := fun j h => by omega
  have z4 : ∀ j : Nat, j ≤ 3 → j = 0 ∨ j = 1 ∨ j = 2 ∨ j = 3 := fun j h => by omega
  have l1 := loginOut_len 1 1
  have l2 := statusOk_len tag 2
  have l3 := byeOut_len tag 3
  have d1 : (logOut3 tag).drop 72 = statusOk tag 2 ++ byeOut tag 3 := by
    rw [logOut3, List.append_assoc, List.drop_append_of_le_length (by omega), List.drop_of_length_le (by omega)]
    rfl
  have d2 : (logOut3 tag).drop 120 = byeOut tag 3 := by
    rw [logOut3, List.drop_append_of_le_length (by rw [List.length_append]; omega), List.drop_of_length_le (by rw [List.length_append]; omega)]
    rfl
  have d3 : (logOut3 tag).drop 168 = [] := List.drop_of_length_le (by rw [logOut3_len]; exact Nat.le_refl _)
  refine ⟨rfl, ?_, ?_, (logOut3_len tag).symm, ?_, ?_, ?_⟩
  · intro j hj
    rcases z j hj with rfl | rfl | rfl
    · show (logOut3 tag).drop 0 = loginOut 1 1 ++ (logOut3 tag).drop 72
      rw [d1, List.drop_zero, logOut3, List.append_assoc]
    · show (logOut3 tag).drop 72 = statusOk tag 2 ++ (logOut3 tag).drop 120
      rw [d1, d2]
    · show (logOut3 tag).drop 120 = byeOut tag 3 ++ (logOut3 tag).drop 168
      rw [d2, d3, List.append_nil]
  · intro j hj
    rcases z j hj with rfl | rfl | rfl
    · simp [logPos, logMs, loginBack, padN]
    · simp [logPos, logMs, statusMs, padN]
    · simp [logPos, logMs, byeBack, padN]
  · intro j hj
    rw [logOut3_len]
    rcases z4 j hj with rfl | rfl | rfl | rfl <;> simp [logPos]
  · intro j hj
    rcases z j hj with rfl | rfl | rfl
    · exact loginBack_fit 1 1 (by decide) (by decide) none 0
    · exact ⟨by simp [logMs, statusMs, opsL], by simp [logMs, statusMs], rfl, by simpa [logMs, statusMs] using ht, by simp [logMs, statusMs], by simp [logMs, statusMs, Ms.ws]⟩
    · exact ⟨by simp [logMs, byeBack, opsL], by simp [logMs, byeBack], rfl, by simpa [logMs, byeBack] using ht, by simp [logMs, byeBack], by simp [logMs, byeBack, Ms.ws]⟩
  · intro j hj
    rcases z j hj with rfl | rfl | rfl <;> rfl
theorem own_cap {w : World} {base : Nat} {e : TypeId} {size : Nat} {ao : Option Addr} {cp n : Nat} {xs : List Value} (h : w.ownsRow base e size (.slice ao n cp) n xs) : n ≤ cp := by
  rcases h.2 with ⟨h1, h2⟩ | ⟨g, cap, cur, h1, _, _, hc1, _⟩
  · omega
  · injection h1 with _ _ h3
    omega
/-- The message as it is filled: k of its words. -/
def wmCells (tag : Nat) (ws : Nat → Nat) (k : Nat) (d : Value) : Array Value := #[.int .i64 1, .bool false, .int .u8 0, .int .u64 0, .int .u32 tag, .int .u32 0, .int .u32 0, .int .u32 0, .int .u32 ((if 0 < k then ws 0 else 0 : Nat) : Int), .int .u32 ((if 1 < k then ws 1 else 0 : Nat) : Int), .int .u32 ((if 2 < k then ws 2 else 0 : Nat) : Int), .int .u32 ((if 3 < k then ws 3 else 0 : Nat) : Int), d]
theorem wm_cell {w : World} {g tag : Nat} {ws : Nat → Nat} {k : Nat} {d : Value} (h : w.heap[g]? = some (.cells (wmCells tag ws k d) 38 (0, 0))) (hk : k < 4) : w.cell? ⟨g, 8 + k, none⟩ = some (.int .u32 0) := by
  refine blk_cell h ?_
  match k, hk with
  | 0, _ => rfl
  | 1, _ => rfl
  | 2, _ => rfl
  | 3, _ => rfl
theorem wm_set {w : World} {g tag : Nat} {ws : Nat → Nat} {k : Nat} {d : Value} (h : w.heap[g]? = some (.cells (wmCells tag ws k d) 38 (0, 0))) (hk : k < 4) : (w.setCell ⟨g, 8 + k, none⟩ (.int .u32 (ws k))).heap[g]? = some (.cells (wmCells tag ws (k + 1) d) 38 (0, 0)) := by
  rw [heap_setCell_same w g (8 + k) _ 38 _ h]
  match k, hk with
  | 0, _ => rfl
  | 1, _ => rfl
  | 2, _ => rfl
  | 3, _ => rfl
set_option maxRecDepth 100000 in
set_option maxHeartbeats 4000000 in
theorem deskLogin_walk (q : AC) (tag : Nat) (htag : tag < 4294967296) (w : World) : Calls Try.prog 5 #[.agg #[.int .i64 q.op, .int .u64 q.lba, .int .i64 q.cnt, .int .i64 q.room, .int .i64 q.n, By q.fl], .int .u32 tag] w fun e w' => e = .returned (.bool true) ∧ Mod [] w w' := by
  rw [By_def]
  have hb0 := blk_alloc w #[.int .i64 q.op, .int .u64 q.lba, .int .i64 q.cnt, .int .i64 q.room, .int .i64 q.n, .int .u8 (q.fl.toNat : Int)] 65
  have hm0 : Mod [] w (w.alloc (.cells #[.int .i64 q.op, .int .u64 q.lba, .int .i64 q.cnt, .int .i64 q.room, .int .i64 q.n, .int .u8 (q.fl.toNat : Int)] 65)) := (Mod.refl _ _).alloc _
  go_enter Try.func5, Try.ntmps5
  go_wp2_with fail
  generalize World.alloc w _ = X at hb0 hm0 ⊢
  refine (shape_k _).mono ?_
  rintro e w1 ⟨rfl, hm1⟩
  go_wp2_with fail
  refine (new_1 ⟨#[100, 105, 115, 107]⟩ _).mono ?_
  rintro e w2 ⟨d, h, cap, gs, rfl, hD2, hm2, hfr⟩
  have hK2 : ∃ G, New1 G ∧ ZeroV G.vol ∧ Below1 w w2.heap.size G ∧ Kn sh1 w w2 w2.heap.size d G := by
    refine ⟨_, ⟨rfl, rfl, rfl, fun _ => rfl, hD2.len⟩, fun _ _ _ _ => rfl, ⟨(by obtain ⟨cur, hc⟩ := hD2.headBlk; exact blk_lt hc), rfl, ((hm0.then0 hm1).then0 hm2).size⟩, hD2, (hm0.then0 hm1).then0 hm2, fun t ht => Nat.le_trans (hm0.then0 hm1).size (hfr t ht), fun t ht => ?_, Nat.le_refl _⟩
    rcases List.mem_cons.1 ht with e | e
    · rw [e]; exact blk_lt hD2.desk
    · obtain ⟨i, _, hc⟩ := hD2.gs_chunk e
      exact blk_lt hc
  have hb2 := (hm1.then0 hm2).blk hb0 (by simp)
  clear hD2 hm1 hm2 hfr hb0 hm0
  obtain ⟨G, hN, hZ, hBl, hK2⟩ := hK2
  generalize hNN : w2.heap.size = N at hK2 hBl
  clear hNN
  obtain ⟨hor, hor0⟩ := or1 q.fl
  have x5 : w2.cell? ⟨w.heap.size, 5, none⟩ = some (.int .u8 (q.fl.toNat : Int)) := blk_cell hb2 rfl
  have x1 : w2.cell? ⟨w.heap.size, 1, none⟩ = some (.int .u64 q.lba) := blk_cell hb2 rfl
  have zx := blk_lt hb2
  generalize q.fl ||| 1 = u at hor hor0
  have hu : u.toNat < 256 := UInt8.toNat_lt _
  go_wp2_with fail
  have hdat := data_k u 64 (by decide) 0 0 0 0 w2
  rw [By_def] at hdat
  refine hdat.mono ?_
  rintro e w3 ⟨da, dc, rfl, ho3, hm3⟩
  clear hdat
  have hK3 := hK2.mod0 hm3
  have hb3 := hm3.blk hb2 (by simp)
  have hAV : Mod [] w3 (w3.alloc (.cells #[.int .i64 1, .bool false, .int .u8 0, .int .u64 0, .int .u32 tag, .int .u32 0, .int .u32 0, .int .u32 0, .int .u32 0, .int .u32 0, .int .u32 0, .int .u32 0, .slice da 64 dc] 38)) := (Mod.refl _ _).alloc _
  have hKV := hK3.mod0 hAV
  have hbV := hAV.blk hb3 (by simp)
  have hbM := blk_alloc w3 #[.int .i64 1, .bool false, .int .u8 0, .int .u64 0, .int .u32 tag, .int .u32 0, .int .u32 0, .int .u32 0, .int .u32 0, .int .u32 0, .int .u32 0, .int .u32 0, .slice da 64 dc] 38
  have hDR := (Rds.own ho3).mod0 hAV
  have hdc : 64 ≤ dc := by
    rcases ho3.2 with ⟨_, h2⟩ | ⟨g, cap, cur, h1, _, _, hc1, _⟩
    · omega
    · injection h1 with _ _ h3
      omega
  have hNm : N ≤ w3.heap.size := hK3.size
  have hda : ∀ a, da = some a → a.block < w3.heap.size := fun a ha => (own_ge ho3 a.block (by rw [ha]; simp [Value.ownBlock])).2
  clear ho3 hm3 hK3 hb3 hAV x5 x1 zx hb2 hK2 hu
  go_upto_region 5 with fail
  generalize hmb : w3.heap.size = mb at hbM hNm hda ⊢
  generalize World.alloc w3 _ = V at hKV hbV hbM hDR ⊢
  clear hmb hor
  have x1 : V.cell? ⟨w.heap.size, 1, none⟩ = some (.int .u64 q.lba) := blk_cell hbV rfl
  have zx := blk_lt hbV
  go_wp2_with fail
  have ex : ((q.lba : Int) % 12) = ((q.lba % 12 : Nat) : Int) := by omega
  rw [ex]
  clear ex x1 zx
  have hx12 : q.lba % 12 < 12 := Nat.mod_lt _ (by omega)
  generalize q.lba % 12 = x at hx12 ⊢
  refine (rprint_42 x 1 (by omega) (by omega) V).mono ?_
  rintro e V1 ⟨pa, pc, rfl, hop, hm1⟩
  have hK1 := hKV.mod0 hm1
  have hb1 := hm1.blk hbM (by simp)
  have hD1 := hDR.mod0 hm1
  have hP1 := Rds.own hop
  have hpc : 16 ≤ pc := by
    rcases hop.2 with ⟨_, h2⟩ | ⟨g, cap, cur, h1, _, _, hc1, _⟩
    · omega
    · injection h1 with _ _ h3
      omega
  have hpl := prn_len 42 2 4 7 2 x 1
  have hpa : ∀ a, pa = some a → mb < a.block := fun a ha => by
    have h1 := (own_ge hop a.block (by rw [ha]; simp [Value.ownBlock])).1
    have := blk_lt hbM
    omega
  clear hKV hbV hbM hDR hop hm1
  obtain ⟨ws, hws⟩ : ∃ ws : Nat → Nat, ws = fun k => W32 (prn 42 2 4 7 2 x 1) (4 * k) := ⟨_, rfl⟩
  replace hws := Lib.hid hws
  have hpl' := Lib.hid hpl
  generalize hpr : prn 42 2 4 7 2 x 1 = P at hP1 hpl
  replace hpr := Lib.hid hpr
  replace hpl := Lib.hid hpl
  go_wp2_with fail
  go_loopw [10] (fun i wr => ∃ k : Nat, i = .int .i64 k ∧ k ≤ 4 ∧ Kn sh1 w wr N d G ∧ wr.heap[mb]? = some (.cells (wmCells tag ws k (.slice da 64 dc)) 38 (0, 0)) ∧ Rds wr da 64 (((List.range 64).map (fillD u)).map By) ∧ Rds wr pa 16 (P.map By)) (fun i _ => 4 - (intOf i).toNat)
  case atStart => exact ⟨0, rfl, by omega, hK1, hb1, hD1, hP1⟩
  case round =>
    obtain ⟨k, rfl, hk, hKr, hbr, hDr, hPr⟩ := hrel
    clear hK1 hb1 hD1 hP1
    have r1 : (k : Int) ≤ 4 := by omega
    have z1 := blk_lt hbr
    by_cases hk4 : k < 4
    · have r2 : (k : Int) < 4 := by omega
      obtain ⟨pb, po, hpa, _, _⟩ := hPr.2 (by decide)
      subst hpa
      obtain ⟨A1, hA1, hs1⟩ := slice_32 pb po 16 pc (4 * k) 4 (by omega)
      obtain rfl := hA1 (by decide)
      clear hA1
      have i1 : ((4 * k : Nat) : Int) = 4 * (k : Int) := by omega
      have i2 : ((4 * k + 4 : Nat) : Int) = 4 * (k : Int) + 4 := by omega
      rw [i1, i2] at hs1
      clear i1 i2
      have hwk := get19_k (some ⟨pb, po + 4 * k, none⟩) 4 (pc - 4 * k) _ wr (hPr.cut (a := 4 * k) (fun _ => rfl) (by omega)) (by omega)
      have hwlt := W32_lt P (4 * k)
      have hwe : W32 P (4 * k) = ws k := by rw [hws.out, hpr.out]
      rw [num4 P (4 * k) (by have := hpl.out; omega), hwe] at hwk
      rw [hwe] at hwlt
      clear hwe
      have w0 : IntKind.u32.wrap (ws k : Int) = (ws k : Int) := wraps_u32 _ (by omega) (by omega)
      have w1 : IntKind.i64.wrap (4 * (k : Int)) = 4 * (k : Int) := IntWalk.i64_in _ (by omega)
      have w2 : IntKind.i64.wrap (4 * (k : Int) + 4) = 4 * (k : Int) + 4 := IntWalk.i64_in _ (by omega)
      have w3 : IntKind.i64.wrap (3 + (k : Int)) = 3 + (k : Int) := IntWalk.i64_in _ (by omega)
      have w4 : (3 + (k : Int)).toNat = 3 + k := by omega
      have w5 : (0 : Int) ≤ 3 + (k : Int) := by omega
      have w6 : 3 + (k : Int) < 7 := by omega
      have c1 := wm_cell hbr hk4
      have e8 : 5 + (3 + k) = 8 + k := by omega
      rw [← e8] at c1
      have f1 := blk_frozen hbr (5 + (3 + k))
      go_wp2_with fail
      with_reducible refine hwk.mono ?_
      rintro e w7 ⟨rfl, hw⟩
      obtain rfl := hw.symm
      have hbn := wm_set hbr hk4
      have hmn := mod_set1 wr mb (8 + k) (.int .u32 (ws k : Int))
      rw [← e8] at hbn hmn
      have hKn : Kn sh1 w (wr.setCell ⟨mb, 5 + (3 + k), none⟩ (.int .u32 (ws k : Int))) N d G := hKr.high hBl hmn (fun t ht => by simp at ht; omega)
      have hDn := hDr.mod hmn (fun a ha _ hin => by have := hda a ha; simp at hin; omega)
      have hPn := hPr.mod hmn (fun a ha _ hin => by have := hpa a ha; simp at hin; omega)
      clear hwk hs1 e8
      go_wp2
      go_roundw
      · exact ⟨k + 1, by go_num, by omega, hKn, hbn, hDn, hPn⟩
      · simp [intOf]; omega
    · obtain rfl : k = 4 := by omega
      clear hk4 hk r1
      have hput := put20_k (writeMs tag x da dc) (writeMs_fit tag x htag da dc) ((List.range 64).map (fillD u)) wr hDr
      rw [writeMs_len] at hput
      have y0 : wr.cell? ⟨mb, 0, none⟩ = some (.int .i64 1) := blk_cell hbr rfl
      have y1 : wr.cell? ⟨mb, 1, none⟩ = some (.bool false) := blk_cell hbr rfl
      have y2 : wr.cell? ⟨mb, 2, none⟩ = some (.int .u8 0) := blk_cell hbr rfl
      have y3 : wr.cell? ⟨mb, 3, none⟩ = some (.int .u64 0) := blk_cell hbr rfl
      have y4 : wr.cell? ⟨mb, 4, none⟩ = some (.int .u32 tag) := blk_cell hbr rfl
      have y5 : wr.cell? ⟨mb, 5, none⟩ = some (.int .u32 0) := blk_cell hbr rfl
      have y6 : wr.cell? ⟨mb, 6, none⟩ = some (.int .u32 0) := blk_cell hbr rfl
      have y7 : wr.cell? ⟨mb, 7, none⟩ = some (.int .u32 0) := blk_cell hbr rfl
      have y8 : wr.cell? ⟨mb, 8, none⟩ = some (.int .u32 (ws 0)) := blk_cell hbr rfl
      have y9 : wr.cell? ⟨mb, 9, none⟩ = some (.int .u32 (ws 1)) := blk_cell hbr rfl
      have y10 : wr.cell? ⟨mb, 10, none⟩ = some (.int .u32 (ws 2)) := blk_cell hbr rfl
      have y11 : wr.cell? ⟨mb, 11, none⟩ = some (.int .u32 (ws 3)) := blk_cell hbr rfl
      have y12 : wr.cell? ⟨mb, 12, none⟩ = some (.slice da 64 dc) := blk_cell hbr rfl
      go_wp2_with fail
      have hcells : Ms.cells (writeMs tag x da dc) = wmCells tag ws 4 (.slice da 64 dc) := by
        simp only [Ms.cells, writeMs, wmCells, hws.out]
        rfl
      rw [hcells] at hput
      simp only [wmCells] at hput
      refine hput.mono ?_
      rintro e V2 ⟨ma, mc, rfl, hoM, hm2⟩
      have hK4 := hKr.mod0 hm2
      have hE : (writeMs tag x da dc).enc ((List.range 64).map (fillD u)) = (writeMs tag x none 0).enc ((List.range 64).map (fillD u)) := rfl
      rw [hE] at hoM
      have hDl : ((List.range 64).map (fillD u)).length = 64 := by simp
      have hD0 : dat ((List.range 64).map (fillD u)) 0 ≠ 0 := by
        have e1 : dat ((List.range 64).map (fillD u)) 0 = u := by simp [dat, List.getD, fillD]
        rw [e1]
        exact hor0
      generalize (List.range 64).map (fillD u) = D at hoM hDl hD0
      replace hDl := Lib.hid hDl
      have hmaN : ∀ g, (Value.slice ma 112 mc).ownBlock = some g → N ≤ g := fun g hg => by
        have h1 := (own_ge hoM g (by simp [hg])).1
        have := hKr.size
        omega
      clear hput hcells hE hm2 hKr hbr hDr hPr y0 y1 y2 y3 y4 y5 y6 y7 y8 y9 y10 y11 y12 z1
      go_wp2_with fail
      have hmL : ((writeMs tag x none 0).enc D ++ []).length = 112 := by
        rw [List.append_nil, enc_len _ _ hDl.out, writeMs_len]
      have hfe := feed2_1 sh1 V2 d G { G with phase := 2 } ZeroV ZeroV (writeMs tag x none 0) D [] [] hK4.desk (by rw [hN.ph]; decide) hN.wt hZ (writeMs_fit tag x htag none 0) hDl.out rfl rfl (by simp) (step2_early sh1 d G hN.ph ZeroV [] (writeMs tag x none 0) rfl D []) ma mc 112 hmL.symm (by rw [List.append_nil]; exact Rds.own hoM)
      with_reducible refine hfe.mono ?_
      rintro e V3 ⟨oa, oc, wa, wc, vol, rfl, hZ3, hD3, ho3, hm3⟩
      have hK5 := hK4.turn hm3 hD3 rfl rfl
      have hoM3 := hm3.own hoM (fun g hg hin => by
        have h1 := hK4.low g hin
        have h2 := hmaN g hg
        omega)
      clear hfe hD3 ho3 hm3 hK4 hoM hmL
      go_wp2_with fail
      refine (phase_k sh1 V3 d _ hK5.desk).mono ?_
      rintro e V3' ⟨rfl, hw⟩
      obtain rfl := hw.symm
      go_wp2_with fail
      refine (still_k V3 d _ hK5.desk true ⟨fun _ => hZ3, fun _ => rfl⟩).mono ?_
      rintro e V4 ⟨rfl, hm4⟩
      have hK6 := hK5.mod0 hm4
      have hoM4 := hm4.own0 hoM3
      clear hK5 hm4 hoM3 hZ3
      go_wp2_with fail
      refine (login25_k _).mono ?_
      rintro e V5 ⟨la, lc, rfl, hol, hm5⟩
      have hK7 := hK6.mod0 hm5
      have hoM5 := hm5.own0 hoM4
      clear hK6 hoM4 hm5
      go_wp2_with fail
      refine (feed_closed sh1 V5 d _ hK7.desk rfl la 64 lc).mono ?_
      rintro e V5' ⟨rfl, hw⟩
      obtain rfl := hw.symm
      have hMw := hK7.mod
      clear hol hK7
      go_wp2_with fail
      refine (shape_k _).mono ?_
      rintro e V6 ⟨rfl, hm6⟩
      go_wp2_with fail
      refine (new_1 ⟨#[100, 105, 115, 107]⟩ _).mono ?_
      rintro e V7 ⟨c, hh, ccap, cgs, rfl, hD7, hm7, hfr7⟩
      have hoM7 := ((hm6.then0 hm7).own0 hoM5)
      have hmaL : ∀ g, (Value.slice ma 112 mc).ownBlock = some g → g < V6.heap.size := fun g hg => by
        have h1 := (own_ge hoM5 g (by simp [hg])).2
        have := hm6.size
        omega
      have hs7 := hm7.size
      obtain ⟨G2, hN2, hZ2, hBl2, hK8, hfr8⟩ := pack_new (hMw.then0 hm6) hD7 hm7 hfr7
      clear hD7 hm6 hm7 hfr7 hoM5
      obtain ⟨N2, hN2'⟩ : ∃ N2, N2 = V7.heap.size := ⟨_, rfl⟩
      rw [← hN2'] at hK8 hBl2
      have hs9 : N2 ≤ (V7.alloc (.cells #[.int .u8 78, .int .u8 97, .int .u8 109, .int .u8 101, .int .u8 61, .int .u8 97, .int .u8 0] 5 (7, 8))).heap.size := by simp; omega
      have hs67 : V6.heap.size ≤ N2 := by omega
      replace hN2' := Lib.hid hN2'
      have kc := fun (w : World) (C : Array Value) (n c : Nat) => Lib.run_convert_bytes_const (P := Try.prog) w 32 5 C n c Try.underlying32 Try.underlying5
      have hA8 : Mod [] V7 (V7.alloc (.cells #[.int .u8 78, .int .u8 97, .int .u8 109, .int .u8 101, .int .u8 61, .int .u8 97, .int .u8 0] 5 (7, 8))) := (Mod.refl _ _).alloc _
      have hrow : Rds (V7.alloc (.cells #[.int .u8 78, .int .u8 97, .int .u8 109, .int .u8 101, .int .u8 61, .int .u8 97, .int .u8 0] 5 (7, 8))) (some ⟨V7.heap.size, 0, none⟩) 7 (nameN.map By) := Rds.list (heap_alloc_new V7 _)
      have hK9 := hK8.mod0 hA8
      have hoM9 := hA8.own0 hoM7
      clear hK8 hoM7 hA8
      go_wp2_with fail
      have hpn := put20_k (nameMs tag (some ⟨V7.heap.size, 0, none⟩) 7) (nameMs_fit tag htag _ _) nameN _ hrow
      rw [nameMs_len] at hpn
      clear kc
      generalize World.alloc V7 _ = V9 at hK9 hoM9 hpn hrow hs9 ⊢
      refine hpn.mono ?_
      rintro e V10 ⟨na, nc, rfl, hon, hm10⟩
      have hK10 := hK9.mod0 hm10
      have hoM10 := hm10.own0 hoM9
      have hV9 : V6.heap.size ≤ V9.heap.size := by omega
      clear hpn hrow hK9 hoM9
      go_wp2_with (at_builtin; refine wpList_cat V10 rfl (.tmp 133) (.tmp 134) 32 rfl V9.heap.size 5 _ 1 Try.underlying32 info5 rfl (by decide) (.slice na 56 nc) 56 _ rfl hon ma 112 mc _ rfl (Rds.own hoM10) (bytes_one _) (by omega) hm10.size ?_)
      intro a11 c11 V11 ho11 hm11
      have hnM : ∀ g, (Value.slice ma 112 mc).ownBlock = some g → g ∉ (Value.slice na 56 nc).ownBlock.toList := fun g hg hin => by
        have h1 := (own_ge hon g hin).1
        have h2 := hmaL g hg
        omega
      have hK11 : Kn sh1 w V11 N2 c G2 := hK10.high hBl2 hm11 (fun t ht => by have := (own_ge hon t ht).1; omega)
      have hoM11 := hm11.own hoM10 hnM
      have hMm11 : Mod [] V9 V11 := hm10.trans hm11 (fun t ht => .inr (own_ge hon t ht).1)
      rw [← List.map_append] at ho11
      clear hon hm10 hm11 hK10 hoM10 hnM
      go_wp2_with fail
      have hbl : ((nameMs tag none 0).enc nameN ++ (writeMs tag x none 0).enc D).length = 168 := by
        rw [List.length_append, enc_len _ _ (show nameN.length = (nameMs tag none 0).dn from rfl), enc_len _ _ hDl.out, writeMs_len, nameMs_len]
      have hfb := feed2_1 sh1 V11 c G2 { G2.counted 1 with phase := 2 } ZeroV ZeroV (nameMs tag none 0) nameN (badOut tag 1) ((writeMs tag x none 0).enc D) hK11.desk (by rw [hN2.ph]; decide) hN2.wt hZ2 (nameMs_fit tag htag none 0) rfl rfl rfl (by rw [enc_len _ _ hDl.out, writeMs_len]; decide) (step2_bad sh1 c G2 0 hN2.ct (by decide) ZeroV [] (by decide) (nameMs tag none 0) rfl (nameMs_fit tag htag none 0) nameN ⟨#[97]⟩ (fun A c => oneText_n A c) ((writeMs tag x none 0).enc D)) a11 c11 168 hbl.symm (Rds.own ho11)
      with_reducible refine hfb.mono ?_
      rintro e V12 ⟨qa, qc, wa2, wc2, vol2, rfl, hZ4, hD12, ho12, hm12⟩
      rw [badOut_len] at ho12 ⊢
      have hK12 := hK11.turn hm12 hD12 rfl rfl
      have hoM12 := hm12.own hoM11 (fun g hg hin => by
        have h1 := hmaL g hg
        have h2 := hfr8 g hin
        omega)
      clear hfb hD12 hm12 hK11 hoM11 hbl ho11
      go_wp2_with fail
      have henb := (bad1_fit tag htag).enc [] rfl []
      rw [List.append_nil] at henb
      have hg13 := get20_k V12 qa 48 qc (badOut tag 1) (Rds.own ho12) (by decide) (own_cap ho12) _ _ _ _ _ henb
      refine hg13.mono ?_
      rintro e V13 ⟨ga, gc, rfl, _, _, hm13⟩
      rw [show gotCells (badBack tag 1).op (badBack tag 1).fl (badBack tag 1).tag (fun i => (badBack tag 1).ws.getD i 0) 7 (.slice ga (badBack tag 1).dn gc) = #[.int .i64 35, .bool false, .int .u8 135, .int .u64 0, .int .u32 tag, .int .u32 1, .int .u32 512, .int .u32 0, .int .u32 0, .int .u32 0, .int .u32 0, .int .u32 0, .slice ga 0 gc] from rfl, show (48 : Int) + (((badBack tag 1).dn : Nat) : Int) + ((padN (badBack tag 1).dn : Nat) : Int) = 48 from by simp [badBack, padN]]
      have hA13 : Mod [] V12 (V13.alloc (.cells #[.int .i64 35, .bool false, .int .u8 135, .int .u64 0, .int .u32 tag, .int .u32 1, .int .u32 512, .int .u32 0, .int .u32 0, .int .u32 0, .int .u32 0, .int .u32 0, .slice ga 0 gc] 38)) := hm13.alloc _
      have hK13 := hK12.mod0 hA13
      have hoM13 := hA13.own0 hoM12
      have hbB := blk_alloc V13 #[.int .i64 35, .bool false, .int .u8 135, .int .u64 0, .int .u32 tag, .int .u32 1, .int .u32 512, .int .u32 0, .int .u32 0, .int .u32 0, .int .u32 0, .int .u32 0, .slice ga 0 gc] 38
      clear hg13 henb hK12 hA13 hm13 ho12 hoM12
      go_upto_region 22 with fail
      generalize V13.heap.size = bb at hbB ⊢
      generalize World.alloc V13 _ = V14 at hK13 hoM13 hbB ⊢
      have b0 : V14.cell? ⟨bb, 0, none⟩ = some (.int .i64 35) := blk_cell hbB rfl
      have b4 : V14.cell? ⟨bb, 4, none⟩ = some (.int .u32 tag) := blk_cell hbB rfl
      have b6 : V14.cell? ⟨bb, 6, none⟩ = some (.int .u32 512) := blk_cell hbB rfl
      have zb := blk_lt hbB
      go_wp2_with fail
      refine (phase_k sh1 V14 c _ hK13.desk).mono ?_
      rintro e V14' ⟨rfl, hw⟩
      obtain rfl := hw.symm
      go_wp2_with fail
      refine (still_k V14 c _ hK13.desk true ⟨fun _ => hZ4, fun _ => rfl⟩).mono ?_
      rintro e V15 ⟨rfl, hm15⟩
      have hMw15 := hK13.mod.then0 hm15
      have hoM15 := hm15.own0 hoM13
      clear hK13 hm15 hoM13 hbB b0 b4 b6 zb hZ4 hN2 hZ2 hBl2 hfr8 hs67 hmaL hs9 hV9 hs7
      go_wp2_with fail
      refine (shape_k _).mono ?_
      rintro e V16 ⟨rfl, hm16⟩
      go_wp2_with fail
      refine (new_1 ⟨#[100, 105, 115, 107]⟩ _).mono ?_
      rintro e V17 ⟨v, vh, vcap, vgs, rfl, hD17, hm17, hfr17⟩
      have hoM17 := (hm16.then0 hm17).own0 hoM15
      have hmaL : ∀ g, (Value.slice ma 112 mc).ownBlock = some g → g < V16.heap.size := fun g hg => by
        have h1 := (own_ge hoM15 g (by simp [hg])).2
        have := hm16.size
        omega
      have hs17 := hm17.size
      obtain ⟨G3, hN3, hZ3, hBl3, hK17, hfr3⟩ := pack_new (hMw15.then0 hm16) hD17 hm17 hfr17
      clear hD17 hm16 hm17 hfr17 hoM15
      obtain ⟨N3, hN3'⟩ : ∃ N3, N3 = V17.heap.size := ⟨_, rfl⟩
      rw [← hN3'] at hK17 hBl3
      have hs16 : V16.heap.size ≤ N3 := by omega
      have hs17' : N3 ≤ V17.heap.size := by omega
      clear hN3' hs17
      go_wp2_with fail
      have hbye := put20_k (byeMs tag) (byeMs_fit tag htag) [] V17 (Rds.none_ _)
      rw [byeMs_len] at hbye
      refine hbye.mono ?_
      rintro e V18 ⟨ya, yc, rfl, hoy, hm18⟩
      have hK18 := hK17.mod0 hm18
      have hoM18 := hm18.own0 hoM17
      have hs18 := hm18.size
      clear hbye hK17 hoM17 hm18
      go_wp2_with fail
      refine (login25_k _).mono ?_
      rintro e V19 ⟨la2, lc2, rfl, hol, hm19⟩
      have hK19 := hK18.mod0 hm19
      have hoM19 := hm19.own0 hoM18
      have hoy19 := hm19.own0 hoy
      have hs19 := hm19.size
      have hyL : ∀ g, (Value.slice ya 48 yc).ownBlock = some g → g < V19.heap.size := fun g hg => (own_ge hoy19 g (by simp [hg])).2
      clear hK18 hoM18 hoy hm19
      go_wp2_with fail
      refine (copy_k V19 la2 64 lc2 _ (by decide) (Rds.own hol) (bytes_one _)).mono ?_
      rintro e V20 ⟨aa, ac, rfl, hoa, hm20⟩
      have hK20 := hK19.mod0 hm20
      have hoM20 := hm20.own0 hoM19
      have hoy20 := hm20.own0 hoy19
      have hs20 := hm20.size
      clear hK19 hoM19 hoy19 hm20 hol
      go_wp2_with (at_builtin; refine wpList_cat V20 rfl (.tmp 198) (.tmp 199) 32 rfl V19.heap.size 5 _ 1 Try.underlying32 info5 rfl (by decide) (.slice aa 64 ac) 64 _ rfl hoa ma 112 mc _ rfl (Rds.own hoM20) (bytes_one _) (by omega) hs20 ?_)
      intro a21 c21 V21 ho21 hm21
      have hlow : ∀ t, t ∈ (Value.slice aa 64 ac).ownBlock.toList → V19.heap.size ≤ t := fun t ht => (own_ge hoa t ht).1
      have hK21 := hK20.high hBl3 hm21 (fun t ht => by have := hlow t ht; omega)
      have hoM21 := hm21.own hoM20 (fun g hg hin => by have := hlow g hin; have := hmaL g hg; omega)
      have hoy21 := hm21.own hoy20 (fun g hg hin => by have := hlow g hin; have := hyL g hg; omega)
      have hs21 := hm21.size
      rw [← List.map_append] at ho21
      clear hlow hoa hm21 hK20 hoM20 hoy20
      go_wp2_with (at_builtin; refine wpList_cat V21 rfl (.tmp 201) (.tmp 202) 32 rfl V19.heap.size 5 _ 1 Try.underlying32 info5 rfl (by decide) (.slice a21 176 c21) 176 _ rfl ho21 ya 48 yc _ rfl (Rds.own hoy21) (bytes_one _) (by omega) (by omega) ?_)
      intro a22 c22 V22 ho22 hm22
      have hlow : ∀ t, t ∈ (Value.slice a21 176 c21).ownBlock.toList → V19.heap.size ≤ t := fun t ht => (own_ge ho21 t ht).1
      have hK22 := hK21.high hBl3 hm22 (fun t ht => by have := hlow t ht; omega)
      have hoM22 := hm22.own hoM21 (fun g hg hin => by have := hlow g hin; have := hmaL g hg; omega)
      have hs22 := hm22.size
      rw [← List.map_append] at ho22
      clear hlow ho21 hm22 hK21 hoM21 hoy21
      go_wp2_with (at_builtin; refine wpList_cat V22 rfl (.tmp 204) (.tmp 205) 32 rfl V19.heap.size 5 _ 1 Try.underlying32 info5 rfl (by decide) (.slice a22 224 c22) 224 _ rfl ho22 ma 112 mc _ rfl (Rds.own hoM22) (bytes_one _) (by omega) (by omega) ?_)
      intro a23 c23 V23 ho23 hm23
      have hlow : ∀ t, t ∈ (Value.slice a22 224 c22).ownBlock.toList → V19.heap.size ≤ t := fun t ht => (own_ge ho22 t ht).1
      have hK23 := hK22.high hBl3 hm23 (fun t ht => by have := hlow t ht; omega)
      replace ho23 : V23.ownsRow V19.heap.size 5 1 (.slice a23 336 c23) 336 (((loginMs none 0).enc nameA ++ ((writeMs tag x none 0).enc D ++ ((byeMs tag).enc [] ++ (writeMs tag x none 0).enc D))).map By) := by
        simp only [List.map_append] at ho23 ⊢
        exact ho23
      clear hlow ho22 hm23 hK22 hoM22 hyL hmaL hs16 hs17' hs18 hs19 hs20 hs21 hs22
      go_wp2_with fail
      have hS0 := step2_login sh1 v G3 0 hN3.ct (by decide) ZeroV [] (by decide) (loginMs none 0) rfl (loginMs_fit _ _) nameA ⟨#[97]⟩ (fun A c => oneText_a A c) ((writeMs tag x none 0).enc D ++ ((byeMs tag).enc [] ++ (writeMs tag x none 0).enc D))
      have hS1 := step2_cmd sh1 v { G3.counted 1 with phase := 1 } rfl 1 rfl (by decide) (loginOut 1 1) (by decide) (writeMs tag x none 0) rfl (writeMs_fit tag x htag none 0) D ((byeMs tag).enc [] ++ (writeMs tag x none 0).enc D) (prn 42 2 4 7 2 x 1) (words16 _ (prn_len _ _ _ _ _ _ _)) 42 x 1 (parse42 x 1 (by omega) (by omega)) [] (by simp) true ZeroV (fun v => ¬ ZeroV v)
        (fun W vol wa wc oa oc da dc _ hdc hoff => do_write sh1 rfl W v _ oa oc _ x hx12 da dc D hDl.out hdc hoff hD0)
      have hO2 : loginOut 1 1 ++ piecesOut (writeMs tag x none 0).tag 1 [] (pieceCount ([] : List UInt8).length) ++ statusOut true (writeMs tag x none 0).tag (1 + pieceCount ([] : List UInt8).length + 1) = loginOut 1 1 ++ statusOk tag 2 := by
        have e1 : pieceCount ([] : List UInt8).length = 0 := by decide
        rw [e1]
        simp [piecesOut, statusOut, writeMs]
      have hC2 : 1 + pieceCount ([] : List UInt8).length + 1 = 2 := by decide
      rw [hO2, hC2] at hS1
      have hS2 := step2_bye sh1 v ({ G3.counted 1 with phase := 1 }.counted 2) 2 rfl (by decide) rfl (fun v => ¬ ZeroV v) (loginOut 1 1 ++ statusOk tag 2) (by rw [List.length_append, statusOk_len]; decide) (byeMs tag) rfl (byeMs_fit tag htag) [] ((writeMs tag x none 0).enc D)
      have hn336 : ((loginMs none 0).enc nameA ++ ((writeMs tag x none 0).enc D ++ ((byeMs tag).enc [] ++ (writeMs tag x none 0).enc D))).length = 336 := by
        rw [List.length_append, List.length_append, List.length_append, enc_len (loginMs none 0) nameA rfl, enc_len (writeMs tag x none 0) D hDl.out, enc_len (byeMs tag) [] rfl, writeMs_len, byeMs_len]
        simp [loginMs, padN]
      have hfv := feed2_3 sh1 V23 v G3 { G3.counted 1 with phase := 1 } ({ G3.counted 1 with phase := 1 }.counted 2) { ({ G3.counted 1 with phase := 1 }.counted 2).counted 3 with phase := 2 } ZeroV ZeroV (fun v => ¬ ZeroV v) (fun v => ¬ ZeroV v) (loginMs none 0) (writeMs tag x none 0) (byeMs tag) nameA D [] (loginOut 1 1) (loginOut 1 1 ++ statusOk tag 2) (loginOut 1 1 ++ statusOk tag 2 ++ byeOut tag 3) ((writeMs tag x none 0).enc D)
        hK23.desk (by rw [hN3.ph]; decide) (by show (1 : Int) < 2; decide) (by show (1 : Int) < 2; decide) hN3.wt hZ3 (loginMs_fit _ _) (writeMs_fit tag x htag none 0) (byeMs_fit tag htag) rfl hDl.out rfl rfl rfl rfl rfl (by rw [enc_len _ _ hDl.out, writeMs_len]; decide) hS0 hS1 hS2 a23 c23 336 hn336.symm (Rds.own ho23)
      with_reducible refine hfv.mono ?_
      rintro e V24 ⟨za, zc, wa3, wc3, vol3, rfl, hZ5, hD24, ho24, hm24⟩
      rw [show loginOut 1 1 ++ statusOk tag 2 ++ byeOut tag 3 = logOut3 tag from rfl, logOut3_len] at ho24
      rw [show loginOut 1 1 ++ statusOk tag 2 ++ byeOut tag 3 = logOut3 tag from rfl, logOut3_len]
      have hK24 := hK23.turn hm24 hD24 rfl rfl
      clear hfv hD24 hm24 hK23 ho23 hS0 hS1 hS2 hO2 hC2 hn336
      go_wp2_with fail
      have hsp := split20_k V24 za zc (logOut3 tag) (by rw [logOut3_len]; exact Rds.own ho24) (by rw [logOut3_len]; decide) (by rw [logOut3_len]; exact own_cap ho24) (by rw [logOut3_len]; decide) 3 logPos (logMs tag) logDt (log_split tag htag)
      rw [logOut3_len] at hsp
      refine hsp.mono ?_
      rintro e V25 ⟨ra, rc, L, rfl, hor, hML, hm25⟩
      have hK25 := hK24.mod0 hm25
      obtain ⟨rg, rfl, _, hrg, _⟩ := own_block hor (by decide)
      obtain ⟨la0, lc0, hL0, _⟩ := hML.2 0 (by decide)
      obtain ⟨la1, lc1, hL1, _⟩ := hML.2 1 (by decide)
      obtain ⟨la2', lc2', hL2, _⟩ := hML.2 2 (by decide)
      have hLL : L = [{ logMs tag 0 with da := la0, dc := lc0 }, { logMs tag 1 with da := la1, dc := lc1 }, { logMs tag 2 with da := la2', dc := lc2' }] := by
        apply List.ext_getElem?
        intro i
        match i with
        | 0 => rw [hL0]; rfl
        | 1 => rw [hL1]; rfl
        | 2 => rw [hL2]; rfl
        | i + 3 => rw [List.getElem?_eq_none (by have := hML.1; omega)]; rfl
      subst hLL
      have t0 : V25.cell? ⟨rg, 13, none⟩ = some (.int .i64 33) := hor.cellAt 13 (by decide)
      have t1 : V25.cell? ⟨rg, 19, none⟩ = some (.int .u32 0) := hor.cellAt 19 (by decide)
      have t2 : V25.cell? ⟨rg, 17, none⟩ = some (.int .u32 tag) := hor.cellAt 17 (by decide)
      have t3 : V25.cell? ⟨rg, 26, none⟩ = some (.int .i64 38) := hor.cellAt 26 (by decide)
      clear hsp hML hL0 hL1 hL2 hor hK24 ho24 hm25
      go_wp2_with fail
      refine (phase_k sh1 V25 v _ hK25.desk).mono ?_
      rintro e V25' ⟨rfl, hw⟩
      obtain rfl := hw.symm
      go_wp2_with fail
      refine (still_k V25 v _ hK25.desk false ⟨(fun h => by cases h), fun h => absurd h hZ5⟩).mono ?_
      rintro e V26 ⟨rfl, hm26⟩
      have hMw26 := hK25.mod.then0 hm26
      clear hK25 hm26 t0 t1 t2 t3
      go_wp2_with fail
      refine (known_k V26).mono ?_
      rintro e V27 ⟨rfl, hm27⟩
      go_wp2
      go_ret
      exact ⟨rfl, hMw26.then0 hm27⟩
end Go.Proofs.Ytfkhefoilancnaa
namespace Go.Proofs.Ytfkhefoilancnaa.deskLoginLaw
open Go.ChangeShapes Go.WideShapes Go.ChangeAt Go.RowKit
open Go.ChangeMaps (open_string shut_string)
theorem own : ownKnob Try.prog.godebug = none := by kernel_rfl
theorem laidOut : laidOutB Try.prog = true := by kernel_rfl
set_option maxRecDepth 100000 in
theorem lifted (os : Os) (started : os.Started) (H : Type) (enc : TypeId × Value → H) :
    ReturnsInHanded {} Try.checked os 5 .any (Rows.deskLoginSpec.pre6 enc Try.prog Try.f5 Rows.deskLoginRow.domain false) (Rows.deskLoginSpec.post enc Try.prog Try.f5 false true false false) := by
  refine returnsInHanded_of_change (C := Try.checked) own started (by kernel_rfl) Try.func5
    (ChangeSpec.witness6 (enc := enc) (C := Try.checked) false ⟨#[], #[.agg #[.int .i64 0, .int .u64 0, .int .i64 0, .int .i64 0, .int .i64 0, .int .u8 0], .int .u32 0], []⟩ 8 (by kernel_rfl) (by kernel_rfl) (by kernel_rfl) (by kernel_rfl)) ?_
  intro W base args ds gs before hval0 hW hcnd _
  have hval : ∀ (j : Nat) t v, Try.f5.params[j]? = some t → args[j]? = some v → Value.okWide Try.prog W .any base t v := hval0
  have hW' := hW
  obtain ⟨p, q, hA0, hV, rfl, hfz, hnd⟩ := hW
  have hA : DataW.TrodAll enc Try.prog W 0 (fun _ => true) true Try.f5.params.toList args.toList ds p := hA0
  rw [Try.params5] at hA hval
  obtain ⟨v0, vs0, d0, ds0, p0, q0, hargs, rfl, rfl, h0, r0⟩ := trodAll_cons hA
  obtain ⟨v1, vs1, d1, ds1, p1, q1, rfl, rfl, rfl, h1, r1⟩ := trodAll_cons r0
  obtain ⟨rfl, rfl, rfl⟩ := trodAll_nil r1
  obtain rfl : args = #[v0, v1] := by cases args; simp_all
  obtain ⟨rfl, rfl⟩ := trodVars_none hV
  obtain ⟨cs0, rfl, _⟩ := okWide_struct Try.underlying65 (hval 0 65 v0 rfl rfl)
  obtain ⟨n1, rfl⟩ := okWide_int Try.underlying35 (hval 1 35 v1 rfl rfl)
  have k0 := h0
  have k1 := h1
  have lt0 : ∀ x ∈ p0, x.block < W.heap.size := by obtain ⟨m, hm⟩ := k0; exact DataW.trod_lt m _ _ _ hm
  have lt1 : ∀ x ∈ p1, x.block < W.heap.size := by obtain ⟨m, hm⟩ := k1; exact DataW.trod_lt m _ _ _ hm
  obtain ⟨ac, hac⟩ : ∃ ac : AC, cs0.toList = ac.cells := by
    obtain ⟨fuel, hf⟩ := h0
    exact open_act hf
  obtain ⟨tg, htg, htl⟩ : ∃ tg : Nat, n1 = (tg : Int) ∧ tg < 4294967296 := by
    obtain ⟨fuel, hf⟩ := h1
    obtain ⟨n, hn, _, hw⟩ := DataW.trod_int Try.underlying35 hf
    have e1 : n1 = n := by
      have h3 : [Value.int IntKind.u32 n1] = [Value.int IntKind.u32 n] := hn
      simpa using h3
    have e0 : IntKind.u32.min = 0 := rfl
    have e2 : IntKind.u32.max = 4294967295 := rfl
    simp [Lit.wf, e0, e2] at hw
    exact ⟨n.toNat, by omega, by omega⟩
  subst htg
  obtain rfl : cs0 = #[.int .i64 ac.op, .int .u64 ac.lba, .int .i64 ac.cnt, .int .i64 ac.room, .int .i64 ac.n, By ac.fl] := by
    cases cs0
    simp only [AC.cells] at hac
    rw [hac]
  clear hA0 hval0
  refine (deskLogin_walk ac tg htl W).mono fun e W' ⟨he, hm⟩ => ?_
  have bel := hm.toBelow
  subst he
  exact ⟨_, rfl, _, _, _, [], _, [], hW', trodAll_mk1 (shut_bool Try.underlying4 _), (trodAll_cons_mk (Below.trod laidOut (by kernel_rfl) (of_decide_eq_true (by kernel_rfl)) k0 bel lt0) (trodAll_cons_mk (Below.trod laidOut (by kernel_rfl) (of_decide_eq_true (by kernel_rfl)) k1 bel lt1) trodAll_mk0)), rfl, bel.frame _, fun h => by cases h⟩

theorem over : Rows.deskLoginRow.holds Try.pinned (OpenSpec.ofChange Rows.deskLoginSpec) :=
  OpenClaim.holds_of_wide 5 Try.f5 rfl rfl rfl rfl rfl rfl rfl ⟨rfl, rfl, rfl, rfl, rfl⟩ rfl rfl rfl rfl rfl (by kernel_rfl) Try.func5 (by kernel_rfl)
    (of_decide_eq_true (by kernel_rfl)) (by unfold Func.isWrapper; first | (rw [if_pos (by decide +kernel)]; kernel_rfl) | (rw [if_neg (by decide +kernel)]; exact ⟨rfl, rfl⟩))
    (fun os started H enc _ => lifted os started H enc)
theorem proved : Rows.DeskLoginSaid := over
#print axioms proved
end Go.Proofs.Ytfkhefoilancnaa.deskLoginLaw
