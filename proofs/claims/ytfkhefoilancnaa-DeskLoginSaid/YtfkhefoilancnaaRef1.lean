/-
  The reference's is, Check (of messages) and Put (of a number): what may be may be; a number's last bytes.
-/
import Derived.WalkKit
import Derived.Handy
import Derived.BigQuiet
import Derived.Deep.QuietTactic
import Derived.Deep.RegionWith
import Derived.Deep.CutBlock
import Derived.Deep.CutRange
import Derived.Lib.Hide
import Derived.Test.YtfkhefoilancnaaEnc
import Derived.Test.YtfkhefoilancnaaFresh2
namespace Go.Proofs.Ytfkhefoilancnaa
open Go.RowKit
set_option maxRecDepth 100000 in
set_option maxHeartbeats 8000000 in
theorem isop_k (op : Int) (h : op ∈ opsL) (w : World) : Calls Try.prog 61 #[.int .i64 op] w fun e w' => e = .returned (.bool true) ∧ w' = w := by
  simp only [opsL, List.mem_cons, List.not_mem_nil, or_false] at h
  rcases h with rfl | rfl | rfl | rfl | rfl | rfl | rfl | rfl | rfl | rfl | rfl
  all_goals go_enter Try.func61, Try.ntmps61
  all_goals go_wp2
  all_goals go_ret
  all_goals exact ⟨rfl, rfl⟩
set_option maxRecDepth 100000 in
set_option maxHeartbeats 8000000 in
theorem check20_k (m : Ms) (hop : (m.op : Int) ∈ opsL) (hd : m.dn ≤ 4096) (w : World) : Calls Try.prog 36 #[.agg m.cells] w fun e w' => e = .returned (.int .i64 0) ∧ Mod [] w w' := by
  obtain ⟨op, fl, lun, tag, w0, w1, w2, w3, w4, w5, w6, da, dn, dc⟩ := m
  simp only at hop hd
  have k4 : ¬ (4096 : Int) < (dn : Int) := by omega
  have hb0 := blk_alloc w #[.int .i64 op, .bool false, .int .u8 fl, .int .u64 lun, .int .u32 tag, .int .u32 w0, .int .u32 w1, .int .u32 w2, .int .u32 w3, .int .u32 w4, .int .u32 w5, .int .u32 w6, .slice da dn dc] 38
  simp only [Ms.cells]
  go_enter Try.func36, Try.ntmps36
  go_wp2_with fail
  refine (isop_k op hop _).mono ?_
  rintro e w1 ⟨rfl, hw⟩
  obtain rfl := hw.symm
  go_wp2
  go_ret
  exact ⟨rfl, (Mod.refl _ _).alloc _⟩
set_option maxRecDepth 100000 in
set_option maxHeartbeats 8000000 in
/-- A number's last n bytes. -/
theorem put19_k (v n : Nat) (hn : n ≤ 8) (w : World) : Calls Try.prog 37 #[.int .u64 v, .int .i64 n] w fun e w' => ∃ ao cp, e = .returned (.slice ao n cp) ∧ w'.ownsRow w.heap.size 5 1 (.slice ao n cp) n (((List.range n).map fun j => UInt8.ofNat (v / 2 ^ (8 * (n - 1 - j)))).map By) ∧ Mod [] w w' := by
  go_enter Try.func37, Try.ntmps37
  have kn : IntKind.i64.wrap ((n : Int) - 1) = (n : Int) - 1 := IntWalk.i64_in _ (by omega)
  go_wp2_with fail
  go_loopw [5, 6] (fun o i wr => ∃ (k : Nat) (ao : Option Addr) (cp : Nat), o = .slice ao k cp ∧ i = .int .i64 ((n : Int) - 1 - k) ∧ k ≤ n ∧ wr.ownsRow w.heap.size 5 1 (.slice ao k cp) k (((List.range k).map fun j => UInt8.ofNat (v / 2 ^ (8 * (n - 1 - j)))).map By) ∧ Mod [] w wr) (fun _ i _ => (intOf i + 1).toNat)
  case atStart => exact ⟨0, none, 0, rfl, by simp, by omega, by simpa using World.ownsRow_nil _ _ _ _, Mod.refl _ _⟩
  case round =>
    obtain ⟨k, ao, cp, rfl, rfl, hk, ho, hm⟩ := hrel
    by_cases hkn : k < n
    · have r1 : ¬ (n : Int) - 1 - (k : Int) < 0 := by omega
      have r2 : (0 : Int) ≤ (n : Int) - 1 - (k : Int) := by omega
      have kw : IntKind.i64.wrap ((n : Int) - 1 - (k : Int) - 1) = (n : Int) - 1 - (k : Int) - 1 := IntWalk.i64_in _ (by omega)
      have hsz := hm.size
      go_wp2_with (at_builtin; refine wpList_pushF (wr.alloc (.cells #[.int .u8 ((v : Int) / 2 ^ (8 * (n - 1 - k)) % 256)] 5)) rfl (.tmp 13) (.tmp 20) 32 rfl w.heap.size 5 _ 1 1 Try.underlying32 info5 rfl (by omega) (by omega) (.slice ao k cp) k _ rfl (ho.alloc _) #[.int .u8 ((v : Int) / 2 ^ (8 * (n - 1 - k)) % 256)] wr.heap.size 1 1 rfl (blk_alloc _ _ _) rfl (by simp [Value.oneCell']) (by omega) (by simp; omega) ?_)
      intro a2 c2 w2 hown2 hm2 _
      have hv1 : By (UInt8.ofNat (v / 2 ^ (8 * (n - 1 - k)))) = .int .u8 ((v : Int) / 2 ^ (8 * (n - 1 - k)) % 256) := by
        rw [By_of]
        simp [Int.natCast_ediv, Int.natCast_pow]
      have hown3 : w2.ownsRow w.heap.size 5 1 (.slice a2 (k + 1) c2) (k + 1) (((List.range (k + 1)).map fun j => UInt8.ofNat (v / 2 ^ (8 * (n - 1 - j)))).map By) := by
        rw [List.range_succ, List.map_append, List.map_append]
        simp only [List.map_cons, List.map_nil, hv1]
        simpa using hown2
      have hm3 : Mod [] w w2 := (hm.alloc _).trans hm2 (fun t ht => .inr (own_ge ho t ht).1)
      clear hown2 hm2 hv1
      go_wp2
      go_roundw
      · exact ⟨k + 1, a2, c2, rfl, by congr 1; omega, by omega, hown3, hm3⟩
      · simp [intOf]; omega
    · obtain rfl : k = n := by omega
      have r1 : (k : Int) - 1 - (k : Int) < 0 := by omega
      go_wp2
      go_ret
      exact ⟨ao, cp, rfl, ho, hm⟩
end Go.Proofs.Ytfkhefoilancnaa
