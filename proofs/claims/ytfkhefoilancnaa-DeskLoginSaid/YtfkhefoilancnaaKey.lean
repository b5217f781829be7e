/-
  pdu's key: a text of letters and digits, neither empty nor long, may be a key; no pair stands in no pairs.
-/
import Derived.WalkKit
import Derived.Handy
import Derived.BigQuiet
import Derived.Lib.Hide
import Derived.KernelRfl
import Derived.Laws.IdiomStrings
import Derived.Test.YtfkhefoilancnaaRef3
namespace Go.Proofs.Ytfkhefoilancnaa
open Go.RowKit
def Letter (c : Nat) : Prop := 97 ≤ c ∧ c ≤ 122 ∨ 65 ≤ c ∧ c ≤ 90 ∨ 48 ≤ c ∧ c ≤ 57
set_option maxRecDepth 100000 in
set_option maxHeartbeats 8000000 in
theorem key_k (s : ByteArray) (l : List UInt8) (hs : s.data.toList = l) (hl : ∀ i, i < l.length → Letter (bt l i)) (h1 : 1 ≤ l.length) (h2 : l.length ≤ 63) (hne : ¬ s.toList = []) (w : World) : Calls Try.prog 88 #[.string s] w fun e w' => e = .returned (.bool true) ∧ Mod [] w w' := by
  have hne2 : s.toList.isEmpty = false := by
    cases hq : s.toList with
    | nil => exact absurd hq hne
    | cons a b => rfl
  have hcv := fun W => run_bytes_of_string (P := Try.prog) W 9 32 5 s Try.underlying9 Try.underlying32 Try.underlying5
  have hsz : s.size = l.length := by rw [← hs]; rfl
  go_enter Try.func88, Try.ntmps88
  go_wp2_with fail
  have hrow : ∀ j, j < l.length → ((w.alloc (.cells (bytesRow s (grownCap w l.length 0 5)) 5 ((bytesRow s (grownCap w l.length 0 5)).size, (bytesRow s (grownCap w l.length 0 5)).size + 1))).drew).cell? ⟨w.heap.size, j, none⟩ = some (.int .u8 (bt l j)) := by
    intro j hj
    have hj' : j < s.data.size := by
      have : s.data.size = l.length := hsz
      omega
    have h3 := bytesRow_at s (grownCap w l.length 0 5) j hj'
    refine (cell_of_row _ w.heap.size j _ 5 _ (heap_alloc_new w _)).trans ?_
    rw [h3]
    have : bt l j = s.data[j].toNat := by
      subst hs
      simp only [bt, List.getD, Array.getElem?_toList, Array.getElem?_eq_getElem hj', Option.getD_some]
    rw [this]
  have hm0 : Mod [] w ((w.alloc (.cells (bytesRow s (grownCap w l.length 0 5)) 5 ((bytesRow s (grownCap w l.length 0 5)).size, (bytesRow s (grownCap w l.length 0 5)).size + 1))).drew) := ((Mod.refl _ _).alloc _).drew
  have hz0 : w.heap.size < ((w.alloc (.cells (bytesRow s (grownCap w l.length 0 5)) 5 ((bytesRow s (grownCap w l.length 0 5)).size, (bytesRow s (grownCap w l.length 0 5)).size + 1))).drew).heap.size := by simp
  generalize (w.alloc (.cells (bytesRow s (grownCap w l.length 0 5)) 5 ((bytesRow s (grownCap w l.length 0 5)).size, (bytesRow s (grownCap w l.length 0 5)).size + 1))).drew = V at hrow hm0 hz0 ⊢
  go_loopw [9] (fun i wr => ∃ k : Nat, i = .int .i64 k ∧ k ≤ l.length ∧ Mod [] w wr ∧ w.heap.size < wr.heap.size ∧ ∀ j, j < l.length → wr.cell? ⟨w.heap.size, j, none⟩ = some (.int .u8 (bt l j))) (fun i _ => l.length - (intOf i).toNat)
  case atStart => exact ⟨0, rfl, by omega, hm0, hz0, hrow⟩
  case round =>
    obtain ⟨k, rfl, hk, hm, hz, hr⟩ := hrel
    clear hrow hm0 hz0
    have r1 : (k : Int) ≤ l.length := by omega
    by_cases hkl : k < l.length
    · have r2 : (k : Int) < l.length := by omega
      have hc := hr k hkl
      have hL := hl k hkl
      generalize bt l k = c at hc hL
      replace hr := Lib.hid hr
      rcases hL with ⟨g1, g2⟩ | ⟨g1, g2⟩ | ⟨g1, g2⟩
      · have f1 : (97 : Int) ≤ c := by omega
        have f2 : (c : Int) ≤ 122 := by omega
        go_wp2
        go_roundw
        · exact ⟨k + 1, by go_num, by omega, hm, hz, hr.out⟩
        · simp [intOf]; omega
      · have f0 : ¬ (97 : Int) ≤ c := by omega
        have f1 : (65 : Int) ≤ c := by omega
        have f2 : (c : Int) ≤ 90 := by omega
        go_wp2
        go_roundw
        · exact ⟨k + 1, by go_num, by omega, hm, hz, hr.out⟩
        · simp [intOf]; omega
      · have f0 : ¬ (97 : Int) ≤ c := by omega
        have f00 : ¬ (65 : Int) ≤ c := by omega
        have f1 : (48 : Int) ≤ c := by omega
        have f2 : (c : Int) ≤ 57 := by omega
        go_wp2
        go_roundw
        · exact ⟨k + 1, by go_num, by omega, hm, hz, hr.out⟩
        · simp [intOf]; omega
    · obtain rfl : k = l.length := by omega
      have q1 : (l.length : Int) ≤ 63 := by omega
      go_wp2
      go_ret
      exact ⟨rfl, hm⟩
set_option maxRecDepth 100000 in
set_option maxHeartbeats 4000000 in
theorem indexPair_nil (A : Option Addr) (c : Nat) (f : Value) (w : World) : Calls Try.prog 95 #[.slice A 0 c, f] w fun e w' => e = .returned (.int .i64 (-1)) ∧ w' = w := by
  go_enter Try.func95, Try.ntmps95
  go_wp2_with fail
  refine wp_loop_rounds 1 ?_
  rw [rounds_succ]
  go_wp2
  go_ret
  exact ⟨rfl, rfl⟩
set_option maxRecDepth 100000 in
set_option maxHeartbeats 4000000 in
theorem containsPair_nil (A : Option Addr) (c : Nat) (f : Value) (w : World) : Calls Try.prog 86 #[.slice A 0 c, f] w fun e w' => e = .returned (.bool false) ∧ w' = w := by
  go_enter Try.func86, Try.ntmps86
  go_wp2_with fail
  refine (indexPair_nil A c f _).mono ?_
  rintro e w1 ⟨rfl, hw⟩
  obtain rfl := hw.symm
  go_wp2
  go_ret
  exact ⟨rfl, rfl⟩
theorem ext101 (W : World) : (callFunc 101 #[.string ⟨#[49]⟩, .int .u8 0]).run Try.prog W = .ok (.value (.int .i64 (-1))) W := by
  kernel_rfl
set_option maxRecDepth 100000 in
set_option maxHeartbeats 4000000 in
theorem indexByte_1 (w : World) : Calls Try.prog 89 #[.string ⟨#[49]⟩, .int .u8 0] w fun e w' => e = .returned (.int .i64 (-1)) ∧ w' = w := by
  have hx := ext101
  go_enter Try.func89, Try.ntmps89
  go_wp2
  go_ret
  exact ⟨rfl, rfl⟩
end Go.Proofs.Ytfkhefoilancnaa
