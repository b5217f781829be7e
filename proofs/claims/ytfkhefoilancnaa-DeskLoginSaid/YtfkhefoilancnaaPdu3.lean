/-
  pdu's words: numbers in four bytes each, behind bytes.
-/
import Derived.WalkKit
import Derived.Handy
import Derived.BigQuiet
import Derived.Deep.QuietTactic
import Derived.Deep.RegionWith
import Derived.Deep.RegionHeld3
import Derived.Deep.RegionLaw
import Derived.Deep.CutBlock
import Derived.Deep.CutRange
import Derived.Lib.Hide
import Derived.Test.YtfkhefoilancnaaPdu2
import Derived.Test.YtfkhefoilancnaaFresh
namespace Go.Proofs.Ytfkhefoilancnaa
open Go.RowKit
/-- A number in four bytes. -/
def be4 (x : Nat) : List UInt8 := [UInt8.ofNat (x / 16777216), UInt8.ofNat (x / 65536), UInt8.ofNat (x / 256), UInt8.ofNat x]
theorem By_of (n : Nat) : By (UInt8.ofNat n) = .int .u8 ((n : Int) % 256) := by
  rw [By_def]
  congr 1
set_option maxRecDepth 100000 in
set_option maxHeartbeats 8000000 in
theorem words_k (B : Nat) (ao : Option Addr) (n cp : Nat) (xs : List UInt8) (A : Option Addr) (m c : Nat) (ws : List Nat) (w : World) (hown : w.ownsRow B 5 1 (.slice ao n cp) n (xs.map By)) (hB : B ≤ w.heap.size)
    (hr : Rds w A m (ws.map fun (x : Nat) => Value.int .u32 (x : Int))) (hw : ∀ x, x ∈ ws → x < 4294967296) (hoff : Off (Value.slice ao n cp).ownBlock.toList A m) (hn : n ≤ 100000) (hm : m ≤ 100) :
    Calls Try.prog 90 #[.slice ao n cp, .slice A m c] w fun e w' => ∃ ao' cp', e = .returned (.slice ao' (n + 4 * m) cp') ∧ w'.ownsRow B 5 1 (.slice ao' (n + 4 * m) cp') (n + 4 * m) ((xs ++ ws.flatMap be4).map By) ∧ Mod (Value.slice ao n cp).ownBlock.toList w w' ∧
      ∀ g, (Value.slice ao' (n + 4 * m) cp').ownBlock = some g → (Value.slice ao n cp).ownBlock = some g ∨ w.heap.size ≤ g := by
  have hlen : ws.length = m := by simpa using hr.1
  go_enter Try.func90, Try.ntmps90
  go_wp2_with fail
  go_loopw [0, 9] (fun b i wr => ∃ (k : Nat) (ao' : Option Addr) (cp' : Nat), b = .slice ao' (n + 4 * k) cp' ∧ i = .int .i64 k ∧ k ≤ m ∧ wr.ownsRow B 5 1 (.slice ao' (n + 4 * k) cp') (n + 4 * k) ((xs ++ (ws.take k).flatMap be4).map By) ∧ Mod (Value.slice ao n cp).ownBlock.toList w wr ∧
    ∀ g, (Value.slice ao' (n + 4 * k) cp').ownBlock = some g → (Value.slice ao n cp).ownBlock = some g ∨ w.heap.size ≤ g) (fun _ i _ => m - (intOf i).toNat)
  case atStart => exact ⟨0, ao, cp, rfl, rfl, by omega, by simpa using hown, Mod.refl _ _, fun g hg => .inl hg⟩
  case round =>
    obtain ⟨k, ao', cp', rfl, rfl, hk, ho, hmod, hfr⟩ := hrel
    have r1 : (k : Int) ≤ m := by omega
    by_cases hkm : k < m
    · have r2 : (k : Int) < m := by omega
      have hrw := hr.mod hmod hoff
      obtain ⟨b, off, rfl, hb, hc⟩ := hrw.get hkm
      have hx : ∃ x, ws[k]? = some x := ⟨ws[k]'(by omega), List.getElem?_eq_getElem _⟩
      obtain ⟨x, hx⟩ := hx
      have hc' : wr.cell? ⟨b, off + k, none⟩ = some (.int .u32 x) := by
        rw [hc]
        have hx2 := (List.getElem?_eq_some_iff.1 hx).2
        simp [hx2]
      have hx32 := hw x (List.mem_of_getElem? hx)
      clear hc
      have hsz := hmod.size
      go_wp2_with (at_builtin; refine wpList_pushF (wr.alloc (.cells #[.int .u8 ((x : Int) / 16777216), .int .u8 ((x : Int) / 65536 % 256), .int .u8 ((x : Int) / 256 % 256), .int .u8 ((x : Int) % 256)] 5)) rfl (.tmp 13) (.tmp 25) 32 rfl B 5 _ 1 1 Try.underlying32 info5 rfl (by omega) (by omega) (.slice ao' (n + 4 * k) cp') (n + 4 * k) ((xs ++ (ws.take k).flatMap be4).map By) rfl (ho.alloc _) #[.int .u8 ((x : Int) / 16777216), .int .u8 ((x : Int) / 65536 % 256), .int .u8 ((x : Int) / 256 % 256), .int .u8 ((x : Int) % 256)] wr.heap.size 4 4 rfl (blk_alloc _ _ _) rfl (by simp [Value.oneCell']) (by omega) (by simp; omega) ?_)
      intro a2 c2 w2 hown2 hm2 hf2
      have e4 : n + 4 * k + 4 = n + 4 * (k + 1) := by omega
      rw [e4] at hown2 hf2 ⊢
      have hbe : ([.int .u8 ((x : Int) / 16777216), .int .u8 ((x : Int) / 65536 % 256), .int .u8 ((x : Int) / 256 % 256), .int .u8 ((x : Int) % 256)] : List Value) = (be4 x).map By := by
        simp only [be4, List.map, By_of]
        have e1 : ((x / 16777216 : Nat) : Int) % 256 = (x : Int) / 16777216 := by omega
        have e2 : ((x / 65536 : Nat) : Int) % 256 = (x : Int) / 65536 % 256 := by omega
        have e3 : ((x / 256 : Nat) : Int) % 256 = (x : Int) / 256 % 256 := by omega
        rw [e1, e2, e3]
      have etk : (ws.take k).flatMap be4 ++ be4 x = (ws.take (k + 1)).flatMap be4 := by
        rw [List.take_add_one, hx, List.flatMap_append]
        simp
      have e5 : List.map By xs ++ (List.map By ((ws.take k).flatMap be4) ++ ([.int .u8 ((x : Int) / 16777216), .int .u8 ((x : Int) / 65536 % 256), .int .u8 ((x : Int) / 256 % 256), .int .u8 ((x : Int) % 256)] : List Value)) = (xs ++ (ws.take (k + 1)).flatMap be4).map By := by
        rw [← etk, List.map_append, List.map_append, ← hbe]
      rw [e5] at hown2
      have hA2 : Mod [] wr (wr.alloc (.cells #[.int .u8 ((x : Int) / 16777216), .int .u8 ((x : Int) / 65536 % 256), .int .u8 ((x : Int) / 256 % 256), .int .u8 ((x : Int) % 256)] 5)) := (Mod.refl _ _).alloc _
      have hm3 : Mod (Value.slice ao n cp).ownBlock.toList w w2 := (hmod.then0 hA2).trans hm2 (fun t ht => by
        rcases hfr t (by simpa using ht) with h1 | h1
        · exact .inl (by simpa using h1)
        · exact .inr h1)
      have hf3 : ∀ g, (Value.slice a2 (n + 4 * (k + 1)) c2).ownBlock = some g → (Value.slice ao n cp).ownBlock = some g ∨ w.heap.size ≤ g := by
        intro g hg
        rcases hf2 g hg with h1 | h1
        · exact hfr g h1
        · refine .inr ?_
          have := hA2.size
          omega
      clear hm2 hf2 hbe etk hA2 e5
      go_wp2
      go_roundw
      · exact ⟨k + 1, a2, c2, rfl, by go_num, by omega, hown2, hm3, hf3⟩
      · simp [intOf]; omega
    · obtain rfl : k = m := by omega
      rw [← hlen, List.take_length, hlen] at ho
      clear hkm hk r1
      go_wp2
      go_ret
      exact ⟨ao', cp', rfl, ho, hmod, hfr⟩
end Go.Proofs.Ytfkhefoilancnaa
