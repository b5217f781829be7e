/-
  The laws' login message: its bytes.
-/
import Derived.WalkKit
import Derived.Handy
import Derived.Lib.Hide
import Derived.Lib.SlBytesConst
import Derived.Test.YtfkhefoilancnaaRef2
namespace Go.Proofs.Ytfkhefoilancnaa
open Go.RowKit
/-- "InitiatorName=a" and a nought. -/
def nameA : List UInt8 := [73, 110, 105, 116, 105, 97, 116, 111, 114, 78, 97, 109, 101, 61, 97, 0]
/-- The message that logs in. -/
def loginMs (da : Option Addr) (dc : Nat) : Ms := ⟨3, 0, 0, 1, 0, 0, 0, 0, 0, 0, 0, da, 16, dc⟩
theorem loginMs_fit (da : Option Addr) (dc : Nat) : (loginMs da dc).Fit := ⟨by simp [loginMs, opsL], by simp [loginMs], rfl, by simp [loginMs], by simp [loginMs], by simp [loginMs, Ms.ws]⟩
set_option maxRecDepth 100000 in
set_option maxHeartbeats 8000000 in
theorem login25_k (w : World) : Calls Try.prog 25 #[] w fun e w' => ∃ ao cp, e = .returned (.slice ao 64 cp) ∧ w'.ownsRow w.heap.size 5 1 (.slice ao 64 cp) 64 (((loginMs none 0).enc nameA).map By) ∧ Mod [] w w' := by
  have kc := fun (w : World) (C : Array Value) (n c : Nat) => Lib.run_convert_bytes_const (P := Try.prog) w 32 5 C n c Try.underlying32 Try.underlying5
  have hrow : Rds (w.alloc (.cells #[.int .u8 73, .int .u8 110, .int .u8 105, .int .u8 116, .int .u8 105, .int .u8 97, .int .u8 116, .int .u8 111, .int .u8 114, .int .u8 78, .int .u8 97, .int .u8 109, .int .u8 101, .int .u8 61, .int .u8 97, .int .u8 0] 5 (16, 17))) (some ⟨w.heap.size, 0, none⟩) 16 (nameA.map By) := by
    refine ⟨rfl, fun _ => ⟨w.heap.size, 0, rfl, by simp, fun j u hj => ?_⟩⟩
    rw [Nat.zero_add]
    exact (cell_of_row _ w.heap.size j #[.int .u8 73, .int .u8 110, .int .u8 105, .int .u8 116, .int .u8 105, .int .u8 97, .int .u8 116, .int .u8 111, .int .u8 114, .int .u8 78, .int .u8 97, .int .u8 109, .int .u8 101, .int .u8 61, .int .u8 97, .int .u8 0] 5 (16, 17) (heap_alloc_new w _)).trans (by simpa [nameA, By_def] using hj)
  go_enter Try.func25, Try.ntmps25
  go_wp2_with fail
  refine (put20_k (loginMs (some ⟨w.heap.size, 0, none⟩) 16) (loginMs_fit _ _) nameA _ hrow).mono ?_
  rintro e w2 ⟨ao, cp, rfl, ho, hm⟩
  have e64 : 48 + (loginMs (some ⟨w.heap.size, 0, none⟩) 16).dn + padN (loginMs (some ⟨w.heap.size, 0, none⟩) 16).dn = 64 := by simp [loginMs, padN]
  rw [e64] at ho ⊢
  go_wp2
  go_ret
  exact ⟨ao, cp, rfl, own_mono ho (by simp), ((Mod.refl _ _).alloc _).then0 hm⟩
end Go.Proofs.Ytfkhefoilancnaa
