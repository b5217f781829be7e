/-
  The small functions of the laws: small, mod, at, Copy, Same: what they answer.
-/
import Derived.WalkKit
import Derived.Handy
import Derived.BigQuiet
import Derived.Deep.QuietTactic
import Derived.Deep.RegionHeld3
import Derived.Lib.Hide
import Derived.Lib.BufferRead
import Derived.Test.YtfkhefoilancnaaProg
import Derived.Test.YtfkhefoilancnaaCat
import Derived.Test.YtfkhefoilancnaaLaws
namespace Go.Proofs.Ytfkhefoilancnaa
open Go.RowKit
theorem info30 : (Try.prog.info? 30).map (·.size) = some 4 := by kernel_rfl
set_option maxHeartbeats 1000000 in
theorem small_k (w : World) : Calls Try.prog 9 #[] w fun e w' => e = .returned (.agg #[.int .u64 40, .int .i64 10, .int .i64 2, .int .i64 5]) ∧ Mod [] w w' := by
  go_enter Try.func9, Try.ntmps9
  go_wp2
  exact bodyPost_ret (res_cell _ _ w.heap.size 30 _ rfl (blk_alloc _ _ _) Try.underlying30 info30 rfl) rfl ⟨rfl, (Mod.refl _ _).alloc _⟩
/-- a modulo n, as an unsigned number. -/
def mo (a : Int) (n : Nat) : Nat := (a % 18446744073709551616 % (n : Int)).toNat
theorem mo_lt (a : Int) (n : Nat) (h : 0 < n) : mo a n < n := by
  have h1 : 0 ≤ a % 18446744073709551616 % (n : Int) := Int.emod_nonneg _ (by omega)
  have h2 : a % 18446744073709551616 % (n : Int) < (n : Int) := Int.emod_lt_of_pos _ (by omega)
  simp only [mo]; omega
set_option maxHeartbeats 1000000 in
theorem mod_k (a : Int) (n : Nat) (hn : 1 ≤ n) (hn2 : n ≤ 3000) (w : World) : Calls Try.prog 14 #[.int .i64 a, .int .i64 n] w fun e w' => e = .returned (.int .i64 (mo a n)) ∧ w' = w := by
  have k1 : ¬ ((n : Int) < 1) := by omega
  go_enter Try.func14, Try.ntmps14
  go_wp2
  go_ret
  refine ⟨ret_int ?_, rfl⟩
  have h0 : (IntKind.u64.wrap a).tmod (n : Int) = mo a n := by
    rw [IntKind.wrap_u64, Int.tmod_eq_emod_of_nonneg (Int.emod_nonneg _ (by omega))]
    have h1 : 0 ≤ a % 18446744073709551616 % (n : Int) := Int.emod_nonneg _ (by omega)
    simp only [mo]; omega
  have := mo_lt a n hn
  rw [h0]
  exact IntWalk.wrap64_in _ (by omega)
theorem conv_bytes (w : World) (A : Option Addr) (n c : Nat) (l : List UInt8) (h : Rds w A n (l.map By)) : (convert 32 9 (.slice A n c)).run Try.prog w = .ok (.string ⟨l.toArray⟩) w := by
  have hl : n = l.length := by simpa using h.1.symm
  subst hl
  cases A with
  | none =>
    have h0 : l.length = 0 := by
      rcases Nat.eq_zero_or_pos l.length with h0 | h0
      · exact h0
      · obtain ⟨b, o, e, _⟩ := h.2 h0
        cases e
    obtain rfl := List.eq_nil_of_length_eq_zero h0
    exact Lib.run_convert_nil_bytes w 32 9 5 c Try.underlying32 Try.underlying5 Try.underlying9
  | some a =>
    refine run_convert_bytes_back w 32 9 5 a c l Try.underlying32 Try.underlying5 Try.underlying9 ?_
    intro j hj
    obtain ⟨b, o, e, _, hc⟩ := h.2 (by omega)
    injection e with e
    subst e
    have := hc j (By l[j]) (by simp [hj])
    have e1 : ((⟨b, o, none⟩ : Addr).add j) = ⟨b, o + j, none⟩ := by unfold Addr.add; split <;> simp_all
    rw [e1]
    exact this
set_option maxHeartbeats 1000000 in
theorem same_k (w : World) (A B : Option Addr) (n m c c' : Nat) (l l' : List UInt8) (h : Rds w A n (l.map By)) (h' : Rds w B m (l'.map By)) : Calls Try.prog 19 #[.slice A n c, .slice B m c'] w fun e w' => e = .returned (.bool (decide (l = l'))) ∧ w' = w := by
  have e1 := conv_bytes w A n c l h
  have e2 := conv_bytes w B m c' l' h'
  go_enter Try.func19, Try.ntmps19
  go_wp2
  go_ret
  have hbe : (l == l') = decide (l = l') := Bool.eq_iff_iff.2 (by simp)
  rw [hbe]
  exact ⟨rfl, rfl⟩
set_option maxHeartbeats 1000000 in
theorem at_k (w : World) (A : Option Addr) (n c i : Nat) (l : List Int) (h : Rds w A n (l.map (Value.int .i64))) : Calls Try.prog 30 #[.slice A n c, .int .i64 i] w fun e w' => e = .returned (.int .i64 (l.getD i 0)) ∧ w' = w := by
  by_cases hi : i < n
  · obtain ⟨b, off, rfl, hb, hc⟩ := h.get hi
    have hl : i < l.length := by have := h.1; simp at this; omega
    have hg : (l.getD i 0) = l[i] := by simp [List.getD, hl]
    have hc' : w.cell? ⟨b, off + i, none⟩ = some (.int .i64 l[i]) := by simpa using hc
    rw [hg]
    clear hc hg h
    go_enter Try.func30, Try.ntmps30
    go_wp2
    go_ret
    exact ⟨rfl, rfl⟩
  · have hg : (l.getD i 0) = 0 := by
      have := h.1
      simp at this
      simp [List.getD, show ¬ i < l.length by omega]
    rw [hg]
    clear h
    go_enter Try.func30, Try.ntmps30
    go_wp2
    go_ret
    exact ⟨rfl, rfl⟩
theorem info5' : (Try.prog.info? 5).map (fun i => (i.zero, i.size, i.bytes)) = some (some (.int .u8 0), 1, 1) := by kernel_rfl
set_option maxHeartbeats 1000000 in
theorem copy_k (w : World) (A : Option Addr) (n c : Nat) (xs : List Value) (hn : n ≤ 140737488355328) (hr : Rds w A n xs) (h1 : ∀ u ∈ xs, u.oneCell' = true) :
    Calls Try.prog 27 #[.slice A n c] w fun e w' => ∃ ao cp, e = .returned (.slice ao n cp) ∧ w'.ownsRow w.heap.size 5 1 (.slice ao n cp) n xs ∧ Mod [] w w' := by
  go_enter Try.func27, Try.ntmps27
  go_wp2_with (at_builtin; refine wpList_cat w rfl (.tmp 4) (.tmp 5) 32 rfl w.heap.size 5 _ 1 Try.underlying32 info5' rfl (by decide) (.slice none 0 0) 0 [] rfl (World.ownsRow_nil _ _ _ _) A n c xs rfl hr h1 (by omega) (by omega) ?_)
  intro ao cp w' hown hm
  go_wp2
  go_ret
  exact ⟨ao, cp, rfl, by simpa using hown, hm.mono (by simp [Value.ownBlock])⟩
end Go.Proofs.Ytfkhefoilancnaa
