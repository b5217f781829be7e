/-
  slices.Delete(s, 0, 1) of jobs and of ints; slices.Clone, Contains of ints.
-/
import Derived.WalkKit
import Derived.Handy
import Derived.BigQuiet
import Derived.Deep.QuietTactic
import Derived.Deep.RegionLaw
import Derived.Lib.Hide
import Derived.Test.YtfkhefoilancnaaDel
import Derived.Test.YtfkhefoilancnaaProg
namespace Go.Proofs.Ytfkhefoilancnaa
open Go.RowKit
theorem info95 : (Try.prog.info? 95).map (fun i => (i.zero, i.size, i.bytes)) = some (some (.agg #[.int .i64 0, .int .i64 0, .int .u64 0]), 3, 24) := by kernel_rfl
theorem size_of_95 (W : World) : (sizeOf 95).run Try.prog W = .ok 3 W := by
  obtain ⟨i, hi, hz, hs, hb⟩ := info_parts info95
  simp [sizeOf, typeInfo, hi, hs]
theorem zero_of_95 (W : World) : (zeroValue 95).run Try.prog W = .ok (.agg #[.int .i64 0, .int .i64 0, .int .u64 0]) W := by
  obtain ⟨i, hi, hz, hs, hb⟩ := info_parts info95
  simp [zeroValue, typeInfo, hi, hz]
theorem info3 : (Try.prog.info? 3).map (fun i => (i.zero, i.size, i.bytes)) = some (some (.int .i64 0), 1, 8) := by kernel_rfl
theorem size_of_3 (W : World) : (sizeOf 3).run Try.prog W = .ok 1 W := by
  obtain ⟨i, hi, hz, hs, hb⟩ := info_parts info3
  simp [sizeOf, typeInfo, hi, hs]
theorem zero_of_3 (W : World) : (zeroValue 3).run Try.prog W = .ok (.int .i64 0) W := by
  obtain ⟨i, hi, hz, hs, hb⟩ := info_parts info3
  simp [zeroValue, typeInfo, hi, hz]
set_option maxRecDepth 100000 in
set_option maxHeartbeats 4000000 in
theorem delete_job (base g m cp : Nat) (xs : List Value) (w : World) (h : w.ownsRow base 95 3 (.slice (some ⟨g, 0, none⟩) (m + 1) cp) (m + 1) xs) (hm : m ≤ 1000000) (h1 : ∀ u ∈ xs, u.oneCell' = true) :
    Calls Try.prog 58 #[.slice (some ⟨g, 0, none⟩) (m + 1) cp, .int .i64 0, .int .i64 1] w fun e w' => e = .returned (.slice (some ⟨g, 0, none⟩) m cp) ∧ w'.ownsRow base 95 3 (.slice (some ⟨g, 0, none⟩) m cp) m (xs.drop 3) ∧ Mod [g] w w' := by
  have hcp : m + 1 ≤ cp := by obtain ⟨g', _, _, _, hc⟩ := own_block h (by omega); exact hc
  obtain ⟨V1, hE1⟩ := del_1 Try.underlying127 size_of_95 g m cp hcp
  have hE2 := del_2 Try.underlying127 size_of_95 g (m + 1) cp
  obtain ⟨ad, had, hE3⟩ := del_3 Try.underlying127 size_of_95 g m cp hcp
  have hE4 := del_4 Try.underlying127 size_of_95 g m cp hcp
  have hD := own_del (zs := [.int .i64 0, .int .i64 0, .int .u64 0]) h rfl
  obtain ⟨hown, hmod, ⟨cur0, hg0, hz0⟩, ⟨cur1, hg1, hz1⟩⟩ := hD
  obtain ⟨i95, hi95, hq0, hq1, hq2⟩ := info_parts info95
  have hl := h.1
  have q1 : (xs.drop 3).length = m * 3 := by rw [List.length_drop, hl]; omega
  have q2 : ∀ j u, (xs.drop 3)[j]? = some u → w.drew.cell? (ad.add j) = some u := by
    intro j u hj
    have hj' := (List.getElem?_eq_some_iff.1 hj).1
    rw [had (by omega), addr_add]
    rw [List.getElem?_drop] at hj
    exact (h.cellAt (3 + j) (by omega)).trans hj
  have q3 : ∀ u ∈ xs.drop 3, u.oneCell' = true := fun u hu => h1 u (List.mem_of_mem_drop hu)
  have q4 : ∀ j, j < (xs.drop 3).length → (w.drew.cell? ⟨g, 0 + 0 * 3 + j, none⟩).isSome = true ∧ w.drew.frozen? ⟨g, 0 + 0 * 3 + j, none⟩ = false := by
    intro j hj
    refine ⟨?_, blk_frozen hg0 _⟩
    rw [cell_of_row _ g _ _ _ _ hg0, Array.getElem?_eq_getElem (by omega)]
    rfl
  have q5 : ∀ ty, (Builtin.clear_ #[127] ty #[.slice (some ⟨g, m * 3, none⟩) 1 (cp - m)]).run Try.prog (w.drew.setCells g 0 (xs.drop 3)) = .ok (.tuple #[]) ((w.drew.setCells g 0 (xs.drop 3)).setCells g (m * 3) [.int .i64 0, .int .i64 0, .int .u64 0]) := by
    intro ty
    refine run_clear_1 127 95 ty (.agg #[.int .i64 0, .int .i64 0, .int .u64 0]) Try.underlying127 zero_of_95 (by simp [Value.cells, Value.oneCell']) _ g (m * 3) (cp - m) ?_ ?_
    · intro j hj
      have hj' : j < 3 := hj
      rw [cell_of_row _ g _ _ _ _ hg1, Array.getElem?_eq_getElem (by omega)]
      rfl
    · intro j _
      exact blk_frozen hg1 _
  go_enter Try.func58, Try.ntmps58
  go_wp2_with fail
  go_region_law (refine step_append_room rfl (.tmp 22) (.tmp 25) 127 rfl 95 i95 3 Try.underlying127 hi95 hq1 g 0 0 cp rfl ad m (cp - 1) (xs.drop 3) rfl q1 q2 q3 (by omega) q4 ?_)
  go_wp2
  go_ret
  exact ⟨rfl, hown, hmod⟩
set_option maxRecDepth 100000 in
set_option maxHeartbeats 4000000 in
theorem delete_int (base g m cp : Nat) (xs : List Value) (w : World) (h : w.ownsRow base 3 1 (.slice (some ⟨g, 0, none⟩) (m + 1) cp) (m + 1) xs) (hm : m ≤ 1000000) (h1 : ∀ u ∈ xs, u.oneCell' = true) :
    Calls Try.prog 59 #[.slice (some ⟨g, 0, none⟩) (m + 1) cp, .int .i64 0, .int .i64 1] w fun e w' => e = .returned (.slice (some ⟨g, 0, none⟩) m cp) ∧ w'.ownsRow base 3 1 (.slice (some ⟨g, 0, none⟩) m cp) m (xs.drop 1) ∧ Mod [g] w w' := by
  have hcp : m + 1 ≤ cp := by obtain ⟨g', _, _, _, hc⟩ := own_block h (by omega); exact hc
  obtain ⟨V1, hE1⟩ := del_1 Try.underlying23 size_of_3 g m cp hcp
  have hE2 := del_2 Try.underlying23 size_of_3 g (m + 1) cp
  obtain ⟨ad, had, hE3⟩ := del_3 Try.underlying23 size_of_3 g m cp hcp
  have hE4 := del_4 Try.underlying23 size_of_3 g m cp hcp
  have hD := own_del (zs := [.int .i64 0]) h rfl
  obtain ⟨hown, hmod, ⟨cur0, hg0, hz0⟩, ⟨cur1, hg1, hz1⟩⟩ := hD
  obtain ⟨i95, hi95, hq0, hq1, hq2⟩ := info_parts info3
  simp only [Nat.mul_one] at hE4 hown hmod
  have hl := h.1
  have q1 : (xs.drop 1).length = m := by rw [List.length_drop, hl]; omega
  have q2 : ∀ j u, (xs.drop 1)[j]? = some u → w.drew.cell? (ad.add j) = some u := by
    intro j u hj
    have hj' := (List.getElem?_eq_some_iff.1 hj).1
    rw [had (by omega), addr_add]
    rw [List.getElem?_drop] at hj
    exact (h.cellAt (1 + j) (by omega)).trans hj
  have q3 : ∀ u ∈ xs.drop 1, u.oneCell' = true := fun u hu => h1 u (List.mem_of_mem_drop hu)
  have q4 : ∀ j, j < (xs.drop 1).length → (w.drew.cell? ⟨g, 0 + 0 * 1 + j, none⟩).isSome = true ∧ w.drew.frozen? ⟨g, 0 + 0 * 1 + j, none⟩ = false := by
    intro j hj
    refine ⟨?_, blk_frozen hg0 _⟩
    rw [cell_of_row _ g _ _ _ _ hg0, Array.getElem?_eq_getElem (by omega)]
    rfl
  have q5 : ∀ ty, (Builtin.clear_ #[23] ty #[.slice (some ⟨g, m, none⟩) 1 (cp - m)]).run Try.prog (w.drew.setCells g 0 (xs.drop 1)) = .ok (.tuple #[]) ((w.drew.setCells g 0 (xs.drop 1)).setCells g (m) [.int .i64 0]) := by
    intro ty
    refine run_clear_1 23 3 ty (.int .i64 0) Try.underlying23 zero_of_3 (by simp [Value.cells, Value.oneCell']) _ g (m) (cp - m) ?_ ?_
    · intro j hj
      have hj' : j < 1 := hj
      rw [cell_of_row _ g _ _ _ _ hg1, Array.getElem?_eq_getElem (by omega)]
      rfl
    · intro j _
      exact blk_frozen hg1 _
  clear q1
  have q1 : (xs.drop 1).length = m := by rw [List.length_drop, hl]; omega
  generalize hys : List.drop 1 xs = ys at *
  clear hys
  go_enter Try.func59, Try.ntmps59
  go_wp2_with fail
  go_region_law (refine step_append_room rfl (.tmp 22) (.tmp 25) 23 rfl 3 i95 1 Try.underlying23 hi95 hq1 g 0 0 cp rfl ad m (cp - 1) ys rfl (by omega) q2 q3 (by omega) q4 ?_)
  go_wp2
  go_ret
  exact ⟨rfl, hown, hmod⟩
set_option maxRecDepth 100000 in
set_option maxHeartbeats 2000000 in
theorem clone_int (A : Option Addr) (n c : Nat) (xs : List Value) (w : World) (hA : A ≠ none) (hn : n ≤ 1000000) (hr : Rds w A n xs) (h1 : ∀ u ∈ xs, u.oneCell' = true) :
    Calls Try.prog 57 #[.slice A n c] w fun e w' => ∃ ao cp, e = .returned (.slice ao n cp) ∧ w'.ownsRow w.heap.size 3 1 (.slice ao n cp) n xs ∧ Mod [] w w' := by
  obtain ⟨a, rfl⟩ := Option.ne_none_iff_exists'.1 hA
  have hnil : ∀ W, (binOp .eql 23 (.slice (some a) n c) (.slice none 0 0)).run Try.prog W = .ok (.bool false) W := fun W => Lib.run_eql_slice_nil W 23 3 (some a) n c 0 0 Try.underlying23
  go_enter Try.func57, Try.ntmps57
  go_wp2_with (at_builtin; refine wpList_cat (w.alloc (.cells #[] 3)) rfl (.tmp 5) (.tmp 6) 23 rfl w.heap.size 3 _ 8 Try.underlying23 info3 rfl (by decide) (.slice (some ⟨w.heap.size, 0, none⟩) 0 0) 0 [] rfl (World.ownsRow_lit w #[] 0 (Nat.le_refl _) (by simp [maxLen]) rfl) (some a) n c xs rfl (hr.mod0 ((Mod.refl _ _).alloc _)) h1 (by omega) (by simp) ?_)
  intro ao cp w' hown hm
  go_wp2
  go_ret
  refine ⟨ao, cp, rfl, by simpa using hown, ((Mod.refl [] w).alloc _).trans hm ?_⟩
  intro t ht
  simp [Value.ownBlock] at ht
  exact .inr (by omega)
set_option maxHeartbeats 2000000 in
theorem index_int (A : Option Addr) (n c : Nat) (l : List Int) (v : Int) (w : World) (hn : n ≤ 1000000) (hr : Rds w A n (l.map (Value.int .i64))) :
    Calls Try.prog 75 #[.slice A n c, .int .i64 v] w fun e w' => (∃ r : Int, e = .returned (.int .i64 r) ∧ (0 ≤ r ↔ v ∈ l)) ∧ w' = w := by
  have hl : l.length = n := by simpa using hr.1
  go_enter Try.func75, Try.ntmps75
  go_wp2_with fail
  go_loopw [8] (fun i wr => ∃ k : Nat, i = .int .i64 k ∧ k ≤ n ∧ (∀ j, j < k → l[j]? ≠ some v) ∧ wr = w) (fun i _ => n - (intOf i).toNat)
  case atStart => exact ⟨0, rfl, Nat.zero_le _, by omega, rfl⟩
  case round =>
    obtain ⟨k, rfl, hk, hno, rfl⟩ := hrel
    by_cases hlt : k < n
    · obtain ⟨b, off, rfl, hb, hc⟩ := hr.get hlt
      have hlk : k < l.length := by omega
      have hc' : wr.cell? ⟨b, off + k, none⟩ = some (.int .i64 l[k]) := by simpa using hc
      clear hc hr
      by_cases hv : l[k] = v
      · have hmem : v ∈ l := by rw [← hv]; exact List.getElem_mem hlk
        go_wp2
        go_ret
        exact ⟨⟨k, rfl, by simp [hmem]⟩, rfl⟩
      · have hv' : ¬ v = l[k] := fun h => hv h.symm
        go_wp2
        go_roundw
        case rel => 
          refine ⟨k + 1, by go_num, by omega, fun j hj => ?_, by trivial⟩
          by_cases e : j = k
          · subst e; rw [List.getElem?_eq_getElem hlk]; simpa using hv
          · exact hno j (by omega)
        case measure => simp [intOf]; omega
    · obtain rfl : k = n := by omega
      have hmem : ¬ v ∈ l := by
        intro hin
        obtain ⟨j, hj⟩ := List.getElem?_of_mem hin
        have hj' := (List.getElem?_eq_some_iff.1 hj).1
        exact hno j (by omega) hj
      go_wp2
      go_ret
      exact ⟨⟨-1, rfl, by simp [hmem]⟩, rfl⟩
set_option maxHeartbeats 1000000 in
theorem contains_int (A : Option Addr) (n c : Nat) (l : List Int) (v : Int) (w : World) (hn : n ≤ 1000000) (hr : Rds w A n (l.map (Value.int .i64))) :
    Calls Try.prog 55 #[.slice A n c, .int .i64 v] w fun e w' => e = .returned (.bool (decide (v ∈ l))) ∧ w' = w := by
  go_enter Try.func55, Try.ntmps55
  go_wp2_with fail
  refine (index_int A n c l v _ hn hr).mono ?_
  rintro e w1 ⟨⟨r, rfl, hr'⟩, rfl⟩
  by_cases h0 : 0 ≤ r
  · have hm := hr'.1 h0
    go_wp2
    go_ret
    exact ⟨by simp [hm], rfl⟩
  · have hm : ¬ v ∈ l := fun h => h0 (hr'.2 h)
    go_wp2
    go_ret
    exact ⟨by simp [hm], rfl⟩
end Go.Proofs.Ytfkhefoilancnaa
