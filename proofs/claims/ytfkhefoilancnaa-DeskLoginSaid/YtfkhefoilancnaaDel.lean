/-
  What slices.Delete(s, 0, 1) does to a row: the equations of its reslicings, and the row behind it. Over any program.
-/
import Derived.WalkKit
import Derived.Deep.RegionLaw
import Derived.Lib.SliceRun
import Derived.Test.YtfkhefoilancnaaCat
import Derived.Test.YtfkhefoilancnaaLaws
namespace Go.Proofs.Ytfkhefoilancnaa
open Go.RowKit
section
variable {P : Program} {t e : TypeId} {sz : Nat} (ht : P.underlying t = some (.slice e)) (hz : ∀ W : World, (sizeOf e).run P W = .ok sz W)
include ht hz
omit hz in
theorem elem_of : P.elem t = e := by simp [Program.elem, ht]
omit hz in
theorem und_of : P.underlying t = some (.slice (P.elem t)) := by simp [Program.elem, ht]
theorem del_1 (g m cp : Nat) (hc : m + 1 ≤ cp) : ∃ V, ∀ W, (Instr.slice t (.slice (some ⟨g, 0, none⟩) (m + 1) cp) (some (.int .i64 0)) (some (.int .i64 1)) (some (.int .i64 ((m : Int) + 1)))).run P W = .ok V W := by
  refine ⟨sliced (some ⟨g, 0, none⟩) (Int.toNat 0) (Int.toNat 1) (Int.toNat ((m : Int) + 1)) sz, fun W => ?_⟩
  rw [run_slice_lhm W t (some ⟨g, 0, none⟩) (m + 1) cp (und_of ht) .i64 .i64 .i64 0 1 ((m : Int) + 1) (by omega) (by omega) (by omega) (by omega), elem_of ht, hz, Result.andThen_ok]
theorem del_2 (g n cp : Nat) : ∀ W, (Instr.slice t (.slice (some ⟨g, 0, none⟩) n cp) none (some (.int .i64 0)) none).run P W = .ok (.slice (some ⟨g, 0, none⟩) 0 cp) W := by
  intro W
  rw [run_slice_h W t (some ⟨g, 0, none⟩) n cp (und_of ht) .i64 0 (by omega) (by omega), elem_of ht, hz, Result.andThen_ok]
  simp only [sliced]
  split
  · simp
  · simp [addr_add]
theorem del_3 (g m cp : Nat) (hc : m + 1 ≤ cp) : ∃ ad, (1 ≤ m → ad = ⟨g, sz, none⟩) ∧ ∀ W, (Instr.slice t (.slice (some ⟨g, 0, none⟩) (m + 1) cp) (some (.int .i64 1)) none none).run P W = .ok (.slice (some ad) m (cp - 1)) W := by
  have h := fun W => run_slice_l W t (some ⟨g, 0, none⟩) (m + 1) cp (und_of ht) .i64 1 (by omega) (by omega)
  simp only [elem_of ht, hz, Result.andThen_ok, sliced] at h
  have e1 : (1 : Int).toNat = 1 := rfl
  simp only [e1, Nat.add_sub_cancel] at h
  by_cases h1 : cp = 1
  · refine ⟨⟨g, 0, none⟩, by omega, fun W => ?_⟩
    rw [h W, if_pos h1]
  · refine ⟨⟨g, sz, none⟩, fun _ => rfl, fun W => ?_⟩
    rw [h W, if_neg h1]
    simp [addr_add]
theorem del_4 (g m cp : Nat) (hc : m + 1 ≤ cp) : ∀ W, (Instr.slice t (.slice (some ⟨g, 0, none⟩) m cp) (some (.int .i64 (m : Int))) (some (.int .i64 ((m : Int) + 1))) none).run P W = .ok (.slice (some ⟨g, m * sz, none⟩) 1 (cp - m)) W := by
  intro W
  rw [run_slice_lh W t (some ⟨g, 0, none⟩) m cp (und_of ht) .i64 .i64 (m : Int) ((m : Int) + 1) (by omega) (by omega) (by omega), elem_of ht, hz, Result.andThen_ok]
  have e1 : ((m : Int) + 1).toNat = m + 1 := by omega
  simp only [sliced, Int.toNat_natCast, e1]
  rw [if_neg (by omega)]
  simp [addr_add]
end
/-- 'clear(s)' of one element. -/
theorem run_clear_1 {P : Program} (t e ty : TypeId) (z : Value) (ht : P.underlying t = some (.slice e)) (hv : ∀ w, (zeroValue e).run P w = .ok z w) (h1 : ∀ u ∈ z.cells.toList, u.oneCell' = true) (w : World) (b o c : Nat)
    (hc : ∀ j, j < z.cells.size → (w.cell? ⟨b, o + j, none⟩).isSome = true) (hf : ∀ j, j < z.cells.size → w.frozen? ⟨b, o + j, none⟩ = false) :
    (Builtin.clear_ #[t] ty #[.slice (some ⟨b, o, none⟩) 1 c]).run P w = .ok (.tuple #[]) (w.setCells b o z.cells.toList) := by
  have hzc : (Builtin.zeroCells z.cells 1) = z.cells := by
    simp only [Builtin.zeroCells]
    apply Array.ext_getElem?
    intro j
    by_cases hj : j < z.cells.size
    · simp [hj, Nat.mod_eq_of_lt hj]
    · simp [hj]
  have hst := run_storeCells_cells (P := P) b o z.cells.toList 0 w (by simpa using hc) (by simpa using hf) h1
  simp only [Nat.add_zero] at hst
  simp [Builtin.clear_, run_underlying ht, hv, hzc, hst]
/-- The row behind Delete(s, 0, 1). -/
theorem own_del {w : World} {base g m cp sz : Nat} {e : TypeId} {xs zs : List Value} (h : w.ownsRow base e sz (.slice (some ⟨g, 0, none⟩) (m + 1) cp) (m + 1) xs) (hzs : zs.length = sz) :
    ((w.drew.setCells g 0 (xs.drop sz)).setCells g (m * sz) zs).ownsRow base e sz (.slice (some ⟨g, 0, none⟩) m cp) m (xs.drop sz) ∧ Mod [g] w ((w.drew.setCells g 0 (xs.drop sz)).setCells g (m * sz) zs) ∧
      (∃ cur, w.drew.heap[g]? = some (.cells cur e (0, 0)) ∧ (m + 1) * sz ≤ cur.size) ∧ (∃ cur, (w.drew.setCells g 0 (xs.drop sz)).heap[g]? = some (.cells cur e (0, 0)) ∧ (m + 1) * sz ≤ cur.size) := by
  have hl := h.1
  rcases h.2 with ⟨h', _⟩ | ⟨g', cap', cur, h', hb, hg, hn, hm, hs, htk⟩
  · cases h'
  injection h' with h1 h2 h3
  injection h1 with h1
  injection h1 with h1
  subst h1 h3
  have hms : (m + 1) * sz = m * sz + sz := Nat.succ_mul m sz
  have hcs : (m + 1) * sz ≤ cur.size := by rw [hs]; exact Nat.mul_le_mul_right _ hn
  have hdl : (xs.drop sz).length = m * sz := by rw [List.length_drop, hl, hms]; omega
  have hg0 : w.drew.heap[g]? = some (.cells cur.toList.toArray e (0, 0)) := by rw [Array.toArray_toList]; exact hg
  have s1 := setCells_blk (xs.drop sz) w.drew g 0 cur.toList e hg0 (by simp; omega)
  have s2 := setCells_blk zs _ g (m * sz) _ e s1.1 (by simp; omega)
  refine ⟨⟨hdl, .inr ⟨g, cp, _, rfl, hb, s2.1, by omega, hm, ?_, ?_⟩⟩, ((Mod.refl [g] w).drew.trans s1.2 (fun t ht => .inl ht)).trans s2.2 (fun t ht => .inl ht), ⟨cur, hg, hcs⟩, ⟨_, s1.1, by simp; omega⟩⟩
  · simp; omega
  · simp only [List.take_zero, List.nil_append, Nat.zero_add, hdl]
    rw [← hdl, List.take_append_of_le_length (by simp), List.take_take, Nat.min_self, List.take_append_of_le_length (by simp), List.take_of_length_le (by simp)]
end Go.Proofs.Ytfkhefoilancnaa
