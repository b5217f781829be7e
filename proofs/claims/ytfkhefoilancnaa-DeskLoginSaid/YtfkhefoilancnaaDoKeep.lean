/-
  What the walks of Desk.Do share: the sense that is stored, what a region of reads keeps.
-/
import Derived.WalkKit
import Derived.Handy
import Derived.BigQuiet
import Derived.Deep.QuietTactic
import Derived.Deep.RegionHeld3
import Derived.Lib.Hide
import Derived.Test.YtfkhefoilancnaaMove
import Derived.Test.YtfkhefoilancnaaCheck
import Derived.Test.YtfkhefoilancnaaOor
namespace Go.Proofs.Ytfkhefoilancnaa
open Go.RowKit
theorem sense_set {w : World} {r : Nat} {p q u v : Value} (hR : w.heap[r]? = some (.cells #[p, q] 70 (0, 0))) :
    ((w.setCell ⟨r, 0, none⟩ u).setCell ⟨r, 1, none⟩ v).heap[r]? = some (.cells #[u, v] 70 (0, 0)) ∧ Mod [r] w ((w.setCell ⟨r, 0, none⟩ u).setCell ⟨r, 1, none⟩ v) := by
  have h1 : (w.setCell ⟨r, 0, none⟩ u).heap[r]? = some (.cells #[u, q] 70 (0, 0)) := heap_setCell_same w r 0 #[p, q] 70 u hR
  exact ⟨heap_setCell_same _ r 1 #[u, q] 70 v h1, ((Mod.refl _ _).setCell (.inl (by simp)) _).setCell (.inl (by simp)) _⟩
theorem DeskAt.high {s : Sh} {w : World} {d : Nat} {G : Gh} (h : DeskAt s w d G) {r : Nat} (hr : w.heap.size ≤ r) : d ∉ [r] ∧ G.h ∉ [r] ∧ (∀ g, g ∈ G.gs → g ∉ [r]) ∧ Off [r] G.wa G.wait.length := by
  refine ⟨?_, ?_, ?_, ?_⟩
  · have := blk_lt h.desk
    simp; omega
  · obtain ⟨cur, hc⟩ := h.headBlk
    have := blk_lt hc
    simp; omega
  · intro g hg
    obtain ⟨i, _, hc⟩ := h.gs_chunk hg
    have := blk_lt hc
    simp; omega
  · intro a ha hn
    obtain ⟨b, off, e, hb, _⟩ := h.wait.2 hn
    have hab := ha.symm.trans e
    injection hab with hab
    subst hab
    simp; omega
theorem keep_do {W w w' : World} {p d : Nat} {v1 v2 u0 u1 u2 u3 : Value}
    (h : Mod [] W w ∧ p < w.heap.size ∧ d < w.heap.size ∧ w.cell? ⟨p, 1, none⟩ = some v1 ∧ w.cell? ⟨p, 2, none⟩ = some v2 ∧ w.cell? ⟨d, 0, none⟩ = some u0 ∧ w.cell? ⟨d, 1, none⟩ = some u1 ∧ w.cell? ⟨d, 2, none⟩ = some u2 ∧ w.cell? ⟨d, 3, none⟩ = some u3)
    (hm : Mod [] w w') : Mod [] W w' ∧ p < w'.heap.size ∧ d < w'.heap.size ∧ w'.cell? ⟨p, 1, none⟩ = some v1 ∧ w'.cell? ⟨p, 2, none⟩ = some v2 ∧ w'.cell? ⟨d, 0, none⟩ = some u0 ∧ w'.cell? ⟨d, 1, none⟩ = some u1 ∧ w'.cell? ⟨d, 2, none⟩ = some u2 ∧ w'.cell? ⟨d, 3, none⟩ = some u3 := by
  obtain ⟨h0, hp, hd, h1, h2, h3, h4, h5, h6⟩ := h
  have hc := hm.cells.1
  have := hm.size
  exact ⟨h0.then0 hm, by omega, by omega, (hc _ _ hp).trans h1, (hc _ _ hp).trans h2, (hc _ _ hd).trans h3, (hc _ _ hd).trans h4, (hc _ _ hd).trans h5, (hc _ _ hd).trans h6⟩
end Go.Proofs.Ytfkhefoilancnaa
