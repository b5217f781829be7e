/-
  What a desk's blocks are: its own cells, the row of its chunks, each chunk's bytes, and what waits.
-/
import Derived.Test.YtfkhefoilancnaaMem
namespace Go.Proofs.Ytfkhefoilancnaa
open Go.RowKit

/-- What a desk holds, and where. -/
structure Gh where
  h : Nat
  cap : Nat
  gs : List Nat
  name : ByteArray
  vol : Nat → Nat → UInt8
  phase : Int
  wa : Option Addr
  wc : Nat
  wait : List UInt8
  count : Int

/-- A shape: blocks, a chunk's blocks, width, unit; and how many chunks. -/
structure Sh where
  b : Int
  c : Int
  w : Int
  u : Int
  k : Nat
  n : Nat

def deskCells (s : Sh) (G : Gh) : Array Value :=
  #[.int .u64 s.b, .int .i64 s.c, .int .i64 s.w, .int .i64 s.u, .string G.name, .slice (some ⟨G.h, 0, none⟩) s.k G.cap, .int .i64 G.phase, .slice G.wa G.wait.length G.wc, .int .u32 G.count]

structure DeskAt (s : Sh) (w : World) (d : Nat) (G : Gh) : Prop where
  desk : w.heap[d]? = some (Obj.cells (deskCells s G) 103 (0, 0))
  head : w.ownsRow 0 32 1 (.slice (some ⟨G.h, 0, none⟩) s.k G.cap) s.k (G.gs.map fun g => .slice (some ⟨g, 0, none⟩) s.n s.n)
  chunk : ∀ i g, G.gs[i]? = some g → w.heap[g]? = some (Obj.cells (rowOf s.n (G.vol i)).toArray 5 (0, 0))
  nodup : G.gs.Nodup
  wait : Rds w G.wa G.wait.length (G.wait.map By)
  apart : Off G.gs G.wa G.wait.length

namespace DeskAt
variable {s : Sh} {w w' : World} {d : Nat} {G : Gh}

theorem len (h : DeskAt s w d G) : G.gs.length = s.k := by simpa using h.head.1
theorem headBlk (h : DeskAt s w d G) : ∃ cur, w.heap[G.h]? = some (.cells cur 32 (0, 0)) := by
  rcases h.head.2 with ⟨h', _⟩ | ⟨g, cap, cur, h', _, hg, _⟩
  · cases h'
  · injection h' with h1 h2 h3
    injection h1 with h1
    injection h1 with h1
    exact ⟨cur, by rw [h1]; exact hg⟩
theorem blk_ne {w : World} {a b : Nat} {ca cb : Array Value} {ta tb : TypeId} (ha : w.heap[a]? = some (.cells ca ta (0, 0))) (hb : w.heap[b]? = some (.cells cb tb (0, 0))) (hne : ta ≠ tb) : a ≠ b := by
  rintro rfl
  rw [ha] at hb
  injection hb with hb
  injection hb with _ ht
  exact hne ht
theorem gs_chunk (h : DeskAt s w d G) {g : Nat} (hg : g ∈ G.gs) : ∃ i, G.gs[i]? = some g ∧ w.heap[g]? = some (.cells (rowOf s.n (G.vol i)).toArray 5 (0, 0)) := by
  obtain ⟨i, hi⟩ := List.getElem?_of_mem hg
  exact ⟨i, hi, h.chunk i g hi⟩
theorem d_notin (h : DeskAt s w d G) : d ∉ G.gs := by
  intro hg
  obtain ⟨i, _, hc⟩ := h.gs_chunk hg
  exact blk_ne h.desk hc (by decide) rfl
theorem h_notin (h : DeskAt s w d G) : G.h ∉ d :: G.gs := by
  obtain ⟨cur, hcur⟩ := h.headBlk
  intro hg
  rcases List.mem_cons.1 hg with hg | hg
  · exact blk_ne hcur h.desk (by decide) hg
  · obtain ⟨i, _, hc⟩ := h.gs_chunk hg
    exact blk_ne hcur hc (by decide) rfl
/-- What it holds stands where nothing of it is touched. -/
theorem mod {S : List Nat} (h : DeskAt s w d G) (hm : Mod S w w') (hd : d ∉ S) (hh : G.h ∉ S) (hg : ∀ g, g ∈ G.gs → g ∉ S) (hw : Off S G.wa G.wait.length) : DeskAt s w' d G where
  desk := hm.blk h.desk hd
  head := hm.own h.head (fun g e => by simp [Value.ownBlock] at e; rw [← e]; exact hh)
  chunk i g hi := hm.blk (h.chunk i g hi) (hg g (List.mem_of_getElem? hi))
  nodup := h.nodup
  wait := h.wait.mod hm hw
  apart := h.apart
theorem mod0 (h : DeskAt s w d G) (hm : Mod [] w w') : DeskAt s w' d G := h.mod hm (by simp) (by simp) (by simp) (fun _ _ _ => by simp)
/-- A cell of its own. -/
theorem cell (h : DeskAt s w d G) {i : Nat} {v : Value} (hi : (deskCells s G)[i]? = some v) : w.cell? ⟨d, i, none⟩ = some v := blk_cell h.desk hi
theorem head_cell (h : DeskAt s w d G) {i g : Nat} (hi : G.gs[i]? = some g) : w.cell? ⟨G.h, i, none⟩ = some (.slice (some ⟨g, 0, none⟩) s.n s.n) := by
  have hlt : i < G.gs.length := (List.getElem?_eq_some_iff.1 hi).1
  rw [h.head.cellAt i (by rw [Nat.mul_one, ← h.len]; exact hlt), List.getElem?_map, hi]
  rfl
theorem own_notin (h : DeskAt s w d G) {base : Nat} {e : TypeId} {size : Nat} {v : Value} {n : Nat} {xs : List Value} (ho : w.ownsRow base e size v n xs) (he : e ≠ 5) :
    ∀ g, v.ownBlock = some g → g ∉ G.gs := by
  intro g hg hin
  obtain ⟨i, _, hc⟩ := h.gs_chunk hin
  rcases ho.2 with ⟨rfl, _⟩ | ⟨g', cap, cur, rfl, _, hg', _⟩
  · cases hg
  · simp [Value.ownBlock] at hg
    subst hg
    exact blk_ne hg' hc he rfl
end DeskAt

def Gh.setVol (G : Gh) (v : Nat → Nat → UInt8) : Gh := { G with vol := v }
theorem DeskAt.setVol {s : Sh} {w w' : World} {d : Nat} {G : Gh} (h : DeskAt s w d G) {i g : Nat} (hi : G.gs[i]? = some g) {f : Nat → UInt8} (hb : w'.heap[g]? = some (Obj.cells (rowOf s.n f).toArray 5 (0, 0))) (hm : Mod [g] w w')
    {v' : Nat → Nat → UInt8} (h1 : ∀ x, x < s.n → v' i x = f x) (h2 : ∀ j, j ≠ i → ∀ x, x < s.n → v' j x = G.vol j x) : DeskAt s w' d (G.setVol v') where
  desk := hm.blk h.desk (fun hin => h.d_notin (by rw [List.mem_singleton.1 hin]; exact List.mem_of_getElem? hi))
  head := hm.own h.head (fun b e => by
    simp [Value.ownBlock] at e
    intro hin
    have hG : G.h = g := e.trans (List.mem_singleton.1 hin)
    exact h.h_notin (by rw [hG]; exact List.mem_cons_of_mem _ (List.mem_of_getElem? hi)))
  chunk j b hj := by
    have hj' : G.gs[j]? = some b := hj
    by_cases e : j = i
    · subst e
      rw [hi] at hj'
      injection hj' with hj'
      subst hj'
      rw [hb]
      show _ = some (Obj.cells (rowOf s.n (v' j)).toArray 5 (0, 0))
      rw [rowOf_congr h1]
    · have hne : b ≠ g := by
        intro hbg
        subst hbg
        have hl := (List.getElem?_eq_some_iff.1 hj').1
        have hl2 := (List.getElem?_eq_some_iff.1 hi).1
        exact e ((List.getElem?_inj hl h.nodup).1 (hj'.trans hi.symm))
      have := hm.blk (h.chunk j b hj') (by simpa using hne)
      rw [this]
      show _ = some (Obj.cells (rowOf s.n (v' j)).toArray 5 (0, 0))
      rw [rowOf_congr (h2 j e)]
  nodup := h.nodup
  wait := h.wait.mod hm (fun a ha hn => by
    intro hin
    exact h.apart a ha hn (by rw [List.mem_singleton.1 hin]; exact List.mem_of_getElem? hi))
  apart := h.apart

/-- Bytes as a function. -/
def dat (l : List UInt8) (i : Nat) : UInt8 := l.getD i 0
theorem dat_cut (l : List UInt8) (lo m : Nat) (h : lo + m ≤ l.length) : ((l.map By).drop lo).take m = rowOf m fun i => dat l (lo + i) := by
  apply List.ext_getElem?
  intro j
  rw [rowOf_get, List.getElem?_take]
  by_cases hj : j < m
  · rw [if_pos hj, if_pos hj, List.getElem?_drop, List.getElem?_map, List.getElem?_eq_getElem (by omega)]
    simp [dat, List.getD, show lo + j < l.length by omega]
  · rw [if_neg hj, if_neg hj]
end Go.Proofs.Ytfkhefoilancnaa
