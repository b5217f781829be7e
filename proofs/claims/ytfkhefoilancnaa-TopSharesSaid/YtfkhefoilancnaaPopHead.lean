/-
  drr's Pop: what a walk reads of a scheduler, what Pop answers, and what holds at its loop.
-/
import Derived.WalkKit
import Derived.Handy
import Derived.BigQuiet
import Derived.Deep.QuietTactic
import Derived.Deep.RegionLaw
import Derived.Deep.RegionWith
import Derived.Deep.RegionHeld3
import Derived.Lib.Hide
import Derived.Test.YtfkhefoilancnaaPush
import Derived.Test.YtfkhefoilancnaaPu
namespace Go.Proofs.Ytfkhefoilancnaa
open Go.RowKit
/-- What a walk reads of a scheduler whose round begins with i, whose first job is j. -/
structure Front (w : World) (s : Nat) (G : Sg) (i : Nat) (rest : List Nat) (j : Jb) (js : List Jb) (rg jg : Nat) : Prop where
  ra : G.ra = some ⟨rg, 0, none⟩
  ja : (G.fl i).ja = some ⟨jg, 0, none⟩
  c0 : w.cell? ⟨s, 0, none⟩ = some (.slice (some ⟨G.fb, 0, none⟩) 3 3)
  c1 : w.cell? ⟨s, 1, none⟩ = some (.slice (some ⟨rg, 0, none⟩) (rest.length + 1) G.rc)
  c2 : w.cell? ⟨s, 2, none⟩ = some (.bool G.on)
  c3 : w.cell? ⟨s, 3, none⟩ = some (.int .i64 G.n)
  r0 : w.cell? ⟨rg, 0, none⟩ = some (.int .i64 i)
  f0 : w.cell? ⟨G.fb, i * 3, none⟩ = some (.int .i64 (G.fl i).sh)
  f1 : w.cell? ⟨G.fb, i * 3 + 1, none⟩ = some (.int .i64 (G.fl i).cr)
  f2 : w.cell? ⟨G.fb, i * 3 + 2, none⟩ = some (.slice (some ⟨jg, 0, none⟩) (js.length + 1) (G.fl i).jc)
  j0 : w.cell? ⟨jg, 0, none⟩ = some (.int .i64 j.f)
  j1 : w.cell? ⟨jg, 1, none⟩ = some (.int .i64 j.c)
  j2 : w.cell? ⟨jg, 2, none⟩ = some (.int .u64 j.i)
  zs : s < w.heap.size
  zf : G.fb < w.heap.size
  zr : rg < w.heap.size
  zj : jg < w.heap.size
  rp : G.rc ≠ 0
  jp : js.length + 1 ≤ (G.fl i).jc
theorem SchedAt.front {w : World} {s : Nat} {G : Sg} (h : SchedAt w s G) {i : Nat} {rest : List Nat} {j : Jb} {js : List Jb} (hi : i < 3) (hr : G.round = i :: rest) (hj : (G.fl i).jobs = j :: js) : ∃ rg jg, Front w s G i rest j js rg jg := by
  obtain ⟨rg, hra, _, hrg, hrc⟩ := own_block h.round (by rw [hr]; simp)
  obtain ⟨jg, hja, _, hjg, hjc⟩ := own_block (h.jobs i hi) (by rw [hj]; simp)
  have hro := h.round
  rw [Sg.rv, hra] at hro
  have hjo := h.jobs i hi
  rw [Fl.jv, hja] at hjo
  obtain ⟨f0, f1, f2⟩ := h.flow hi
  have c1 : w.cell? ⟨s, 1, none⟩ = some G.rv := h.cell rfl
  refine ⟨rg, jg, hra, hja, h.cell rfl, ?_, h.cell rfl, h.cell rfl, ?_, f0, f1, ?_, ?_, ?_, ?_, blk_lt h.sched, blk_lt h.flows, hrg, hjg, ?_, ?_⟩
  · rw [c1, Sg.rv, hra, hr]; rfl
  · rw [hro.cellAt 0 (by rw [hr]; simp), hr]; rfl
  · rw [f2, Fl.jv, hja, hj]; rfl
  · rw [hjo.cellAt 0 (by rw [hj]; simp only [List.length_cons]; omega), hj]; rfl
  · rw [hjo.cellAt 1 (by rw [hj]; simp only [List.length_cons]; omega), hj]; rfl
  · rw [hjo.cellAt 2 (by rw [hj]; simp only [List.length_cons]; omega), hj]; rfl
  · rw [hr] at hrc; simp only [List.length_cons] at hrc; omega
  · rw [hj] at hjc; simpa using hjc
theorem SchedAt.sblk_lt {w : World} {s : Nat} {G : Sg} (h : SchedAt w s G) : ∀ t, t ∈ sblk s G → t < w.heap.size := by
  intro t ht
  simp only [sblk, List.mem_cons, List.mem_append] at ht
  rcases ht with rfl | rfl | ((ht | ht) | ht) | ht
  · exact blk_lt h.sched
  · exact blk_lt h.flows
  · exact (own_ge (h.jobs 0 (by omega)) t ht).2
  · exact (own_ge (h.jobs 1 (by omega)) t ht).2
  · exact (own_ge (h.jobs 2 (by omega)) t ht).2
  · exact (own_ge h.round t ht).2
theorem put_put {α : Type} (f : Nat → α) (i : Nat) (a b : α) : put (put f i a) i b = put f i b := by
  funext j
  simp only [put]
  split <;> rfl
theorem pu_upd (G : Sg) (i : Nat) (f : Fl) : ({ G with fl := upd G.fl i f } : Sg).pu = { G.pu with sh := put G.pu.sh i f.sh, cr := put G.pu.cr i f.cr, jobs := put G.pu.jobs i f.jobs } := by
  simp only [Sg.pu, Pu.mk.injEq, and_true]
  refine ⟨?_, ?_, ?_⟩ <;> (funext k; simp only [upd, put]; split <;> rfl)
theorem put_self {α : Type} (f : Nat → α) (i : Nat) : put f i (f i) = f := by
  funext j
  simp only [put]
  split
  · rename_i h; rw [h]
  · rfl
theorem info95s : (Try.prog.info? 95).map (·.size) = some 3 := by kernel_rfl
/-- What Pop answers, and what it leaves. -/
def PopPost (s : Nat) (G0 : Sg) (w : World) (e : Ending) (w' : World) : Prop :=
    ∃ G' i rest j js, e = .returned (.tuple #[.agg #[.int .i64 j.f, .int .i64 j.c, .int .u64 j.i], .bool true]) ∧ SchedAt w' s G' ∧
      G0.pu.ready.round = i :: rest ∧ G0.pu.ready.jobs i = j :: js ∧ G'.pu = G0.pu.ready.take i rest j js ∧ Mod (sblk s G0) w w' ∧ (∀ g, G'.rv.ownBlock = some g → G0.rv.ownBlock = some g ∨ w.heap.size ≤ g) ∧ ∀ t, t ∈ sblk s G' → t ∈ sblk s G0 ∨ w.heap.size ≤ t
structure PopRel (w wr : World) (s : Nat) (G0 G : Sg) : Prop where
  at_ : SchedAt wr s G
  res : wr.heap[w.heap.size]? = some (.cells #[.int .i64 0, .int .i64 0, .int .u64 0] 95 (0, 0))
  mod : Mod (sblk s G0) w wr
  sub : ∀ t, t ∈ sblk s G → t ∈ sblk s G0 ∨ w.heap.size ≤ t
  rbn : ∀ t, t ∈ sblk s G → t ≠ w.heap.size
  rnw : ∀ g, G.rv.ownBlock = some g → G0.rv.ownBlock = some g ∨ w.heap.size ≤ g
end Go.Proofs.Ytfkhefoilancnaa
