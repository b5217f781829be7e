/-
  What the laws' arguments are: rows of ints, of orders, of jobs, read out of the first world. No walk in it.
-/
import Derived.WalkKit
import Derived.ProofKit
import Derived.ChangeSlices
import Derived.ChangeArms
import Derived.Deep.Slices
import Derived.KernelRfl
import Derived.Test.YtfkhefoilancnaaOrd
namespace Go.Proofs.Ytfkhefoilancnaa
open Go.RowKit Go.ChangeShapes Go.WideShapes Go.ChangeAt
theorem cells44 : Try.prog.cellsOf 44 = 5 := by kernel_rfl
theorem cells92 : Try.prog.cellsOf 92 = 6 := by kernel_rfl
theorem cells3 : Try.prog.cellsOf 3 = 1 := by kernel_rfl
theorem cells4 : Try.prog.cellsOf 4 = 1 := by kernel_rfl
theorem cells5 : Try.prog.cellsOf 5 = 1 := by kernel_rfl
/-- A row of jobs: whose, and the order. -/
structure JobsIn (w : World) (A : Option Addr) (n : Nat) (l : List (Int × Ord)) : Prop where
  len : l.length = n
  get : ∀ i q, l[i]? = some q → ∃ b off, A = some ⟨b, off, none⟩ ∧ b < w.heap.size ∧ w.cell? ⟨b, off + i * 6, none⟩ = some (.int .i64 q.1) ∧ w.cell? ⟨b, off + i * 6 + 1, none⟩ = some (.bool q.2.rd) ∧ w.cell? ⟨b, off + i * 6 + 2, none⟩ = some (.bool q.2.lg) ∧
    w.cell? ⟨b, off + i * 6 + 3, none⟩ = some (.int .i64 q.2.lba) ∧ w.cell? ⟨b, off + i * 6 + 4, none⟩ = some (.int .i64 q.2.cnt) ∧ w.cell? ⟨b, off + i * 6 + 5, none⟩ = some (By q.2.fl)
theorem JobsIn.mod0 {w w' : World} {A : Option Addr} {n : Nat} {l : List (Int × Ord)} (h : JobsIn w A n l) (hm : Mod [] w w') : JobsIn w' A n l := by
  refine ⟨h.len, fun i q hi => ?_⟩
  obtain ⟨b, off, hA, hb, h0, h1, h2, h3, h4, h5⟩ := h.get i q hi
  have hc := hm.cells.1
  exact ⟨b, off, hA, Nat.lt_of_lt_of_le hb hm.size, by rw [hc _ _ hb]; exact h0, by rw [hc _ _ hb]; exact h1, by rw [hc _ _ hb]; exact h2, by rw [hc _ _ hb]; exact h3, by rw [hc _ _ hb]; exact h4, by rw [hc _ _ hb]; exact h5⟩
section
variable {H : Type} {enc : TypeId × Value → H} {w : World} {base : Nat} {spare : Nat → Bool} {held : Bool} {fuel : Nat} {cs : List Value} {x : DataW H × List MemPlace}
theorem wf_by {n : Int} (h : (Lit.int .u8 n).wf = true) : Value.int .u8 n = By (UInt8.ofNat n.toNat) := by
  have h2 : 0 ≤ n ∧ n < 256 := by
    have e0 : IntKind.u8.min = 0 := rfl
    have e1 : IntKind.u8.max = 255 := rfl
    simp [Lit.wf, e0, e1] at h
    omega
  rw [By_def]
  congr 1
  have : (UInt8.ofNat n.toNat).toNat = n.toNat % 256 := by simp
  rw [this]
  omega
theorem len5 {α : Type} {l : List α} (h : l.length = 5) : ∃ a b c d e, l = [a, b, c, d, e] := by
  rcases l with _ | ⟨a, _ | ⟨b, _ | ⟨c, _ | ⟨d, _ | ⟨e, _ | ⟨g, t⟩⟩⟩⟩⟩⟩ <;> simp at h ⊢
theorem len2 {α : Type} {l : List α} (h : l.length = 2) : ∃ a b, l = [a, b] := by
  rcases l with _ | ⟨a, _ | ⟨b, _ | ⟨c, t⟩⟩⟩ <;> simp at h ⊢
theorem len6 {α : Type} {l : List α} (h : l.length = 6) : ∃ a b c d e g, l = [a, b, c, d, e, g] := by
  rcases l with _ | ⟨a, _ | ⟨b, _ | ⟨c, _ | ⟨d, _ | ⟨e, _ | ⟨g, _ | ⟨g', t⟩⟩⟩⟩⟩⟩⟩ <;> simp at h ⊢
theorem open_ord (h : DataW.trod enc Try.prog w base spare held fuel 44 cs = some x) : ∃ o : Ord, cs = [.bool o.rd, .bool o.lg, .int .i64 o.lba, .int .i64 o.cnt, By o.fl] := by
  obtain ⟨xs, n, _, _, hl, hx, hf⟩ := DataW.trod_struct Try.underlying44 h
  rw [cells44] at hl
  obtain ⟨a, b, c, d, e, rfl⟩ := len5 hl
  obtain ⟨y0, y1, y2, y3, y4, rfl⟩ := len5 hx
  have f0 : DataW.trod enc Try.prog w base spare held n 4 (([a, b, c, d, e].drop 0).take (Try.prog.cellsOf 4)) = [y0, y1, y2, y3, y4][0]? := hf 0 _ rfl
  have f1 : DataW.trod enc Try.prog w base spare held n 4 (([a, b, c, d, e].drop 1).take (Try.prog.cellsOf 4)) = [y0, y1, y2, y3, y4][1]? := hf 1 _ rfl
  have f2 : DataW.trod enc Try.prog w base spare held n 3 (([a, b, c, d, e].drop 2).take (Try.prog.cellsOf 3)) = [y0, y1, y2, y3, y4][2]? := hf 2 _ rfl
  have f3 : DataW.trod enc Try.prog w base spare held n 3 (([a, b, c, d, e].drop 3).take (Try.prog.cellsOf 3)) = [y0, y1, y2, y3, y4][3]? := hf 3 _ rfl
  have f4 : DataW.trod enc Try.prog w base spare held n 5 (([a, b, c, d, e].drop 4).take (Try.prog.cellsOf 5)) = [y0, y1, y2, y3, y4][4]? := hf 4 _ rfl
  rw [cells4] at f0 f1
  rw [cells3] at f2 f3
  rw [cells5] at f4
  obtain ⟨b0, h0, _⟩ := DataW.trod_bool Try.underlying4 f0
  obtain ⟨b1, h1, _⟩ := DataW.trod_bool Try.underlying4 f1
  obtain ⟨n2, h2, _⟩ := DataW.trod_int Try.underlying3 f2
  obtain ⟨n3, h3, _⟩ := DataW.trod_int Try.underlying3 f3
  obtain ⟨n4, h4, _, h5⟩ := DataW.trod_int Try.underlying5 f4
  refine ⟨⟨b0, b1, n2, n3, UInt8.ofNat n4.toNat⟩, ?_⟩
  rw [← wf_by h5]
  simp only [List.take, List.drop, List.cons.injEq, and_true] at h0 h1 h2 h3 h4
  rw [h0, h1, h2, h3, h4]
theorem open_job (h : DataW.trod enc Try.prog w base spare held fuel 92 cs = some x) : ∃ (i : Int) (o : Ord), cs = [.int .i64 i, .bool o.rd, .bool o.lg, .int .i64 o.lba, .int .i64 o.cnt, By o.fl] := by
  obtain ⟨xs, n, _, _, hl, hx, hf⟩ := DataW.trod_struct Try.underlying92 h
  rw [cells92] at hl
  obtain ⟨a, b, c, d, e, g, rfl⟩ := len6 hl
  obtain ⟨y0, y1, rfl⟩ := len2 hx
  have f0 : DataW.trod enc Try.prog w base spare held n 3 (([a, b, c, d, e, g].drop 0).take (Try.prog.cellsOf 3)) = [y0, y1][0]? := hf 0 _ rfl
  have f1 : DataW.trod enc Try.prog w base spare held n 44 (([a, b, c, d, e, g].drop 1).take (Try.prog.cellsOf 44)) = [y0, y1][1]? := hf 1 _ rfl
  rw [cells3] at f0
  rw [cells44] at f1
  obtain ⟨n0, h0, _⟩ := DataW.trod_int Try.underlying3 f0
  obtain ⟨o, h1⟩ := open_ord f1
  simp only [List.take, List.drop, List.cons.injEq, and_true] at h0 h1
  obtain ⟨h1, h2, h3, h4, h5⟩ := h1
  exact ⟨n0, o, by rw [h0, h1, h2, h3, h4, h5]⟩
theorem add_none {b off : Nat} (k : Nat) : (⟨b, off, none⟩ : Addr).add k = ⟨b, off + k, none⟩ := by
  unfold Addr.add
  split <;> simp_all
theorem cell_lt {b off : Nat} {v : Value} (h : w.cell? ⟨b, off, none⟩ = some v) : b < w.heap.size := by
  rcases Nat.lt_or_ge b w.heap.size with h1 | h1
  · exact h1
  · have : w.heap[b]? = none := Array.getElem?_eq_none h1
    simp [World.cell?, this] at h
theorem open_jobs {A : Option Addr} {len cap : Nat} (h : DataW.trod enc Try.prog w base spare held fuel 85 [.slice A len cap] = some x) : ∃ l, JobsIn w A len l := by
  rcases Deep.open_slice Try.underlying85 h with ⟨hcs, _⟩ | ⟨a, l, c, m, n, D, Pl, hcs, _, hl, _, hm, _, hx⟩
  · simp at hcs
    obtain ⟨rfl, rfl, rfl⟩ := hcs
    exact ⟨[], rfl, fun i q hi => by simp at hi⟩
  · simp at hcs
    obtain ⟨rfl, rfl, rfl⟩ := hcs
    have hlm : len ≤ m := by rw [hm]; split <;> omega
    have hq : ∀ i, i < len → ∃ q : Int × Ord, w.cells? base (a.add (i * 6)) 6 = some [.int .i64 q.1, .bool q.2.rd, .bool q.2.lg, .int .i64 q.2.lba, .int .i64 q.2.cnt, By q.2.fl] := by
      intro i hi
      obtain ⟨cs', h1, h2⟩ := hx i (by omega)
      rw [cells92] at h1
      obtain ⟨j, o, rfl⟩ := open_job h2
      exact ⟨(j, o), h1⟩
    haveI : Inhabited (Int × Ord) := ⟨(0, ⟨false, false, 0, 0, 0⟩)⟩
    obtain ⟨f, hf⟩ := Deep.choose_lt hq
    refine ⟨(List.range len).map f, by simp, fun i q hi => ?_⟩
    have hil : i < len := by
      have := (List.getElem?_eq_some_iff.1 hi).1
      simpa using this
    have hqf : q = f i := by
      rw [List.getElem?_map, List.getElem?_range hil] at hi
      simpa using hi.symm
    obtain ⟨_, _, hc⟩ := World.cells?_some (hf i hil)
    rw [← hqf] at hc
    obtain ⟨b, off, spot⟩ := a
    have hspot : spot = none := by
      obtain ⟨_, _, hc0⟩ := World.cells?_some (hf 0 (by omega))
      have := World.cell?_spot (hc0 0 (by omega))
      simpa [Addr.add] using this
    subst hspot
    simp only [add_none] at hc
    refine ⟨b, off, rfl, cell_lt (hc 0 (by omega)), hc 0 (by omega), hc 1 (by omega), hc 2 (by omega), hc 3 (by omega), hc 4 (by omega), hc 5 (by omega)⟩
/-- A row of ints that came in. -/
theorem open_row {A : Option Addr} {len cap : Nat} (h : DataW.trod enc Try.prog w base spare held fuel 23 [.slice A len cap] = some x) : ∃ l : List Int, Rds w A len (l.map (Value.int .i64)) := by
  rcases open_ints Try.underlying23 Try.underlying3 cells3 h with ⟨hcs, _⟩ | ⟨a, l, c, zs, hcs, _, hl, hm, hz, _, hcell, _⟩
  · simp at hcs
    obtain ⟨rfl, rfl, rfl⟩ := hcs
    exact ⟨[], Rds.none_ _⟩
  · simp at hcs
    obtain ⟨rfl, rfl, rfl⟩ := hcs
    have hlz : len ≤ zs.length := by rw [hz]; split <;> omega
    refine ⟨zs.take len, by simp; omega, fun hn => ?_⟩
    obtain ⟨b, off, spot⟩ := a
    have h0 := hcell 0 (by omega)
    have hspot : spot = none := by
      have := World.cell?_spot h0
      simpa [Addr.add] using this
    subst hspot
    simp only [add_none] at hcell
    refine ⟨b, off, rfl, cell_lt (hcell 0 (by omega)), fun j u hj => ?_⟩
    rw [List.getElem?_map, List.getElem?_take] at hj
    split at hj
    · rename_i hjl
      rw [hcell j (by omega), ← hj]
      simp [List.getD, List.getElem?_eq_getElem (show j < zs.length by omega)]
    · simp at hj
end
end Go.Proofs.Ytfkhefoilancnaa
