/-
  What the laws' acts are: read out of the first world. No walk in it.
-/
import Derived.WalkKit
import Derived.ProofKit
import Derived.ChangeSlices
import Derived.ChangeArms
import Derived.Deep.Slices
import Derived.KernelRfl
import Derived.Test.YtfkhefoilancnaaArgs
namespace Go.Proofs.Ytfkhefoilancnaa
open Go.RowKit Go.ChangeShapes Go.WideShapes Go.ChangeAt
/-- An act of the laws: a command, a number, a fill. -/
structure AC where
  op : Int
  lba : Nat
  cnt : Int
  room : Int
  n : Int
  fl : UInt8
def AC.cells (q : AC) : List Value := [.int .i64 q.op, .int .u64 q.lba, .int .i64 q.cnt, .int .i64 q.room, .int .i64 q.n, By q.fl]
structure ActsIn (w : World) (A : Option Addr) (n : Nat) (l : List AC) : Prop where
  len : l.length = n
  get : ∀ i q, l[i]? = some q → ∃ b off, A = some ⟨b, off, none⟩ ∧ b < w.heap.size ∧ w.cell? ⟨b, off + i * 6, none⟩ = some (.int .i64 q.op) ∧ w.cell? ⟨b, off + i * 6 + 1, none⟩ = some (.int .u64 q.lba) ∧ w.cell? ⟨b, off + i * 6 + 2, none⟩ = some (.int .i64 q.cnt) ∧
    w.cell? ⟨b, off + i * 6 + 3, none⟩ = some (.int .i64 q.room) ∧ w.cell? ⟨b, off + i * 6 + 4, none⟩ = some (.int .i64 q.n) ∧ w.cell? ⟨b, off + i * 6 + 5, none⟩ = some (By q.fl)
theorem ActsIn.mod0 {w w' : World} {A : Option Addr} {n : Nat} {l : List AC} (h : ActsIn w A n l) (hm : Mod [] w w') : ActsIn w' A n l := by
  refine ⟨h.len, fun i q hi => ?_⟩
  obtain ⟨b, off, hA, hb, h0, h1, h2, h3, h4, h5⟩ := h.get i q hi
  have hc := hm.cells.1
  exact ⟨b, off, hA, Nat.lt_of_lt_of_le hb hm.size, by rw [hc _ _ hb]; exact h0, by rw [hc _ _ hb]; exact h1, by rw [hc _ _ hb]; exact h2, by rw [hc _ _ hb]; exact h3, by rw [hc _ _ hb]; exact h4, by rw [hc _ _ hb]; exact h5⟩
theorem cells40 : Try.prog.cellsOf 40 = 4 := by kernel_rfl
theorem cells65 : Try.prog.cellsOf 65 = 6 := by kernel_rfl
theorem cells28 : Try.prog.cellsOf 28 = 1 := by kernel_rfl
section
variable {H : Type} {enc : TypeId × Value → H} {w : World} {base : Nat} {spare : Nat → Bool} {held : Bool} {fuel : Nat} {cs : List Value} {x : DataW H × List MemPlace}
theorem wf_u64 {n : Int} (h : (Lit.int .u64 n).wf = true) : Value.int .u64 n = .int .u64 (n.toNat : Nat) := by
  have h2 : 0 ≤ n := by
    have e0 : IntKind.u64.min = 0 := rfl
    simp [Lit.wf, e0] at h
    omega
  congr 1
  omega
theorem len4 {α : Type} {l : List α} (h : l.length = 4) : ∃ a b c d, l = [a, b, c, d] := by
  rcases l with _ | ⟨a, _ | ⟨b, _ | ⟨c, _ | ⟨d, _ | ⟨e, t⟩⟩⟩⟩⟩ <;> simp at h ⊢
theorem len3 {α : Type} {l : List α} (h : l.length = 3) : ∃ a b c, l = [a, b, c] := by
  rcases l with _ | ⟨a, _ | ⟨b, _ | ⟨c, _ | ⟨d, t⟩⟩⟩⟩ <;> simp at h ⊢
theorem open_cmd (h : DataW.trod enc Try.prog w base spare held fuel 40 cs = some x) : ∃ (op cnt room : Int) (lba : Nat), cs = [.int .i64 op, .int .u64 lba, .int .i64 cnt, .int .i64 room] := by
  obtain ⟨xs, n, _, _, hl, hx, hf⟩ := DataW.trod_struct Try.underlying40 h
  rw [cells40] at hl
  obtain ⟨a, b, c, d, rfl⟩ := len4 hl
  obtain ⟨y0, y1, y2, y3, rfl⟩ := len4 hx
  have f0 : DataW.trod enc Try.prog w base spare held n 3 (([a, b, c, d].drop 0).take (Try.prog.cellsOf 3)) = [y0, y1, y2, y3][0]? := hf 0 _ rfl
  have f1 : DataW.trod enc Try.prog w base spare held n 28 (([a, b, c, d].drop 1).take (Try.prog.cellsOf 28)) = [y0, y1, y2, y3][1]? := hf 1 _ rfl
  have f2 : DataW.trod enc Try.prog w base spare held n 3 (([a, b, c, d].drop 2).take (Try.prog.cellsOf 3)) = [y0, y1, y2, y3][2]? := hf 2 _ rfl
  have f3 : DataW.trod enc Try.prog w base spare held n 3 (([a, b, c, d].drop 3).take (Try.prog.cellsOf 3)) = [y0, y1, y2, y3][3]? := hf 3 _ rfl
  rw [cells3] at f0 f2 f3
  rw [cells28] at f1
  obtain ⟨n0, h0, _⟩ := DataW.trod_int Try.underlying3 f0
  obtain ⟨n1, h1, _, w1⟩ := DataW.trod_int Try.underlying28 f1
  obtain ⟨n2, h2, _⟩ := DataW.trod_int Try.underlying3 f2
  obtain ⟨n3, h3, _⟩ := DataW.trod_int Try.underlying3 f3
  refine ⟨n0, n2, n3, n1.toNat, ?_⟩
  rw [← wf_u64 w1]
  simp only [List.take, List.drop, List.cons.injEq, and_true] at h0 h1 h2 h3
  rw [h0, h1, h2, h3]
theorem open_act (h : DataW.trod enc Try.prog w base spare held fuel 65 cs = some x) : ∃ q : AC, cs = q.cells := by
  obtain ⟨xs, n, _, _, hl, hx, hf⟩ := DataW.trod_struct Try.underlying65 h
  rw [cells65] at hl
  obtain ⟨a, b, c, d, e, g, rfl⟩ := len6 hl
  obtain ⟨y0, y1, y2, rfl⟩ := len3 hx
  have f0 : DataW.trod enc Try.prog w base spare held n 40 (([a, b, c, d, e, g].drop 0).take (Try.prog.cellsOf 40)) = [y0, y1, y2][0]? := hf 0 _ rfl
  have f1 : DataW.trod enc Try.prog w base spare held n 3 (([a, b, c, d, e, g].drop 4).take (Try.prog.cellsOf 3)) = [y0, y1, y2][1]? := hf 1 _ rfl
  have f2 : DataW.trod enc Try.prog w base spare held n 5 (([a, b, c, d, e, g].drop 5).take (Try.prog.cellsOf 5)) = [y0, y1, y2][2]? := hf 2 _ rfl
  rw [cells40] at f0
  rw [cells3] at f1
  rw [cells5] at f2
  obtain ⟨op, cnt, room, lba, h0⟩ := open_cmd f0
  obtain ⟨n1, h1, _⟩ := DataW.trod_int Try.underlying3 f1
  obtain ⟨n2, h2, _, w2⟩ := DataW.trod_int Try.underlying5 f2
  refine ⟨⟨op, lba, cnt, room, n1, UInt8.ofNat n2.toNat⟩, ?_⟩
  simp only [AC.cells]
  rw [← wf_by w2]
  simp only [List.take, List.drop, List.cons.injEq, and_true] at h0 h1 h2
  obtain ⟨h3, h4, h5, h6⟩ := h0
  rw [h1, h2, h3, h4, h5, h6]
theorem open_acts {A : Option Addr} {len cap : Nat} (h : DataW.trod enc Try.prog w base spare held fuel 62 [.slice A len cap] = some x) : ∃ l, ActsIn w A len l := by
  rcases Deep.open_slice Try.underlying62 h with ⟨hcs, _⟩ | ⟨a, l, c, m, n, D, Pl, hcs, _, hl, _, hm, _, hx⟩
  · simp at hcs
    obtain ⟨rfl, rfl, rfl⟩ := hcs
    exact ⟨[], rfl, fun i q hi => by simp at hi⟩
  · simp at hcs
    obtain ⟨rfl, rfl, rfl⟩ := hcs
    have hlm : len ≤ m := by rw [hm]; split <;> omega
    have hq : ∀ i, i < len → ∃ q : AC, w.cells? base (a.add (i * 6)) 6 = some q.cells := by
      intro i hi
      obtain ⟨cs', h1, h2⟩ := hx i (by omega)
      rw [cells65] at h1
      obtain ⟨q, rfl⟩ := open_act h2
      exact ⟨q, h1⟩
    haveI : Inhabited AC := ⟨⟨0, 0, 0, 0, 0, 0⟩⟩
    obtain ⟨f, hf⟩ := Deep.choose_lt hq
    refine ⟨(List.range len).map f, by simp, fun i q hi => ?_⟩
    have hil : i < len := by
      have := (List.getElem?_eq_some_iff.1 hi).1
      simpa using this
    have hqf : q = f i := by
      rw [List.getElem?_map, List.getElem?_range hil] at hi
      simpa using hi.symm
    obtain ⟨_, _, hc⟩ := World.cells?_some (hf i hil)
    rw [← hqf] at hc
    obtain ⟨b, off, spot⟩ := a
    have hspot : spot = none := by
      obtain ⟨_, _, hc0⟩ := World.cells?_some (hf 0 (by omega))
      have := World.cell?_spot (hc0 0 (by simp))
      simpa [Addr.add] using this
    subst hspot
    simp only [add_none] at hc
    have hz : q.cells.length = 6 := rfl
    refine ⟨b, off, rfl, cell_lt (hc 0 (by omega)), hc 0 (by omega), hc 1 (by omega), hc 2 (by omega), hc 3 (by omega), hc 4 (by omega), hc 5 (by omega)⟩
end
end Go.Proofs.Ytfkhefoilancnaa
