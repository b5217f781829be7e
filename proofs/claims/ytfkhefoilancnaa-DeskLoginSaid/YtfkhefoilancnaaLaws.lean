/-
  Laws of the walk that this seat's texts share: a whole value stored into a block, an operation by its run. Over any program.
-/
import Derived.WalkKit
import Derived.Handy
import Derived.Deep.MidRow
import Derived.Deep.Upon
import Derived.Lib.Hide
import Derived.Test.YtfkhefoilancnaaMem
namespace Go.Proofs.Ytfkhefoilancnaa
open Go.RowKit
theorem setCells_blk : ∀ (vs : List Value) (w : World) (g o : Nat) (cur : List Value) (t : TypeId), w.heap[g]? = some (.cells cur.toArray t (0, 0)) → o + vs.length ≤ cur.length →
    (w.setCells g o vs).heap[g]? = some (.cells (cur.take o ++ (vs ++ cur.drop (o + vs.length))).toArray t (0, 0)) ∧ Mod [g] w (w.setCells g o vs)
  | [], w, g, o, cur, t, h, _ => ⟨by simpa [World.setCells] using h, Mod.refl _ _⟩
  | v :: vs, w, g, o, cur, t, h, hl => by
    have hl' : o < cur.length := by simp at hl; omega
    have h1 : (w.setCell ⟨g, o, none⟩ v).heap[g]? = some (.cells (cur.set o v).toArray t (0, 0)) := by
      rw [heap_setCell_same w g o cur.toArray t v h]
      simp
    have ih := setCells_blk vs (w.setCell ⟨g, o, none⟩ v) g (o + 1) (cur.set o v) t h1 (by simp at hl ⊢; omega)
    refine ⟨?_, ((Mod.refl _ _).setCell (.inl (by simp)) v).trans ih.2 (fun t ht => .inl ht)⟩
    show ((w.setCell ⟨g, o, none⟩ v).setCells g (o + 1) vs).heap[g]? = _
    rw [ih.1]
    congr 3
    rw [List.take_set, List.drop_set_of_lt (by omega), List.take_succ_eq_append_getElem hl', List.set_append_right _ _ (by simp; omega)]
    simp [Nat.min_eq_left (Nat.le_of_lt hl'), Nat.add_assoc, Nat.add_comm 1]

/-- A whole value is stored into a block of its size. -/
theorem wpList_storeBlk {P : Program} {ops : Array Oper} {rest : List Oper} {o : Oper} {a : Act} {w : World} {Q : Exit → Act → World → Prop} (hgd : o.guard = none) (ty : TypeId) (x y : Operand) (ho : o.op = .store ty x y)
    (g : Nat) (cells : Array Value) (hx : a.eval x = .pointer (some ⟨g, 0, none⟩)) (hy : a.eval y = .agg cells) (cur : Array Value) (t : TypeId) (hg : w.heap[g]? = some (.cells cur t (0, 0)))
    (hsz : cells.size = cur.size) (hi : (P.info? ty).map (·.size) = some cells.size) (h1 : cells.all (·.oneCell') = true)
    (h : ∀ w', w'.heap[g]? = some (.cells cells t (0, 0)) → Mod [g] w w' → wpList P ops Q rest (a.put o.dst undef) w') : wpList P ops Q (o :: rest) a w := by
  refine wpList_store_mid hgd ty x y ho g 0 cells hx hy ?_ hi h1 ?_
  · intro j hj
    refine ⟨?_, blk_frozen hg _⟩
    rw [cell_of_row w g _ cur t (0, 0) hg]
    simp; omega
  · have := setCells_blk cells.toList w g 0 cur.toList t (by simpa using hg) (by simp; omega)
    refine h _ ?_ this.2
    rw [this.1]
    have e : cur.toList.drop (0 + cells.toList.length) = [] := List.drop_eq_nil_of_le (by simp; omega)
    rw [e]
    simp

theorem heap_alloc_new' (w : World) (o : Obj) (n : Nat) (h : n = w.heap.size) : (w.alloc o).heap[n]? = some o := by subst h; exact heap_alloc_new w o
/-- An operation that yields a value and leaves the world alone, by its run. -/
theorem wpList_run {P : Program} {ops : Array Oper} {rest : List Oper} {o : Oper} {a : Act} {w : World} {Q : Exit → Act → World → Prop} (hgd : o.guard = none) (v : Value)
    (hr : (execOp a.eval o).run P w = .ok (.value v) w) (h : wpList P ops Q rest (a.put o.dst v) w) : wpList P ops Q (o :: rest) a w := by
  refine wpList_plain hgd fun K hK => ?_
  unfold Oper.wp
  rw [hr]
  exact hK _ _ h

/-- A whole struct is loaded out of its block. -/
theorem run_load_struct {P : Program} (w : World) (g : Nat) (t ty : TypeId) (cs : Array Value) {fs : Array Field} (hg : w.heap[g]? = some (.cells cs t (0, 0))) (hu : P.underlying ty = some (.struct fs)) (hi : (P.info? ty).map (·.size) = some cs.size) :
    (loadVar ty ⟨g, 0, none⟩).run P w = .ok (.agg cs) w := run_loadVar_row w g t ty cs (0, 0) _ hg hu rfl hi

section
variable {fn : Func} {p u v : Tmp} {ty : TypeId} (tmps : Array Value) {P : Program} (w : World) (g : Nat) (t : TypeId) (cs : Array Value) {fs : Array Field}
    (hp : tmps.getD p undef = .pointer (some ⟨g, 0, none⟩)) (hg : w.heap[g]? = some (.cells cs t (0, 0))) (hu : P.underlying ty = some (.struct fs)) (hi : (P.info? ty).map (·.size) = some cs.size)
include hp hg hu hi
theorem res_cell (h : fn.results = #[.cell p ty]) : (results fn tmps).run P w = .ok (.agg cs) w := by
  have hp' : tmps[p]?.getD undef = .pointer (some ⟨g, 0, none⟩) := by simpa using hp
  simp [results, h, hp', asAddr, run_load_struct w g t ty cs hg hu hi]
theorem res_cell_tmp (h : fn.results = #[.cell p ty, .tmp u]) : (results fn tmps).run P w = .ok (.tuple #[.agg cs, tmps.getD u undef]) w := by
  have hp' : tmps[p]?.getD undef = .pointer (some ⟨g, 0, none⟩) := by simpa using hp
  simp [results, h, hp', asAddr, run_load_struct w g t ty cs hg hu hi]
theorem res_tmp_cell (h : fn.results = #[.tmp u, .cell p ty]) : (results fn tmps).run P w = .ok (.tuple #[tmps.getD u undef, .agg cs]) w := by
  have hp' : tmps[p]?.getD undef = .pointer (some ⟨g, 0, none⟩) := by simpa using hp
  simp [results, h, hp', asAddr, run_load_struct w g t ty cs hg hu hi]
theorem res_cell_tmp_tmp (h : fn.results = #[.cell p ty, .tmp u, .tmp v]) : (results fn tmps).run P w = .ok (.tuple #[.agg cs, tmps.getD u undef, tmps.getD v undef]) w := by
  have hp' : tmps[p]?.getD undef = .pointer (some ⟨g, 0, none⟩) := by simpa using hp
  simp [results, h, hp', asAddr, run_load_struct w g t ty cs hg hu hi]
end
end Go.Proofs.Ytfkhefoilancnaa
