/-
  Words for memory that the walks of this seat share: what a call leaves alone ('Mod'), a byte slice that reads as a list ('Rd'). No program in sight.
-/
import Derived.WalkKit
import Derived.Deep.Draws
import Derived.WalkSmall
import Derived.Lib.Hide
namespace Go.Proofs.Ytfkhefoilancnaa
open Go.RowKit

/-- w' is w but for new blocks and what happened in the blocks of S. -/
structure Mod (S : List Nat) (w w' : World) : Prop where
  os : w'.os = w.os
  tape : w'.tape = w.tape
  output : w'.output = w.output
  size : w.heap.size ≤ w'.heap.size
  block : ∀ k, k < w.heap.size → k ∉ S → w'.heap[k]? = w.heap[k]?

namespace Mod
variable {S T : List Nat} {w w0 w1 w2 w' : World}

theorem refl (S : List Nat) (w : World) : Mod S w w := ⟨rfl, rfl, rfl, Nat.le_refl _, fun _ _ _ => rfl⟩

theorem trans (h : Mod S w0 w1) (k : Mod T w1 w2) (hT : ∀ t, t ∈ T → t ∈ S ∨ w0.heap.size ≤ t) : Mod S w0 w2 :=
  ⟨k.os.trans h.os, k.tape.trans h.tape, k.output.trans h.output, Nat.le_trans h.size k.size, fun i hi hS =>
    (k.block i (Nat.lt_of_lt_of_le hi h.size) (fun hin => (hT i hin).elim hS (fun hge => absurd hi (Nat.not_lt.2 hge)))).trans (h.block i hi hS)⟩

theorem then0 (h : Mod S w0 w1) (k : Mod [] w1 w2) : Mod S w0 w2 := h.trans k (by simp)

theorem mono (h : Mod S w0 w1) (hS : ∀ t, t ∈ S → t ∈ T) : Mod T w0 w1 := ⟨h.os, h.tape, h.output, h.size, fun k hk hT => h.block k hk (fun hs => hT (hS k hs))⟩

theorem alloc (h : Mod S w0 w) (o : Obj) : Mod S w0 (w.alloc o) :=
  h.trans (T := []) ⟨rfl, rfl, rfl, by simp, fun k hk _ => Below.heap_alloc _ _ _ hk⟩ (by simp)

theorem drew (h : Mod S w0 w) : Mod S w0 w.drew := ⟨h.os, h.tape, h.output, h.size, h.block⟩

theorem drewN (h : Mod S w0 w) (n : Nat) : Mod S w0 (w.drewN n) := h.trans (T := []) ⟨rfl, rfl, rfl, Nat.le_refl _, fun _ _ _ => rfl⟩ (by simp)

theorem setCell (h : Mod S w0 w) {p : Addr} (hp : p.block ∈ S ∨ w0.heap.size ≤ p.block) (u : Value) : Mod S w0 (w.setCell p u) :=
  h.trans (T := [p.block]) ⟨rfl, rfl, rfl, by simp [World.setCell], fun k _ hk => Below.heap_setCell _ _ _ _ (by simpa using hk)⟩ (by simpa using hp)

theorem grown (h : Mod S w0 w) {row : Option Nat} (hg : w.grownBy w' row) (hr : ∀ k, row = some k → k ∈ S ∨ w0.heap.size ≤ k) : Mod S w0 w' :=
  h.trans (T := row.toList) ⟨hg.os, hg.tape, hg.output, hg.size, fun k hk hn => hg.block k hk (fun e => hn (by rw [← e]; simp))⟩
    (fun t ht => hr t (by simpa using ht))

theorem below (h : Mod S w0 w) {B : Nat} (hb : Below B w w') (hS : w0.heap.size ≤ B) : Mod S w0 w' :=
  ⟨hb.os.trans h.os, hb.tape.trans h.tape, hb.output.trans h.output, Nat.le_trans h.size hb.size, fun k hk hn => (hb.block k (Nat.lt_of_lt_of_le hk hS)).trans (h.block k hk hn)⟩

theorem toBelow (h : Mod [] w w') : Below w.heap.size w w' := ⟨h.os, h.tape, h.output, h.size, fun k hk => h.block k hk (by simp)⟩

theorem cell (h : Mod S w w') {p : Addr} (hp : p.block < w.heap.size) (hn : p.block ∉ S) : w'.cell? p = w.cell? p := World.cell?_of_block (w := w) (h.block p.block hp hn)
theorem frozen (h : Mod S w w') {p : Addr} (hp : p.block < w.heap.size) (hn : p.block ∉ S) : w'.frozen? p = w.frozen? p := World.frozen?_of_block (w := w) (h.block p.block hp hn)

/-- The two rules that a walk takes by itself behind a call that changes nothing that was there. -/
theorem cells (h : Mod [] w w') : (∀ b o, b < w.heap.size → w'.cell? ⟨b, o, none⟩ = w.cell? ⟨b, o, none⟩) ∧ (∀ b o, b < w.heap.size → w'.frozen? ⟨b, o, none⟩ = w.frozen? ⟨b, o, none⟩) :=
  ⟨fun b o hb => h.cell (p := ⟨b, o, none⟩) hb (by simp), fun b o hb => h.frozen (p := ⟨b, o, none⟩) hb (by simp)⟩
end Mod

theorem Mod.blk {S : List Nat} {w w' : World} (h : Mod S w w') {g : Nat} {o : Obj} (ho : w.heap[g]? = some o) (hn : g ∉ S) : w'.heap[g]? = some o :=
  (h.block g (Array.getElem?_eq_some_iff.1 ho).1 hn).trans ho
theorem Mod.own {S : List Nat} {w w' : World} (h : Mod S w w') {base : Nat} {e : TypeId} {size : Nat} {v : Value} {n : Nat} {xs : List Value} (ho : w.ownsRow base e size v n xs)
    (hn : ∀ g, v.ownBlock = some g → g ∉ S) : w'.ownsRow base e size v n xs := by
  refine ⟨ho.1, ?_⟩
  rcases ho.2 with h2 | ⟨g, cap, cur, rfl, hb, hg, rest⟩
  · exact .inl h2
  · exact .inr ⟨g, cap, cur, rfl, hb, h.blk hg (hn g rfl), rest⟩
theorem Mod.own0 {w w' : World} (h : Mod [] w w') {base : Nat} {e : TypeId} {size : Nat} {v : Value} {n : Nat} {xs : List Value} (ho : w.ownsRow base e size v n xs) : w'.ownsRow base e size v n xs :=
  h.own ho (by simp)

theorem blk_alloc (w : World) (cs : Array Value) (t : TypeId) : (w.alloc (.cells cs t)).heap[w.heap.size]? = some (.cells cs t (0, 0)) := heap_alloc_new w _
theorem blk_cell {w : World} {g : Nat} {cs : Array Value} {t : TypeId} (h : w.heap[g]? = some (.cells cs t (0, 0))) {i : Nat} {v : Value} (hi : cs[i]? = some v) : w.cell? ⟨g, i, none⟩ = some v :=
  (cell_of_row w g i cs t (0, 0) h).trans hi
theorem blk_frozen {w : World} {g : Nat} {cs : Array Value} {t : TypeId} (h : w.heap[g]? = some (.cells cs t (0, 0))) (i : Nat) : w.frozen? ⟨g, i, none⟩ = false := by
  simp [World.frozen?, h]
theorem blk_lt {w : World} {g : Nat} {o : Obj} (h : w.heap[g]? = some o) : g < w.heap.size := (Array.getElem?_eq_some_iff.1 h).1

theorem own_form {w : World} {base : Nat} {e : TypeId} {size : Nat} {v : Value} {n : Nat} {xs : List Value} (h : w.ownsRow base e size v n xs) : ∃ ao cp, v = .slice ao n cp := by
  rcases h.2 with ⟨rfl, rfl⟩ | ⟨g, cap, cur, rfl, _⟩
  · exact ⟨_, _, rfl⟩
  · exact ⟨_, _, rfl⟩
theorem own_block {w : World} {base : Nat} {e : TypeId} {size : Nat} {ao : Option Addr} {cp : Nat} {n : Nat} {xs : List Value} (h : w.ownsRow base e size (.slice ao n cp) n xs) (hn : 0 < n) :
    ∃ g, ao = some ⟨g, 0, none⟩ ∧ base ≤ g ∧ g < w.heap.size ∧ n ≤ cp := by
  rcases h.2 with ⟨h', rfl⟩ | ⟨g, cap, cur, h', hb, hg, hc, _⟩
  · omega
  · injection h' with h1 h2 h3
    subst h1 h3
    exact ⟨g, rfl, hb, (Array.getElem?_eq_some_iff.1 hg).1, hc⟩
theorem own_mono {w : World} {base base' : Nat} {e : TypeId} {size : Nat} {v : Value} {n : Nat} {xs : List Value} (h : w.ownsRow base e size v n xs) (hb : base' ≤ base) : w.ownsRow base' e size v n xs := by
  refine ⟨h.1, ?_⟩
  rcases h.2 with h2 | ⟨g, cap, cur, rfl, hb', rest⟩
  · exact .inl h2
  · exact .inr ⟨g, cap, cur, rfl, Nat.le_trans hb hb', rest⟩
theorem own_ge {w : World} {base : Nat} {e : TypeId} {size : Nat} {v : Value} {n : Nat} {xs : List Value} (h : w.ownsRow base e size v n xs) : ∀ t, t ∈ v.ownBlock.toList → base ≤ t ∧ t < w.heap.size := by
  intro t ht
  exact h.lt t (by simpa using ht)
theorem modOf {w w' : World} {row : Option Nat} (h : w.grownBy w' row) : Mod row.toList w w' :=
  ⟨h.os, h.tape, h.output, h.size, fun k hk hn => h.block k hk (fun e => hn (by rw [← e]; simp))⟩

/-- 'out = append(out, xs...)', out the call's own, xs the whole of block xb (m elements): the new value is a slice, m longer. -/
theorem wp_push {P : Program} {o : Oper} {a : Act} {K : Act → World → Prop} {Q : Exit → Act → World → Prop} (W : World) (s x : Operand) (t : TypeId)
    (ho : o.op = .call { callee := .builtin .append, args := #[s, x], argTypes := #[t, t] })
    (base : Nat) (e : TypeId) (z : Value) (size bytes : Nat) (ht : P.underlying t = some (.slice e)) (hi : (P.info? e).map (fun i => (i.zero, i.size, i.bytes)) = some (some z, size, bytes))
    (hzs : z.cells.size = size) (hsz : 0 < size) (hby : 0 < bytes)
    (v : Value) (n : Nat) (xs : List Value) (hs : a.eval s = v) (hown : W.ownsRow base e size v n xs) (cs : Array Value) (xb m c : Nat)
    (hx : a.eval x = .slice (some ⟨xb, 0, none⟩) m c) (hblk : W.heap[xb]? = some (.cells cs e (0, 0))) (hcs : cs.size = m * size) (h1 : ∀ u ∈ cs.toList, u.oneCell' = true)
    (hbytes : (n + m) * bytes ≤ 140737488355328) (hbase : base ≤ W.heap.size)
    (h : ∀ ao' cp' w', w'.ownsRow base e size (.slice ao' (n + m) cp') (n + m) (xs ++ cs.toList) → Mod v.ownBlock.toList W w' → K (a.put o.dst (.slice ao' (n + m) cp')) w') :
    o.wp P a W K Q := by
  obtain ⟨i, hi', hz0, hz1, hz2⟩ := info_parts hi
  have hm : n + m ≤ (n + m) * bytes := Nat.le_mul_of_pos_right _ hby
  refine wp_append_own _ s x t ho base e i z size bytes ht hi' hz0 hz1 hz2 hzs hsz v n xs hs hown ⟨xb, 0, none⟩ m c cs.toList hx (by simpa using hcs) ?_ h1 (by simp only [maxLen]; omega) hbytes hbase ?_
  · intro j u hj
    have e1 : ((⟨xb, 0, none⟩ : Addr).add j) = ⟨xb, j, none⟩ := by unfold Addr.add; split <;> simp_all
    rw [e1]
    exact blk_cell hblk (by simpa using hj)
  · intro v' w' hown' hg _
    obtain ⟨ao', cp', rfl⟩ := own_form hown'
    exact h ao' cp' w' hown' (modOf hg)

/-- The same in a plain region, behind the one-element block that has just been laid. -/
theorem wpList_push {P : Program} {ops : Array Oper} {rest : List Oper} {o : Oper} {a : Act} {Q : Exit → Act → World → Prop} (W : World) (hgd : o.guard = none) (s x : Operand) (t : TypeId)
    (ho : o.op = .call { callee := .builtin .append, args := #[s, x], argTypes := #[t, t] })
    (base : Nat) (e : TypeId) (z : Value) (size bytes : Nat) (ht : P.underlying t = some (.slice e)) (hi : (P.info? e).map (fun i => (i.zero, i.size, i.bytes)) = some (some z, size, bytes))
    (hzs : z.cells.size = size) (hsz : 0 < size) (hby : 0 < bytes)
    (v : Value) (n : Nat) (xs : List Value) (hs : a.eval s = v) (hown : W.ownsRow base e size v n xs) (cs : Array Value)
    (hx : a.eval x = .slice (some ⟨W.heap.size, 0, none⟩) 1 1) (hcs : cs.size = size) (h1 : ∀ u ∈ cs.toList, u.oneCell' = true)
    (hbytes : (n + 1) * bytes ≤ 140737488355328) (hbase : base ≤ W.heap.size)
    (h : ∀ ao' cp' w', w'.ownsRow base e size (.slice ao' (n + 1) cp') (n + 1) (xs ++ cs.toList) → Mod v.ownBlock.toList W w' → wpList P ops Q rest (a.put o.dst (.slice ao' (n + 1) cp')) w') :
    wpList P ops Q (o :: rest) a (W.alloc (.cells cs e)) := by
  refine wpList_plain hgd fun _ hK => wp_push _ s x t ho base e z size bytes ht hi hzs hsz hby v n xs hs (hown.alloc _) cs W.heap.size 1 1 hx (blk_alloc _ _ _) (by simpa using hcs) h1 hbytes (by simp; omega) ?_
  intro ao' cp' w' h2 h3
  refine hK _ _ (h ao' cp' w' h2 ?_)
  exact (((Mod.refl [] W).alloc _).mono (by simp)).trans h3 (fun t ht => .inl ht)

/-- The same in a region that draws its order. -/
theorem step_push {P : Program} {ops : Array Oper} {o : Oper} {a : Act} {K : Act → World → Prop} {Q : Exit → Act → World → Prop} {E : Prop} (W : World) (hgd : o.guard = none) (s x : Operand) (t : TypeId)
    (ho : o.op = .call { callee := .builtin .append, args := #[s, x], argTypes := #[t, t] })
    (base : Nat) (e : TypeId) (z : Value) (size bytes : Nat) (ht : P.underlying t = some (.slice e)) (hi : (P.info? e).map (fun i => (i.zero, i.size, i.bytes)) = some (some z, size, bytes))
    (hzs : z.cells.size = size) (hsz : 0 < size) (hby : 0 < bytes)
    (v : Value) (n : Nat) (xs : List Value) (hs : a.eval s = v) (hown : W.ownsRow base e size v n xs) (cs : Array Value) (xb m c : Nat)
    (hx : a.eval x = .slice (some ⟨xb, 0, none⟩) m c) (hblk : W.heap[xb]? = some (.cells cs e (0, 0))) (hcs : cs.size = m * size) (h1 : ∀ u ∈ cs.toList, u.oneCell' = true)
    (hbytes : (n + m) * bytes ≤ 140737488355328) (hbase : base ≤ W.heap.size)
    (h : ∀ ao' cp' w', w'.ownsRow base e size (.slice ao' (n + m) cp') (n + m) (xs ++ cs.toList) → Mod v.ownBlock.toList W w' → K (a.put o.dst (.slice ao' (n + m) cp')) w') :
    if Region.wanted o (yielded ops a.tmps) = true then Oper.wp P o a W K Q else E := by
  have hw : Region.wanted o (yielded ops a.tmps) = true := by simp [Region.wanted, hgd]
  rw [if_pos hw]
  exact wp_push W s x t ho base e z size bytes ht hi hzs hsz hby v n xs hs hown cs xb m c hx hblk hcs h1 hbytes hbase h

theorem ret_int {k : IntKind} {a b : Int} (h : a = b) : Ending.returned (.int k a) = .returned (.int k b) := by rw [h]
theorem ret2_int {k k' : IntKind} {a b c d : Int} (h : a = c) (h' : b = d) : Ending.returned (.tuple #[.int k a, .int k' b]) = .returned (.tuple #[.int k c, .int k' d]) := by rw [h, h']
end Go.Proofs.Ytfkhefoilancnaa
