/-
  Pieces of a request: what they say of the blocks, block by block. Plain: no program in sight.
-/
import Derived.Test.YtfkhefoilancnaaBase
namespace Go.Proofs.Ytfkhefoilancnaa
open Go.RowKit

/-- A piece: n blocks of chunk c from a on: those of the request from f on. -/
structure Pc where
  c : Nat
  a : Nat
  f : Nat
  n : Nat

def Pc.cells (p : Pc) : List Value := [.int .i64 p.c, .int .i64 p.a, .int .i64 p.f, .int .i64 p.n]
def Pc.ent (p : Pc) : List (Nat × Nat × Nat) := (List.range p.n).map fun j => (p.c, p.a + j, p.f + j)
def rows (ps : List Pc) : List Value := ps.flatMap Pc.cells

theorem rows_nil : rows [] = [] := rfl
theorem rows_snoc (ps : List Pc) (p : Pc) : rows (ps ++ [p]) = rows ps ++ p.cells := by simp [rows]
theorem rows_length (ps : List Pc) : (rows ps).length = ps.length * 4 := by
  induction ps with
  | nil => rfl
  | cons p ps ih => simp only [rows, List.flatMap_cons, List.length_append, List.length_cons] at ih ⊢; rw [ih]; simp [Pc.cells]; omega

/-- The pieces are the blocks lba, lba + 1, .. (k of them), each where 'wh' says, none of them empty. -/
structure Good (wh : Nat → Nat × Nat) (lba : Nat) (ps : List Pc) (k : Nat) : Prop where
  ents : ps.flatMap Pc.ent = (List.range k).map fun j => ((wh (lba + j)).1, (wh (lba + j)).2, j)
  pos : ∀ p, p ∈ ps → 1 ≤ p.n

theorem Good.nil (wh : Nat → Nat × Nat) (lba : Nat) : Good wh lba [] 0 := ⟨rfl, by simp⟩

theorem ent_snoc (c a f n m : Nat) : Pc.ent ⟨c, a, f, n + m⟩ = Pc.ent ⟨c, a, f, n⟩ ++ Pc.ent ⟨c, a + n, f + n, m⟩ := by
  simp only [Pc.ent, List.range_add, List.map_append, List.map_map]
  congr 1
  apply List.map_congr_left
  intro j _
  simp only [Function.comp_apply, Nat.add_assoc]

theorem Good.step {wh : Nat → Nat × Nat} {lba k n : Nat} {l : List (Nat × Nat × Nat)} (h : l = (List.range k).map fun j => ((wh (lba + j)).1, (wh (lba + j)).2, j))
    (hu : ∀ j, j < n → wh (lba + k + j) = ((wh (lba + k)).1, (wh (lba + k)).2 + j)) :
    l ++ Pc.ent ⟨(wh (lba + k)).1, (wh (lba + k)).2, k, n⟩ = (List.range (k + n)).map fun j => ((wh (lba + j)).1, (wh (lba + j)).2, j) := by
  rw [h, List.range_add, List.map_append, List.map_map]
  congr 1
  apply List.map_congr_left
  intro j hj
  have := hu j (by simpa using hj)
  simp only [Function.comp_apply, ← Nat.add_assoc, this]

theorem Good.new {wh : Nat → Nat × Nat} {lba k n : Nat} {ps : List Pc} (h : Good wh lba ps k) (hn : 1 ≤ n)
    (hu : ∀ j, j < n → wh (lba + k + j) = ((wh (lba + k)).1, (wh (lba + k)).2 + j)) : Good wh lba (ps ++ [⟨(wh (lba + k)).1, (wh (lba + k)).2, k, n⟩]) (k + n) := by
  refine ⟨?_, ?_⟩
  · rw [List.flatMap_append, List.flatMap_singleton]
    exact Good.step h.ents hu
  · intro p hp
    rcases List.mem_append.1 hp with hp | hp
    · exact h.pos p hp
    · have := List.mem_singleton.1 hp
      subst this
      exact hn

theorem Good.last {wh : Nat → Nat × Nat} {lba k : Nat} {ps : List Pc} {q : Pc} (h : Good wh lba (ps ++ [q]) k) : q.f + q.n = k := by
  have h1 := h.ents
  have hq := h.pos q (by simp)
  obtain ⟨m, hm⟩ : ∃ m, q.n = m + 1 := ⟨q.n - 1, by omega⟩
  have h2 := congrArg List.getLast? h1
  rw [List.flatMap_append, List.flatMap_singleton] at h2
  have e1 : (q.ent).getLast? = some (q.c, q.a + m, q.f + m) := by
    simp [Pc.ent, hm, List.range_succ]
  rw [List.getLast?_append, e1] at h2
  cases k with
  | zero => simp at h2
  | succ k =>
    simp [List.range_succ] at h2
    omega

theorem Good.merge {wh : Nat → Nat × Nat} {lba k n : Nat} {ps : List Pc} {q : Pc} (h : Good wh lba (ps ++ [q]) k)
    (hc : q.c = (wh (lba + k)).1) (ha : q.a + q.n = (wh (lba + k)).2)
    (hu : ∀ j, j < n → wh (lba + k + j) = ((wh (lba + k)).1, (wh (lba + k)).2 + j)) : Good wh lba (ps ++ [⟨q.c, q.a, q.f, q.n + n⟩]) (k + n) := by
  have hl := h.last
  refine ⟨?_, ?_⟩
  · have e := Good.step (n := n) h.ents hu
    rw [List.flatMap_append, List.flatMap_singleton, List.append_assoc] at e
    rw [List.flatMap_append, List.flatMap_singleton, ent_snoc, hl, hc, ha]
    rw [← e]
    congr 2
    rw [← hc]
  · intro p hp
    rcases List.mem_append.1 hp with hp | hp
    · exact h.pos p (by simp [hp])
    · have := List.mem_singleton.1 hp
      subst this
      have := h.pos q (by simp)
      simp only
      omega

theorem Good.length_le {wh : Nat → Nat × Nat} {lba k : Nat} {ps : List Pc} (h : Good wh lba ps k) : ps.length ≤ k := by
  have h1 := congrArg List.length h.ents
  simp only [List.length_map, List.length_range] at h1
  have h2 := h.pos
  clear h
  rw [← h1]
  clear h1
  induction ps with
  | nil => simp
  | cons p ps ih =>
    have := ih (fun q hq => h2 q (by simp [hq]))
    have hp := h2 p (by simp)
    simp only [List.flatMap_cons, List.length_append, List.length_cons]
    have e : p.ent.length = p.n := by simp [Pc.ent]
    omega

theorem Good.mem {wh : Nat → Nat × Nat} {lba k : Nat} {ps : List Pc} (h : Good wh lba ps k) {p : Pc} (hp : p ∈ ps) {i : Nat} (hi : i < p.n) :
    p.f + i < k ∧ p.c = (wh (lba + (p.f + i))).1 ∧ p.a + i = (wh (lba + (p.f + i))).2 := by
  have h1 : (p.c, p.a + i, p.f + i) ∈ ps.flatMap Pc.ent := by
    rw [List.mem_flatMap]
    exact ⟨p, hp, by simp only [Pc.ent, List.mem_map, List.mem_range]; exact ⟨i, hi, rfl⟩⟩
  rw [h.ents, List.mem_map] at h1
  obtain ⟨j, hj, e⟩ := h1
  simp only [Prod.mk.injEq] at e
  obtain ⟨e1, e2, e3⟩ := e
  subst e3
  exact ⟨by simpa using hj, e1.symm, e2.symm⟩

def wh1 (x : Nat) : Nat × Nat := (x / 12 * 3 + x % 12 / 1 % 3, x % 12 / 1 / 3 * 1 + x % 12 % 1)
def wh2 (x : Nat) : Nat × Nat := (x / 20 * 2 + x % 20 / 5 % 2, x % 20 / 5 / 2 * 5 + x % 20 % 5)
theorem wh1_unit (x n : Nat) (hn : n ≤ 1 - (wh1 x).2 % 1) : ∀ j, j < n → wh1 (x + j) = ((wh1 x).1, (wh1 x).2 + j) := by
  intro j hj
  simp only [wh1, Prod.mk.injEq] at hn ⊢
  constructor <;> omega
theorem wh2_unit (x n : Nat) (hn : n ≤ 5 - (wh2 x).2 % 5) : ∀ j, j < n → wh2 (x + j) = ((wh2 x).1, (wh2 x).2 + j) := by
  intro j hj
  simp only [wh2, Prod.mk.injEq] at hn ⊢
  constructor <;> omega
end Go.Proofs.Ytfkhefoilancnaa
