/-
  Bytes in memory: slices that read as lists, rows of bytes, copies into them, and a desk's blocks. Plain laws over any program, but for what a desk's cells are.
-/
import Derived.Test.YtfkhefoilancnaaBase
import Derived.Laws.CopyOwn
namespace Go.Proofs.Ytfkhefoilancnaa
open Go.RowKit

/-- A byte as a value. -/
def By (u : UInt8) : Value := .int .u8 (u.toNat : Int)
theorem By_def (u : UInt8) : By u = .int .u8 (u.toNat : Int) := rfl
theorem By_inj {a b : UInt8} (h : By a = By b) : a = b := by
  simp only [By, Value.int.injEq, true_and] at h
  exact UInt8.toNat_inj.1 (by omega)
theorem By_one (u : UInt8) : (By u).oneCell' = true := rfl

/-- A slice of n one-cell elements at A reads as the list xs. -/
def Rds (w : World) (A : Option Addr) (n : Nat) (xs : List Value) : Prop :=
  xs.length = n ∧ (0 < n → ∃ b off, A = some ⟨b, off, none⟩ ∧ b < w.heap.size ∧ ∀ j u, xs[j]? = some u → w.cell? ⟨b, off + j, none⟩ = some u)

/-- No element lies in a block of S. -/
def Off (S : List Nat) (A : Option Addr) (n : Nat) : Prop := ∀ a, A = some a → 0 < n → a.block ∉ S

namespace Rds
variable {w w' : World} {A : Option Addr} {n : Nat} {xs : List Value}
theorem none_ (w : World) : Rds w none 0 [] := ⟨rfl, fun h => absurd h (by omega)⟩
theorem nil (w : World) (A : Option Addr) : Rds w A 0 [] := ⟨rfl, fun h => absurd h (by omega)⟩
theorem mod {S : List Nat} (h : Rds w A n xs) (hm : Mod S w w') (ho : Off S A n) : Rds w' A n xs :=
  ⟨h.1, fun hn => by
    obtain ⟨b, off, e, hb, hc⟩ := h.2 hn
    refine ⟨b, off, e, Nat.lt_of_lt_of_le hb hm.size, fun j u hu => ?_⟩
    rw [hm.cell (p := ⟨b, off + j, none⟩) hb (ho ⟨b, off, none⟩ e hn)]
    exact hc j u hu⟩
theorem mod0 (h : Rds w A n xs) (hm : Mod [] w w') : Rds w' A n xs := h.mod hm (fun _ _ _ => by simp)
theorem get (h : Rds w A n xs) {j : Nat} (hj : j < n) : ∃ b off, A = some ⟨b, off, none⟩ ∧ b < w.heap.size ∧ w.cell? ⟨b, off + j, none⟩ = some (xs[j]'(by rw [h.1]; exact hj)) := by
  obtain ⟨b, off, e, hb, hc⟩ := h.2 (by omega)
  exact ⟨b, off, e, hb, hc j _ (List.getElem?_eq_getElem (by rw [h.1]; exact hj))⟩
theorem drop (h : Rds w A n xs) {k : Nat} (hk : k ≤ n) {A' : Option Addr} (hA : ∀ b off, A = some ⟨b, off, none⟩ → k < n → A' = some ⟨b, off + k, none⟩) : Rds w A' (n - k) (xs.drop k) :=
  ⟨by rw [List.length_drop, h.1], fun hn => by
    obtain ⟨b, off, e, hb, hc⟩ := h.2 (by omega)
    refine ⟨b, off + k, hA b off e (by omega), hb, fun j u hu => ?_⟩
    rw [Nat.add_assoc]
    exact hc (k + j) u (by rw [← hu, List.getElem?_drop])⟩
theorem take (h : Rds w A n xs) {k : Nat} (hk : k ≤ n) : Rds w A k (xs.take k) :=
  ⟨by rw [List.length_take, h.1]; omega, fun hn => by
    obtain ⟨b, off, e, hb, hc⟩ := h.2 (by omega)
    refine ⟨b, off, e, hb, fun j u hu => hc j u ?_⟩
    rw [List.getElem?_take] at hu
    split at hu
    · exact hu
    · cases hu⟩
theorem own {base : Nat} {e : TypeId} {cp : Nat} (h : w.ownsRow base e 1 (.slice A n cp) n xs) : Rds w A n xs := by
  have hl := h.1
  refine ⟨by simpa using hl, fun hn => ?_⟩
  obtain ⟨g, rfl, _, hg, _⟩ := own_block h hn
  refine ⟨g, 0, rfl, hg, fun j u hu => ?_⟩
  have hj : j < xs.length := (List.getElem?_eq_some_iff.1 hu).1
  rw [Nat.zero_add, h.cellAt j (by omega), hu]
end Rds

/-- n bytes. -/
def rowOf (n : Nat) (f : Nat → UInt8) : List Value := (List.range n).map fun i => By (f i)
theorem rowOf_length (n : Nat) (f : Nat → UInt8) : (rowOf n f).length = n := by simp [rowOf]
theorem rowOf_get (n : Nat) (f : Nat → UInt8) (j : Nat) : (rowOf n f)[j]? = if j < n then some (By (f j)) else none := by
  simp only [rowOf, List.getElem?_map]
  by_cases h : j < n
  · rw [if_pos h, List.getElem?_range h]; rfl
  · rw [if_neg h, List.getElem?_eq_none (by simpa using h)]; rfl
theorem rowOf_one (n : Nat) (f : Nat → UInt8) : ∀ u ∈ rowOf n f, u.oneCell' = true := by
  intro u hu
  simp only [rowOf, List.mem_map] at hu
  obtain ⟨i, _, rfl⟩ := hu
  rfl
theorem bytes_one (l : List UInt8) : ∀ u ∈ l.map By, u.oneCell' = true := by
  intro u hu
  simp only [List.mem_map] at hu
  obtain ⟨i, _, rfl⟩ := hu
  rfl
theorem rowOf_congr {n : Nat} {f g : Nat → UInt8} (h : ∀ i, i < n → f i = g i) : rowOf n f = rowOf n g := by
  simp only [rowOf]
  apply List.map_congr_left
  intro i hi
  rw [h i (by simpa using hi)]
theorem rowOf_eq_map (l : List UInt8) : l.map By = rowOf l.length fun i => l.getD i 0 := by
  apply List.ext_getElem?
  intro j
  rw [rowOf_get, List.getElem?_map]
  by_cases h : j < l.length
  · rw [if_pos h, List.getElem?_eq_getElem h]
    simp [List.getD, h]
  · rw [if_neg h, List.getElem?_eq_none (by omega)]; rfl
/-- A copy into the middle of a row. -/
theorem rowOf_splice {n off : Nat} {f g : Nat → UInt8} {m : Nat} (h : off + m ≤ n) : splice (rowOf n f) off (rowOf m g) = rowOf n fun i => if off ≤ i ∧ i < off + m then g (i - off) else f i := by
  apply List.ext_getElem?
  intro j
  rw [rowOf_get, splice]
  have e1 : ((rowOf n f).take off).length = off := by rw [List.length_take, rowOf_length]; omega
  by_cases h1 : j < off
  · rw [List.getElem?_append_left (by omega), List.getElem?_take, if_pos h1, rowOf_get, if_pos (by omega), if_pos (by omega), if_neg (by omega)]
  · rw [List.getElem?_append_right (by omega), e1]
    by_cases h2 : j < off + m
    · rw [List.getElem?_append_left (by rw [rowOf_length]; omega), rowOf_get, if_pos (by omega), if_pos (by omega), if_pos (by omega)]
    · rw [List.getElem?_append_right (by rw [rowOf_length]; omega), rowOf_length, List.getElem?_drop, rowOf_get]
      have e2 : off + m + (j - off - m) = j := by omega
      rw [e2]
      by_cases h3 : j < n
      · rw [if_pos h3, if_pos h3, if_neg (by omega)]
      · rw [if_neg h3, if_neg h3]
theorem rowOf_zero (n : Nat) : (madeCells (Value.int .u8 0).cells n) = (rowOf n fun _ => 0).toArray := by
  apply Array.ext_getElem?
  intro j
  simp only [madeCells, List.getElem?_toArray, rowOf_get, Array.getElem?_map]
  by_cases h : j < n
  · rw [Array.getElem?_range, if_pos h, if_pos h]
    simp [Value.cells, Nat.mod_one, By]
  · rw [Array.getElem?_range, if_neg h, if_neg h]; rfl

/-- 'make([]byte, n)'. -/
theorem run_make_bytes {P : Program} (w : World) (t e : TypeId) (ht : P.underlying t = some (.slice e)) (hi : (P.info? e).map (fun i => (i.zero, i.size, i.bytes)) = some (some (.int .u8 0), 1, 1))
    (n : Nat) (hn : n ≤ 140737488355328) (kl kc : IntKind) :
    (Instr.makeSlice t (.int kl (n : Int)) (.int kc (n : Int))).run P w = .ok (.slice (some ⟨w.heap.size, 0, none⟩) n n) (w.alloc (.cells (rowOf n fun _ => 0).toArray e)) := by
  obtain ⟨i, hi', hz0, hz1, hz2⟩ := info_parts hi
  have h := run_make (P := P) w t e i _ ht hi' hz0 kl kc n n (by omega) (Int.le_refl _) (by rw [hz2]; omega) (by omega)
  rw [h, hz1]
  simp only [Int.toNat_natCast, Nat.mul_one, rowOf_zero]

/-- A built-in copy into the middle of a block, from wherever a slice reads. -/
theorem wpList_copyTo {P : Program} {w : World} {ops : Array Oper} {rest : List Oper} {o : Oper} {a : Act} {Q : Exit → Act → World → Prop} (hgd : o.guard = none) (d s : Operand) (dT sT : TypeId)
    (ho : o.op = .call { callee := .builtin .copy, args := #[d, s], argTypes := #[dT, sT] }) (elem : TypeId) (hu : P.underlying dT = some (.slice elem)) (hsz : (P.info? elem).map (·.size) = some 1)
    (g off dLen dCap sLen sCap : Nat) (sp : Option Addr) (hd : a.eval d = .slice (some ⟨g, off, none⟩) dLen dCap) (hs : a.eval s = .slice sp sLen sCap)
    (cur : List Value) (t : TypeId) (hg : w.heap[g]? = some (.cells cur.toArray t (0, 0))) (src : List Value) (hr : Rds w sp sLen src) (h1 : ∀ v ∈ src, v.oneCell' = true)
    (hfit : off + dLen ≤ cur.length)
    (h : ∀ w', w'.heap[g]? = some (.cells (splice cur off (src.take dLen)).toArray t (0, 0)) → Mod [g] w w' → wpList P ops Q rest (a.put o.dst (goInt (src.take dLen).length)) w') :
    wpList P ops Q (o :: rest) a w := by
  have hlen : (src.take dLen).length = Nat.min sLen dLen := by rw [List.length_take, hr.1, Nat.min_comm]
  by_cases h0 : (src.take dLen).length = 0
  · have hnil := List.eq_nil_of_length_eq_zero h0
    refine wpList_copy_nothing hgd d s dT sT ho elem hu hsz _ sp dLen dCap sLen sCap hd hs (by rw [← hlen, h0]) ?_
    have := h w (by rw [hnil]; simpa [splice] using hg) (Mod.refl _ _)
    rw [h0] at this
    exact this
  · have hle : (src.take dLen).length ≤ dLen := by rw [List.length_take]; omega
    have hs0 : 0 < sLen := by
      rcases Nat.eq_zero_or_pos sLen with h2 | h2
      · rw [hlen, h2] at h0; exact absurd (Nat.zero_min dLen) h0
      · exact h2
    obtain ⟨b, so, rfl, hb, hc⟩ := hr.2 hs0
    refine wpList_copy_own hgd d s dT sT ho elem hu hsz g off dLen dCap ⟨b, so, none⟩ sLen sCap hd hs cur.toArray t hg (src.take dLen) hlen ?_ (by simp only [List.size_toArray]; omega) (fun v hv => h1 v (List.mem_of_mem_take hv)) ?_
    · intro j v hj
      have e1 : ((⟨b, so, none⟩ : Addr).add j) = ⟨b, so + j, none⟩ := by unfold Addr.add; split <;> simp_all
      rw [e1]
      refine hc j v ?_
      rw [List.getElem?_take] at hj
      split at hj
      · exact hj
      · cases hj
    · refine h _ ?_ ?_
      · exact setRow_heap w g _ _ t _ hg
      · exact ⟨rfl, rfl, rfl, by simp [World.setRow], fun k _ hk => setRow_other w g k _ (by simpa using hk)⟩

end Go.Proofs.Ytfkhefoilancnaa
