/-
  Laws of 'append' of bytes: a slice of one-cell elements, read as a list, behind a row of the call's own. Over any program.
-/
import Derived.WalkKit
import Derived.Deep.Upon
import Derived.Test.YtfkhefoilancnaaMem
namespace Go.Proofs.Ytfkhefoilancnaa
open Go.RowKit
theorem addr_add (b o j : Nat) : ((⟨b, o, none⟩ : Addr).add j) = ⟨b, o + j, none⟩ := by unfold Addr.add; split <;> simp_all
/-- 'append(s, x...)': s the call's own, x read as a list of one-cell elements, nil or not. -/
theorem wp_cat {P : Program} {o : Oper} {a : Act} {K : Act → World → Prop} {Q : Exit → Act → World → Prop} (W : World) (s x : Operand) (t : TypeId)
    (ho : o.op = .call { callee := .builtin .append, args := #[s, x], argTypes := #[t, t] })
    (base : Nat) (e : TypeId) (z : Value) (bytes : Nat) (ht : P.underlying t = some (.slice e)) (hi : (P.info? e).map (fun i => (i.zero, i.size, i.bytes)) = some (some z, 1, bytes)) (hzs : z.cells.size = 1) (hby : 0 < bytes)
    (v : Value) (n : Nat) (xs : List Value) (hs : a.eval s = v) (hown : W.ownsRow base e 1 v n xs) (A : Option Addr) (m c : Nat) (ys : List Value)
    (hx : a.eval x = .slice A m c) (hr : Rds W A m ys) (h1 : ∀ u ∈ ys, u.oneCell' = true) (hbytes : (n + m) * bytes ≤ 140737488355328) (hbase : base ≤ W.heap.size)
    (h : ∀ ao' cp' w', w'.ownsRow base e 1 (.slice ao' (n + m) cp') (n + m) (xs ++ ys) → Mod v.ownBlock.toList W w' → K (a.put o.dst (.slice ao' (n + m) cp')) w') :
    o.wp P a W K Q := by
  obtain ⟨i, hi', hz0, hz1, hz2⟩ := info_parts hi
  have hm : n + m ≤ (n + m) * bytes := Nat.le_mul_of_pos_right _ hby
  cases A with
  | none =>
    have h0 : m = 0 := by
      rcases Nat.eq_zero_or_pos m with h0 | h0
      · exact h0
      · obtain ⟨b, o, e, _⟩ := hr.2 h0
        cases e
    subst h0
    obtain rfl := List.eq_nil_of_length_eq_zero hr.1
    obtain ⟨ao, cp, rfl⟩ := own_form hown
    have hcp : n ≤ cp := by
      rcases hown.2 with ⟨h', rfl⟩ | ⟨g, cap, cur, h', _, _, hc, _⟩
      · omega
      · injection h' with h1 h2 h3
        omega
    have hrun := run_append_nothing W t t o.type e i ht hi' ao n cp hcp (.slice none 0 c) (Src.ofNil W ht c)
    have := h ao cp W (by simpa using hown) (Mod.refl _ _)
    unfold Oper.wp execOp
    simp only [ho, resolve, invoke, builtin, Sem.run_bind, Sem.run_pure, Result.andThen_ok, List.map_toArray, List.map_cons, List.map_nil, hs, hx, hrun]
    exact this
  | some ad =>
    refine wp_append_own (w := W) s x t ho base e i z 1 bytes ht hi' hz0 hz1 hz2 hzs (by omega) v n xs hs hown ad m c ys hx (by rw [hr.1, Nat.mul_one]) ?_ h1 (by simp only [maxLen]; omega) hbytes hbase ?_
    · intro j u hj
      have hj' := (List.getElem?_eq_some_iff.1 hj).1
      obtain ⟨b, off, e, _, hc⟩ := hr.2 (by rw [hr.1] at hj'; omega)
      injection e with e
      subst e
      rw [addr_add]
      exact hc j u hj
    · intro v' w' hown' hg _
      obtain ⟨ao', cp', rfl⟩ := own_form hown'
      exact h ao' cp' w' hown' (modOf hg)
theorem wpList_cat {P : Program} {ops : Array Oper} {rest : List Oper} {o : Oper} {a : Act} {Q : Exit → Act → World → Prop} (W : World) (hgd : o.guard = none) (s x : Operand) (t : TypeId)
    (ho : o.op = .call { callee := .builtin .append, args := #[s, x], argTypes := #[t, t] })
    (base : Nat) (e : TypeId) (z : Value) (bytes : Nat) (ht : P.underlying t = some (.slice e)) (hi : (P.info? e).map (fun i => (i.zero, i.size, i.bytes)) = some (some z, 1, bytes)) (hzs : z.cells.size = 1) (hby : 0 < bytes)
    (v : Value) (n : Nat) (xs : List Value) (hs : a.eval s = v) (hown : W.ownsRow base e 1 v n xs) (A : Option Addr) (m c : Nat) (ys : List Value)
    (hx : a.eval x = .slice A m c) (hr : Rds W A m ys) (h1 : ∀ u ∈ ys, u.oneCell' = true) (hbytes : (n + m) * bytes ≤ 140737488355328) (hbase : base ≤ W.heap.size)
    (h : ∀ ao' cp' w', w'.ownsRow base e 1 (.slice ao' (n + m) cp') (n + m) (xs ++ ys) → Mod v.ownBlock.toList W w' → wpList P ops Q rest (a.put o.dst (.slice ao' (n + m) cp')) w') :
    wpList P ops Q (o :: rest) a W := by
  refine wpList_plain hgd fun _ hK => wp_cat _ s x t ho base e z bytes ht hi hzs hby v n xs hs hown A m c ys hx hr h1 hbytes hbase ?_
  intro ao' cp' w' h2 h3
  exact hK _ _ (h ao' cp' w' h2 h3)
theorem step_cat {P : Program} {ops : Array Oper} {o : Oper} {a : Act} {K : Act → World → Prop} {Q : Exit → Act → World → Prop} {E : Prop} (W : World) (hgd : o.guard = none) (s x : Operand) (t : TypeId)
    (ho : o.op = .call { callee := .builtin .append, args := #[s, x], argTypes := #[t, t] })
    (base : Nat) (e : TypeId) (z : Value) (bytes : Nat) (ht : P.underlying t = some (.slice e)) (hi : (P.info? e).map (fun i => (i.zero, i.size, i.bytes)) = some (some z, 1, bytes)) (hzs : z.cells.size = 1) (hby : 0 < bytes)
    (v : Value) (n : Nat) (xs : List Value) (hs : a.eval s = v) (hown : W.ownsRow base e 1 v n xs) (A : Option Addr) (m c : Nat) (ys : List Value)
    (hx : a.eval x = .slice A m c) (hr : Rds W A m ys) (h1 : ∀ u ∈ ys, u.oneCell' = true) (hbytes : (n + m) * bytes ≤ 140737488355328) (hbase : base ≤ W.heap.size)
    (h : ∀ ao' cp' w', w'.ownsRow base e 1 (.slice ao' (n + m) cp') (n + m) (xs ++ ys) → Mod v.ownBlock.toList W w' → K (a.put o.dst (.slice ao' (n + m) cp')) w') :
    if Region.wanted o (yielded ops a.tmps) = true then Oper.wp P o a W K Q else E := by
  have hw : Region.wanted o (yielded ops a.tmps) = true := by simp [Region.wanted, hgd]
  rw [if_pos hw]
  exact wp_cat W s x t ho base e z bytes ht hi hzs hby v n xs hs hown A m c ys hx hr h1 hbytes hbase h
end Go.Proofs.Ytfkhefoilancnaa
