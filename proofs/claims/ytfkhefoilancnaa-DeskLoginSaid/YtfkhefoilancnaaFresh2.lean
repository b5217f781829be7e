/-
  'append' of bytes to a row of the call's own, that says where the row lies behind it. Over any program.
-/
import Derived.WalkKit
import Derived.Deep.DeepAppendRoom
import Derived.Test.YtfkhefoilancnaaFresh
namespace Go.Proofs.Ytfkhefoilancnaa
open Go.RowKit
theorem wp_catF {P : Program} {o : Oper} {a : Act} {K : Act → World → Prop} {Q : Exit → Act → World → Prop} (W : World) (s x : Operand) (t : TypeId)
    (ho : o.op = .call { callee := .builtin .append, args := #[s, x], argTypes := #[t, t] })
    (base : Nat) (e : TypeId) (z : Value) (size bytes : Nat) (ht : P.underlying t = some (.slice e)) (hi : (P.info? e).map (fun i => (i.zero, i.size, i.bytes)) = some (some z, size, bytes))
    (hzs : z.cells.size = size) (hsz : 0 < size) (hby : 0 < bytes)
    (v : Value) (n : Nat) (xs : List Value) (hs : a.eval s = v) (hown : W.ownsRow base e size v n xs) (xa : Addr) (m c : Nat) (ys : List Value)
    (hx : a.eval x = .slice (some xa) m c) (hnews : ∀ j u, ys[j]? = some u → W.cell? (xa.add j) = some u) (hys : ys.length = m * size) (h1 : ∀ u ∈ ys, u.oneCell' = true)
    (hbytes : (n + m) * bytes ≤ 140737488355328) (hbase : base ≤ W.heap.size)
    (h : ∀ ao' cp' w', w'.ownsRow base e size (.slice ao' (n + m) cp') (n + m) (xs ++ ys) → Mod v.ownBlock.toList W w' → (∀ g, (Value.slice ao' (n + m) cp').ownBlock = some g → v.ownBlock = some g ∨ W.heap.size ≤ g) →
      K (a.put o.dst (.slice ao' (n + m) cp')) w') :
    o.wp P a W K Q := by
  obtain ⟨i, hi', hz0, hz1, hz2⟩ := info_parts hi
  have hm : n + m ≤ (n + m) * bytes := Nat.le_mul_of_pos_right _ hby
  have hmax : n + m ≤ maxLen := by simp only [maxLen]; omega
  have hrun : ∃ v' w', (Builtin.append_ #[t, t] o.type #[v, .slice (some xa) m c]).run P W = .ok v' w' ∧ w'.ownsRow base e size v' (n + m) (xs ++ ys) ∧ W.grownBy w' v.ownBlock ∧ (∀ g, v'.ownBlock = some g → v.ownBlock = some g ∨ W.heap.size ≤ g) := by
    rcases hown.2 with ⟨rfl, rfl⟩ | ⟨g, cap, cur, rfl, hbg, hg, hnc, hcm, hcs', htake⟩
    · have hx0 : xs = [] := List.eq_nil_of_length_eq_zero (by simpa using hown.1)
      subst hx0
      obtain ⟨v', w', hr, ho', hg', _⟩ := run_append_own (P := P) W W.heap.size t o.type e i z size bytes ht hi' hz0 hz1 hz2 hzs hsz (.slice none 0 0) 0 [] (World.ownsRow_nil _ _ _ _) xa m c ys hys hnews h1 hmax hbytes (Nat.le_refl _)
      exact ⟨v', w', hr, own_mono ho' hbase, hg', fun g hg => .inr (own_ge ho' g (by simp [hg])).1⟩
    · obtain ⟨v', w', hr, ho', hg', _⟩ := run_append_own (P := P) W base t o.type e i z size bytes ht hi' hz0 hz1 hz2 hzs hsz _ n xs hown xa m c ys hys hnews h1 hmax hbytes hbase
      refine ⟨v', w', hr, ho', hg', ?_⟩
      by_cases hroom : n + m ≤ cap
      · obtain ⟨w2, hr2, _, _⟩ := run_append_own_spare (P := P) (w := W) base t o.type e i size ht hi' hz1 g n cap xs hown xa m c ys hys hnews h1 hroom
        rw [hr2] at hr
        injection hr with hr _
        subst hr
        intro g' hg2
        exact .inl hg2
      · have holds : ∀ j u, xs[j]? = some u → W.cell? ((⟨g, 0, none⟩ : Addr).add j) = some u := hown.cells (g := g) rfl
        have hr2 := run_append_grow (P := P) W t o.type e i z ht hi' hz0 ⟨g, 0, none⟩ n cap xs (by rw [hz1]; exact hown.1) holds xa m c ys (by rw [hz1]; exact hys) hnews (by omega) (by simp only [maxLen] at hmax; omega) (by rw [hz2]; exact growslice_fits (by omega) hbytes)
        rw [hr2] at hr
        injection hr with hr _
        subst hr
        intro g' hg2
        simp [Value.ownBlock] at hg2
        exact .inr (by omega)
  obtain ⟨v', w', hr, ho', hg', hfr⟩ := hrun
  obtain ⟨ao', cp', rfl⟩ := own_form ho'
  have := h ao' cp' w' ho' (modOf hg') hfr
  unfold Oper.wp execOp
  simp only [ho, resolve, invoke, builtin, Sem.run_bind, Sem.run_pure, Result.andThen_ok, List.map_toArray, List.map_cons, List.map_nil, hs, hx, hr]
  exact this
theorem wpList_catF {P : Program} {ops : Array Oper} {rest : List Oper} {o : Oper} {a : Act} {Q : Exit → Act → World → Prop} (W : World) (hgd : o.guard = none) (s x : Operand) (t : TypeId)
    (ho : o.op = .call { callee := .builtin .append, args := #[s, x], argTypes := #[t, t] })
    (base : Nat) (e : TypeId) (z : Value) (bytes : Nat) (ht : P.underlying t = some (.slice e)) (hi : (P.info? e).map (fun i => (i.zero, i.size, i.bytes)) = some (some z, 1, bytes)) (hzs : z.cells.size = 1) (hby : 0 < bytes)
    (v : Value) (n : Nat) (xs : List Value) (hs : a.eval s = v) (hown : W.ownsRow base e 1 v n xs) (A : Option Addr) (m c : Nat) (ys : List Value)
    (hx : a.eval x = .slice A m c) (hm : 0 < m) (hr : Rds W A m ys) (h1 : ∀ u ∈ ys, u.oneCell' = true) (hbytes : (n + m) * bytes ≤ 140737488355328) (hbase : base ≤ W.heap.size)
    (h : ∀ ao' cp' w', w'.ownsRow base e 1 (.slice ao' (n + m) cp') (n + m) (xs ++ ys) → Mod v.ownBlock.toList W w' → (∀ g, (Value.slice ao' (n + m) cp').ownBlock = some g → v.ownBlock = some g ∨ W.heap.size ≤ g) → wpList P ops Q rest (a.put o.dst (.slice ao' (n + m) cp')) w') :
    wpList P ops Q (o :: rest) a W := by
  obtain ⟨b, off, rfl, _, hc⟩ := hr.2 hm
  refine wpList_plain hgd fun _ hK => wp_catF W s x t ho base e z 1 bytes ht hi hzs (by omega) hby v n xs hs hown ⟨b, off, none⟩ m c ys hx ?_ (by rw [Nat.mul_one]; exact hr.1) h1 hbytes hbase ?_
  · intro j u hj
    have e : (⟨b, off, none⟩ : Addr).add j = ⟨b, off + j, none⟩ := by
      unfold Addr.add
      split <;> simp_all
    rw [e]
    exact hc j u hj
  · intro ao' cp' w' h2 h3 h4
    exact hK _ _ (h ao' cp' w' h2 h3 h4)
end Go.Proofs.Ytfkhefoilancnaa
