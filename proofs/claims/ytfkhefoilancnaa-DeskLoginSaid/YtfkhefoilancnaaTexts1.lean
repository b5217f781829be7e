/-
  pdu's PutTexts at one pair: the key, an equals sign, the value, a nought; and the append of a text to bytes.
-/
import Derived.WalkKit
import Derived.Handy
import Derived.KernelRfl
import Derived.BigQuiet
import Derived.Lib.Hide
import Derived.Lib.AppendStr
import Derived.Lib.AppendZeros
import Derived.Deep.CutBlock
import Derived.Test.YtfkhefoilancnaaKey
namespace Go.Proofs.Ytfkhefoilancnaa
open Go.RowKit
set_option maxRecDepth 100000 in
/-- 'append(b, s...)', s a text, b the call's own. -/
theorem wpList_str {ops : Array Oper} {rest : List Oper} {o : Oper} {a : Act} {Q : Exit → Act → World → Prop} (W : World) (hgd : o.guard = none) (s x : Operand) (ho : o.op = .call { callee := .builtin .append, args := #[s, x], argTypes := #[32, 9] })
    (base : Nat) (ao : Option Addr) (n cp : Nat) (xs : List UInt8) (hs : a.eval s = .slice ao n cp) (hown : W.ownsRow base 5 1 (.slice ao n cp) n (xs.map By)) (t : ByteArray) (hx : a.eval x = .string t) (hn : n + t.size ≤ 1000000) (hbase : base ≤ W.heap.size)
    (h : ∀ ao' cp' w', w'.ownsRow base 5 1 (.slice ao' (n + t.size) cp') (n + t.size) ((xs ++ t.data.toList).map By) → Mod (Value.slice ao n cp).ownBlock.toList W w' → wpList Try.prog ops Q rest (a.put o.dst (.slice ao' (n + t.size) cp')) w') :
    wpList Try.prog ops Q (o :: rest) a W := by
  obtain ⟨i, hi', hz0, hz1, hz2⟩ := info_parts info5
  obtain ⟨v', w', hr, ho', hg, _⟩ := Lib.run_append_own_string (P := Try.prog) (w := W) base 32 9 o.type 5 i Try.underlying32 Try.underlying9 hi' hz0 hz1 hz2 (.slice ao n cp) n (xs.map By) hown t (by simp only [maxLen]; omega) (by omega) hbase
  refine Lib.wpList_append_run W hgd s x 32 9 ho _ _ hs hx v' w' hr ?_
  obtain ⟨ao', cp', rfl⟩ := own_form ho'
  refine h ao' cp' w' ?_ (modOf hg)
  have e : Lib.strCells t = t.data.toList.map By := by
    simp [Lib.strCells, By_def]
  rw [e] at ho'
  rw [List.map_append]
  exact ho'
set_option maxRecDepth 100000 in
set_option maxHeartbeats 8000000 in
theorem putTexts_1 (k v : ByteArray) (l : List UInt8) (hs : k.data.toList = l) (hl : ∀ i, i < l.length → Letter (bt l i)) (h1 : 1 ≤ l.length) (h2 : l.length ≤ 63) (hne : ¬ k.toList = []) (hv : v.size ≤ 255)
    (hib : ∀ w, Calls Try.prog 89 #[.string v, .int .u8 0] w fun e w' => e = .returned (.int .i64 (-1)) ∧ w' = w) (g c : Nat) (w : World) (c0 : w.cell? ⟨g, 0, none⟩ = some (.string k)) (c1 : w.cell? ⟨g, 1, none⟩ = some (.string v)) :
    Calls Try.prog 79 #[.slice (some ⟨g, 0, none⟩) 1 c] w fun e w' => ∃ ao cp, e = .returned (.tuple #[.slice ao (k.size + 1 + v.size + 1) cp, .int .i64 0]) ∧ w'.ownsRow w.heap.size 5 1 (.slice ao (k.size + 1 + v.size + 1) cp) (k.size + 1 + v.size + 1) ((l ++ 61 :: (v.data.toList ++ [0])).map By) ∧ Mod [] w w' := by
  go_enter Try.func79, Try.ntmps79
  go_wp2_with fail
  refine wp_loop_rounds 2 ?_
  rw [rounds_succ]
  go_wp2_with fail
  refine (containsPair_nil _ _ _ _).mono ?_
  rintro e w1 ⟨rfl, hw⟩
  obtain rfl := hw.symm
  go_wp2_with fail
  refine (key_k k l hs hl h1 h2 hne _).mono ?_
  rintro e w2 ⟨rfl, hm2⟩
  have hb := hm2.blk (blk_alloc _ _ _) (by simp)
  have d0 := blk_cell (i := 0) hb rfl
  have d1 := blk_cell (i := 1) hb rfl
  have zd := blk_lt hb
  go_wp2_with fail
  refine (hib _).mono ?_
  rintro e w3 ⟨rfl, hw⟩
  obtain rfl := hw.symm
  have q1 : ¬ (255 : Int) < (v.size : Int) := by omega
  have hsz := hm2.size
  simp at hsz
  have hks : k.size ≤ 63 := by
    have : k.size = l.length := by rw [← hs]; rfl
    omega
  have s1 : ¬ 9223372036854775807 < k.size + 1 := by omega
  have s2 : ¬ 9223372036854775807 < k.size + 1 + v.size := by omega
  have s3 : ¬ 9223372036854775807 < k.size + 1 + v.size + 1 := by omega
  go_wp2_with (at_builtin; refine wpList_str w2 rfl (.tmp 42) (.tmp 49) rfl w.heap.size none 0 0 [] rfl (World.ownsRow_nil _ _ _ _) _ rfl ?_ (by omega) ?_)
  · have e1 : (⟨#[61]⟩ : ByteArray).size = 1 := rfl
    have e2 : (⟨#[0]⟩ : ByteArray).size = 1 := rfl
    simp [e1, e2]
    omega
  · intro a5 c5 w5 ho5 hm5
    have hmw : Mod [] w w5 := (((Mod.refl [] w).alloc _).then0 hm2).trans hm5 (by simp [Value.ownBlock])
    go_wp2_with fail
    rw [rounds_succ]
    go_wp2_with fail
    go_ret2
    exact ⟨a5, c5, rfl, by simpa using ho5, hmw⟩
end Go.Proofs.Ytfkhefoilancnaa
