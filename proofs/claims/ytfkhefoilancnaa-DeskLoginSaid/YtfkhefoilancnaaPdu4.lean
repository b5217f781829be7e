/-
  append(b, make([]byte, k)...), k less than four: what the padding of a message does.
-/
import Derived.WalkKit
import Derived.KernelRfl
import Derived.Lib.AppendStr
import Derived.Lib.AppendZeros
import Derived.Test.YtfkhefoilancnaaPdu3
namespace Go.Proofs.Ytfkhefoilancnaa
open Go.RowKit
def zstr (K : Nat) : ByteArray := ⟨(List.replicate K 0).toArray⟩
theorem zcells (K : Nat) : (Lib.strCells (zstr K)).toArray = Builtin.zeroCells (Value.int .u8 0).cells K := by
  apply Array.ext
  · simp [Lib.strCells, zstr, Builtin.zeroCells, Value.cells]
  · intro i h1 h2
    simp [Lib.strCells, zstr, Builtin.zeroCells, Value.cells, Nat.mod_one]
theorem zeros_run (K : Nat) (hK : K < 4) (ty : TypeId) (ao : Option Addr) (n cp : Nat) (hn : n ≤ 1000000) (w : World) :
    (Builtin.append_ #[32, 3] ty #[.slice ao n cp, .int .i64 K]).run Try.prog w = (Builtin.append_ #[32, 9] ty #[.slice ao n cp, .string (zstr K)]).run Try.prog w := by
  obtain ⟨i, hi', hz0, hz1, hz2⟩ := info_parts info5
  have h63 : ¬ ((9223372036854775807 : Int) < (n : Int) + (K : Int)) := by omega
  have hsz : (zstr K).size = K := by simp [zstr, ByteArray.size]
  have hf0 : ∀ W, (Builtin.firstCells 1 K (.string (zstr K))).run Try.prog W = .ok (Builtin.zeroCells (Value.int .u8 0).cells K) W := by
    intro W
    have h := Lib.run_firstCells_string (P := Try.prog) W 1 (zstr K)
    rw [hsz] at h
    rw [h, zcells K]
  have hw : IntKind.i64.wrap (K : Int) = K := IntWalk.i64_in _ (by omega)
  have hneg : ¬ (K : Int) < 0 := by omega
  have h48 : ¬ (281474976710656 : Int) < (K : Int) := by omega
  by_cases hc : n + K ≤ cp
  · by_cases h0 : K = 0
    · subst h0
      have hf1 : ∀ W, (Builtin.firstCells 1 0 (.string (zstr 0))).run Try.prog W = .ok #[] W := fun W => (hf0 W).trans (by rw [show Builtin.zeroCells (Value.int .u8 0).cells 0 = #[] by simp [Builtin.zeroCells]])
      have hc' : n ≤ cp := by omega
      simp [Builtin.append_, run_underlying Try.underlying32, run_underlying Try.underlying3, run_underlying Try.underlying9, sizeOf, typeInfo, zeroValue, hi', hz0, hz1, hz2, asInt, asIntOf, Builtin.lenOf, hsz, hf1, hc', show IntKind.i64.wrap 0 = 0 by decide]
    · simp [Builtin.append_, run_underlying Try.underlying32, run_underlying Try.underlying3, run_underlying Try.underlying9, sizeOf, typeInfo, zeroValue, hi', hz0, hz1, hz2, asInt, asIntOf, Builtin.lenOf, hsz, hf0, hc, hw, hneg, h48, h0]
  · have hs := nextslicecap_le (need := n + K) (old := cp) (by omega)
    have hs' : ¬ 281474976710656 < Builtin.nextslicecap (n + K) cp := by omega
    by_cases h0 : K = 0
    · subst h0
      have hf1 : ∀ W, (Builtin.firstCells 1 0 (.string (zstr 0))).run Try.prog W = .ok #[] W := fun W => (hf0 W).trans (by rw [show Builtin.zeroCells (Value.int .u8 0).cells 0 = #[] by simp [Builtin.zeroCells]])
      have hc' : ¬ n ≤ cp := by omega
      have hs2 : ¬ 281474976710656 < Builtin.nextslicecap n cp := hs'
      have h63' : ¬ ((9223372036854775807 : Int) < (n : Int)) := by omega
      simp [Builtin.append_, run_underlying Try.underlying32, run_underlying Try.underlying3, run_underlying Try.underlying9, sizeOf, typeInfo, zeroValue, hi', hz0, hz1, hz2, asInt, asIntOf, Builtin.lenOf, hsz, hf1, hc', hs2, h63', show IntKind.i64.wrap 0 = 0 by decide]
    · simp [Builtin.append_, run_underlying Try.underlying32, run_underlying Try.underlying3, run_underlying Try.underlying9, sizeOf, typeInfo, zeroValue, hi', hz0, hz1, hz2, asInt, asIntOf, Builtin.lenOf, hsz, hf0, hc, hw, hneg, h48, h0, hs', h63]
set_option maxRecDepth 100000 in
/-- 'append(b, make([]byte, K)...)', K less than four, b the call's own. -/
theorem wpList_zeros {ops : Array Oper} {rest : List Oper} {o : Oper} {a : Act} {Q : Exit → Act → World → Prop} (W : World) (hgd : o.guard = none) (s x : Operand) (ho : o.op = .call { callee := .builtin .append, args := #[s, x], argTypes := #[32, 3] })
    (base : Nat) (ao : Option Addr) (n cp : Nat) (xs : List UInt8) (hs : a.eval s = .slice ao n cp) (hown : W.ownsRow base 5 1 (.slice ao n cp) n (xs.map By)) (K : Nat) (hK : K < 4) (hx : a.eval x = .int .i64 K) (hn : n ≤ 1000000) (hbase : base ≤ W.heap.size)
    (h : ∀ ao' cp' w', w'.ownsRow base 5 1 (.slice ao' (n + K) cp') (n + K) ((xs ++ List.replicate K 0).map By) → Mod (Value.slice ao n cp).ownBlock.toList W w' → wpList Try.prog ops Q rest (a.put o.dst (.slice ao' (n + K) cp')) w') :
    wpList Try.prog ops Q (o :: rest) a W := by
  obtain ⟨i, hi', hz0, hz1, hz2⟩ := info_parts info5
  have hsz : (zstr K).size = K := by simp [zstr, ByteArray.size]
  obtain ⟨v', w', hr, ho', hg, _⟩ := Lib.run_append_own_string (P := Try.prog) (w := W) base 32 9 o.type 5 i Try.underlying32 Try.underlying9 hi' hz0 hz1 hz2 (.slice ao n cp) n (xs.map By) hown (zstr K) (by rw [hsz]; simp only [maxLen]; omega) (by rw [hsz]; omega) hbase
  rw [← zeros_run K hK o.type ao n cp hn W] at hr
  refine Lib.wpList_append_run W hgd s x 32 3 ho _ _ hs hx v' w' hr ?_
  rw [hsz] at ho'
  obtain ⟨ao', cp', rfl⟩ := own_form ho'
  refine h ao' cp' w' ?_ (modOf hg)
  have e : Lib.strCells (zstr K) = (List.replicate K (0 : UInt8)).map By := by
    simp [Lib.strCells, zstr, By_def]
  rw [e] at ho'
  rw [List.map_append]
  exact ho'
end Go.Proofs.Ytfkhefoilancnaa
