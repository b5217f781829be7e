/-
  The desk's Chunk; the reference's number of bytes; the laws' data and shape.
-/
import Derived.WalkKit
import Derived.Handy
import Derived.BigQuiet
import Derived.Deep.QuietTactic
import Derived.Lib.Hide
import Derived.Test.YtfkhefoilancnaaOrd
import Derived.Test.YtfkhefoilancnaaFresh2
import Derived.Test.YtfkhefoilancnaaPdu1
namespace Go.Proofs.Ytfkhefoilancnaa
open Go.RowKit
set_option maxRecDepth 100000 in
set_option maxHeartbeats 4000000 in
theorem chunk_k (s : Sh) (w : World) (d : Nat) (G : Gh) (hD : DeskAt s w d G) (i g : Nat) (hi : G.gs[i]? = some g) (hn : s.n ≤ 1000000) (hn0 : 0 < s.n) :
    Calls Try.prog 28 #[.pointer (some ⟨d, 0, none⟩), .int .i64 i] w fun e w' => ∃ ao cp, e = .returned (.slice ao s.n cp) ∧ w'.ownsRow w.heap.size 5 1 (.slice ao s.n cp) s.n (rowOf s.n (G.vol i)) ∧ Mod [] w w' := by
  have hik : i < s.k := by rw [← hD.len]; exact (List.getElem?_eq_some_iff.1 hi).1
  have c5 : w.cell? ⟨d, 5, none⟩ = some (.slice (some ⟨G.h, 0, none⟩) s.k G.cap) := hD.cell rfl
  have c5' : (w.alloc (.cells #[] 5)).cell? ⟨d, 5, none⟩ = some (.slice (some ⟨G.h, 0, none⟩) s.k G.cap) := (hD.mod0 ((Mod.refl _ _).alloc _)).cell rfl
  have ci := (hD.mod0 ((Mod.refl _ _).alloc (.cells #[] 5))).head_cell hi
  have zd := blk_lt hD.desk
  have zh : G.h < w.heap.size := by obtain ⟨cur, hc⟩ := hD.headBlk; exact blk_lt hc
  have r1 : ¬ (i : Int) < 0 := by omega
  have r2 : ¬ (s.k : Int) ≤ i := by omega
  have r3 : (i : Int) < s.k := by omega
  have hrd := (Rds.whole (hD.chunk i g hi)).mod0 ((Mod.refl [] w).alloc (.cells #[] 5))
  go_enter Try.func28, Try.ntmps28
  go_wp2_with (at_builtin; refine wpList_cat (w.alloc (.cells #[] 5)) rfl (.tmp 20) (.tmp 27) 32 rfl w.heap.size 5 _ 1 Try.underlying32 info5 rfl (by decide) (.slice (some ⟨w.heap.size, 0, none⟩) 0 0) 0 [] rfl (World.ownsRow_lit w #[] 0 (Nat.le_refl _) (by simp [maxLen]) rfl) (some ⟨g, 0, none⟩) s.n s.n (rowOf s.n (G.vol i)) rfl hrd (rowOf_one _ _) (by omega) (by simp) ?_)
  intro a2 c2 w2 ho2 hm2
  go_wp2
  go_ret
  refine ⟨a2, c2, by simp, by simpa using ho2, ?_⟩
  exact ((Mod.refl [] w).alloc (.cells #[] 5)).trans hm2 (fun t ht => .inr (by simp [Value.ownBlock] at ht; omega))
set_option maxHeartbeats 1000000 in
theorem chunk_nil (i : Int) (w : World) : Calls Try.prog 28 #[.pointer none, .int .i64 i] w fun e w' => e = .returned (.slice none 0 0) ∧ w' = w := by
  go_enter Try.func28, Try.ntmps28
  go_wp2
  go_ret
  exact ⟨rfl, rfl⟩
/-- The number of bytes. -/
def num (l : List UInt8) : Nat := l.foldl (fun a b => a * 256 + b.toNat) 0
theorem num_snoc (l : List UInt8) (b : UInt8) : num (l ++ [b]) = num l * 256 + b.toNat := by simp [num]
theorem num_lt' (l : List UInt8) : ∀ a : Nat, l.foldl (fun a b => a * 256 + b.toNat) a < (a + 1) * 256 ^ l.length := by
  induction l with
  | nil => intro a; simp
  | cons b l ih =>
    intro a
    have hb := UInt8.toNat_lt b
    have h1 := ih (a * 256 + b.toNat)
    have h2 : (a * 256 + b.toNat + 1) * 256 ^ l.length ≤ ((a + 1) * 256) * 256 ^ l.length := Nat.mul_le_mul_right _ (by omega)
    have h3 : ((a + 1) * 256) * 256 ^ l.length = (a + 1) * 256 ^ (b :: l).length := by
      rw [List.length_cons, Nat.pow_succ, Nat.mul_assoc, Nat.mul_comm 256]
    rw [List.foldl_cons]
    omega
theorem num_lt (l : List UInt8) : num l < 256 ^ l.length := by
  have := num_lt' l 0
  simpa [num] using this
theorem take_snoc8 (l : List UInt8) (k : Nat) (h : k < l.length) : num (l.take (k + 1)) = num (l.take k) * 256 + bt l k := by
  rw [List.take_succ_eq_append_getElem h, num_snoc]
  simp [bt, List.getD, List.getElem?_eq_getElem h]
set_option maxRecDepth 100000 in
set_option maxHeartbeats 4000000 in
theorem get19_k (A : Option Addr) (n c : Nat) (l : List UInt8) (w : World) (h : Rds w A n (l.map By)) (hn : n ≤ 8) : Calls Try.prog 13 #[.slice A n c] w fun e w' => e = .returned (.int .u64 (num l)) ∧ w' = w := by
  have hl : l.length = n := by simpa using h.1
  go_enter Try.func13, Try.ntmps13
  go_wp2_with fail
  go_loop [3, 4] (fun a i => ∃ k : Nat, k ≤ n ∧ i = .int .i64 k ∧ a = .int .u64 (num (l.take k))) (fun _ i => n - (intOf i).toNat)
  case atStart => exact ⟨0, Nat.zero_le _, rfl, rfl⟩
  case round =>
    obtain ⟨k, hk, rfl, rfl⟩ := hrel
    by_cases hkn : k < n
    · obtain ⟨b, off, hA, hb, _⟩ := h.2 (by omega)
      have hc := h.byte hA (k := k) hkn
      subst hA
      have hb1 := bt_lt l k
      have hs := take_snoc8 l k (by omega)
      have hlt := num_lt (l.take k)
      have hlen : (l.take k).length ≤ 7 := by rw [List.length_take]; omega
      have hlt2 : num (l.take k) < 72057594037927936 := Nat.lt_of_lt_of_le hlt (by
        have := Nat.pow_le_pow_right (n := 256) (by omega) hlen
        simpa using this)
      clear hlt
      generalize hv : num (l.take k) = v at hs hlt2 ⊢
      generalize hx : bt l k = x at hs hb1 hc
      have HS := Lib.hid hs
      clear hs hv hx hl
      have w1 : IntKind.u64.wrap ((v : Int) * 256) = (v : Int) * 256 := by rw [IntKind.wrap_u64]; omega
      have w2 : IntKind.u64.wrap ((v : Int) * 256 + (x : Int)) = (v : Int) * 256 + (x : Int) := by rw [IntKind.wrap_u64]; omega
      have w3 : IntKind.u64.wrap (x : Int) = (x : Int) := by rw [IntKind.wrap_u64]; omega
      have r1 : (k : Int) < n := by omega
      go_wp2
      go_round
      case rel => exact ⟨k + 1, by omega, by go_num, by rw [HS.out]; go_num⟩
      case measure => simp [intOf]; omega
    · obtain rfl : k = n := by omega
      have e : l.take k = l := List.take_of_length_le (by omega)
      have E := Lib.hid e
      clear e hl
      go_wp2
      go_ret
      rw [E.out]
      exact ⟨rfl, rfl⟩
set_option maxHeartbeats 1000000 in
theorem shape_k (w : World) : Calls Try.prog 20 #[] w fun e w' => e = .returned (.agg #[.int .u64 12, .int .i64 4, .int .i64 3, .int .i64 1]) ∧ Mod [] w w' := by
  go_enter Try.func20, Try.ntmps20
  go_wp2
  have hA := blk_alloc w #[.int .u64 12, .int .i64 4, .int .i64 3, .int .i64 1] 30
  refine bodyPost_ret (res_cell _ _ w.heap.size 30 _ rfl hA Try.underlying30 info30 rfl) rfl ⟨rfl, (Mod.refl _ _).alloc _⟩
/-- The laws' data. -/
def fillD (u : UInt8) (i : Nat) : UInt8 := u + UInt8.ofNat (i / 64) * 3 + UInt8.ofNat (i % 5)
theorem By_fillD (u : UInt8) (k : Nat) : By (fillD u k) = .int .u8 (((u.toNat : Int) + (k : Int) / 64 % 256 * 3 + (k : Int) % 5) % 256) := by
  rw [By_def]
  congr 1
  simp only [fillD, UInt8.toNat_add, UInt8.toNat_mul, UInt8.toNat_ofNat']
  have : (3 : UInt8).toNat = 3 := rfl
  rw [this]
  omega
set_option maxRecDepth 100000 in
set_option maxHeartbeats 4000000 in
theorem data_k (u : UInt8) (n : Nat) (hn : n ≤ 19999) (c0 c1 c2 c3 : Int) (w : World) : Calls Try.prog 21 #[.agg #[.int .i64 c0, .int .u64 c1, .int .i64 c2, .int .i64 c3, .int .i64 n, By u]] w fun e w' => ∃ ao cp, e = .returned (.slice ao n cp) ∧ w'.ownsRow w.heap.size 5 1 (.slice ao n cp) n (((List.range n).map (fillD u)).map By) ∧ Mod [] w w' := by
  have r0 : ¬ (n : Int) < 0 := by omega
  have hu : u.toNat < 256 := UInt8.toNat_lt u
  have hb0 := blk_alloc w #[.int .i64 c0, .int .u64 c1, .int .i64 c2, .int .i64 c3, .int .i64 n, .int .u8 (u.toNat : Int)] 65
  rw [By_def]
  go_enter Try.func21, Try.ntmps21
  go_wp2_with fail
  generalize hV : World.alloc w _ = V at hb0 ⊢
  have hmV : Mod [] w V := by rw [← hV]; exact (Mod.refl _ _).alloc _
  clear hV
  go_loopw [4, 5] (fun o i wr => ∃ (k : Nat) (ao : Option Addr) (cp : Nat), o = .slice ao k cp ∧ i = .int .i64 k ∧ k ≤ n ∧ wr.ownsRow w.heap.size 5 1 (.slice ao k cp) k (((List.range k).map (fillD u)).map By) ∧ (∀ g, (Value.slice ao k cp).ownBlock = some g → w.heap.size < g) ∧ wr.heap[w.heap.size]? = some (.cells #[.int .i64 c0, .int .u64 c1, .int .i64 c2, .int .i64 c3, .int .i64 n, .int .u8 (u.toNat : Int)] 65 (0, 0)) ∧ Mod [] w wr) (fun _ i _ => n - (intOf i).toNat)
  case atStart => exact ⟨0, none, 0, rfl, rfl, by omega, by simpa using World.ownsRow_nil _ _ _ _, by simp [Value.ownBlock], hb0, hmV⟩
  case round =>
    obtain ⟨k, ao, cp, rfl, rfl, hk, ho, hfr, hbk, hm⟩ := hrel
    clear hb0 hmV
    have y5 : wr.cell? ⟨w.heap.size, 5, none⟩ = some (.int .u8 (u.toNat : Int)) := blk_cell hbk rfl
    have zb := blk_lt hbk
    by_cases hkn : k < n
    · have r1 : (k : Int) < n := by omega
      have r2 : (k : Int) < 20000 := by omega
      have hsz := hm.size
      go_wp2_with (at_builtin; refine wpList_pushF _ rfl (.tmp 25) (.tmp 37) 32 rfl w.heap.size 5 _ 1 1 Try.underlying32 info5 rfl (by decide) (by decide) (.slice ao k cp) k _ rfl (ho.alloc _) #[_] wr.heap.size 1 1 rfl (blk_alloc _ _ _) rfl (by simp [Value.oneCell']) (by omega) (by simp; omega) ?_)
      intro a2 c2 w2 hown2 hm2 hf2
      have hv1 := By_fillD u k
      have hown3 : w2.ownsRow w.heap.size 5 1 (.slice a2 (k + 1) c2) (k + 1) (((List.range (k + 1)).map (fillD u)).map By) := by
        rw [List.range_succ, List.map_append, List.map_append]
        simp only [List.map_cons, List.map_nil, hv1]
        simpa using hown2
      have hge := own_ge ho
      have hm3 : Mod [] w w2 := (hm.alloc _).trans hm2 (fun t ht => .inr (hge t ht).1)
      have hbk2 := hm2.blk (((Mod.refl [] wr).alloc _).blk hbk (by simp)) (by
        intro hin
        have := hfr w.heap.size (by simpa using hin)
        omega)
      have hfr2 : ∀ g, (Value.slice a2 (k + 1) c2).ownBlock = some g → w.heap.size < g := by
        intro g hg
        rcases hf2 g hg with h1 | h1
        · exact hfr g h1
        · omega
      clear hown2 hm2 hv1 hf2 hge ho hfr hbk y5 zb hm
      go_wp2
      go_roundw
      · exact ⟨k + 1, a2, c2, rfl, by go_num, by omega, hown3, hfr2, hbk2, hm3⟩
      · simp [intOf]; omega
    · obtain rfl : k = n := by omega
      go_wp2
      go_ret
      exact ⟨ao, cp, rfl, ho, hm⟩
end Go.Proofs.Ytfkhefoilancnaa
