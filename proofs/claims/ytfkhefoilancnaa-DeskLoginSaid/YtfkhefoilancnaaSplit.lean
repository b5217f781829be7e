/-
  span.Split at the two shapes: it hands back pieces that are the request's blocks, each where it lies ('Good').
-/
import Derived.WalkKit
import Derived.Handy
import Derived.BigQuiet
import Derived.Deep.QuietTactic
import Derived.Deep.RegionHeld3
import Derived.Deep.DeepCutAuto
import Derived.Deep.Light
import Derived.Lib.Hide
import Derived.Lib.MinMax
import Derived.Test.YtfkhefoilancnaaSpan
import Derived.Test.YtfkhefoilancnaaPieces
namespace Go.Proofs.Ytfkhefoilancnaa
open Go.RowKit
theorem info149 : (Try.prog.info? 149).map (fun i => (i.zero, i.size, i.bytes)) = some (some (.agg #[.int .i64 0, .int .i64 0, .int .i64 0, .int .i64 0]), 4, 32) := by kernel_rfl

theorem Mod.ofDrewN {S : List Nat} {w w' : World} {n : Nat} (h : Mod S (w.drewN n) w') : Mod S w w' := ⟨h.os, h.tape, h.output, h.size, h.block⟩
theorem split_end {w wr w2 w3 : World} {v : Value} {n : Nat} {xs : List Value} {o : Obj} (hmod : Mod [] w wr) (hm2 : Mod [] wr w2) (HB : wr.heap[w.heap.size]? = some o)
    (own2 : w2.ownsRow (w.heap.size + 1) 149 4 v n xs) (h3 : Mod v.ownBlock.toList w2 w3) : Mod [] w w3 ∧ w3.heap[w.heap.size]? = some o :=
  ⟨(hmod.then0 hm2).trans h3 (fun t ht => .inr (by have := own_ge own2 t ht; omega)), h3.blk (hm2.blk HB (by simp)) (fun hin => by have := own_ge own2 _ hin; omega)⟩
theorem last_cells {w : World} {base g n cp : Nat} {qs : List Pc} {q : Pc} (h : w.ownsRow base 149 4 (.slice (some ⟨g, 0, none⟩) (qs ++ [q]).length cp) (qs ++ [q]).length (rows (qs ++ [q]))) (hn : n = qs.length * 4) :
    w.cell? ⟨g, n, none⟩ = some (.int .i64 q.c) ∧ w.cell? ⟨g, n + 1, none⟩ = some (.int .i64 q.a) ∧ w.cell? ⟨g, n + 3, none⟩ = some (.int .i64 q.n) := by
  have hl : (qs ++ [q]).length = qs.length + 1 := by simp
  have hr := rows_length qs
  subst hn
  have key : ∀ i v, i < 4 → q.cells[i]? = some v → w.cell? ⟨g, qs.length * 4 + i, none⟩ = some v := by
    intro i v hi hv
    rw [h.cellAt _ (by rw [hl]; omega), rows_snoc, List.getElem?_append_right (by omega), hr, Nat.add_sub_cancel_left]
    exact hv
  exact ⟨key 0 _ (by omega) rfl, key 1 _ (by omega) rfl, key 3 _ (by omega) rfl⟩
theorem rows_merge (qs : List Pc) (q : Pc) (m : Nat) : (rows (qs ++ [q])).set (qs.length * 4 + 3) (.int .i64 ((q.n : Int) + m)) = rows (qs ++ [⟨q.c, q.a, q.f, q.n + m⟩]) := by
  rw [rows_snoc, rows_snoc, List.set_append_right _ _ (by rw [rows_length]; omega), rows_length, Nat.add_sub_cancel_left]
  rfl
theorem where_2' (x : Int) (a : Nat) (hx : x = a) (ha : a < 40) (w : World) : Calls Try.prog 72 #[.agg #[.int .u64 40, .int .i64 10, .int .i64 2, .int .i64 5], .int .u64 x] w fun e w' => e = .returned (.tuple #[.int .i64 (wh2 a).1, .int .i64 (wh2 a).2]) ∧ Mod [] w w' := by
  subst hx
  exact where_2 a ha w
theorem wh2_lt (x : Nat) (hx : x < 40) : (wh2 x).1 < 4 ∧ (wh2 x).2 < 10 := by simp only [wh2]; omega
theorem where_1' (x : Int) (a : Nat) (hx : x = a) (ha : a < 12) (w : World) : Calls Try.prog 72 #[.agg #[.int .u64 12, .int .i64 4, .int .i64 3, .int .i64 1], .int .u64 x] w fun e w' => e = .returned (.tuple #[.int .i64 (wh1 a).1, .int .i64 (wh1 a).2]) ∧ Mod [] w w' := by
  subst hx
  exact where_1 a ha w
theorem wh1_lt (x : Nat) (hx : x < 12) : (wh1 x).1 < 3 ∧ (wh1 x).2 < 4 := by simp only [wh1]; omega
set_option maxRecDepth 100000 in
set_option maxHeartbeats 1000000 in
theorem split_2 (a n : Nat) (ha : a + n ≤ 40) (w : World) : Calls Try.prog 47 #[.agg #[.int .u64 40, .int .i64 10, .int .i64 2, .int .i64 5], .int .u64 a, .int .i64 n] w
    fun e w' => ∃ v ps, e = .returned (.tuple #[v, .int .i64 0]) ∧ w'.ownsRow w.heap.size 149 4 v ps.length (rows ps) ∧ Good wh2 a ps n ∧ Mod [] w w' := by
  have ka : ¬ ((40 : Int) < (a : Int)) := by omega
  have kn : ¬ ((n : Int) < 0) := by omega
  have kn2 : ¬ ((65536 : Int) < (n : Int)) := by omega
  have ks : ¬ ((40 - a : Int) < (n : Int)) := by omega
  go_enter Try.func47, Try.ntmps47
  go_wp2_with fail
  refine (check_2 _).mono ?_
  rintro e w1 ⟨rfl, hm⟩
  obtain ⟨hc, hf⟩ := hm.cells
  go_wp2_with fail
  go_loopw [9, 10] (fun v f wr => ∃ (ps : List Pc) (k : Nat) (ao : Option Addr) (cp : Nat), v = .slice ao ps.length cp ∧ f = .int .i64 k ∧ k ≤ n ∧ wr.ownsRow (w.heap.size + 1) 149 4 v ps.length (rows ps) ∧ Good wh2 a ps k ∧ Mod [] w wr ∧
      wr.heap[w.heap.size]? = some (.cells #[.int .u64 40, .int .i64 10, .int .i64 2, .int .i64 5] 30 (0, 0))) (fun _ f _ => n - (intOf f).toNat)
  case atStart => exact ⟨[], 0, none, 0, rfl, rfl, Nat.zero_le _, World.ownsRow_nil _ _ _ _, Good.nil _ _, ((Mod.refl _ _).alloc _).then0 hm, hm.blk (blk_alloc _ _ _) (by simp)⟩
  case round =>
    obtain ⟨ps, k, ao, cp, rfl, rfl, hk, hown, hgood, hmod, hblk⟩ := hrel
    clear hc hf
    have c0 : wr.cell? ⟨w.heap.size, 0, none⟩ = some (.int .u64 40) := blk_cell hblk rfl
    have c1 : wr.cell? ⟨w.heap.size, 1, none⟩ = some (.int .i64 10) := blk_cell hblk rfl
    have c2 : wr.cell? ⟨w.heap.size, 2, none⟩ = some (.int .i64 2) := blk_cell hblk rfl
    have c3 : wr.cell? ⟨w.heap.size, 3, none⟩ = some (.int .i64 5) := blk_cell hblk rfl
    have HB := Lib.hid hblk
    clear hblk
    by_cases hlt : k < n
    · go_wp2_with fail
      refine (where_2' _ (a + k) (by omega) (by omega) _).mono ?_
      rintro e w2 ⟨rfl, hm2⟩
      have hlc := wh2_lt (a + k) (by omega)
      have d3 : w2.cell? ⟨w.heap.size, 3, none⟩ = some (.int .i64 5) := blk_cell (hm2.blk HB.out (by simp)) rfl
      generalize hgc : (wh2 (a + k)).1 = c at hlc ⊢
      generalize hga : (wh2 (a + k)).2 = d at hlc ⊢
      have Hgc := Lib.hid hgc
      have Hga := Lib.hid hga
      clear hgc hga
      obtain ⟨hc4, hd10⟩ := hlc
      go_wp2_with fail
      go_quiet (fail)
      generalize hmm : min (5 - (d : Int) % 5) ((n : Int) - (k : Int)) = mm
      have hm1 : 1 ≤ mm := by omega
      have hm2' : mm ≤ 5 - (d : Int) % 5 := by omega
      have hm3 : mm ≤ (n : Int) - k := by omega
      clear hmm
      obtain ⟨m, rfl⟩ : ∃ m : Nat, mm = m := ⟨mm.toNat, by omega⟩
      have hunit : Hid (∀ j, j < m → wh2 (a + k + j) = ((wh2 (a + k)).1, (wh2 (a + k)).2 + j)) := wh2_unit (a + k) m (by rw [Hga.out]; omega)
      have hlen := hgood.length_le
      have own2 := hm2.own0 hown
      clear hown
      have hnew : Hid (Good wh2 a (ps ++ [⟨c, d, k, m⟩]) (k + m)) := by
        have := hgood.new (n := m) (by omega) hunit.out
        rw [Hgc.out, Hga.out] at this
        exact this
      rcases List.eq_nil_or_concat ps with hps | ⟨qs, q, hps⟩
      · subst hps
        go_wp2_with fail
        go_quiet (fail)
        go_wp2_with (at_builtin; refine wpList_push _ rfl (.tmp 102) (.tmp 108) 116 rfl (w.heap.size + 1) 149 _ 4 32 Try.underlying116 info149 rfl (by decide) (by decide) _ _ _ rfl own2 _ rfl rfl ?_ ?_ ?_ ?_)
        · simp [Value.oneCell']
        · simp
        · have := hmod.size; have := hm2.size; have := blk_lt HB.out; simp; omega
        · intro ao' cp' w3 own3 hm3'
          have hend := split_end hmod hm2 HB.out own2 hm3'.ofDrewN
          go_wp2
          go_roundw
          case rel => exact ⟨[⟨c, d, k, m⟩], k + m, ao', cp', rfl, by go_num, by omega, own3, hnew.out, hend.1, hend.2⟩
          case measure => simp [intOf]; omega
      · rw [List.concat_eq_append] at hps
        obtain ⟨g, rfl, hg1, hg2, hcp⟩ := own_block own2 (by rw [hps]; simp)
        subst hps
        have hl : (qs ++ [q]).length = qs.length + 1 := by simp
        rw [hl] at hlen hcp
        have hcl := last_cells own2 rfl
        obtain ⟨e0, e1, e3⟩ := hcl
        by_cases hqc : q.c = c
        · have b1 : ((q.c : Int) == (c : Int)) = true := by simp [hqc]
          have hqn : (q.n : Int) ≤ 40 ∧ (q.a : Int) ≤ 40 := by
            have h1 := hgood.last
            have h2 := hgood.mem (p := q) (by simp) (i := 0) (hgood.pos q (by simp))
            have h3 := wh2_lt (a + (q.f + 0)) (by omega)
            omega
          by_cases hqa : q.a + q.n = d
          · have b2 : ((q.a : Int) + (q.n : Int) == (d : Int)) = true := by simp; omega
            have f3 : w2.frozen? ⟨g, qs.length * 4 + 3, none⟩ = false := own2.frozenAt _
            have hst := fun N => World.ownsRow.stored (w := w2.drewN N) own2 (qs.length * 4 + 3) (.int .i64 ((q.n : Int) + m))
            simp only [rows_merge] at hst
            have hmg := hgood.merge (n := m) (by rw [Hgc.out]; exact hqc) (by rw [Hga.out]; exact hqa) hunit.out
            have hend := fun N => split_end hmod hm2 HB.out own2 (modOf (hst N).2).ofDrewN
            have Hst := Lib.hid hst
            have Hend := Lib.hid hend
            clear hend
            clear hst hqc hqa
            go_wp2_with fail
            go_quiet (fail)
            go_wp2
            go_roundw
            case rel => exact ⟨qs ++ [⟨q.c, q.a, q.f, q.n + m⟩], k + m, some ⟨g, 0, none⟩, cp, by simp, by go_num, by omega, by simpa using (Hst.out _).1, hmg, (Hend.out _).1, (Hend.out _).2⟩
            case measure => simp [intOf]; omega
          · have b2 : ((q.a : Int) + (q.n : Int) == (d : Int)) = false := by simp; omega
            clear hqa
            go_wp2_with fail
            go_quiet (fail)
            go_wp2_with (at_builtin; refine wpList_push _ rfl (.tmp 102) (.tmp 108) 116 rfl (w.heap.size + 1) 149 _ 4 32 Try.underlying116 info149 rfl (by decide) (by decide) _ _ _ rfl own2 _ rfl rfl ?_ ?_ ?_ ?_)
            · simp [Value.oneCell']
            · rw [hl]; omega
            · have := hmod.size; have := hm2.size; have := blk_lt HB.out; simp; omega
            · intro ao' cp' w3 own3 hm3'
              have hend := split_end hmod hm2 HB.out own2 hm3'.ofDrewN
              go_wp2
              go_roundw
              case rel => exact ⟨qs ++ [q] ++ [⟨c, d, k, m⟩], k + m, ao', cp', by simp, by go_num, by omega, by rw [rows_snoc, List.length_append, hl]; exact own3, hnew.out, hend.1, hend.2⟩
              case measure => simp [intOf]; omega
        · have b1 : ((q.c : Int) == (c : Int)) = false := by simp; omega
          clear hqc
          go_wp2_with fail
          go_quiet (fail)
          go_wp2_with (at_builtin; refine wpList_push _ rfl (.tmp 102) (.tmp 108) 116 rfl (w.heap.size + 1) 149 _ 4 32 Try.underlying116 info149 rfl (by decide) (by decide) _ _ _ rfl own2 _ rfl rfl ?_ ?_ ?_ ?_)
          · simp [Value.oneCell']
          · rw [hl]; omega
          · have := hmod.size; have := hm2.size; have := blk_lt HB.out; simp; omega
          · intro ao' cp' w3 own3 hm3'
            have hend := split_end hmod hm2 HB.out own2 hm3'.ofDrewN
            go_wp2
            go_roundw
            case rel => exact ⟨qs ++ [q] ++ [⟨c, d, k, m⟩], k + m, ao', cp', by simp, by go_num, by omega, by rw [rows_snoc, List.length_append, hl]; exact own3, hnew.out, hend.1, hend.2⟩
            case measure => simp [intOf]; omega
    · obtain rfl : k = n := by omega
      go_wp2
      go_ret2
      exact ⟨_, ps, rfl, own_mono hown (by omega), hgood, hmod⟩
set_option maxRecDepth 100000 in
set_option maxHeartbeats 1000000 in
theorem split_1 (a n : Nat) (ha : a + n ≤ 12) (w : World) : Calls Try.prog 47 #[.agg #[.int .u64 12, .int .i64 4, .int .i64 3, .int .i64 1], .int .u64 a, .int .i64 n] w
    fun e w' => ∃ v ps, e = .returned (.tuple #[v, .int .i64 0]) ∧ w'.ownsRow w.heap.size 149 4 v ps.length (rows ps) ∧ Good wh1 a ps n ∧ Mod [] w w' := by
  have ka : ¬ ((12 : Int) < (a : Int)) := by omega
  have kn : ¬ ((n : Int) < 0) := by omega
  have kn2 : ¬ ((65536 : Int) < (n : Int)) := by omega
  have ks : ¬ ((12 - a : Int) < (n : Int)) := by omega
  go_enter Try.func47, Try.ntmps47
  go_wp2_with fail
  refine (check_1 _).mono ?_
  rintro e w1 ⟨rfl, hm⟩
  obtain ⟨hc, hf⟩ := hm.cells
  go_wp2_with fail
  go_loopw [9, 10] (fun v f wr => ∃ (ps : List Pc) (k : Nat) (ao : Option Addr) (cp : Nat), v = .slice ao ps.length cp ∧ f = .int .i64 k ∧ k ≤ n ∧ wr.ownsRow (w.heap.size + 1) 149 4 v ps.length (rows ps) ∧ Good wh1 a ps k ∧ Mod [] w wr ∧
      wr.heap[w.heap.size]? = some (.cells #[.int .u64 12, .int .i64 4, .int .i64 3, .int .i64 1] 30 (0, 0))) (fun _ f _ => n - (intOf f).toNat)
  case atStart => exact ⟨[], 0, none, 0, rfl, rfl, Nat.zero_le _, World.ownsRow_nil _ _ _ _, Good.nil _ _, ((Mod.refl _ _).alloc _).then0 hm, hm.blk (blk_alloc _ _ _) (by simp)⟩
  case round =>
    obtain ⟨ps, k, ao, cp, rfl, rfl, hk, hown, hgood, hmod, hblk⟩ := hrel
    clear hc hf
    have c0 : wr.cell? ⟨w.heap.size, 0, none⟩ = some (.int .u64 12) := blk_cell hblk rfl
    have c1 : wr.cell? ⟨w.heap.size, 1, none⟩ = some (.int .i64 4) := blk_cell hblk rfl
    have c2 : wr.cell? ⟨w.heap.size, 2, none⟩ = some (.int .i64 3) := blk_cell hblk rfl
    have c3 : wr.cell? ⟨w.heap.size, 3, none⟩ = some (.int .i64 1) := blk_cell hblk rfl
    have HB := Lib.hid hblk
    clear hblk
    by_cases hlt : k < n
    · go_wp2_with fail
      refine (where_1' _ (a + k) (by omega) (by omega) _).mono ?_
      rintro e w2 ⟨rfl, hm2⟩
      have hlc := wh1_lt (a + k) (by omega)
      have d3 : w2.cell? ⟨w.heap.size, 3, none⟩ = some (.int .i64 1) := blk_cell (hm2.blk HB.out (by simp)) rfl
      generalize hgc : (wh1 (a + k)).1 = c at hlc ⊢
      generalize hga : (wh1 (a + k)).2 = d at hlc ⊢
      have Hgc := Lib.hid hgc
      have Hga := Lib.hid hga
      clear hgc hga
      obtain ⟨hc4, hd10⟩ := hlc
      go_wp2_with fail
      go_quiet (fail)
      generalize hmm : min 1 ((n : Int) - (k : Int)) = mm
      have hm1 : 1 ≤ mm := by omega
      have hm2' : mm ≤ 1 := by omega
      have hm3 : mm ≤ (n : Int) - k := by omega
      clear hmm
      obtain ⟨m, rfl⟩ : ∃ m : Nat, mm = m := ⟨mm.toNat, by omega⟩
      have hunit : Hid (∀ j, j < m → wh1 (a + k + j) = ((wh1 (a + k)).1, (wh1 (a + k)).2 + j)) := wh1_unit (a + k) m (by rw [Hga.out]; omega)
      have hlen := hgood.length_le
      have own2 := hm2.own0 hown
      clear hown
      have hnew : Hid (Good wh1 a (ps ++ [⟨c, d, k, m⟩]) (k + m)) := by
        have := hgood.new (n := m) (by omega) hunit.out
        rw [Hgc.out, Hga.out] at this
        exact this
      rcases List.eq_nil_or_concat ps with hps | ⟨qs, q, hps⟩
      · subst hps
        go_wp2_with fail
        go_quiet (fail)
        go_wp2_with (at_builtin; refine wpList_push _ rfl (.tmp 102) (.tmp 108) 116 rfl (w.heap.size + 1) 149 _ 4 32 Try.underlying116 info149 rfl (by decide) (by decide) _ _ _ rfl own2 _ rfl rfl ?_ ?_ ?_ ?_)
        · simp [Value.oneCell']
        · simp
        · have := hmod.size; have := hm2.size; have := blk_lt HB.out; simp; omega
        · intro ao' cp' w3 own3 hm3'
          have hend := split_end hmod hm2 HB.out own2 hm3'.ofDrewN
          go_wp2
          go_roundw
          case rel => exact ⟨[⟨c, d, k, m⟩], k + m, ao', cp', rfl, by go_num, by omega, own3, hnew.out, hend.1, hend.2⟩
          case measure => simp [intOf]; omega
      · rw [List.concat_eq_append] at hps
        obtain ⟨g, rfl, hg1, hg2, hcp⟩ := own_block own2 (by rw [hps]; simp)
        subst hps
        have hl : (qs ++ [q]).length = qs.length + 1 := by simp
        rw [hl] at hlen hcp
        have hcl := last_cells own2 rfl
        obtain ⟨e0, e1, e3⟩ := hcl
        by_cases hqc : q.c = c
        · have b1 : ((q.c : Int) == (c : Int)) = true := by simp [hqc]
          have hqn : (q.n : Int) ≤ 12 ∧ (q.a : Int) ≤ 12 := by
            have h1 := hgood.last
            have h2 := hgood.mem (p := q) (by simp) (i := 0) (hgood.pos q (by simp))
            have h3 := wh1_lt (a + (q.f + 0)) (by omega)
            omega
          by_cases hqa : q.a + q.n = d
          · have b2 : ((q.a : Int) + (q.n : Int) == (d : Int)) = true := by simp; omega
            have f3 : w2.frozen? ⟨g, qs.length * 4 + 3, none⟩ = false := own2.frozenAt _
            have hst := fun N => World.ownsRow.stored (w := w2.drewN N) own2 (qs.length * 4 + 3) (.int .i64 ((q.n : Int) + m))
            simp only [rows_merge] at hst
            have hmg := hgood.merge (n := m) (by rw [Hgc.out]; exact hqc) (by rw [Hga.out]; exact hqa) hunit.out
            have hend := fun N => split_end hmod hm2 HB.out own2 (modOf (hst N).2).ofDrewN
            have Hst := Lib.hid hst
            have Hend := Lib.hid hend
            clear hend
            clear hst hqc hqa
            go_wp2_with fail
            go_quiet (fail)
            go_wp2
            go_roundw
            case rel => exact ⟨qs ++ [⟨q.c, q.a, q.f, q.n + m⟩], k + m, some ⟨g, 0, none⟩, cp, by simp, by go_num, by omega, by simpa using (Hst.out _).1, hmg, (Hend.out _).1, (Hend.out _).2⟩
            case measure => simp [intOf]; omega
          · have b2 : ((q.a : Int) + (q.n : Int) == (d : Int)) = false := by simp; omega
            clear hqa
            go_wp2_with fail
            go_quiet (fail)
            go_wp2_with (at_builtin; refine wpList_push _ rfl (.tmp 102) (.tmp 108) 116 rfl (w.heap.size + 1) 149 _ 4 32 Try.underlying116 info149 rfl (by decide) (by decide) _ _ _ rfl own2 _ rfl rfl ?_ ?_ ?_ ?_)
            · simp [Value.oneCell']
            · rw [hl]; omega
            · have := hmod.size; have := hm2.size; have := blk_lt HB.out; simp; omega
            · intro ao' cp' w3 own3 hm3'
              have hend := split_end hmod hm2 HB.out own2 hm3'.ofDrewN
              go_wp2
              go_roundw
              case rel => exact ⟨qs ++ [q] ++ [⟨c, d, k, m⟩], k + m, ao', cp', by simp, by go_num, by omega, by rw [rows_snoc, List.length_append, hl]; exact own3, hnew.out, hend.1, hend.2⟩
              case measure => simp [intOf]; omega
        · have b1 : ((q.c : Int) == (c : Int)) = false := by simp; omega
          clear hqc
          go_wp2_with fail
          go_quiet (fail)
          go_wp2_with (at_builtin; refine wpList_push _ rfl (.tmp 102) (.tmp 108) 116 rfl (w.heap.size + 1) 149 _ 4 32 Try.underlying116 info149 rfl (by decide) (by decide) _ _ _ rfl own2 _ rfl rfl ?_ ?_ ?_ ?_)
          · simp [Value.oneCell']
          · rw [hl]; omega
          · have := hmod.size; have := hm2.size; have := blk_lt HB.out; simp; omega
          · intro ao' cp' w3 own3 hm3'
            have hend := split_end hmod hm2 HB.out own2 hm3'.ofDrewN
            go_wp2
            go_roundw
            case rel => exact ⟨qs ++ [q] ++ [⟨c, d, k, m⟩], k + m, ao', cp', by simp, by go_num, by omega, by rw [rows_snoc, List.length_append, hl]; exact own3, hnew.out, hend.1, hend.2⟩
            case measure => simp [intOf]; omega
    · obtain rfl : k = n := by omega
      go_wp2
      go_ret2
      exact ⟨_, ps, rfl, own_mono hown (by omega), hgood, hmod⟩
end Go.Proofs.Ytfkhefoilancnaa
