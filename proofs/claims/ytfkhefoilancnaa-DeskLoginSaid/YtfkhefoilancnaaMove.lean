/-
  desk.move: pieces are laid into a desk's chunks, or out of them, at both shapes.
-/
import Derived.WalkKit
import Derived.Handy
import Derived.BigQuiet
import Derived.Deep.QuietTactic
import Derived.Deep.RegionHeld3
import Derived.Deep.Light
import Derived.Lib.Hide
import Derived.Lib.MinMax
import Derived.Test.YtfkhefoilancnaaSplit
import Derived.Test.YtfkhefoilancnaaDesk
namespace Go.Proofs.Ytfkhefoilancnaa
open Go.RowKit
def sh1 : Sh := ⟨12, 4, 3, 1, 3, 256⟩
def sh2 : Sh := ⟨40, 10, 2, 5, 4, 640⟩
/-- A piece is written; pieces are. -/
def wr1 (data : Nat → UInt8) (vol : Nat → Nat → UInt8) (p : Pc) : Nat → Nat → UInt8 := fun c i => if c = p.c ∧ p.a * 64 ≤ i ∧ i < (p.a + p.n) * 64 then data (p.f * 64 + (i - p.a * 64)) else vol c i
def wrAll (data : List UInt8) (vol : Nat → Nat → UInt8) (ps : List Pc) : Nat → Nat → UInt8 := ps.foldl (wr1 (dat data)) vol
theorem wrAll_snoc {data : List UInt8} {vol : Nat → Nat → UInt8} {ps : List Pc} {k : Nat} {p : Pc} (hp : ps[k]? = some p) : wrAll data vol (ps.take (k + 1)) = wr1 (dat data) (wrAll data vol (ps.take k)) p := by
  have hk := (List.getElem?_eq_some_iff.1 hp).1
  have e := (List.getElem?_eq_some_iff.1 hp).2
  rw [List.take_succ_eq_append_getElem hk, e, wrAll, List.foldl_append]
  rfl
/-- What a round of the writing 'move' does to the desk. -/
theorem write_round {s : Sh} {w w' : World} {d k gc : Nat} {G : Gh} {data : List UInt8} {ps : List Pc} {p : Pc} (h : DeskAt s w d (G.setVol (wrAll data G.vol (ps.take k)))) (hp : ps[k]? = some p)
    (hgc : G.gs[p.c]? = some gc) (hfit : (p.a + p.n) * 64 ≤ s.n) (hdl : (p.f + p.n) * 64 ≤ data.length)
    (hb : w'.heap[gc]? = some (Obj.cells (splice (rowOf s.n (wrAll data G.vol (ps.take k) p.c)) (p.a * 64) (List.take ((p.a + p.n) * 64 - p.a * 64) (List.drop (p.f * 64) (List.map By data)))).toArray 5 (0, 0)))
    (hm : Mod [gc] w w') : DeskAt s w' d (G.setVol (wrAll data G.vol (ps.take (k + 1)))) := by
  have e1 : (p.a + p.n) * 64 - p.a * 64 = p.n * 64 := by omega
  rw [e1, dat_cut _ _ _ (by omega), rowOf_splice (by omega)] at hb
  have := h.setVol (v' := wrAll data G.vol (ps.take (k + 1))) hgc hb hm ?_ ?_
  · exact this
  · intro x _
    rw [wrAll_snoc hp]
    simp only [wr1, true_and]
    have e2 : (p.a + p.n) * 64 = p.a * 64 + p.n * 64 := by omega
    rw [e2]
  · intro j hj x _
    rw [wrAll_snoc hp]
    simp only [wr1, hj, false_and, if_false]
    rfl

theorem piece_cells {w : World} {base g k cp : Nat} {ps : List Pc} {p : Pc} (h : w.ownsRow base 149 4 (.slice (some ⟨g, 0, none⟩) ps.length cp) ps.length (rows ps)) (hp : ps[k]? = some p) {n : Nat} (hn : n = k * 4) :
    w.cell? ⟨g, n, none⟩ = some (.int .i64 p.c) ∧ w.cell? ⟨g, n + 1, none⟩ = some (.int .i64 p.a) ∧ w.cell? ⟨g, n + 2, none⟩ = some (.int .i64 p.f) ∧ w.cell? ⟨g, n + 3, none⟩ = some (.int .i64 p.n) := by
  subst hn
  have hk : k < ps.length := (List.getElem?_eq_some_iff.1 hp).1
  obtain ⟨l1, l2, hl, hk2⟩ : ∃ l1 l2, ps = l1 ++ p :: l2 ∧ l1.length = k := by
    have e := (List.getElem?_eq_some_iff.1 hp).2
    refine ⟨ps.take k, ps.drop (k + 1), ?_, by simp; omega⟩
    rw [← e, List.getElem_cons_drop, List.take_append_drop]
  have key : ∀ i v, i < 4 → p.cells[i]? = some v → w.cell? ⟨g, k * 4 + i, none⟩ = some v := by
    intro i v hi hv
    rw [h.cellAt _ (by omega), hl, ← hk2]
    have : rows (l1 ++ p :: l2) = rows l1 ++ (p.cells ++ rows l2) := by simp [rows]
    rw [this, List.getElem?_append_right (by rw [rows_length]; omega), rows_length, Nat.add_sub_cancel_left, List.getElem?_append_left (by simp [Pc.cells]; omega)]
    exact hv
  exact ⟨key 0 _ (by omega) rfl, key 1 _ (by omega) rfl, key 2 _ (by omega) rfl, key 3 _ (by omega) rfl⟩

/-- What a round of 'move' needs of the piece that is next. -/
theorem piece_facts_2 {w : World} {base k x n lc : Nat} {la : Option Addr} {ps : List Pc} (hl : w.ownsRow base 149 4 (.slice la ps.length lc) ps.length (rows ps)) (hg : Good wh2 x ps n) (hx : x + n ≤ 40) (hk : k < ps.length) :
    ∃ g p, la = some ⟨g, 0, none⟩ ∧ ps[k]? = some p ∧ 1 ≤ p.n ∧ p.c < 4 ∧ p.a + p.n ≤ 10 ∧ p.f + p.n ≤ n ∧ ps.length ≤ lc ∧
      (w.cell? ⟨g, k * 4, none⟩ = some (.int .i64 p.c) ∧ w.cell? ⟨g, k * 4 + 1, none⟩ = some (.int .i64 p.a) ∧ w.cell? ⟨g, k * 4 + 2, none⟩ = some (.int .i64 p.f) ∧ w.cell? ⟨g, k * 4 + 3, none⟩ = some (.int .i64 p.n)) := by
  obtain ⟨g, rfl, _, _, hcp⟩ := own_block hl (by omega)
  have hp : ps[k]? = some ps[k] := List.getElem?_eq_getElem hk
  have hm : ps[k] ∈ ps := List.getElem_mem hk
  have h1 := hg.pos _ hm
  have h2 := hg.mem hm (i := 0) (by omega)
  have h3 := hg.mem hm (i := ps[k].n - 1) (by omega)
  have h4 := wh2_lt (x + (ps[k].f + 0)) (by omega)
  have h5 := wh2_lt (x + (ps[k].f + (ps[k].n - 1))) (by omega)
  exact ⟨g, ps[k], rfl, hp, h1, by omega, by omega, by omega, hcp, piece_cells hl hp rfl⟩
theorem info5 : (Try.prog.info? 5).map (fun i => (i.zero, i.size, i.bytes)) = some (some (.int .u8 0), 1, 1) := by kernel_rfl
theorem size5 : (Try.prog.info? 5).map (·.size) = some 1 := by kernel_rfl

/-- A piece is read; pieces are. -/
def rd1 (vol : Nat → Nat → UInt8) (g : Nat → UInt8) (p : Pc) : Nat → UInt8 := fun i => if p.f * 64 ≤ i ∧ i < (p.f + p.n) * 64 then vol p.c (p.a * 64 + (i - p.f * 64)) else g i
def rdAll (vol : Nat → Nat → UInt8) (g : Nat → UInt8) (ps : List Pc) : Nat → UInt8 := ps.foldl (rd1 vol) g
theorem rdAll_snoc {vol : Nat → Nat → UInt8} {g : Nat → UInt8} {ps : List Pc} {k : Nat} {p : Pc} (hp : ps[k]? = some p) : rdAll vol g (ps.take (k + 1)) = rd1 vol (rdAll vol g (ps.take k)) p := by
  have hk := (List.getElem?_eq_some_iff.1 hp).1
  have e := (List.getElem?_eq_some_iff.1 hp).2
  rw [List.take_succ_eq_append_getElem hk, e, rdAll, List.foldl_append]
  rfl
theorem Rds.ofBlk {w : World} {g N off m : Nat} {f : Nat → UInt8} {t : TypeId} (h : w.heap[g]? = some (.cells (rowOf N f).toArray t (0, 0))) (hm : off + m ≤ N) : Rds w (some ⟨g, off, none⟩) m (rowOf m fun i => f (off + i)) := by
  refine ⟨rowOf_length _ _, fun _ => ⟨g, off, rfl, blk_lt h, fun j u hu => ?_⟩⟩
  rw [rowOf_get] at hu
  split at hu
  · refine blk_cell h ?_
    rw [List.getElem?_toArray, rowOf_get, if_pos (by omega), ← hu]
  · cases hu
theorem read_round {vol : Nat → Nat → UInt8} {g : Nat → UInt8} {ps : List Pc} {k N dl : Nat} {p : Pc} (hp : ps[k]? = some p) (hN : (p.f + p.n) * 64 ≤ N) (hdl : dl = N - p.f * 64) :
    splice (rowOf N (rdAll vol g (ps.take k))) (p.f * 64) ((rowOf (p.n * 64) fun i => vol p.c (p.a * 64 + i)).take dl) = rowOf N (rdAll vol g (ps.take (k + 1))) := by
  rw [List.take_of_length_le (l := rowOf (p.n * 64) fun i => vol p.c (p.a * 64 + i)) (by rw [rowOf_length]; omega), rowOf_splice (by omega)]
  apply rowOf_congr
  intro i _
  rw [rdAll_snoc hp]
  simp only [rd1]
  have e2 : (p.f + p.n) * 64 = p.f * 64 + p.n * 64 := by omega
  rw [e2]

set_option maxRecDepth 100000 in
set_option maxHeartbeats 1000000 in
theorem move_in_2 (w : World) (d : Nat) (G : Gh) (hD : DeskAt sh2 w d G) (base : Nat) (la : Option Addr) (lc : Nat) (ps : List Pc) (hl : w.ownsRow base 149 4 (.slice la ps.length lc) ps.length (rows ps))
    (x n : Nat) (hx : x + n ≤ 40) (hg : Good wh2 x ps n) (ba : Option Addr) (bc : Nat) (data : List UInt8) (hdl : data.length = n * 64) (hb : Rds w ba data.length (data.map By)) (hbc : data.length ≤ bc) (ho : Off G.gs ba data.length) :
    Calls Try.prog 49 #[.pointer (some ⟨d, 0, none⟩), .slice la ps.length lc, .slice ba data.length bc, .bool true] w
    fun e w' => e = .returned (.tuple #[]) ∧ DeskAt sh2 w' d (G.setVol (wrAll data G.vol ps)) ∧ Mod G.gs w w' := by
  have hlen := hg.length_le
  go_enter Try.func49, Try.ntmps49
  go_wp2_with fail
  go_loopw [13] (fun f wr => ∃ k : Nat, f = .int .i64 k ∧ k ≤ ps.length ∧ DeskAt sh2 wr d (G.setVol (wrAll data G.vol (ps.take k))) ∧ Mod G.gs w wr) (fun f _ => ps.length - (intOf f).toNat)
  case atStart => exact ⟨0, rfl, Nat.zero_le _, hD, Mod.refl _ _⟩
  case round =>
    obtain ⟨k, rfl, hk, hDr, hmod⟩ := hrel
    by_cases hlt : k < ps.length
    · have hlr := hmod.own hl (hD.own_notin hl (by decide))
      obtain ⟨g, p, rfl, hp, hp1, hp2, hp3, hp4, hlc, e0, e1, e2, e3⟩ := piece_facts_2 hlr hg hx hlt
      have hbr := hb.mod hmod ho
      have c5 : wr.cell? ⟨d, 5, none⟩ = some (.slice (some ⟨G.h, 0, none⟩) 4 G.cap) := hDr.cell rfl
      have hgl := hDr.len
      obtain ⟨gc, hgc⟩ : ∃ gc, G.gs[p.c]? = some gc := ⟨_, List.getElem?_eq_getElem (by rw [show G.gs.length = 4 from hgl]; exact hp2)⟩
      have hch : wr.cell? ⟨G.h, p.c, none⟩ = some (.slice (some ⟨gc, 0, none⟩) 640 640) := hDr.head_cell hgc
      have nd : d < wr.heap.size := World.block_lt_of_cell? wr _ c5
      have nh : G.h < wr.heap.size := World.block_lt_of_cell? wr _ hch
      have Hgc := Lib.hid hgc
      have Hp := Lib.hid hp
      have Hdl := Lib.hid hdl
      clear hgl hgc hp hdl
      have q1 : (p.c : Int) < 4 := by omega
      have q2 : (p.a : Int) + p.n ≤ 10 := by omega
      have q3 : (p.f : Int) + p.n ≤ 40 := by omega
      have q4 : (k : Int) < ps.length := by omega
      have q5 : (ps.length : Int) ≤ 40 := by omega
      have q6 : p.f * 64 < data.length := by rw [Hdl.out]; omega
      obtain ⟨bb, bo, rfl, _, _⟩ := hbr.2 (by omega)
      have q7 : ¬ bc = p.f * 64 := by omega
      have q8 : (p.f : Int) * 64 ≤ data.length := by omega
      have q9 : (data.length : Int) ≤ 2560 := by rw [Hdl.out]; omega
      go_wp2_with fail
      go_quiet (fail)
      have hbr' : ∀ N, Rds ((wr.alloc (.cells #[.int .i64 p.c, .int .i64 p.a, .int .i64 p.f, .int .i64 p.n] 149)).drewN N) (some ⟨bb, bo + p.f * 64, none⟩) (data.length - p.f * 64) ((data.map By).drop (p.f * 64)) :=
        fun N => (hbr.mod0 (((Mod.refl _ _).alloc _).drewN N)).drop (by omega) (fun b off e _ => by injection e with e; injection e with e1 e2 _; subst e1 e2; rfl)
      have Hbr := Lib.hid hbr'
      clear hbr'
      have Hlr := Lib.hid hlr
      clear hlr
      go_wp2_with (with_reducible refine wpList_copyTo rfl (.tmp 36) (.tmp 41) 32 32 rfl 5 Try.underlying32 size5 gc (p.a * 64) _ _ _ _ _ rfl rfl (rowOf 640 ((wrAll data G.vol (ps.take k)) p.c)) 5 ?_ ((data.map By).drop (p.f * 64)) (Hbr.out _) ?_ ?_ ?_)
      · exact (((Mod.refl [] wr).alloc _).drewN _).blk (hDr.chunk _ _ Hgc.out) (by simp)
      · exact fun v hv => bytes_one data v (List.mem_of_mem_drop hv)
      · rw [rowOf_length]; omega
      · intro w3 hsp hm3
        have hD3 := write_round (hDr.mod0 (((Mod.refl _ _).alloc _).drewN _)) Hp.out Hgc.out (by show (p.a + p.n) * 64 ≤ 640; omega) (by rw [Hdl.out]; omega) hsp hm3
        have hM3 := (hmod.then0 (((Mod.refl _ _).alloc _).drewN _)).trans hm3 (by intro t ht; rw [List.mem_singleton.1 ht]; exact .inl (List.mem_of_getElem? Hgc.out))
        clear hsp hm3
        go_wp2
        go_roundw
        case rel => exact ⟨k + 1, by go_num, by omega, hD3, hM3⟩
        case measure => simp [intOf]; omega
    · obtain rfl : k = ps.length := by omega
      rw [List.take_length] at hDr
      clear hlt hk
      go_wp2
      go_end0
      exact ⟨rfl, hDr, hmod⟩

set_option maxRecDepth 100000 in
set_option maxHeartbeats 1000000 in
theorem move_out_2 (w : World) (d : Nat) (G : Gh) (hD : DeskAt sh2 w d G) (base : Nat) (la : Option Addr) (lc : Nat) (ps : List Pc) (hl : w.ownsRow base 149 4 (.slice la ps.length lc) ps.length (rows ps))
    (x n : Nat) (hx : x + n ≤ 40) (hg : Good wh2 x ps n) (gb N : Nat) (hN : N = n * 64) (g0 : Nat → UInt8) (hb : w.heap[gb]? = some (.cells (rowOf N g0).toArray 5 (0, 0))) (ho : gb ∉ G.gs) :
    Calls Try.prog 49 #[.pointer (some ⟨d, 0, none⟩), .slice la ps.length lc, .slice (some ⟨gb, 0, none⟩) N N, .bool false] w
    fun e w' => e = .returned (.tuple #[]) ∧ w'.heap[gb]? = some (.cells (rowOf N (rdAll G.vol g0 ps)).toArray 5 (0, 0)) ∧ Mod [gb] w w' := by
  have hlen := hg.length_le
  have hb1 : gb ≠ d := DeskAt.blk_ne hb hD.desk (by decide)
  have hb2 : gb ≠ G.h := by
    obtain ⟨cur, hc⟩ := hD.headBlk
    exact DeskAt.blk_ne hb hc (by decide)
  go_enter Try.func49, Try.ntmps49
  go_wp2_with fail
  go_loopw [13] (fun f wr => ∃ k : Nat, f = .int .i64 k ∧ k ≤ ps.length ∧ wr.heap[gb]? = some (.cells (rowOf N (rdAll G.vol g0 (ps.take k))).toArray 5 (0, 0)) ∧ Mod [gb] w wr) (fun f _ => ps.length - (intOf f).toNat)
  case atStart => exact ⟨0, rfl, Nat.zero_le _, hb, Mod.refl _ _⟩
  case round =>
    obtain ⟨k, rfl, hk, hbk, hmod⟩ := hrel
    by_cases hlt : k < ps.length
    · have hlr := hmod.own hl (by
        intro b hb' hin
        have hbe := List.mem_singleton.1 hin
        subst hbe
        rcases hl.2 with ⟨h', _⟩ | ⟨g', cap, cur, h', _, hg', _⟩
        · injection h' with h1 _ _
          subst h1
          simp [Value.ownBlock] at hb'
        · injection h' with h1 _ _
          subst h1
          simp [Value.ownBlock] at hb'
          subst hb'
          exact DeskAt.blk_ne hg' hb (by decide) rfl)
      have hDr : ∀ i b, G.gs[i]? = some b → wr.heap[b]? = some (Obj.cells (rowOf 640 (G.vol i)).toArray 5 (0, 0)) := fun i b hi =>
        hmod.blk (hD.chunk i b hi) (by intro hin; exact ho (by rw [← List.mem_singleton.1 hin]; exact List.mem_of_getElem? hi))
      obtain ⟨g, p, rfl, hp, hp1, hp2, hp3, hp4, hlc, e0, e1, e2, e3⟩ := piece_facts_2 hlr hg hx hlt
      have c5 : wr.cell? ⟨d, 5, none⟩ = some (.slice (some ⟨G.h, 0, none⟩) 4 G.cap) := (hmod.cell (p := ⟨d, 5, none⟩) (blk_lt hD.desk) (by simpa using Ne.symm hb1)).trans (hD.cell rfl)
      have hgl := hD.len
      obtain ⟨gc, hgc⟩ : ∃ gc, G.gs[p.c]? = some gc := ⟨_, List.getElem?_eq_getElem (by rw [show G.gs.length = 4 from hgl]; exact hp2)⟩
      have hch : wr.cell? ⟨G.h, p.c, none⟩ = some (.slice (some ⟨gc, 0, none⟩) 640 640) :=
        (hmod.cell (p := ⟨G.h, p.c, none⟩) (World.block_lt_of_cell? w _ (hD.head_cell hgc)) (by simpa using Ne.symm hb2)).trans (hD.head_cell hgc)
      have nd : d < wr.heap.size := World.block_lt_of_cell? wr _ c5
      have nh : G.h < wr.heap.size := World.block_lt_of_cell? wr _ hch
      have hsrc : ∀ n1 : Nat, Rds ((wr.alloc (.cells #[.int .i64 p.c, .int .i64 p.a, .int .i64 p.f, .int .i64 p.n] 149)).drewN n1) (some ⟨gc, p.a * 64, none⟩) ((p.a + p.n) * 64 - p.a * 64) (rowOf (p.n * 64) fun i => G.vol p.c (p.a * 64 + i)) := by
        intro n1
        have e : (p.a + p.n) * 64 - p.a * 64 = p.n * 64 := by omega
        rw [e]
        exact (Rds.ofBlk (m := p.n * 64) (off := p.a * 64) (hDr _ _ hgc) (by omega)).mod0 (((Mod.refl _ _).alloc _).drewN n1)
      have Hsrc := Lib.hid hsrc
      have Hgc := Lib.hid hgc
      have Hp := Lib.hid hp
      have Hbk := Lib.hid hbk
      have HN := Lib.hid hN
      clear hgl hgc hp hDr hsrc hbk hN hlr hl hb
      have q1 : (p.c : Int) < 4 := by omega
      have q2 : (p.a : Int) + p.n ≤ 10 := by omega
      have q3 : (p.f : Int) + p.n ≤ 40 := by omega
      have q4 : (k : Int) < ps.length := by omega
      have q5 : (ps.length : Int) ≤ 40 := by omega
      have q6 : p.f * 64 < N := by rw [HN.out]; omega
      have q7 : ¬ N = p.f * 64 := by omega
      have q8 : (p.f : Int) * 64 ≤ N := by omega
      have q9 : (N : Int) ≤ 2560 := by rw [HN.out]; omega
      go_wp2_with fail
      go_quiet (fail)
      go_wp2_with (with_reducible refine wpList_copyTo rfl (.tmp 47) (.tmp 48) 32 32 rfl 5 Try.underlying32 size5 gb (p.f * 64) _ _ _ _ _ rfl rfl (rowOf N (rdAll G.vol g0 (ps.take k))) 5 ?_ _ (Hsrc.out _) ?_ ?_ ?_)
      · exact (((Mod.refl [] wr).alloc _).drewN _).blk Hbk.out (by simp)
      · exact fun v hv => rowOf_one _ _ v hv
      · rw [rowOf_length]; omega
      · intro w3 hsp hm3
        rw [read_round Hp.out (by rw [HN.out]; omega) rfl] at hsp
        have Hsp := Lib.hid hsp
        have hM3 := (hmod.then0 (((Mod.refl _ _).alloc _).drewN _)).trans hm3 (by intro t ht; exact .inl ht)
        clear hsp hm3
        go_wp2
        go_roundw
        case rel => exact ⟨k + 1, by go_num, by omega, Hsp.out, hM3⟩
        case measure => simp [intOf]; omega
    · obtain rfl : k = ps.length := by omega
      rw [List.take_length] at hbk
      have Hbk := Lib.hid hbk
      clear hlt hk hbk
      go_wp2
      go_end0
      exact ⟨rfl, Hbk.out, hmod⟩
/-- What a round of 'move' needs of the piece that is next. -/
theorem piece_facts_1 {w : World} {base k x n lc : Nat} {la : Option Addr} {ps : List Pc} (hl : w.ownsRow base 149 4 (.slice la ps.length lc) ps.length (rows ps)) (hg : Good wh1 x ps n) (hx : x + n ≤ 12) (hk : k < ps.length) :
    ∃ g p, la = some ⟨g, 0, none⟩ ∧ ps[k]? = some p ∧ 1 ≤ p.n ∧ p.c < 3 ∧ p.a + p.n ≤ 4 ∧ p.f + p.n ≤ n ∧ ps.length ≤ lc ∧
      (w.cell? ⟨g, k * 4, none⟩ = some (.int .i64 p.c) ∧ w.cell? ⟨g, k * 4 + 1, none⟩ = some (.int .i64 p.a) ∧ w.cell? ⟨g, k * 4 + 2, none⟩ = some (.int .i64 p.f) ∧ w.cell? ⟨g, k * 4 + 3, none⟩ = some (.int .i64 p.n)) := by
  obtain ⟨g, rfl, _, _, hcp⟩ := own_block hl (by omega)
  have hp : ps[k]? = some ps[k] := List.getElem?_eq_getElem hk
  have hm : ps[k] ∈ ps := List.getElem_mem hk
  have h1 := hg.pos _ hm
  have h2 := hg.mem hm (i := 0) (by omega)
  have h3 := hg.mem hm (i := ps[k].n - 1) (by omega)
  have h4 := wh1_lt (x + (ps[k].f + 0)) (by omega)
  have h5 := wh1_lt (x + (ps[k].f + (ps[k].n - 1))) (by omega)
  exact ⟨g, ps[k], rfl, hp, h1, by omega, by omega, by omega, hcp, piece_cells hl hp rfl⟩
set_option maxRecDepth 100000 in
set_option maxHeartbeats 1000000 in
theorem move_in_1 (w : World) (d : Nat) (G : Gh) (hD : DeskAt sh1 w d G) (base : Nat) (la : Option Addr) (lc : Nat) (ps : List Pc) (hl : w.ownsRow base 149 4 (.slice la ps.length lc) ps.length (rows ps))
    (x n : Nat) (hx : x + n ≤ 12) (hg : Good wh1 x ps n) (ba : Option Addr) (bc : Nat) (data : List UInt8) (hdl : data.length = n * 64) (hb : Rds w ba data.length (data.map By)) (hbc : data.length ≤ bc) (ho : Off G.gs ba data.length) :
    Calls Try.prog 49 #[.pointer (some ⟨d, 0, none⟩), .slice la ps.length lc, .slice ba data.length bc, .bool true] w
    fun e w' => e = .returned (.tuple #[]) ∧ DeskAt sh1 w' d (G.setVol (wrAll data G.vol ps)) ∧ Mod G.gs w w' := by
  have hlen := hg.length_le
  go_enter Try.func49, Try.ntmps49
  go_wp2_with fail
  go_loopw [13] (fun f wr => ∃ k : Nat, f = .int .i64 k ∧ k ≤ ps.length ∧ DeskAt sh1 wr d (G.setVol (wrAll data G.vol (ps.take k))) ∧ Mod G.gs w wr) (fun f _ => ps.length - (intOf f).toNat)
  case atStart => exact ⟨0, rfl, Nat.zero_le _, hD, Mod.refl _ _⟩
  case round =>
    obtain ⟨k, rfl, hk, hDr, hmod⟩ := hrel
    by_cases hlt : k < ps.length
    · have hlr := hmod.own hl (hD.own_notin hl (by decide))
      obtain ⟨g, p, rfl, hp, hp1, hp2, hp3, hp4, hlc, e0, e1, e2, e3⟩ := piece_facts_1 hlr hg hx hlt
      have hbr := hb.mod hmod ho
      have c5 : wr.cell? ⟨d, 5, none⟩ = some (.slice (some ⟨G.h, 0, none⟩) 3 G.cap) := hDr.cell rfl
      have hgl := hDr.len
      obtain ⟨gc, hgc⟩ : ∃ gc, G.gs[p.c]? = some gc := ⟨_, List.getElem?_eq_getElem (by rw [show G.gs.length = 3 from hgl]; exact hp2)⟩
      have hch : wr.cell? ⟨G.h, p.c, none⟩ = some (.slice (some ⟨gc, 0, none⟩) 256 256) := hDr.head_cell hgc
      have nd : d < wr.heap.size := World.block_lt_of_cell? wr _ c5
      have nh : G.h < wr.heap.size := World.block_lt_of_cell? wr _ hch
      have Hgc := Lib.hid hgc
      have Hp := Lib.hid hp
      have Hdl := Lib.hid hdl
      clear hgl hgc hp hdl
      have q1 : (p.c : Int) < 3 := by omega
      have q2 : (p.a : Int) + p.n ≤ 4 := by omega
      have q3 : (p.f : Int) + p.n ≤ 12 := by omega
      have q4 : (k : Int) < ps.length := by omega
      have q5 : (ps.length : Int) ≤ 12 := by omega
      have q6 : p.f * 64 < data.length := by rw [Hdl.out]; omega
      obtain ⟨bb, bo, rfl, _, _⟩ := hbr.2 (by omega)
      have q7 : ¬ bc = p.f * 64 := by omega
      have q8 : (p.f : Int) * 64 ≤ data.length := by omega
      have q9 : (data.length : Int) ≤ 768 := by rw [Hdl.out]; omega
      go_wp2_with fail
      go_quiet (fail)
      have hbr' : ∀ N, Rds ((wr.alloc (.cells #[.int .i64 p.c, .int .i64 p.a, .int .i64 p.f, .int .i64 p.n] 149)).drewN N) (some ⟨bb, bo + p.f * 64, none⟩) (data.length - p.f * 64) ((data.map By).drop (p.f * 64)) :=
        fun N => (hbr.mod0 (((Mod.refl _ _).alloc _).drewN N)).drop (by omega) (fun b off e _ => by injection e with e; injection e with e1 e2 _; subst e1 e2; rfl)
      have Hbr := Lib.hid hbr'
      clear hbr'
      have Hlr := Lib.hid hlr
      clear hlr
      go_wp2_with (with_reducible refine wpList_copyTo rfl (.tmp 36) (.tmp 41) 32 32 rfl 5 Try.underlying32 size5 gc (p.a * 64) _ _ _ _ _ rfl rfl (rowOf 256 ((wrAll data G.vol (ps.take k)) p.c)) 5 ?_ ((data.map By).drop (p.f * 64)) (Hbr.out _) ?_ ?_ ?_)
      · exact (((Mod.refl [] wr).alloc _).drewN _).blk (hDr.chunk _ _ Hgc.out) (by simp)
      · exact fun v hv => bytes_one data v (List.mem_of_mem_drop hv)
      · rw [rowOf_length]; omega
      · intro w3 hsp hm3
        have hD3 := write_round (hDr.mod0 (((Mod.refl _ _).alloc _).drewN _)) Hp.out Hgc.out (by show (p.a + p.n) * 64 ≤ 256; omega) (by rw [Hdl.out]; omega) hsp hm3
        have hM3 := (hmod.then0 (((Mod.refl _ _).alloc _).drewN _)).trans hm3 (by intro t ht; rw [List.mem_singleton.1 ht]; exact .inl (List.mem_of_getElem? Hgc.out))
        clear hsp hm3
        go_wp2
        go_roundw
        case rel => exact ⟨k + 1, by go_num, by omega, hD3, hM3⟩
        case measure => simp [intOf]; omega
    · obtain rfl : k = ps.length := by omega
      rw [List.take_length] at hDr
      clear hlt hk
      go_wp2
      go_end0
      exact ⟨rfl, hDr, hmod⟩

set_option maxRecDepth 100000 in
set_option maxHeartbeats 1000000 in
theorem move_out_1 (w : World) (d : Nat) (G : Gh) (hD : DeskAt sh1 w d G) (base : Nat) (la : Option Addr) (lc : Nat) (ps : List Pc) (hl : w.ownsRow base 149 4 (.slice la ps.length lc) ps.length (rows ps))
    (x n : Nat) (hx : x + n ≤ 12) (hg : Good wh1 x ps n) (gb N : Nat) (hN : N = n * 64) (g0 : Nat → UInt8) (hb : w.heap[gb]? = some (.cells (rowOf N g0).toArray 5 (0, 0))) (ho : gb ∉ G.gs) :
    Calls Try.prog 49 #[.pointer (some ⟨d, 0, none⟩), .slice la ps.length lc, .slice (some ⟨gb, 0, none⟩) N N, .bool false] w
    fun e w' => e = .returned (.tuple #[]) ∧ w'.heap[gb]? = some (.cells (rowOf N (rdAll G.vol g0 ps)).toArray 5 (0, 0)) ∧ Mod [gb] w w' := by
  have hlen := hg.length_le
  have hb1 : gb ≠ d := DeskAt.blk_ne hb hD.desk (by decide)
  have hb2 : gb ≠ G.h := by
    obtain ⟨cur, hc⟩ := hD.headBlk
    exact DeskAt.blk_ne hb hc (by decide)
  go_enter Try.func49, Try.ntmps49
  go_wp2_with fail
  go_loopw [13] (fun f wr => ∃ k : Nat, f = .int .i64 k ∧ k ≤ ps.length ∧ wr.heap[gb]? = some (.cells (rowOf N (rdAll G.vol g0 (ps.take k))).toArray 5 (0, 0)) ∧ Mod [gb] w wr) (fun f _ => ps.length - (intOf f).toNat)
  case atStart => exact ⟨0, rfl, Nat.zero_le _, hb, Mod.refl _ _⟩
  case round =>
    obtain ⟨k, rfl, hk, hbk, hmod⟩ := hrel
    by_cases hlt : k < ps.length
    · have hlr := hmod.own hl (by
        intro b hb' hin
        have hbe := List.mem_singleton.1 hin
        subst hbe
        rcases hl.2 with ⟨h', _⟩ | ⟨g', cap, cur, h', _, hg', _⟩
        · injection h' with h1 _ _
          subst h1
          simp [Value.ownBlock] at hb'
        · injection h' with h1 _ _
          subst h1
          simp [Value.ownBlock] at hb'
          subst hb'
          exact DeskAt.blk_ne hg' hb (by decide) rfl)
      have hDr : ∀ i b, G.gs[i]? = some b → wr.heap[b]? = some (Obj.cells (rowOf 256 (G.vol i)).toArray 5 (0, 0)) := fun i b hi =>
        hmod.blk (hD.chunk i b hi) (by intro hin; exact ho (by rw [← List.mem_singleton.1 hin]; exact List.mem_of_getElem? hi))
      obtain ⟨g, p, rfl, hp, hp1, hp2, hp3, hp4, hlc, e0, e1, e2, e3⟩ := piece_facts_1 hlr hg hx hlt
      have c5 : wr.cell? ⟨d, 5, none⟩ = some (.slice (some ⟨G.h, 0, none⟩) 3 G.cap) := (hmod.cell (p := ⟨d, 5, none⟩) (blk_lt hD.desk) (by simpa using Ne.symm hb1)).trans (hD.cell rfl)
      have hgl := hD.len
      obtain ⟨gc, hgc⟩ : ∃ gc, G.gs[p.c]? = some gc := ⟨_, List.getElem?_eq_getElem (by rw [show G.gs.length = 3 from hgl]; exact hp2)⟩
      have hch : wr.cell? ⟨G.h, p.c, none⟩ = some (.slice (some ⟨gc, 0, none⟩) 256 256) :=
        (hmod.cell (p := ⟨G.h, p.c, none⟩) (World.block_lt_of_cell? w _ (hD.head_cell hgc)) (by simpa using Ne.symm hb2)).trans (hD.head_cell hgc)
      have nd : d < wr.heap.size := World.block_lt_of_cell? wr _ c5
      have nh : G.h < wr.heap.size := World.block_lt_of_cell? wr _ hch
      have hsrc : ∀ n1 : Nat, Rds ((wr.alloc (.cells #[.int .i64 p.c, .int .i64 p.a, .int .i64 p.f, .int .i64 p.n] 149)).drewN n1) (some ⟨gc, p.a * 64, none⟩) ((p.a + p.n) * 64 - p.a * 64) (rowOf (p.n * 64) fun i => G.vol p.c (p.a * 64 + i)) := by
        intro n1
        have e : (p.a + p.n) * 64 - p.a * 64 = p.n * 64 := by omega
        rw [e]
        exact (Rds.ofBlk (m := p.n * 64) (off := p.a * 64) (hDr _ _ hgc) (by omega)).mod0 (((Mod.refl _ _).alloc _).drewN n1)
      have Hsrc := Lib.hid hsrc
      have Hgc := Lib.hid hgc
      have Hp := Lib.hid hp
      have Hbk := Lib.hid hbk
      have HN := Lib.hid hN
      clear hgl hgc hp hDr hsrc hbk hN hlr hl hb
      have q1 : (p.c : Int) < 3 := by omega
      have q2 : (p.a : Int) + p.n ≤ 4 := by omega
      have q3 : (p.f : Int) + p.n ≤ 12 := by omega
      have q4 : (k : Int) < ps.length := by omega
      have q5 : (ps.length : Int) ≤ 12 := by omega
      have q6 : p.f * 64 < N := by rw [HN.out]; omega
      have q7 : ¬ N = p.f * 64 := by omega
      have q8 : (p.f : Int) * 64 ≤ N := by omega
      have q9 : (N : Int) ≤ 768 := by rw [HN.out]; omega
      go_wp2_with fail
      go_quiet (fail)
      go_wp2_with (with_reducible refine wpList_copyTo rfl (.tmp 47) (.tmp 48) 32 32 rfl 5 Try.underlying32 size5 gb (p.f * 64) _ _ _ _ _ rfl rfl (rowOf N (rdAll G.vol g0 (ps.take k))) 5 ?_ _ (Hsrc.out _) ?_ ?_ ?_)
      · exact (((Mod.refl [] wr).alloc _).drewN _).blk Hbk.out (by simp)
      · exact fun v hv => rowOf_one _ _ v hv
      · rw [rowOf_length]; omega
      · intro w3 hsp hm3
        rw [read_round Hp.out (by rw [HN.out]; omega) rfl] at hsp
        have Hsp := Lib.hid hsp
        have hM3 := (hmod.then0 (((Mod.refl _ _).alloc _).drewN _)).trans hm3 (by intro t ht; exact .inl ht)
        clear hsp hm3
        go_wp2
        go_roundw
        case rel => exact ⟨k + 1, by go_num, by omega, Hsp.out, hM3⟩
        case measure => simp [intOf]; omega
    · obtain rfl : k = ps.length := by omega
      rw [List.take_length] at hbk
      have Hbk := Lib.hid hbk
      clear hlt hk hbk
      go_wp2
      go_end0
      exact ⟨rfl, Hbk.out, hmod⟩
end Go.Proofs.Ytfkhefoilancnaa
