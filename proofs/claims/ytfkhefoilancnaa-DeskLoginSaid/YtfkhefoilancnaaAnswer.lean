/-
  The desk's over and answer: the session is over; a message is answered with the next number, behind others.
-/
import Derived.WalkKit
import Derived.Handy
import Derived.BigQuiet
import Derived.Deep.QuietTactic
import Derived.Deep.RegionWith
import Derived.Deep.CutBlock
import Derived.Deep.CutRange
import Derived.Lib.Hide
import Derived.Test.YtfkhefoilancnaaPdu5
import Derived.Test.YtfkhefoilancnaaFresh2
namespace Go.Proofs.Ytfkhefoilancnaa
open Go.RowKit
/-- Cells of a desk's own turn; what it holds else stands. -/
theorem DeskAt.turn {s : Sh} {w w' : World} {d : Nat} {G G' : Gh} (h : DeskAt s w d G) (hm : Mod [d] w w') (hd : w'.heap[d]? = some (.cells (deskCells s G') 103 (0, 0))) (hh : G'.h = G.h) (hcap : G'.cap = G.cap) (hgs : G'.gs = G.gs) (hv : G'.vol = G.vol)
    (hw : Rds w G'.wa G'.wait.length (G'.wait.map By)) (ho : Off (d :: G.gs) G'.wa G'.wait.length) : DeskAt s w' d G' := by
  refine ⟨hd, ?_, ?_, ?_, hw.mod hm (fun a ha hn hin => ho a ha hn (by simp at hin; simp [hin])), fun a ha hn hin => ho a ha hn (by rw [hgs] at hin; simp [hin])⟩
  · rw [hh, hcap, hgs]
    refine hm.own h.head (fun g e hin => ?_)
    simp [Value.ownBlock] at e hin
    obtain ⟨cur, hc⟩ := h.headBlk
    rw [e, hin] at hc
    exact DeskAt.blk_ne hc h.desk (by decide) rfl
  · intro j g hj
    rw [hgs] at hj
    rw [hv]
    refine hm.blk (h.chunk j g hj) (fun hin => ?_)
    simp at hin
    exact h.d_notin (by rw [← hin]; exact List.mem_of_getElem? hj)
  · rw [hgs]; exact h.nodup
set_option maxRecDepth 100000 in
set_option maxHeartbeats 4000000 in
/-- The session is over. -/
theorem over_k (s : Sh) (w : World) (d : Nat) (G : Gh) (hD : DeskAt s w d G) : Calls Try.prog 43 #[.pointer (some ⟨d, 0, none⟩)] w fun e w' => e = .returned (.tuple #[]) ∧ DeskAt s w' d { G with phase := 2, wa := none, wc := 0, wait := [] } ∧ Mod [d] w w' := by
  have c6 : w.cell? ⟨d, 6, none⟩ = some (.int .i64 G.phase) := hD.cell rfl
  have f6 := blk_frozen hD.desk 6
  have zd := blk_lt hD.desk
  have hm1 : Mod [d] w (w.setCell ⟨d, 6, none⟩ (.int .i64 2)) := (Mod.refl _ _).setCell (.inl (by simp)) _
  have h1 : (w.setCell ⟨d, 6, none⟩ (.int .i64 2)).heap[d]? = some (.cells (deskCells s { G with phase := 2 }) 103 (0, 0)) := by
    rw [heap_setCell_same w d 6 _ 103 _ hD.desk]
    rfl
  have c7 : (w.setCell ⟨d, 6, none⟩ (.int .i64 2)).cell? ⟨d, 7, none⟩ = some (.slice G.wa G.wait.length G.wc) := blk_cell h1 rfl
  have f7 := blk_frozen h1 7
  have z7 := blk_lt h1
  go_enter Try.func43, Try.ntmps43
  go_upto_region 1 with fail
  have h2 : ((w.setCell ⟨d, 6, none⟩ (.int .i64 2)).setCell ⟨d, 7, none⟩ (.slice none 0 0)).heap[d]? = some (.cells (deskCells s { G with phase := 2, wa := none, wc := 0, wait := [] }) 103 (0, 0)) := by
    rw [heap_setCell_same _ d 7 _ 103 _ h1]
    rfl
  have hm2 : Mod [d] w ((w.setCell ⟨d, 6, none⟩ (.int .i64 2)).setCell ⟨d, 7, none⟩ (.slice none 0 0)) := hm1.setCell (.inl (by simp)) _
  go_wp2
  go_end0
  exact ⟨rfl, hD.turn hm2 h2 rfl rfl rfl rfl (Rds.none_ _) (by intro a _ h0; simp at h0), hm2⟩
def Gh.counted (G : Gh) (k : Nat) : Gh := { G with count := (k : Int) }
set_option maxRecDepth 100000 in
set_option maxHeartbeats 8000000 in
/-- A message is answered: its bytes, with the next number, behind others. -/
theorem answer_k (s : Sh) (w : World) (d : Nat) (G : Gh) (hD : DeskAt s w d G) (k : Nat) (hk : G.count = (k : Int)) (hk2 : k ≤ 1000000) (B : Nat) (oa : Option Addr) (n oc : Nat) (ob : List UInt8) (hown : w.ownsRow B 5 1 (.slice oa n oc) n (ob.map By)) (hB : B ≤ w.heap.size) (hn : n ≤ 10000000)
    (m : Ms) (hF : m.Fit) (data : List UInt8) (hd : Rds w m.da m.dn (data.map By)) (hda : Off [d] m.da m.dn) :
    Calls Try.prog 66 #[.pointer (some ⟨d, 0, none⟩), .slice oa n oc, .agg m.cells] w fun e w' => ∃ oa' oc', e = .returned (.slice oa' (n + (48 + m.dn + padN m.dn)) oc') ∧
      w'.ownsRow B 5 1 (.slice oa' (n + (48 + m.dn + padN m.dn)) oc') (n + (48 + m.dn + padN m.dn)) ((ob ++ Ms.enc { m with w0 := k + 1 } data).map By) ∧
      w'.heap[d]? = some (.cells (deskCells s (G.counted (k + 1))) 103 (0, 0)) ∧ Mod (d :: (Value.slice oa n oc).ownBlock.toList) w w' ∧
      ∀ g, (Value.slice oa' (n + (48 + m.dn + padN m.dn)) oc').ownBlock = some g → (Value.slice oa n oc).ownBlock = some g ∨ w.heap.size ≤ g := by
  obtain ⟨op, fl, lun, tag, w0, w1, w2, w3, w4, w5, w6, da, dn, dc⟩ := m
  obtain ⟨hop, hfl, rfl, htag, hdn, hws⟩ := hF
  simp only at hop hfl htag hdn hd hda
  have hb0 := blk_alloc w #[.int .i64 op, .bool false, .int .u8 fl, .int .u64 0, .int .u32 tag, .int .u32 w0, .int .u32 w1, .int .u32 w2, .int .u32 w3, .int .u32 w4, .int .u32 w5, .int .u32 w6, .slice da dn dc] 38
  simp only [Ms.cells]
  have hA : Mod [] w (w.alloc (.cells #[.int .i64 op, .bool false, .int .u8 fl, .int .u64 0, .int .u32 tag, .int .u32 w0, .int .u32 w1, .int .u32 w2, .int .u32 w3, .int .u32 w4, .int .u32 w5, .int .u32 w6, .slice da dn dc] 38)) := (Mod.refl _ _).alloc _
  have hd1 := hA.blk hD.desk (by simp)
  have c8 : (w.alloc (.cells #[.int .i64 op, .bool false, .int .u8 fl, .int .u64 0, .int .u32 tag, .int .u32 w0, .int .u32 w1, .int .u32 w2, .int .u32 w3, .int .u32 w4, .int .u32 w5, .int .u32 w6, .slice da dn dc] 38)).cell? ⟨d, 8, none⟩ = some (.int .u32 k) := by
    have h1 := blk_cell (i := 8) hd1 (v := .int .u32 G.count) rfl
    rw [hk] at h1
    exact h1
  have f8 := blk_frozen hd1 8
  have z8 := blk_lt hd1
  have kw : IntKind.u32.wrap ((k : Int) + 1) = (k : Int) + 1 := by rw [IntKind.wrap_u32]; omega
  go_enter Try.func66, Try.ntmps66
  go_upto_region 2 with fail
  have hdV : ((w.alloc (.cells #[.int .i64 op, .bool false, .int .u8 fl, .int .u64 0, .int .u32 tag, .int .u32 w0, .int .u32 w1, .int .u32 w2, .int .u32 w3, .int .u32 w4, .int .u32 w5, .int .u32 w6, .slice da dn dc] 38)).setCell ⟨d, 8, none⟩ (.int .u32 ((k : Int) + 1))).heap[d]? = some (.cells (deskCells s (G.counted (k + 1))) 103 (0, 0)) := by
    rw [heap_setCell_same _ d 8 _ 103 _ hd1]
    rfl
  have hne : w.heap.size ≠ d := by have := blk_lt hD.desk; omega
  have hm1 : Mod [d] w ((w.alloc (.cells #[.int .i64 op, .bool false, .int .u8 fl, .int .u64 0, .int .u32 tag, .int .u32 w0, .int .u32 w1, .int .u32 w2, .int .u32 w3, .int .u32 w4, .int .u32 w5, .int .u32 w6, .slice da dn dc] 38)).setCell ⟨d, 8, none⟩ (.int .u32 ((k : Int) + 1))) := (hA.mono (by simp)).setCell (.inl (by simp)) _
  have hbV := (mod_set1 (w.alloc (.cells #[.int .i64 op, .bool false, .int .u8 fl, .int .u64 0, .int .u32 tag, .int .u32 w0, .int .u32 w1, .int .u32 w2, .int .u32 w3, .int .u32 w4, .int .u32 w5, .int .u32 w6, .slice da dn dc] 38)) d 8 (.int .u32 ((k : Int) + 1))).blk hb0 (by simp; exact hne)
  generalize (w.alloc (.cells #[.int .i64 op, .bool false, .int .u8 fl, .int .u64 0, .int .u32 tag, .int .u32 w0, .int .u32 w1, .int .u32 w2, .int .u32 w3, .int .u32 w4, .int .u32 w5, .int .u32 w6, .slice da dn dc] 38)).setCell ⟨d, 8, none⟩ (.int .u32 ((k : Int) + 1)) = V at hdV hm1 hbV ⊢
  clear c8 f8 z8 hd1 hA hb0
  have c8 : V.cell? ⟨d, 8, none⟩ = some (.int .u32 ((k : Int) + 1)) := blk_cell hdV rfl
  have c5 : V.cell? ⟨w.heap.size, 5, none⟩ = some (.int .u32 w0) := blk_cell hbV rfl
  have f5 := blk_frozen hbV 5
  have z5 := blk_lt hbV
  have z8 := blk_lt hdV
  go_upto_region 3 with fail
  have hb2 : (V.setCell ⟨w.heap.size, 5, none⟩ (.int .u32 ((k : Int) + 1))).heap[w.heap.size]? = some (.cells #[.int .i64 op, .bool false, .int .u8 fl, .int .u64 0, .int .u32 tag, .int .u32 (k + 1 : Int), .int .u32 w1, .int .u32 w2, .int .u32 w3, .int .u32 w4, .int .u32 w5, .int .u32 w6, .slice da dn dc] 38 (0, 0)) := by
    rw [heap_setCell_same V w.heap.size 5 _ 38 _ hbV]
    rfl
  have hd2 := (mod_set1 V w.heap.size 5 (.int .u32 ((k : Int) + 1))).blk hdV (by simp; exact Ne.symm hne)
  have hm2 : Mod [d] w (V.setCell ⟨w.heap.size, 5, none⟩ (.int .u32 ((k : Int) + 1))) := hm1.setCell (.inr (Nat.le_refl _)) _
  generalize V.setCell ⟨w.heap.size, 5, none⟩ (.int .u32 ((k : Int) + 1)) = V2 at hb2 hd2 hm2 ⊢
  clear c8 c5 f5 z5 z8 hdV hm1 hbV
  have y0 : V2.cell? ⟨w.heap.size, 0, none⟩ = some (.int .i64 op) := blk_cell hb2 rfl
  have y1 : V2.cell? ⟨w.heap.size, 1, none⟩ = some (.bool false) := blk_cell hb2 rfl
  have y2 : V2.cell? ⟨w.heap.size, 2, none⟩ = some (.int .u8 fl) := blk_cell hb2 rfl
  have y3 : V2.cell? ⟨w.heap.size, 3, none⟩ = some (.int .u64 0) := blk_cell hb2 rfl
  have y4 : V2.cell? ⟨w.heap.size, 4, none⟩ = some (.int .u32 tag) := blk_cell hb2 rfl
  have y5 : V2.cell? ⟨w.heap.size, 5, none⟩ = some (.int .u32 (k + 1 : Int)) := blk_cell hb2 rfl
  have y6 : V2.cell? ⟨w.heap.size, 6, none⟩ = some (.int .u32 w1) := blk_cell hb2 rfl
  have y7 : V2.cell? ⟨w.heap.size, 7, none⟩ = some (.int .u32 w2) := blk_cell hb2 rfl
  have y8 : V2.cell? ⟨w.heap.size, 8, none⟩ = some (.int .u32 w3) := blk_cell hb2 rfl
  have y9 : V2.cell? ⟨w.heap.size, 9, none⟩ = some (.int .u32 w4) := blk_cell hb2 rfl
  have y10 : V2.cell? ⟨w.heap.size, 10, none⟩ = some (.int .u32 w5) := blk_cell hb2 rfl
  have y11 : V2.cell? ⟨w.heap.size, 11, none⟩ = some (.int .u32 w6) := blk_cell hb2 rfl
  have y12 : V2.cell? ⟨w.heap.size, 12, none⟩ = some (.slice da dn dc) := blk_cell hb2 rfl
  have z2 := blk_lt hb2
  have hF2 : (⟨op, fl, 0, tag, k + 1, w1, w2, w3, w4, w5, w6, da, dn, dc⟩ : Ms).Fit := ⟨hop, hfl, rfl, htag, hdn, fun x hx => by
    simp only [Ms.ws, List.mem_cons, List.not_mem_nil, or_false] at hx
    rcases hx with rfl | hx
    · omega
    · exact hws x (by simp only [Ms.ws, List.mem_cons, List.not_mem_nil, or_false]; exact .inr hx)⟩
  have hput := put_k ⟨op, fl, 0, tag, k + 1, w1, w2, w3, w4, w5, w6, da, dn, dc⟩ hF2 data V2 (hd.mod hm2 hda)
  simp only [Ms.cells] at hput
  go_wp2_with fail
  refine hput.mono ?_
  rintro e V3 ⟨ba, bc, rfl, hbo, hm3⟩
  have hd3 := hm3.blk hd2 (by simp)
  have hm03 := hm2.then0 hm3
  have ho3 := hm03.own hown (off1 hown hD.desk (by decide))
  have hsz := hm2.size
  clear hput y0 y1 y2 y3 y4 y5 y6 y7 y8 y9 y10 y11 y12 z2
  go_wp2_with (at_builtin; refine wpList_catF V3 rfl (.tmp 27) (.tmp 28) 32 rfl B 5 _ 1 Try.underlying32 info5 rfl (by decide) (.slice oa n oc) n (ob.map By) rfl ho3 ba (48 + dn + padN dn) bc _ rfl (by omega) (Rds.own hbo) (bytes_one _) (by unfold padN; omega) (by have := hm03.size; omega) ?_)
  intro a4 c4 V4 hown4 hm4 hf4
  go_wp2
  go_ret
  refine ⟨a4, c4, rfl, ?_, ?_, ?_, ?_⟩
  · rw [List.map_append]
    exact hown4
  · exact hm4.blk hd3 (own_off ho3 hd3 (by decide))
  · exact (hm03.mono (by simp)).trans hm4 (fun t ht => .inl (List.mem_cons_of_mem _ ht))
  · intro g hg
    rcases hf4 g hg with h1 | h1
    · exact .inl h1
    · exact .inr (Nat.le_trans hm03.size h1)
end Go.Proofs.Ytfkhefoilancnaa
