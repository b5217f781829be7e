/-
  The desk's does: a login, a ping, a logout; and what comes ahead of a login. Printed by gen_msg.py.
-/
import Derived.WalkKit
import Derived.Handy
import Derived.BigQuiet
import Derived.Lib.Hide
import Derived.Deep.CutBlock
import Derived.Deep.CutRange
import Derived.Test.YtfkhefoilancnaaLogin
namespace Go.Proofs.Ytfkhefoilancnaa
open Go.RowKit
set_option maxRecDepth 100000 in
set_option maxHeartbeats 4000000 in
theorem does_login (s : Sh) (W w : World) (d : Nat) (G : Gh) (oa : Option Addr) (oc : Nat) (ob : List UInt8) (h : FeedAt s W w d G oa oc ob) (k : Nat) (hk : G.count = (k : Int)) (hk2 : k ≤ 1000000) (hn : ob.length ≤ 1000000)
    (m : Ms) (hop : m.op = 3) (hF : m.Fit) (l : List UInt8) (hd : Rds w m.da m.dn (l.map By)) (V : ByteArray) (hT : OneText m.da m.dn m.dc l ⟨#[73, 110, 105, 116, 105, 97, 116, 111, 114, 78, 97, 109, 101]⟩ V) :
    Calls Try.prog 42 #[.pointer (some ⟨d, 0, none⟩), .slice oa ob.length oc, .agg m.cells] w fun e w' => ∃ oa' oc', e = .returned (.slice oa' (ob ++ loginOut m.tag (k + 1)).length oc') ∧
      FeedAt s W w' d { G.counted (k + 1) with phase := 1 } oa' oc' (ob ++ loginOut m.tag (k + 1)) := by
  obtain ⟨op, fl, lun, tag, w0, w1, w2, w3, w4, w5, w6, da, dn, dc⟩ := m
  simp only at hop
  subst hop
  have hb0 := ((Mod.refl [] _).alloc (.cells #[.int .i64 35, .bool false, .int .u8 128, .int .u64 0, .int .u32 tag, .int .u32 0, .int .u32 0, .int .u32 0, .int .u32 0, .int .u32 0, .int .u32 0, .int .u32 0, .slice none 0 0] 38)).blk (blk_alloc w #[.int .i64 3, .bool false, .int .u8 fl, .int .u64 lun, .int .u32 tag, .int .u32 w0, .int .u32 w1, .int .u32 w2, .int .u32 w3, .int .u32 w4, .int .u32 w5, .int .u32 w6, .slice da dn dc] 38) (by simp)
  have hb1 := heap_alloc_new' (w.alloc (.cells #[.int .i64 3, .bool false, .int .u8 fl, .int .u64 lun, .int .u32 tag, .int .u32 w0, .int .u32 w1, .int .u32 w2, .int .u32 w3, .int .u32 w4, .int .u32 w5, .int .u32 w6, .slice da dn dc] 38)) (.cells #[.int .i64 35, .bool false, .int .u8 128, .int .u64 0, .int .u32 tag, .int .u32 0, .int .u32 0, .int .u32 0, .int .u32 0, .int .u32 0, .int .u32 0, .int .u32 0, .slice none 0 0] 38) (w.heap.size + 1) (by simp)
  have hm0 : Mod [] w ((w.alloc (.cells #[.int .i64 3, .bool false, .int .u8 fl, .int .u64 lun, .int .u32 tag, .int .u32 w0, .int .u32 w1, .int .u32 w2, .int .u32 w3, .int .u32 w4, .int .u32 w5, .int .u32 w6, .slice da dn dc] 38)).alloc (.cells #[.int .i64 35, .bool false, .int .u8 128, .int .u64 0, .int .u32 tag, .int .u32 0, .int .u32 0, .int .u32 0, .int .u32 0, .int .u32 0, .int .u32 0, .int .u32 0, .slice none 0 0] 38)) := ((Mod.refl _ _).alloc _).alloc _
  simp only [Ms.cells]
  go_enter Try.func42, Try.ntmps42
  go_upto_region 2 with fail
  generalize hX : World.alloc (World.alloc w _) _ = X
  have hbX : X.heap[w.heap.size]? = some (.cells #[.int .i64 3, .bool false, .int .u8 fl, .int .u64 lun, .int .u32 tag, .int .u32 w0, .int .u32 w1, .int .u32 w2, .int .u32 w3, .int .u32 w4, .int .u32 w5, .int .u32 w6, .slice da dn dc] 38 (0, 0)) := by rw [← hX]; exact hb0
  have hbY : X.heap[w.heap.size + 1]? = some (.cells #[.int .i64 35, .bool false, .int .u8 128, .int .u64 0, .int .u32 tag, .int .u32 0, .int .u32 0, .int .u32 0, .int .u32 0, .int .u32 0, .int .u32 0, .int .u32 0, .slice none 0 0] 38 (0, 0)) := by rw [← hX]; exact hb1
  have hmX : Mod [] w X := by rw [← hX]; exact hm0
  clear hX hb0 hb1 hm0
  have hFX := h.mod0 hmX
  have y0 : X.cell? ⟨w.heap.size, 0, none⟩ = some (.int .i64 3) := blk_cell hbX rfl
  have y1 : X.cell? ⟨w.heap.size, 1, none⟩ = some (.bool false) := blk_cell hbX rfl
  have y2 : X.cell? ⟨w.heap.size, 2, none⟩ = some (.int .u8 fl) := blk_cell hbX rfl
  have y3 : X.cell? ⟨w.heap.size, 3, none⟩ = some (.int .u64 lun) := blk_cell hbX rfl
  have y4 : X.cell? ⟨w.heap.size, 4, none⟩ = some (.int .u32 tag) := blk_cell hbX rfl
  have y5 : X.cell? ⟨w.heap.size, 5, none⟩ = some (.int .u32 w0) := blk_cell hbX rfl
  have y6 : X.cell? ⟨w.heap.size, 6, none⟩ = some (.int .u32 w1) := blk_cell hbX rfl
  have y7 : X.cell? ⟨w.heap.size, 7, none⟩ = some (.int .u32 w2) := blk_cell hbX rfl
  have y8 : X.cell? ⟨w.heap.size, 8, none⟩ = some (.int .u32 w3) := blk_cell hbX rfl
  have y9 : X.cell? ⟨w.heap.size, 9, none⟩ = some (.int .u32 w4) := blk_cell hbX rfl
  have y10 : X.cell? ⟨w.heap.size, 10, none⟩ = some (.int .u32 w5) := blk_cell hbX rfl
  have y11 : X.cell? ⟨w.heap.size, 11, none⟩ = some (.int .u32 w6) := blk_cell hbX rfl
  have y12 : X.cell? ⟨w.heap.size, 12, none⟩ = some (.slice da dn dc) := blk_cell hbX rfl
  have z0 := blk_lt hbX
  go_wp2_with fail
  have hlog := loginF s W X d G oa oc ob hFX k hk hk2 hn ⟨3, fl, lun, tag, w0, w1, w2, w3, w4, w5, w6, da, dn, dc⟩ hF l (hd.mod0 hmX) V hT
  simp only [Ms.cells] at hlog
  refine hlog.mono ?_
  rintro e w6 ⟨oa', oc', rfl, hF6⟩
  clear hlog
  go_wp2
  go_ret
  exact ⟨oa', oc', by rw [List.length_append]; rfl, hF6⟩
/-- The answer to a ping, to a logout. -/
def pingBack (tag k : Nat) (da : Option Addr) (dn dc : Nat) : Ms := ⟨32, 128, 0, tag, k, 0, 0, 0, 0, 0, 0, da, dn, dc⟩
def byeBack (tag k : Nat) : Ms := ⟨38, 128, 0, tag, k, 0, 0, 0, 0, 0, 0, none, 0, 0⟩
def pingOut (tag k : Nat) (data : List UInt8) : List UInt8 := (pingBack tag k none data.length 0).enc data
def byeOut (tag k : Nat) : List UInt8 := (byeBack tag k).enc []
theorem pingBack_fit (tag : Nat) (ht : tag < 4294967296) (da : Option Addr) (dn dc : Nat) (hdn : dn ≤ 4096) : (pingBack tag 0 da dn dc).Fit := ⟨by simp [pingBack, opsL], by simp [pingBack], rfl, by simpa [pingBack] using ht, by simpa [pingBack] using hdn, by simp [pingBack, Ms.ws]⟩
theorem byeBack_fit (tag : Nat) (ht : tag < 4294967296) : (byeBack tag 0).Fit := ⟨by simp [byeBack, opsL], by simp [byeBack], rfl, by simpa [byeBack] using ht, by simp [byeBack], by simp [byeBack, Ms.ws]⟩
set_option maxRecDepth 100000 in
set_option maxHeartbeats 4000000 in
theorem does_ping (s : Sh) (W w : World) (d : Nat) (G : Gh) (oa : Option Addr) (oc : Nat) (ob : List UInt8) (h : FeedAt s W w d G oa oc ob) (k : Nat) (hk : G.count = (k : Int)) (hk2 : k ≤ 1000000) (hn : ob.length ≤ 1000000)
    (hp : G.phase = 1) (m : Ms) (hop : m.op = 0) (hF : m.Fit) (l : List UInt8) (hd : Rds w m.da m.dn (l.map By)) (hda : Off [d] m.da m.dn) :
    Calls Try.prog 42 #[.pointer (some ⟨d, 0, none⟩), .slice oa ob.length oc, .agg m.cells] w fun e w' => ∃ oa' oc', e = .returned (.slice oa' (ob ++ pingOut m.tag (k + 1) l).length oc') ∧
      FeedAt s W w' d (G.counted (k + 1)) oa' oc' (ob ++ pingOut m.tag (k + 1) l) := by
  have hl : l.length = m.dn := by simpa using hd.1
  have hf : (pingBack m.tag 0 m.da m.dn m.dc).Fit := pingBack_fit _ hF.tag _ _ _ hF.dn
  obtain ⟨op, fl, lun, tag, w0, w1, w2, w3, w4, w5, w6, da, dn, dc⟩ := m
  simp only at hop
  subst hop
  have hb0 := ((Mod.refl [] _).alloc (.cells #[.int .i64 32, .bool false, .int .u8 128, .int .u64 0, .int .u32 tag, .int .u32 0, .int .u32 0, .int .u32 0, .int .u32 0, .int .u32 0, .int .u32 0, .int .u32 0, .slice none 0 0] 38)).blk (blk_alloc w #[.int .i64 0, .bool false, .int .u8 fl, .int .u64 lun, .int .u32 tag, .int .u32 w0, .int .u32 w1, .int .u32 w2, .int .u32 w3, .int .u32 w4, .int .u32 w5, .int .u32 w6, .slice da dn dc] 38) (by simp)
  have hb1 := heap_alloc_new' (w.alloc (.cells #[.int .i64 0, .bool false, .int .u8 fl, .int .u64 lun, .int .u32 tag, .int .u32 w0, .int .u32 w1, .int .u32 w2, .int .u32 w3, .int .u32 w4, .int .u32 w5, .int .u32 w6, .slice da dn dc] 38)) (.cells #[.int .i64 32, .bool false, .int .u8 128, .int .u64 0, .int .u32 tag, .int .u32 0, .int .u32 0, .int .u32 0, .int .u32 0, .int .u32 0, .int .u32 0, .int .u32 0, .slice none 0 0] 38) (w.heap.size + 1) (by simp)
  have hm0 : Mod [] w ((w.alloc (.cells #[.int .i64 0, .bool false, .int .u8 fl, .int .u64 lun, .int .u32 tag, .int .u32 w0, .int .u32 w1, .int .u32 w2, .int .u32 w3, .int .u32 w4, .int .u32 w5, .int .u32 w6, .slice da dn dc] 38)).alloc (.cells #[.int .i64 32, .bool false, .int .u8 128, .int .u64 0, .int .u32 tag, .int .u32 0, .int .u32 0, .int .u32 0, .int .u32 0, .int .u32 0, .int .u32 0, .int .u32 0, .slice none 0 0] 38)) := ((Mod.refl _ _).alloc _).alloc _
  simp only [Ms.cells]
  go_enter Try.func42, Try.ntmps42
  go_upto_region 2 with fail
  generalize hX : World.alloc (World.alloc w _) _ = X
  have hbX : X.heap[w.heap.size]? = some (.cells #[.int .i64 0, .bool false, .int .u8 fl, .int .u64 lun, .int .u32 tag, .int .u32 w0, .int .u32 w1, .int .u32 w2, .int .u32 w3, .int .u32 w4, .int .u32 w5, .int .u32 w6, .slice da dn dc] 38 (0, 0)) := by rw [← hX]; exact hb0
  have hbY : X.heap[w.heap.size + 1]? = some (.cells #[.int .i64 32, .bool false, .int .u8 128, .int .u64 0, .int .u32 tag, .int .u32 0, .int .u32 0, .int .u32 0, .int .u32 0, .int .u32 0, .int .u32 0, .int .u32 0, .slice none 0 0] 38 (0, 0)) := by rw [← hX]; exact hb1
  have hmX : Mod [] w X := by rw [← hX]; exact hm0
  clear hX hb0 hb1 hm0
  have hFX := h.mod0 hmX
  have y0 : X.cell? ⟨w.heap.size, 0, none⟩ = some (.int .i64 0) := blk_cell hbX rfl
  have y1 : X.cell? ⟨w.heap.size, 1, none⟩ = some (.bool false) := blk_cell hbX rfl
  have y2 : X.cell? ⟨w.heap.size, 2, none⟩ = some (.int .u8 fl) := blk_cell hbX rfl
  have y3 : X.cell? ⟨w.heap.size, 3, none⟩ = some (.int .u64 lun) := blk_cell hbX rfl
  have y4 : X.cell? ⟨w.heap.size, 4, none⟩ = some (.int .u32 tag) := blk_cell hbX rfl
  have y5 : X.cell? ⟨w.heap.size, 5, none⟩ = some (.int .u32 w0) := blk_cell hbX rfl
  have y6 : X.cell? ⟨w.heap.size, 6, none⟩ = some (.int .u32 w1) := blk_cell hbX rfl
  have y7 : X.cell? ⟨w.heap.size, 7, none⟩ = some (.int .u32 w2) := blk_cell hbX rfl
  have y8 : X.cell? ⟨w.heap.size, 8, none⟩ = some (.int .u32 w3) := blk_cell hbX rfl
  have y9 : X.cell? ⟨w.heap.size, 9, none⟩ = some (.int .u32 w4) := blk_cell hbX rfl
  have y10 : X.cell? ⟨w.heap.size, 10, none⟩ = some (.int .u32 w5) := blk_cell hbX rfl
  have y11 : X.cell? ⟨w.heap.size, 11, none⟩ = some (.int .u32 w6) := blk_cell hbX rfl
  have y12 : X.cell? ⟨w.heap.size, 12, none⟩ = some (.slice da dn dc) := blk_cell hbX rfl
  have z0 := blk_lt hbX
  have c6 : X.cell? ⟨d, 6, none⟩ = some (.int .i64 1) := by
    have h1 : X.cell? ⟨d, 6, none⟩ = some (.int .i64 G.phase) := hFX.desk.cell rfl
    rw [hp] at h1
    exact h1
  have zd := blk_lt hFX.desk.desk
  have c12 : X.cell? ⟨w.heap.size + 1, 12, none⟩ = some (.slice none 0 0) := blk_cell hbY rfl
  have f12 := blk_frozen hbY 12
  have z1 := blk_lt hbY
  go_upto_region 9 with fail
  have hb5 : (X.setCell ⟨w.heap.size + 1, 12, none⟩ (.slice da dn dc)).heap[w.heap.size + 1]? = some (.cells #[.int .i64 32, .bool false, .int .u8 128, .int .u64 0, .int .u32 tag, .int .u32 0, .int .u32 0, .int .u32 0, .int .u32 0, .int .u32 0, .int .u32 0, .int .u32 0, .slice da dn dc] 38 (0, 0)) := by
    rw [heap_setCell_same X (w.heap.size + 1) 12 _ 38 _ hbY]
    rfl
  have hm5 := mod_set1 X (w.heap.size + 1) 12 (.slice da dn dc)
  have hF5 := hFX.keep hm5 w.heap.size h.size h.outLt (by simp)
  have hd5 : Rds (X.setCell ⟨w.heap.size + 1, 12, none⟩ (.slice da dn dc)) da dn (l.map By) := (hd.mod0 hmX).mod hm5 (fun a ha h0 hin => by
    obtain ⟨b, off, e1, hb, _⟩ := hd.2 h0
    have e2 : some a = some ⟨b, off, none⟩ := ha.symm.trans e1
    injection e2 with e2
    subst e2
    simp at hin
    omega)
  clear c6 zd c12 f12 z1 z0 y0 y1 y2 y3 y4 y5 y6 y7 y8 y9 y10 y11 y12
  generalize World.setCell X _ _ = V5 at hb5 hF5 hd5 ⊢
  clear hm5
  have y0 : V5.cell? ⟨w.heap.size + 1, 0, none⟩ = some (.int .i64 32) := blk_cell hb5 rfl
  have y1 : V5.cell? ⟨w.heap.size + 1, 1, none⟩ = some (.bool false) := blk_cell hb5 rfl
  have y2 : V5.cell? ⟨w.heap.size + 1, 2, none⟩ = some (.int .u8 128) := blk_cell hb5 rfl
  have y3 : V5.cell? ⟨w.heap.size + 1, 3, none⟩ = some (.int .u64 0) := blk_cell hb5 rfl
  have y4 : V5.cell? ⟨w.heap.size + 1, 4, none⟩ = some (.int .u32 tag) := blk_cell hb5 rfl
  have y5 : V5.cell? ⟨w.heap.size + 1, 5, none⟩ = some (.int .u32 0) := blk_cell hb5 rfl
  have y6 : V5.cell? ⟨w.heap.size + 1, 6, none⟩ = some (.int .u32 0) := blk_cell hb5 rfl
  have y7 : V5.cell? ⟨w.heap.size + 1, 7, none⟩ = some (.int .u32 0) := blk_cell hb5 rfl
  have y8 : V5.cell? ⟨w.heap.size + 1, 8, none⟩ = some (.int .u32 0) := blk_cell hb5 rfl
  have y9 : V5.cell? ⟨w.heap.size + 1, 9, none⟩ = some (.int .u32 0) := blk_cell hb5 rfl
  have y10 : V5.cell? ⟨w.heap.size + 1, 10, none⟩ = some (.int .u32 0) := blk_cell hb5 rfl
  have y11 : V5.cell? ⟨w.heap.size + 1, 11, none⟩ = some (.int .u32 0) := blk_cell hb5 rfl
  have y12 : V5.cell? ⟨w.heap.size + 1, 12, none⟩ = some (.slice da dn dc) := blk_cell hb5 rfl
  have z5 := blk_lt hb5
  go_wp2_with fail
  have hans := answerF s W V5 d _ oa oc ob hF5 k hk hk2 (by omega) (pingBack tag 0 da dn dc) hf l hd5 hda
  simp only [Ms.cells, pingBack] at hans
  refine hans.mono ?_
  rintro e w6 ⟨oa', oc', rfl, hF6⟩
  clear hans
  have hL : Ms.enc ⟨32, 128, 0, tag, k + 1, 0, 0, 0, 0, 0, 0, da, dn, dc⟩ l = pingOut tag (k + 1) l := by
    subst hl
    rfl
  rw [hL] at hF6 ⊢
  have HL := Lib.hid hL
  clear hL hl hd hd5
  go_wp2
  go_ret
  exact ⟨oa', oc', by rw [List.length_append]; rfl, hF6⟩
set_option maxRecDepth 100000 in
set_option maxHeartbeats 4000000 in
theorem does_bye (s : Sh) (W w : World) (d : Nat) (G : Gh) (oa : Option Addr) (oc : Nat) (ob : List UInt8) (h : FeedAt s W w d G oa oc ob) (k : Nat) (hk : G.count = (k : Int)) (hk2 : k ≤ 1000000) (hn : ob.length ≤ 1000000)
    (hp : G.phase = 1) (m : Ms) (hop : m.op = 6) (hF : m.Fit) :
    Calls Try.prog 42 #[.pointer (some ⟨d, 0, none⟩), .slice oa ob.length oc, .agg m.cells] w fun e w' => ∃ oa' oc', e = .returned (.slice oa' (ob ++ byeOut m.tag (k + 1)).length oc') ∧
      FeedAt s W w' d { G.counted (k + 1) with phase := 2, wa := none, wc := 0, wait := [] } oa' oc' (ob ++ byeOut m.tag (k + 1)) := by
  have hf : (byeBack m.tag 0).Fit := byeBack_fit _ hF.tag
  obtain ⟨op, fl, lun, tag, w0, w1, w2, w3, w4, w5, w6, da, dn, dc⟩ := m
  simp only at hop
  subst hop
  have hb0 := ((Mod.refl [] _).alloc (.cells #[.int .i64 38, .bool false, .int .u8 128, .int .u64 0, .int .u32 tag, .int .u32 0, .int .u32 0, .int .u32 0, .int .u32 0, .int .u32 0, .int .u32 0, .int .u32 0, .slice none 0 0] 38)).blk (blk_alloc w #[.int .i64 6, .bool false, .int .u8 fl, .int .u64 lun, .int .u32 tag, .int .u32 w0, .int .u32 w1, .int .u32 w2, .int .u32 w3, .int .u32 w4, .int .u32 w5, .int .u32 w6, .slice da dn dc] 38) (by simp)
  have hb1 := heap_alloc_new' (w.alloc (.cells #[.int .i64 6, .bool false, .int .u8 fl, .int .u64 lun, .int .u32 tag, .int .u32 w0, .int .u32 w1, .int .u32 w2, .int .u32 w3, .int .u32 w4, .int .u32 w5, .int .u32 w6, .slice da dn dc] 38)) (.cells #[.int .i64 38, .bool false, .int .u8 128, .int .u64 0, .int .u32 tag, .int .u32 0, .int .u32 0, .int .u32 0, .int .u32 0, .int .u32 0, .int .u32 0, .int .u32 0, .slice none 0 0] 38) (w.heap.size + 1) (by simp)
  have hm0 : Mod [] w ((w.alloc (.cells #[.int .i64 6, .bool false, .int .u8 fl, .int .u64 lun, .int .u32 tag, .int .u32 w0, .int .u32 w1, .int .u32 w2, .int .u32 w3, .int .u32 w4, .int .u32 w5, .int .u32 w6, .slice da dn dc] 38)).alloc (.cells #[.int .i64 38, .bool false, .int .u8 128, .int .u64 0, .int .u32 tag, .int .u32 0, .int .u32 0, .int .u32 0, .int .u32 0, .int .u32 0, .int .u32 0, .int .u32 0, .slice none 0 0] 38)) := ((Mod.refl _ _).alloc _).alloc _
  simp only [Ms.cells]
  go_enter Try.func42, Try.ntmps42
  go_upto_region 2 with fail
  generalize hX : World.alloc (World.alloc w _) _ = X
  have hbX : X.heap[w.heap.size]? = some (.cells #[.int .i64 6, .bool false, .int .u8 fl, .int .u64 lun, .int .u32 tag, .int .u32 w0, .int .u32 w1, .int .u32 w2, .int .u32 w3, .int .u32 w4, .int .u32 w5, .int .u32 w6, .slice da dn dc] 38 (0, 0)) := by rw [← hX]; exact hb0
  have hbY : X.heap[w.heap.size + 1]? = some (.cells #[.int .i64 38, .bool false, .int .u8 128, .int .u64 0, .int .u32 tag, .int .u32 0, .int .u32 0, .int .u32 0, .int .u32 0, .int .u32 0, .int .u32 0, .int .u32 0, .slice none 0 0] 38 (0, 0)) := by rw [← hX]; exact hb1
  have hmX : Mod [] w X := by rw [← hX]; exact hm0
  clear hX hb0 hb1 hm0
  have hFX := h.mod0 hmX
  have y0 : X.cell? ⟨w.heap.size, 0, none⟩ = some (.int .i64 6) := blk_cell hbX rfl
  have y1 : X.cell? ⟨w.heap.size, 1, none⟩ = some (.bool false) := blk_cell hbX rfl
  have y2 : X.cell? ⟨w.heap.size, 2, none⟩ = some (.int .u8 fl) := blk_cell hbX rfl
  have y3 : X.cell? ⟨w.heap.size, 3, none⟩ = some (.int .u64 lun) := blk_cell hbX rfl
  have y4 : X.cell? ⟨w.heap.size, 4, none⟩ = some (.int .u32 tag) := blk_cell hbX rfl
  have y5 : X.cell? ⟨w.heap.size, 5, none⟩ = some (.int .u32 w0) := blk_cell hbX rfl
  have y6 : X.cell? ⟨w.heap.size, 6, none⟩ = some (.int .u32 w1) := blk_cell hbX rfl
  have y7 : X.cell? ⟨w.heap.size, 7, none⟩ = some (.int .u32 w2) := blk_cell hbX rfl
  have y8 : X.cell? ⟨w.heap.size, 8, none⟩ = some (.int .u32 w3) := blk_cell hbX rfl
  have y9 : X.cell? ⟨w.heap.size, 9, none⟩ = some (.int .u32 w4) := blk_cell hbX rfl
  have y10 : X.cell? ⟨w.heap.size, 10, none⟩ = some (.int .u32 w5) := blk_cell hbX rfl
  have y11 : X.cell? ⟨w.heap.size, 11, none⟩ = some (.int .u32 w6) := blk_cell hbX rfl
  have y12 : X.cell? ⟨w.heap.size, 12, none⟩ = some (.slice da dn dc) := blk_cell hbX rfl
  have z0 := blk_lt hbX
  have c6 : X.cell? ⟨d, 6, none⟩ = some (.int .i64 1) := by
    have h1 : X.cell? ⟨d, 6, none⟩ = some (.int .i64 G.phase) := hFX.desk.cell rfl
    rw [hp] at h1
    exact h1
  have zd := blk_lt hFX.desk.desk
  go_upto_region 11 with fail
  clear c6 zd z0 y0 y1 y2 y3 y4 y5 y6 y7 y8 y9 y10 y11 y12
  have y0 : X.cell? ⟨w.heap.size + 1, 0, none⟩ = some (.int .i64 38) := blk_cell hbY rfl
  have y1 : X.cell? ⟨w.heap.size + 1, 1, none⟩ = some (.bool false) := blk_cell hbY rfl
  have y2 : X.cell? ⟨w.heap.size + 1, 2, none⟩ = some (.int .u8 128) := blk_cell hbY rfl
  have y3 : X.cell? ⟨w.heap.size + 1, 3, none⟩ = some (.int .u64 0) := blk_cell hbY rfl
  have y4 : X.cell? ⟨w.heap.size + 1, 4, none⟩ = some (.int .u32 tag) := blk_cell hbY rfl
  have y5 : X.cell? ⟨w.heap.size + 1, 5, none⟩ = some (.int .u32 0) := blk_cell hbY rfl
  have y6 : X.cell? ⟨w.heap.size + 1, 6, none⟩ = some (.int .u32 0) := blk_cell hbY rfl
  have y7 : X.cell? ⟨w.heap.size + 1, 7, none⟩ = some (.int .u32 0) := blk_cell hbY rfl
  have y8 : X.cell? ⟨w.heap.size + 1, 8, none⟩ = some (.int .u32 0) := blk_cell hbY rfl
  have y9 : X.cell? ⟨w.heap.size + 1, 9, none⟩ = some (.int .u32 0) := blk_cell hbY rfl
  have y10 : X.cell? ⟨w.heap.size + 1, 10, none⟩ = some (.int .u32 0) := blk_cell hbY rfl
  have y11 : X.cell? ⟨w.heap.size + 1, 11, none⟩ = some (.int .u32 0) := blk_cell hbY rfl
  have y12 : X.cell? ⟨w.heap.size + 1, 12, none⟩ = some (.slice none 0 0) := blk_cell hbY rfl
  have z5 := blk_lt hbY
  go_wp2_with fail
  have hans := answerF s W X d _ oa oc ob hFX k hk hk2 (by omega) (byeBack tag 0) hf [] (Rds.none_ _) (by intro a ha; simp [byeBack] at ha)
  simp only [Ms.cells, byeBack] at hans
  refine hans.mono ?_
  rintro e w6 ⟨oa', oc', rfl, hF6⟩
  clear hans y0 y1 y2 y3 y4 y5 y6 y7 y8 y9 y10 y11 y12
  go_wp2_with fail
  refine (overF s W w6 d _ oa' oc' _ hF6).mono ?_
  rintro e w7 ⟨rfl, hF7⟩
  go_wp2
  go_ret
  exact ⟨oa', oc', by rw [List.length_append]; rfl, hF7⟩
set_option maxRecDepth 100000 in
set_option maxHeartbeats 4000000 in
/-- What comes ahead of a login is the end. -/
theorem does_early (s : Sh) (W w : World) (d : Nat) (G : Gh) (oa : Option Addr) (oc : Nat) (ob : List UInt8) (h : FeedAt s W w d G oa oc ob)
    (hp : G.phase = 0) (m : Ms) (hop : m.op = 1) :
    Calls Try.prog 42 #[.pointer (some ⟨d, 0, none⟩), .slice oa ob.length oc, .agg m.cells] w fun e w' => e = .returned (.slice oa ob.length oc) ∧
      FeedAt s W w' d { G with phase := 2, wa := none, wc := 0, wait := [] } oa oc ob := by
  obtain ⟨op, fl, lun, tag, w0, w1, w2, w3, w4, w5, w6, da, dn, dc⟩ := m
  simp only at hop
  subst hop
  have hb0 := ((Mod.refl [] _).alloc (.cells #[.int .i64 33, .bool false, .int .u8 128, .int .u64 0, .int .u32 tag, .int .u32 0, .int .u32 0, .int .u32 0, .int .u32 0, .int .u32 0, .int .u32 0, .int .u32 0, .slice none 0 0] 38)).blk (blk_alloc w #[.int .i64 1, .bool false, .int .u8 fl, .int .u64 lun, .int .u32 tag, .int .u32 w0, .int .u32 w1, .int .u32 w2, .int .u32 w3, .int .u32 w4, .int .u32 w5, .int .u32 w6, .slice da dn dc] 38) (by simp)
  have hb1 := heap_alloc_new' (w.alloc (.cells #[.int .i64 1, .bool false, .int .u8 fl, .int .u64 lun, .int .u32 tag, .int .u32 w0, .int .u32 w1, .int .u32 w2, .int .u32 w3, .int .u32 w4, .int .u32 w5, .int .u32 w6, .slice da dn dc] 38)) (.cells #[.int .i64 33, .bool false, .int .u8 128, .int .u64 0, .int .u32 tag, .int .u32 0, .int .u32 0, .int .u32 0, .int .u32 0, .int .u32 0, .int .u32 0, .int .u32 0, .slice none 0 0] 38) (w.heap.size + 1) (by simp)
  have hm0 : Mod [] w ((w.alloc (.cells #[.int .i64 1, .bool false, .int .u8 fl, .int .u64 lun, .int .u32 tag, .int .u32 w0, .int .u32 w1, .int .u32 w2, .int .u32 w3, .int .u32 w4, .int .u32 w5, .int .u32 w6, .slice da dn dc] 38)).alloc (.cells #[.int .i64 33, .bool false, .int .u8 128, .int .u64 0, .int .u32 tag, .int .u32 0, .int .u32 0, .int .u32 0, .int .u32 0, .int .u32 0, .int .u32 0, .int .u32 0, .slice none 0 0] 38)) := ((Mod.refl _ _).alloc _).alloc _
  simp only [Ms.cells]
  go_enter Try.func42, Try.ntmps42
  go_upto_region 2 with fail
  generalize hX : World.alloc (World.alloc w _) _ = X
  have hbX : X.heap[w.heap.size]? = some (.cells #[.int .i64 1, .bool false, .int .u8 fl, .int .u64 lun, .int .u32 tag, .int .u32 w0, .int .u32 w1, .int .u32 w2, .int .u32 w3, .int .u32 w4, .int .u32 w5, .int .u32 w6, .slice da dn dc] 38 (0, 0)) := by rw [← hX]; exact hb0
  have hbY : X.heap[w.heap.size + 1]? = some (.cells #[.int .i64 33, .bool false, .int .u8 128, .int .u64 0, .int .u32 tag, .int .u32 0, .int .u32 0, .int .u32 0, .int .u32 0, .int .u32 0, .int .u32 0, .int .u32 0, .slice none 0 0] 38 (0, 0)) := by rw [← hX]; exact hb1
  have hmX : Mod [] w X := by rw [← hX]; exact hm0
  clear hX hb0 hb1 hm0
  have hFX := h.mod0 hmX
  have y0 : X.cell? ⟨w.heap.size, 0, none⟩ = some (.int .i64 1) := blk_cell hbX rfl
  have y1 : X.cell? ⟨w.heap.size, 1, none⟩ = some (.bool false) := blk_cell hbX rfl
  have y2 : X.cell? ⟨w.heap.size, 2, none⟩ = some (.int .u8 fl) := blk_cell hbX rfl
  have y3 : X.cell? ⟨w.heap.size, 3, none⟩ = some (.int .u64 lun) := blk_cell hbX rfl
  have y4 : X.cell? ⟨w.heap.size, 4, none⟩ = some (.int .u32 tag) := blk_cell hbX rfl
  have y5 : X.cell? ⟨w.heap.size, 5, none⟩ = some (.int .u32 w0) := blk_cell hbX rfl
  have y6 : X.cell? ⟨w.heap.size, 6, none⟩ = some (.int .u32 w1) := blk_cell hbX rfl
  have y7 : X.cell? ⟨w.heap.size, 7, none⟩ = some (.int .u32 w2) := blk_cell hbX rfl
  have y8 : X.cell? ⟨w.heap.size, 8, none⟩ = some (.int .u32 w3) := blk_cell hbX rfl
  have y9 : X.cell? ⟨w.heap.size, 9, none⟩ = some (.int .u32 w4) := blk_cell hbX rfl
  have y10 : X.cell? ⟨w.heap.size, 10, none⟩ = some (.int .u32 w5) := blk_cell hbX rfl
  have y11 : X.cell? ⟨w.heap.size, 11, none⟩ = some (.int .u32 w6) := blk_cell hbX rfl
  have y12 : X.cell? ⟨w.heap.size, 12, none⟩ = some (.slice da dn dc) := blk_cell hbX rfl
  have z0 := blk_lt hbX
  have c6 : X.cell? ⟨d, 6, none⟩ = some (.int .i64 0) := by
    have h1 : X.cell? ⟨d, 6, none⟩ = some (.int .i64 G.phase) := hFX.desk.cell rfl
    rw [hp] at h1
    exact h1
  have zd := blk_lt hFX.desk.desk
  go_wp2_with fail
  refine (overF s W X d _ oa oc _ hFX).mono ?_
  rintro e w7 ⟨rfl, hF7⟩
  clear c6 zd z0 y0 y1 y2 y3 y4 y5 y6 y7 y8 y9 y10 y11 y12
  go_wp2
  go_ret
  exact ⟨rfl, hF7⟩
end Go.Proofs.Ytfkhefoilancnaa
