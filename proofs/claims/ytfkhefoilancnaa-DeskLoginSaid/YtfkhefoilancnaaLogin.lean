/-
  The desk's login: a message whose text names an initiator is answered, and the session stands.
-/
import Derived.WalkKit
import Derived.Handy
import Derived.BigQuiet
import Derived.Lib.Hide
import Derived.KernelRfl
import Derived.Deep.CutBlock
import Derived.Test.YtfkhefoilancnaaFeedAt
import Derived.Test.YtfkhefoilancnaaTexts2
namespace Go.Proofs.Ytfkhefoilancnaa
open Go.RowKit
/-- What pdu.Texts says of a row of bytes: one pair. -/
def OneText (A : Option Addr) (n c : Nat) (l : List UInt8) (K V : ByteArray) : Prop := ∀ w, Rds w A n (l.map By) → Calls Try.prog 78 #[.slice A n c] w fun e w' => ∃ ao cp, e = .returned (.tuple #[.slice ao 1 cp, .int .i64 0]) ∧ w'.ownsRow w.heap.size 159 2 (.slice ao 1 cp) 1 [.string K, .string V] ∧ Mod [] w w'
/-- "TargetPortalGroupTag". -/
def tpgtK : List UInt8 := [84, 97, 114, 103, 101, 116, 80, 111, 114, 116, 97, 108, 71, 114, 111, 117, 112, 84, 97, 103]
def tpgt : List UInt8 := tpgtK ++ [61, 49, 0]
/-- The answer to a login. -/
def loginBack (tag k : Nat) (da : Option Addr) (dc : Nat) : Ms := ⟨35, 135, 0, tag, k, 0, 0, 0, 0, 0, 0, da, 23, dc⟩
def loginOut (tag k : Nat) : List UInt8 := (loginBack tag k none 0).enc tpgt
theorem loginBack_fit (tag k : Nat) (ht : tag < 4294967296) (hk : k < 4294967296) (da : Option Addr) (dc : Nat) : (loginBack tag k da dc).Fit := ⟨by simp [loginBack, opsL], by simp [loginBack], rfl, by simpa [loginBack] using ht, by simp [loginBack], by simpa [loginBack, Ms.ws] using hk⟩
theorem fitTag {m : Ms} (h : m.Fit) : m.tag < 4294967296 := h.4
set_option maxRecDepth 100000 in
set_option maxHeartbeats 8000000 in
theorem loginF (s : Sh) (W w : World) (d : Nat) (G : Gh) (oa : Option Addr) (oc : Nat) (ob : List UInt8) (h : FeedAt s W w d G oa oc ob) (k : Nat) (hk : G.count = (k : Int)) (hk2 : k ≤ 1000000) (hn : ob.length ≤ 1000000)
    (m : Ms) (hF : m.Fit) (l : List UInt8) (hd : Rds w m.da m.dn (l.map By)) (V : ByteArray) (hT : OneText m.da m.dn m.dc l ⟨#[73, 110, 105, 116, 105, 97, 116, 111, 114, 78, 97, 109, 101]⟩ V) :
    Calls Try.prog 65 #[.pointer (some ⟨d, 0, none⟩), .slice oa ob.length oc, .agg m.cells] w fun e w' => ∃ oa' oc', e = .returned (.slice oa' (ob ++ loginOut m.tag (k + 1)).length oc') ∧
      FeedAt s W w' d { G.counted (k + 1) with phase := 1 } oa' oc' (ob ++ loginOut m.tag (k + 1)) := by
  obtain ⟨op, fl, lun, tag, w0, w1, w2, w3, w4, w5, w6, da, dn, dc⟩ := m
  have htag := fitTag hF
  simp only at htag hd hT
  clear hF
  simp only [Ms.cells]
  have hb0 := blk_alloc w #[.int .i64 op, .bool false, .int .u8 fl, .int .u64 lun, .int .u32 tag, .int .u32 w0, .int .u32 w1, .int .u32 w2, .int .u32 w3, .int .u32 w4, .int .u32 w5, .int .u32 w6, .slice da dn dc] 38
  have hb1 := heap_alloc_new' (w.alloc (.cells #[.int .i64 op, .bool false, .int .u8 fl, .int .u64 lun, .int .u32 tag, .int .u32 w0, .int .u32 w1, .int .u32 w2, .int .u32 w3, .int .u32 w4, .int .u32 w5, .int .u32 w6, .slice da dn dc] 38)) (.cells #[.int .i64 35, .bool false, .int .u8 135, .int .u64 0, .int .u32 tag, .int .u32 0, .int .u32 0, .int .u32 0, .int .u32 0, .int .u32 0, .int .u32 0, .int .u32 0, .slice none 0 0] 38) (w.heap.size + 1) (by simp)
  go_enter Try.func65, Try.ntmps65
  go_wp2_with fail
  generalize hX : World.alloc (World.alloc w _) _ = X at hb1 ⊢
  have hmX : Mod [] w X := by rw [← hX]; exact ((Mod.refl _ _).alloc _).alloc _
  have hFX := h.mod0 hmX
  clear hX hb0
  refine (hT _ (hd.mod0 hmX)).mono ?_
  rintro e w1 ⟨ao, cp, rfl, ho1, hm1⟩
  obtain ⟨g, rfl, hgb, hgl, _⟩ := own_block ho1 (by decide)
  have y0 : w1.cell? ⟨g, 0, none⟩ = some (.string ⟨#[73, 110, 105, 116, 105, 97, 116, 111, 114, 78, 97, 109, 101]⟩) := ho1.cellAt 0 (by decide)
  have y1 : w1.cell? ⟨g, 1, none⟩ = some (.string V) := ho1.cellAt 1 (by decide)
  have hF1 := hFX.mod0 hm1
  have hb1' := hm1.blk hb1 (by simp)
  have hF2 := hF1.mod0 ((Mod.refl [] w1).alloc (.cells #[.string ⟨#[73, 110, 105, 116, 105, 97, 116, 111, 114, 78, 97, 109, 101]⟩, .string V] 159))
  have d0 : (w1.alloc (.cells #[.string ⟨#[73, 110, 105, 116, 105, 97, 116, 111, 114, 78, 97, 109, 101]⟩, .string V] 159)).cell? ⟨w1.heap.size, 0, none⟩ = some (.string ⟨#[73, 110, 105, 116, 105, 97, 116, 111, 114, 78, 97, 109, 101]⟩) := blk_cell (blk_alloc _ _ _) rfl
  have c6 : (w1.alloc (.cells #[.string ⟨#[73, 110, 105, 116, 105, 97, 116, 111, 114, 78, 97, 109, 101]⟩, .string V] 159)).cell? ⟨d, 6, none⟩ = some (.int .i64 G.phase) := hF2.desk.cell rfl
  have f6 := blk_frozen hF2.desk.desk 6
  have z6 := blk_lt hF1.desk.desk
  clear hT hd hmX hFX hm1 hb1 ho1
  go_wp2_with fail
  refine wp_loop_rounds 2 ?_
  rw [rounds_succ]
  go_wp2_with fail
  rw [rounds_succ]
  go_upto_region 15 with fail
  have hF3 := (hF1.phase 1).mod0 ((Mod.refl [] _).alloc (.cells #[.string ⟨#[73, 110, 105, 116, 105, 97, 116, 111, 114, 78, 97, 109, 101]⟩, .string V] 159))
  have hne : w.heap.size + 1 ≠ d := by have := blk_lt h.desk.desk; omega
  have hb3 := ((mod_set1 w1 d 6 (.int .i64 1)).trans (((Mod.refl [] _)).alloc (.cells #[.string ⟨#[73, 110, 105, 116, 105, 97, 116, 111, 114, 78, 97, 109, 101]⟩, .string V] 159)) (by simp)).blk hb1' (by simp; exact hne)
  generalize World.alloc (World.setCell _ _ _) _ = Y at hF3 hb3 ⊢
  clear y0 y1 d0 c6 f6 z6 hF2 hF1 hb1'
  go_wp2_with fail
  have hp := putTexts_1 ⟨#[84, 97, 114, 103, 101, 116, 80, 111, 114, 116, 97, 108, 71, 114, 111, 117, 112, 84, 97, 103]⟩ ⟨#[49]⟩ tpgtK rfl (by unfold Letter; decide) (by decide) (by decide) (by rw [ByteArray.toList_eq]; decide) (by decide) (fun w => indexByte_1 w) Y.heap.size 1 (Y.alloc (.cells #[.string ⟨#[84, 97, 114, 103, 101, 116, 80, 111, 114, 116, 97, 108, 71, 114, 111, 117, 112, 84, 97, 103]⟩, .string ⟨#[49]⟩] 159)) (blk_cell (blk_alloc Y #[.string ⟨#[84, 97, 114, 103, 101, 116, 80, 111, 114, 116, 97, 108, 71, 114, 111, 117, 112, 84, 97, 103]⟩, .string ⟨#[49]⟩] 159) rfl) (blk_cell (blk_alloc Y #[.string ⟨#[84, 97, 114, 103, 101, 116, 80, 111, 114, 116, 97, 108, 71, 114, 111, 117, 112, 84, 97, 103]⟩, .string ⟨#[49]⟩] 159) rfl)
  with_reducible refine hp.mono ?_
  rintro e w4 ⟨ao2, cp2, rfl, ho2, hm4⟩
  have hm4' := ((Mod.refl [] Y).alloc _).then0 hm4
  have hF4 := hF3.mod0 hm4'
  have hb4 := hm4'.blk hb3 (by simp)
  have c12 : w4.cell? ⟨w.heap.size + 1, 12, none⟩ = some (.slice none 0 0) := blk_cell hb4 rfl
  have f12 := blk_frozen hb4 12
  have z4 := blk_lt hb4
  clear hm4 hb3
  go_upto_region 16 with fail
  have hb5 : (w4.setCell ⟨w.heap.size + 1, 12, none⟩ (.slice ao2 23 cp2)).heap[w.heap.size + 1]? = some (.cells #[.int .i64 35, .bool false, .int .u8 135, .int .u64 0, .int .u32 tag, .int .u32 0, .int .u32 0, .int .u32 0, .int .u32 0, .int .u32 0, .int .u32 0, .int .u32 0, .slice ao2 23 cp2] 38 (0, 0)) := by
    rw [heap_setCell_same w4 (w.heap.size + 1) 12 _ 38 _ hb4]
    rfl
  have hm5 := mod_set1 w4 (w.heap.size + 1) 12 (.slice ao2 23 cp2)
  have hF5 := hF4.keep hm5 w.heap.size h.size h.outLt (by simp)
  have ho5 := hm5.own ho2 (off1 ho2 hb4 (by decide))
  have hge := own_ge ho2
  generalize w4.setCell ⟨w.heap.size + 1, 12, none⟩ (.slice ao2 23 cp2) = V5 at hb5 hF5 ho5 ⊢
  clear hm5 hF4 hb4 ho2 c12 f12 z4 hm4'
  have y0 : V5.cell? ⟨w.heap.size + 1, 0, none⟩ = some (.int .i64 35) := blk_cell hb5 rfl
  have y1 : V5.cell? ⟨w.heap.size + 1, 1, none⟩ = some (.bool false) := blk_cell hb5 rfl
  have y2 : V5.cell? ⟨w.heap.size + 1, 2, none⟩ = some (.int .u8 135) := blk_cell hb5 rfl
  have y3 : V5.cell? ⟨w.heap.size + 1, 3, none⟩ = some (.int .u64 0) := blk_cell hb5 rfl
  have y4 : V5.cell? ⟨w.heap.size + 1, 4, none⟩ = some (.int .u32 tag) := blk_cell hb5 rfl
  have y5 : V5.cell? ⟨w.heap.size + 1, 5, none⟩ = some (.int .u32 0) := blk_cell hb5 rfl
  have y6 : V5.cell? ⟨w.heap.size + 1, 6, none⟩ = some (.int .u32 0) := blk_cell hb5 rfl
  have y7 : V5.cell? ⟨w.heap.size + 1, 7, none⟩ = some (.int .u32 0) := blk_cell hb5 rfl
  have y8 : V5.cell? ⟨w.heap.size + 1, 8, none⟩ = some (.int .u32 0) := blk_cell hb5 rfl
  have y9 : V5.cell? ⟨w.heap.size + 1, 9, none⟩ = some (.int .u32 0) := blk_cell hb5 rfl
  have y10 : V5.cell? ⟨w.heap.size + 1, 10, none⟩ = some (.int .u32 0) := blk_cell hb5 rfl
  have y11 : V5.cell? ⟨w.heap.size + 1, 11, none⟩ = some (.int .u32 0) := blk_cell hb5 rfl
  have y12 : V5.cell? ⟨w.heap.size + 1, 12, none⟩ = some (.slice ao2 23 cp2) := blk_cell hb5 rfl
  have z5 := blk_lt hb5
  go_wp2_with fail
  have hans := answerF s W V5 d _ oa oc ob hF5 k hk hk2 (by omega) (loginBack tag 0 ao2 cp2) (loginBack_fit tag 0 htag (by omega) ao2 cp2) tpgt (Rds.own ho5) (by
    intro a ha _ hin
    have ha' : ao2 = some a := ha
    have h1 := hge a.block (by rw [ha']; simp [Value.ownBlock])
    have h2 := blk_lt hF3.desk.desk
    simp at hin h1
    omega)
  simp only [Ms.cells, loginBack] at hans
  refine hans.mono ?_
  rintro e w6 ⟨oa', oc', rfl, hF6⟩
  clear hans
  go_wp2
  go_ret
  exact ⟨oa', oc', by rw [List.length_append]; rfl, hF6⟩
end Go.Proofs.Ytfkhefoilancnaa
