/-
  pdu's Put: a message's bytes, in a row of their own.
-/
import Derived.WalkKit
import Derived.Handy
import Derived.BigQuiet
import Derived.Deep.QuietTactic
import Derived.Deep.RegionWith
import Derived.Deep.RegionHeld3
import Derived.Deep.RegionLaw
import Derived.Deep.CutBlock
import Derived.Deep.CutRange
import Derived.Lib.Hide
import Derived.Test.YtfkhefoilancnaaPdu4
namespace Go.Proofs.Ytfkhefoilancnaa
open Go.RowKit
/-- A message's words. -/
def Ms.ws (m : Ms) : List Nat := [m.w0, m.w1, m.w2, m.w3, m.w4, m.w5, m.w6]
/-- A message's bytes. -/
def Ms.enc (m : Ms) (data : List UInt8) : List UInt8 := [UInt8.ofNat m.op, UInt8.ofNat m.fl, 0, 0] ++ ([m.dn, 0, 0, m.tag].flatMap be4 ++ (m.ws.flatMap be4 ++ (data ++ List.replicate (padN m.dn) 0)))
structure Ms.Fit (m : Ms) : Prop where
  op : (m.op : Int) ∈ opsL
  fl : m.fl < 256
  lun : m.lun = 0
  tag : m.tag < 4294967296
  dn : m.dn ≤ 4096
  ws : ∀ x, x ∈ m.ws → x < 4294967296
theorem und36 : Try.prog.underlying 36 = some (.array (Try.prog.arrayLen 36) (Try.prog.elem 36)) := by kernel_rfl
theorem arr36 : Try.prog.arrayLen 36 = 7 := by kernel_rfl
theorem el36 : Try.prog.elem 36 = 35 := by kernel_rfl
theorem info35 : (Try.prog.info? 35).map (fun i => (i.zero, i.size, i.bytes)) = some (some (.int .u32 0), 1, 4) := by kernel_rfl
theorem size_of_35 (W : World) : (sizeOf 35).run Try.prog W = .ok 1 W := by
  obtain ⟨i, hi', hz0, hz1, hz2⟩ := info_parts info35
  simp [sizeOf, typeInfo, hi', hz1]
theorem slice_36 (g : Nat) (W : World) : (Instr.sliceAt 36 (.pointer (some ⟨g, 5, none⟩)) none none none).run Try.prog W = .ok (.slice (some ⟨g, 5, none⟩) 7 7) W := by
  rw [run_sliceAt_array_all W 36 ⟨g, 5, none⟩ und36, el36, size_of_35, Result.andThen_ok, arr36]
  rfl
set_option maxRecDepth 100000 in
set_option maxHeartbeats 16000000 in
theorem put_k (m : Ms) (hF : m.Fit) (data : List UInt8) (w : World) (hd : Rds w m.da m.dn (data.map By)) :
    Calls Try.prog 80 #[.agg m.cells] w fun e w' => ∃ ao cp, e = .returned (.tuple #[.slice ao (48 + m.dn + padN m.dn) cp, .int .i64 0]) ∧ w'.ownsRow w.heap.size 5 1 (.slice ao (48 + m.dn + padN m.dn) cp) (48 + m.dn + padN m.dn) ((m.enc data).map By) ∧ Mod [] w w' := by
  obtain ⟨op, fl, lun, tag, w0, w1, w2, w3, w4, w5, w6, da, dn, dc⟩ := m
  obtain ⟨hop, hfl, rfl, htag, hdn, hws⟩ := hF
  simp only at hop hfl htag hdn hd
  have hop64 : op < 64 := by
    simp only [opsL, List.mem_cons, List.not_mem_nil, or_false] at hop
    omega
  have hck := fun w => checkp_k ⟨op, fl, 0, tag, w0, w1, w2, w3, w4, w5, w6, da, dn, dc⟩ hop hdn w
  have kop : IntKind.u8.wrap (op : Int) = (op : Int) := by rw [IntKind.wrap_u8]; omega
  have kdn : IntKind.u32.wrap (dn : Int) = (dn : Int) := by rw [IntKind.wrap_u32]; omega
  simp only [Ms.cells]
  go_enter Try.func80, Try.ntmps80
  go_wp2_with fail
  refine (hck _).mono ?_
  rintro e v1 ⟨rfl, hm1⟩
  have hb1 := hm1.blk (blk_alloc w _ _) (by simp)
  have hmw : Mod [] w v1 := ((Mod.refl [] w).alloc _).then0 hm1
  clear hm1 hck
  have y0 : v1.cell? ⟨w.heap.size, 0, none⟩ = some (.int .i64 op) := blk_cell hb1 rfl
  have y1 : v1.cell? ⟨w.heap.size, 1, none⟩ = some (.bool false) := blk_cell hb1 rfl
  have y2 : v1.cell? ⟨w.heap.size, 2, none⟩ = some (.int .u8 fl) := blk_cell hb1 rfl
  have y3 : v1.cell? ⟨w.heap.size, 3, none⟩ = some (.int .u64 0) := blk_cell hb1 rfl
  have y4 : v1.cell? ⟨w.heap.size, 4, none⟩ = some (.int .u32 tag) := blk_cell hb1 rfl
  have y12 : v1.cell? ⟨w.heap.size, 12, none⟩ = some (.slice da dn dc) := blk_cell hb1 rfl
  have z1 := blk_lt hb1
  go_wp2_with fail
  have hrow : ((v1.alloc (.cells #[.int .u8 op, .int .u8 fl, .int .u8 0, .int .u8 0] 5)).alloc (.cells #[.int .u32 dn, .int .u32 0, .int .u32 0, .int .u32 tag] 35)).ownsRow w.heap.size 5 1 (.slice (some ⟨v1.heap.size, 0, none⟩) 4 4) 4 (([UInt8.ofNat op, UInt8.ofNat fl, 0, 0] : List UInt8).map By) := by
    have e : (([UInt8.ofNat op, UInt8.ofNat fl, 0, 0] : List UInt8).map By) = [.int .u8 op, .int .u8 fl, .int .u8 0, .int .u8 0] := by
      simp only [List.map, By_of]
      have e1 : (op : Int) % 256 = op := by omega
      have e2 : (fl : Int) % 256 = fl := by omega
      rw [e1, e2]
      rfl
    rw [e]
    exact (World.ownsRow_lit v1 #[.int .u8 op, .int .u8 fl, .int .u8 0, .int .u8 0] 4 hmw.size (by simp [maxLen]) rfl).alloc _
  have hrd : Rds ((v1.alloc (.cells #[.int .u8 op, .int .u8 fl, .int .u8 0, .int .u8 0] 5)).alloc (.cells #[.int .u32 dn, .int .u32 0, .int .u32 0, .int .u32 tag] 35)) (some ⟨v1.heap.size + 1, 0, none⟩) 4 ([dn, 0, 0, tag].map fun (x : Nat) => Value.int .u32 (x : Int)) := by
    refine ⟨rfl, fun _ => ⟨v1.heap.size + 1, 0, rfl, by simp, fun j u hj => ?_⟩⟩
    rw [Nat.zero_add]
    have := blk_alloc (v1.alloc (.cells #[.int .u8 op, .int .u8 fl, .int .u8 0, .int .u8 0] 5)) #[.int .u32 dn, .int .u32 0, .int .u32 0, .int .u32 tag] 35
    have e : (v1.alloc (.cells #[.int .u8 op, .int .u8 fl, .int .u8 0, .int .u8 0] 5)).heap.size = v1.heap.size + 1 := by simp
    rw [e] at this
    exact blk_cell this (by simpa using hj)
  have hmA : Mod [] v1 ((v1.alloc (.cells #[.int .u8 op, .int .u8 fl, .int .u8 0, .int .u8 0] 5)).alloc (.cells #[.int .u32 dn, .int .u32 0, .int .u32 0, .int .u32 tag] 35)) := ((Mod.refl [] v1).alloc _).alloc _
  refine (words_k w.heap.size _ 4 4 _ _ 4 4 [dn, 0, 0, tag] _ hrow (by have := hmw.size; simp; omega) hrd (by intro x hx; simp at hx; omega) (by intro a ha _ hin; injection ha with ha; subst ha; simp [Value.ownBlock] at hin) (by omega) (by omega)).mono ?_
  rintro e v2 ⟨a1, c1, rfl, hown2, hm2, hf2⟩
  have hm12 : Mod [] v1 v2 := hmA.trans hm2 (fun t ht => .inr (by simp [Value.ownBlock] at ht; omega))
  have hb2 := hm12.blk hb1 (by simp)
  have hmw2 := hmw.then0 hm12
  clear hrow hrd hmA hm2 hf2 hm12 y0 y1 y2 y3 y4 y12 z1
  go_upto_region 8 with fail
  have hsl : ∀ W, (Instr.sliceAt 36 (.pointer (some ⟨w.heap.size, 5, none⟩)) none none none).run Try.prog W = .ok (.slice (some ⟨w.heap.size, 5, none⟩) 7 7) W := slice_36 w.heap.size
  have hrd7 : ∀ v, v.heap[w.heap.size]? = some (.cells #[.int .i64 op, .bool false, .int .u8 fl, .int .u64 0, .int .u32 tag, .int .u32 w0, .int .u32 w1, .int .u32 w2, .int .u32 w3, .int .u32 w4, .int .u32 w5, .int .u32 w6, .slice da dn dc] 38 (0, 0)) → Rds v (some ⟨w.heap.size, 5, none⟩) 7 ([w0, w1, w2, w3, w4, w5, w6].map fun (x : Nat) => Value.int .u32 (x : Int)) := by
    intro v hv
    refine ⟨rfl, fun _ => ⟨w.heap.size, 5, rfl, blk_lt hv, fun j u hj => ?_⟩⟩
    have hj7 : j < 7 := by have := (List.getElem?_eq_some_iff.1 hj).1; simpa using this
    refine blk_cell hv ?_
    match j, hj7 with
    | 0, _ => exact hj
    | 1, _ => exact hj
    | 2, _ => exact hj
    | 3, _ => exact hj
    | 4, _ => exact hj
    | 5, _ => exact hj
    | 6, _ => exact hj
  have hown2' : v2.drew.ownsRow w.heap.size 5 1 (.slice a1 20 c1) 20 (([UInt8.ofNat op, UInt8.ofNat fl, 0, 0] ++ [dn, 0, 0, tag].flatMap be4).map By) := hown2
  have hb2' : v2.drew.heap[w.heap.size]? = _ := hb2
  have hofw : w.heap.size ∉ (Value.slice a1 20 c1).ownBlock.toList := own_off hown2' hb2' (by decide)
  have hwd := words_k w.heap.size a1 20 c1 _ (some ⟨w.heap.size, 5, none⟩) 7 7 [w0, w1, w2, w3, w4, w5, w6] v2.drew hown2' hmw2.size (hrd7 _ hb2') hws (by intro a ha _ hin; injection ha with ha; subst ha; exact hofw hin) (by omega) (by omega)
  have c12 : v2.drew.cell? ⟨w.heap.size, 12, none⟩ = some (.slice da dn dc) := blk_cell hb2' rfl
  have z2 := blk_lt hb2'
  go_cut [5] from 40 to 46 (fun p wx => ∃ ao cp, p = .slice ao (48 + dn) cp ∧ wx.ownsRow w.heap.size 5 1 (.slice ao (48 + dn) cp) (48 + dn) ((([UInt8.ofNat op, UInt8.ofNat fl, 0, 0] ++ [dn, 0, 0, tag].flatMap be4 ++ [w0, w1, w2, w3, w4, w5, w6].flatMap be4) ++ data).map By) ∧ Mod [] w wx ∧ wx.heap[w.heap.size]? = some (.cells #[.int .i64 op, .bool false, .int .u8 fl, .int .u64 0, .int .u32 tag, .int .u32 w0, .int .u32 w1, .int .u32 w2, .int .u32 w3, .int .u32 w4, .int .u32 w5, .int .u32 w6, .slice da dn dc] 38 (0, 0)))
  case first =>
    go_region_law (first | (go_simp; go_at_call_of 90 (7 : Nat); refine hwd.mono ?_; rintro e v3 ⟨a3, c3, rfl, hown3, hm3, hf3⟩; have hmw3 : Mod [] w v3 := (hmw2.drew).trans hm3 (fun t ht => .inr (own_ge hown2' t ht).1); have hb3 := hm3.blk hb2' hofw; have c123 := blk_cell (i := 12) hb3 rfl; have z3 := blk_lt hb3) | (go_simp; go_at_call 90; refine hwd.mono ?_; rintro e v3 ⟨a3, c3, rfl, hown3, hm3, hf3⟩; have hmw3 : Mod [] w v3 := (hmw2.drew).trans hm3 (fun t ht => .inr (own_ge hown2' t ht).1); have hb3 := hm3.blk hb2' hofw; have c123 := blk_cell (i := 12) hb3 rfl; have z3 := blk_lt hb3) | (refine step_cat _ (by rfl) _ _ _ (by rfl) w.heap.size 5 _ 1 Try.underlying32 info5 rfl (by decide) (.slice a3 (20 + 4 * 7) c3) (20 + 4 * 7) _ (by rfl) hown3 da dn dc (data.map By) (by rfl) (hd.mod0 hmw3) (bytes_one _) (by omega) (by have := hmw3.size; omega) ?_; intro a4 c4 v4 hown4 hm4))
    all_goals go_wp2_with fail
    all_goals go_meet
    all_goals
      refine ⟨a4, c4, by first | rfl | simp, ?_, ?_, ?_⟩
      · rw [List.map_append]
        exact hown4
      · exact hmw3.trans hm4 (fun t ht => .inr (own_ge hown3 t ht).1)
      · exact hm4.blk hb3 (own_off hown3 hb3 (by decide))
  case rest =>
    obtain ⟨ao, cp, rfl, ho, hm, hb⟩ := hcut
    generalize wc = V at ho hm hb ⊢
    clear hwd hown2 hown2' hb2 hb2' hrd7 hsl c12 z2 hofw hmw2 hmw hb1
    have c12 : V.cell? ⟨w.heap.size, 12, none⟩ = some (.slice da dn dc) := blk_cell hb rfl
    have zV := blk_lt hb
    go_wp2_with fail
    refine (pad_k dn (by omega) _).mono ?_
    rintro e V2 ⟨rfl, hw⟩
    obtain rfl := hw.symm
    have hp4 : padN dn < 4 := by unfold padN; omega
    go_wp2_with (at_builtin; refine wpList_zeros V rfl (.tmp 47) (.tmp 51) rfl w.heap.size ao (48 + dn) cp _ rfl ho (padN dn) hp4 rfl (by omega) hm.size ?_)
    intro a5 c5 v5 hown5 hm5
    go_wp2
    go_ret2
    refine ⟨a5, c5, rfl, ?_, hm.trans hm5 (fun t ht => .inr (own_ge ho t ht).1)⟩
    have e : (Ms.enc ⟨op, fl, 0, tag, w0, w1, w2, w3, w4, w5, w6, da, dn, dc⟩ data) = (([UInt8.ofNat op, UInt8.ofNat fl, 0, 0] ++ [dn, 0, 0, tag].flatMap be4 ++ [w0, w1, w2, w3, w4, w5, w6].flatMap be4) ++ data) ++ List.replicate (padN dn) 0 := by
      simp only [Ms.enc, Ms.ws, List.append_assoc]
    rw [e]
    simpa using hown5
end Go.Proofs.Ytfkhefoilancnaa
