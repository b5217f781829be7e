/-
  The desk's Feed: messages one behind the other, each by its own contract; then a rest that is too short, or the end.
-/
import Derived.WalkKit
import Derived.Handy
import Derived.BigQuiet
import Derived.Lib.Hide
import Derived.Deep.CutBlock
import Derived.Deep.CutRange
import Derived.WalkMore
import Derived.Deep.LoopGhost
import Derived.Test.YtfkhefoilancnaaMsg
import Derived.Test.YtfkhefoilancnaaEnc
namespace Go.Proofs.Ytfkhefoilancnaa
open Go.RowKit
theorem slice_lo (b off n c lo : Nat) (h : lo ≤ n) (hc : n ≤ c) : ∃ A', (0 < n - lo → A' = some ⟨b, off + lo, none⟩) ∧ (∀ a, A' = some a → a.block = b) ∧ ∀ W, (Instr.slice 32 (.slice (some ⟨b, off, none⟩) n c) (some (.int .i64 (lo : Int))) none none).run Try.prog W = .ok (.slice A' (n - lo) (c - lo)) W := by
  have h := fun W => run_slice_l (P := Try.prog) W 32 (some ⟨b, off, none⟩) n c (und_of Try.underlying32) .i64 (lo : Int) (by omega) (by omega)
  simp only [elem_of Try.underlying32, size_of_5, Result.andThen_ok, sliced, Int.toNat_natCast] at h
  by_cases h0 : c = lo
  · refine ⟨some ⟨b, off, none⟩, by omega, fun a ha => by cases ha; rfl, fun W => ?_⟩
    rw [h W, if_pos h0]
  · refine ⟨some ⟨b, off + lo, none⟩, fun _ => rfl, fun a ha => by cases ha; rfl, fun W => ?_⟩
    rw [h W, if_neg h0]
    simp [addr_add]
def Gh.waits (G : Gh) (a : Option Addr) (c : Nat) (l : List UInt8) : Gh := { G with wa := a, wc := c, wait := l }
/-- What a message does, as its own contract says. -/
def StepOk (s : Sh) (d : Nat) (G : Gh) (o : List UInt8) (m : Ms) (data mid : List UInt8) (G' : Gh) (o' st' : List UInt8) : Prop :=
  ∀ (W w : World) (wa : Option Addr) (wc : Nat) (oa : Option Addr) (oc : Nat) (da : Option Addr) (dc : Nat), FeedAt s W w d (G.waits wa wc mid) oa oc o → mid.length ≤ wc → Rds w da m.dn (data.map By) → m.dn ≤ dc → Off (d :: G.gs) da m.dn →
    Calls Try.prog 42 #[.pointer (some ⟨d, 0, none⟩), .slice oa o.length oc, .agg (Ms.cells { m with da := da, dc := dc })] w fun e w' => ∃ oa' oc' wa' wc', e = .returned (.slice oa' o'.length oc') ∧ FeedAt s W w' d (G'.waits wa' wc' st') oa' oc' o' ∧ st'.length ≤ wc'
/-- Too short for a message. -/
def Short (l : List UInt8) : Prop := ∀ (w : World) (A : Option Addr) (c : Nat), Rds w A l.length (l.map By) → Calls Try.prog 41 #[.slice A l.length c] w fun e w' => e = .returned (.tuple #[.agg #[.int .i64 0, .bool false, .int .u8 0, .int .u64 0, .int .u32 0, .int .u32 0, .int .u32 0, .int .u32 0, .int .u32 0, .int .u32 0, .int .u32 0, .int .u32 0, .slice none 0 0], .int .i64 0, .int .i64 10]) ∧ Mod [] w w'
theorem short_48 {l : List UInt8} (h : l.length < 48) : Short l := fun w A c _ => get_short w A l.length c h
theorem enc_drop (m : Ms) (data rest : List UInt8) (h : data.length = m.dn) : (m.enc data ++ rest).drop (48 + m.dn + padN m.dn) = rest := by
  rw [List.drop_append_of_le_length (by rw [enc_len _ _ h]; exact Nat.le_refl _), List.drop_of_length_le (by rw [enc_len _ _ h]; exact Nat.le_refl _)]
  rfl
theorem enc_data (m : Ms) (data rest : List UInt8) (h : data.length = m.dn) : ((m.enc data ++ rest).drop 48).take m.dn = data := by
  obtain ⟨op, fl, lun, tag, w0, w1, w2, w3, w4, w5, w6, da, dn, dc⟩ := m
  simp only at h
  subst h
  simp [Ms.enc, Ms.ws, be4]
structure FeedPlan (s : Sh) (d : Nat) (N : Nat) (Gs : Nat → Gh) (outs st mid dts : Nat → List UInt8) (ms : Nat → Ms) : Prop where
  out0 : outs 0 = []
  small : (st 0).length ≤ 1000000
  cut : ∀ j, j < N → st j = (ms j).enc (dts j) ++ mid j
  less : ∀ j, j < N → (st (j + 1)).length ≤ (mid j).length
  fit : ∀ j, j < N → (ms j).Fit
  dlen : ∀ j, j < N → (dts j).length = (ms j).dn
  open_ : ∀ j, j < N → (Gs j).phase < 2
  done : (Gs N).phase = 2 ∨ ((Gs N).phase < 2 ∧ Short (st N))
  rest : (st N).length ≤ 20000
  lens : ∀ j, j ≤ N → (st j).length ≤ 1000000
  gs : ∀ j, j ≤ N → (Gs j).gs = (Gs 0).gs
  step : ∀ j, j < N → StepOk s d (Gs j) (outs j) (ms j) (dts j) (mid j) (Gs (j + 1)) (outs (j + 1)) (st (j + 1))
  first : (Gs 0).phase < 2
/-- What holds at the head of Feed's loop, k messages still to come. -/
def FeedInv (s : Sh) (W : World) (d N : Nat) (Gs : Nat → Gh) (outs st : Nat → List UInt8) (k : Nat) (o : Value) (wr : World) : Prop :=
  ∃ j ao ac wa wc, j + k = N ∧ o = .slice ao (outs j).length ac ∧ FeedAt s W wr d ((Gs j).waits wa wc (st j)) ao ac (outs j) ∧ (st j).length ≤ wc
set_option maxRecDepth 100000 in
set_option maxHeartbeats 4000000 in
theorem feed_k (s : Sh) (w : World) (d : Nat) (N : Nat) (Gs : Nat → Gh) (outs st mid dts : Nat → List UInt8) (ms : Nat → Ms) (hP : FeedPlan s d N Gs outs st mid dts ms) (hD : DeskAt s w d (Gs 0)) (ba : Option Addr) (bc : Nat) (bl : List UInt8) (hb : Rds w ba bl.length (bl.map By)) (hst0 : st 0 = (Gs 0).wait ++ bl) :
    Calls Try.prog 15 #[.pointer (some ⟨d, 0, none⟩), .slice ba bl.length bc] w fun e w' => ∃ oa oc wa wc, e = .returned (.tuple #[.slice oa (outs N).length oc, .int .i64 0]) ∧ DeskAt s w' d ((Gs N).waits wa wc (st N)) ∧
      w'.ownsRow w.heap.size 5 1 (.slice oa (outs N).length oc) (outs N).length ((outs N).map By) ∧ Mod (d :: (Gs 0).gs) w w' := by
  have c6 : w.cell? ⟨d, 6, none⟩ = some (.int .i64 (Gs 0).phase) := hD.cell rfl
  have c7 : (w.alloc (.cells #[] 5)).cell? ⟨d, 7, none⟩ = some (.slice (Gs 0).wa (Gs 0).wait.length (Gs 0).wc) := (hD.mod0 ((Mod.refl _ _).alloc _)).cell rfl
  have zd := blk_lt hD.desk
  have p0 := hP.first
  have p1 : ¬ (Gs 0).phase = 2 := by omega
  have hlen : (st 0).length = (Gs 0).wait.length + bl.length := by rw [hst0, List.length_append]
  have hsm := hP.small
  generalize hL : (Gs 0).wait.length = L at c7 hlen
  go_enter Try.func15, Try.ntmps15
  go_wp2_with fail
  go_step3
  go_wp2_with (at_builtin; refine wpList_cat (w.alloc (.cells #[] 5)) rfl (.tmp 20) (.tmp 24) 32 rfl w.heap.size 5 _ 1 Try.underlying32 info5 rfl (by decide) (.slice (some ⟨w.heap.size, 0, none⟩) 0 0) 0 [] rfl (World.ownsRow_lit w #[] 0 (Nat.le_refl _) (by simp [maxLen]) rfl) (Gs 0).wa L (Gs 0).wc ((Gs 0).wait.map By) rfl (by rw [← hL]; exact hD.wait.mod0 ((Mod.refl _ _).alloc _)) (bytes_one _) (by omega) (by simp) ?_)
  intro a1 e1 w1 ho1 hm1
  replace ho1 : w1.ownsRow w.heap.size 5 1 (.slice a1 L e1) L ((Gs 0).wait.map By) := by simpa using ho1
  have hw1 : Mod [] w w1 := ((Mod.refl [] w).alloc (.cells #[] 5)).trans hm1 (fun t ht => .inr (by simp [Value.ownBlock] at ht; omega))
  clear c7 hm1
  go_wp2_with (at_builtin; refine wpList_cat w1 rfl (.tmp 25) (.tmp 26) 32 rfl w.heap.size 5 _ 1 Try.underlying32 info5 rfl (by decide) (.slice a1 L e1) L ((Gs 0).wait.map By) rfl ho1 ba bl.length bc (bl.map By) rfl (hb.mod0 hw1) (bytes_one _) (by omega) hw1.size ?_)
  intro a2 e2 w2 ho2 hm2
  have hw2 : Mod [] w w2 := hw1.trans hm2 (fun t ht => .inr (own_ge ho1 t ht).1)
  rw [← List.map_append, ← hst0, ← hlen] at ho2
  have hge2 := own_ge ho1
  clear ho1 hm2 hw1 c6
  have hD2 := hD.mod0 hw2
  have c7 : w2.cell? ⟨d, 7, none⟩ = some (.slice (Gs 0).wa L (Gs 0).wc) := by
    have h1 : w2.cell? ⟨d, 7, none⟩ = some (.slice (Gs 0).wa (Gs 0).wait.length (Gs 0).wc) := hD2.cell rfl
    rw [hL] at h1
    exact h1
  have f7 := blk_frozen hD2.desk 7
  have z2 := blk_lt hD2.desk
  have HL := Lib.hid hlen
  clear hlen
  go_upto_region 6 with fail
  rw [← HL.out]
  clear c7 f7 z2
  have hge := own_ge ho2
  have hF0 : FeedAt s (w2.setCell ⟨d, 7, none⟩ (.slice a2 (st 0).length e2)) (w2.setCell ⟨d, 7, none⟩ (.slice a2 (st 0).length e2)) d ((Gs 0).waits a2 e2 (st 0)) none 0 (outs 0) := by
    have hW : Mod [d] w2 (w2.setCell ⟨d, 7, none⟩ (.slice a2 (st 0).length e2)) := mod_set1 _ _ _ _
    have hsz := hW.size
    have hsz2 := hw2.size
    have hoff : Off (d :: (Gs 0).gs) a2 (st 0).length := by
      intro a ha _ hin
      have h1 := (hge a.block (by rw [ha]; simp [Value.ownBlock])).1
      rcases List.mem_cons.1 hin with h2 | h2
      · omega
      · obtain ⟨i, _, hc⟩ := hD.gs_chunk h2
        have := blk_lt hc
        omega
    have hdesk : DeskAt s (w2.setCell ⟨d, 7, none⟩ (.slice a2 (st 0).length e2)) d ((Gs 0).waits a2 e2 (st 0)) := by
      refine hD2.turn hW ?_ rfl rfl rfl rfl (Rds.own ho2) hoff
      rw [heap_setCell_same w2 d 7 _ 103 _ hD2.desk]
      rfl
    refine ⟨hdesk, ?_, ?_, ?_, ?_, ?_, hoff, Mod.refl _ _⟩
    · rw [hP.out0]; exact World.ownsRow_nil _ _ _ _
    · omega
    · obtain ⟨cur, hc⟩ := hD2.headBlk
      have := blk_lt hc
      show (Gs 0).h < _
      omega
    · intro g hg
      obtain ⟨i, _, hc⟩ := hD2.gs_chunk hg
      have := blk_lt hc
      omega
    · intro a ha _
      have h1 := (hge a.block (by
        have ha' : a2 = some a := ha
        rw [ha']; simp [Value.ownBlock])).2
      omega
  have hcap : (st 0).length ≤ e2 := by
    rcases ho2.2 with ⟨h1, h2⟩ | ⟨g, cap, cur, h1, hb1, hg1, hc1, _⟩
    · omega
    · injection h1 with _ _ h3
      omega
  have hWd : Mod [d] w (w2.setCell ⟨d, 7, none⟩ (.slice a2 (st 0).length e2)) := (hw2.mono (by simp)).trans (mod_set1 w2 d 7 (.slice a2 (st 0).length e2)) (by simp)
  generalize w2.setCell ⟨d, 7, none⟩ (.slice a2 (st 0).length e2) = W at hF0 hWd ⊢
  have hI0 : FeedInv s W d N Gs outs st N (.slice none 0 0) W := ⟨0, none, 0, a2, e2, by omega, by rw [hP.out0]; rfl, hF0, hcap⟩
  clear hF0 hcap hge hD2 ho2 hge2 hw2 hb
  go_wp2_with fail
  go_step3
  go_wp2_with fail
  clear p1 p0 hsm hst0 zd HL hL
  go_loopg [6] N (fun k o wr => FeedInv s W d N Gs outs st k o wr)
  case atStart => exact hI0
  case round =>
    clear hI0
    obtain ⟨j, ao, ac, wa, wc, hj, rfl, hF, hcap⟩ := hrel
    have c6 : wr.cell? ⟨d, 6, none⟩ = some (.int .i64 (Gs j).phase) := hF.desk.cell rfl
    have c7 : wr.cell? ⟨d, 7, none⟩ = some (.slice wa (st j).length wc) := hF.desk.cell rfl
    have zd := blk_lt hF.desk.desk
    by_cases hjN : j < N
    · have p1 := hP.open_ j hjN
      have hst := hP.cut j hjN
      have hfit := hP.fit j hjN
      have hdl := hP.dlen j hjN
      have hstep := hP.step j hjN
      have hles := hP.less j hjN
      generalize ms j = m at hst hfit hdl hstep
      generalize dts j = data at hst hdl hstep
      generalize hmid : mid j = md at hst hstep hles
      have hlen : (st j).length = 48 + m.dn + padN m.dn + md.length := by rw [hst, List.length_append, enc_len _ _ hdl]
      have hsmall : (st j).length ≤ 1000000 := hP.lens j (by omega)
      have henc := hfit.enc data hdl md
      have hdrop := enc_drop m data md hdl
      have hdat := enc_data m data md hdl
      rw [← hst] at henc hdrop hdat
      have hget := get_k wr wa (st j).length wc (st j) hF.desk.wait hsmall hcap _ _ _ _ _ henc
      rw [hdat] at hget
      obtain ⟨op, fl, lun, tag, w0, w1, w2, w3, w4, w5, w6, da0, dn, dc0⟩ := m
      have hlun : lun = 0 := hfit.lun
      subst hlun
      simp only at hlen hdl hget hdrop
      have hgc : ∀ da dc, gotCells op fl tag (fun i => (Ms.ws ⟨op, fl, 0, tag, w0, w1, w2, w3, w4, w5, w6, da0, dn, dc0⟩).getD i 0) 7 (.slice da dn dc) = #[.int .i64 op, .bool false, .int .u8 fl, .int .u64 0, .int .u32 tag, .int .u32 w0, .int .u32 w1, .int .u32 w2, .int .u32 w3, .int .u32 w4, .int .u32 w5, .int .u32 w6, .slice da dn dc] := fun _ _ => rfl
      simp only [hgc] at hget
      have HL := Lib.hid hlen
      clear hst hlen henc hdat hgc
      go_wp2_with fail
      with_reducible refine hget.mono ?_
      rintro e v1 ⟨da, dc, rfl, hda, hdc, hfr, hm1⟩
      clear hget c6 c7
      have hF1 := hF.mod0 hm1
      have hlen := HL.out
      obtain ⟨b, off, hwa, _, _⟩ := hF.desk.wait.2 (show 0 < (st j).length by omega)
      have hwa' : wa = some ⟨b, off, none⟩ := hwa
      subst hwa'
      obtain ⟨A', hA', hAb, hs⟩ := slice_lo b off (st j).length wc (48 + dn + padN dn) (by omega) hcap
      have hml : (st j).length - (48 + dn + padN dn) = md.length := by omega
      have hie : ((48 + dn + padN dn : Nat) : Int) = 48 + (dn : Int) + (padN dn : Int) := by omega
      rw [hml] at hs hA'
      rw [hie] at hs
      have hrd : Rds v1 A' md.length (md.map By) := by
        have h1 := hF1.desk.wait.drop (k := 48 + dn + padN dn) (A' := A') (by show _ ≤ (st j).length; omega) (fun b' off' e hlt => by
          have e' : (some ⟨b, off, none⟩ : Option Addr) = some ⟨b', off', none⟩ := e
          injection e' with e'
          injection e' with e1 e2
          subst e1 e2
          exact hA' (by have : 48 + dn + padN dn < (st j).length := hlt; omega))
        have e1 : (((Gs j).waits (some ⟨b, off, none⟩) wc (st j)).wait.length - (48 + dn + padN dn)) = md.length := hml
        have e2 : ((((Gs j).waits (some ⟨b, off, none⟩) wc (st j)).wait.map By).drop (48 + dn + padN dn)) = md.map By := by
          rw [← List.map_drop]
          exact congrArg _ hdrop
        rw [e1, e2] at h1
        exact h1
      have hpos : 0 < (st j).length := by omega
      have hF2 := (hF1.setWait A' (wc - (48 + dn + padN dn)) md hrd (fun a ha h0 hin => hF.wo ⟨b, off, none⟩ rfl hpos (by have h2 := hAb a ha; rw [← h2]; exact hin)) (fun a ha h0 => by have h2 := hAb a ha; rw [h2]; exact hF.wl ⟨b, off, none⟩ rfl hpos)).mod0 ((Mod.refl [] _).alloc (.cells #[.int .i64 op, .bool false, .int .u8 fl, .int .u64 0, .int .u32 tag, .int .u32 w0, .int .u32 w1, .int .u32 w2, .int .u32 w3, .int .u32 w4, .int .u32 w5, .int .u32 w6, .slice da dn dc] 38))
      have hcap2 : md.length ≤ wc - (48 + dn + padN dn) := by omega
      have hbV0 := heap_alloc_new' (v1.setCell ⟨d, 7, none⟩ (.slice A' md.length (wc - (48 + dn + padN dn)))) (.cells #[.int .i64 op, .bool false, .int .u8 fl, .int .u64 0, .int .u32 tag, .int .u32 w0, .int .u32 w1, .int .u32 w2, .int .u32 w3, .int .u32 w4, .int .u32 w5, .int .u32 w6, .slice da dn dc] 38) v1.heap.size (by simp)
      have hdaV := (hda.mod (mod_set1 v1 d 7 (.slice A' md.length (wc - (48 + dn + padN dn)))) (fun a ha h0 hin => by
        have h1 := hfr a ha
        simp at hin
        have := blk_lt hF.desk.desk
        omega)).mod0 ((Mod.refl [] _).alloc (.cells #[.int .i64 op, .bool false, .int .u8 fl, .int .u64 0, .int .u32 tag, .int .u32 w0, .int .u32 w1, .int .u32 w2, .int .u32 w3, .int .u32 w4, .int .u32 w5, .int .u32 w6, .slice da dn dc] 38))
      have hoffD : Off (d :: (Gs j).gs) da dn := fun a ha h0 hin => by
        have h1 := hfr a ha
        rcases List.mem_cons.1 hin with h2 | h2
        · have := blk_lt hF.desk.desk
          omega
        · obtain ⟨i, _, hc⟩ := hF.desk.gs_chunk h2
          have := blk_lt hc
          omega
      have hD1 := hF1.desk.mod0 ((Mod.refl [] v1).alloc (.cells #[.int .i64 op, .bool false, .int .u8 fl, .int .u64 0, .int .u32 tag, .int .u32 w0, .int .u32 w1, .int .u32 w2, .int .u32 w3, .int .u32 w4, .int .u32 w5, .int .u32 w6, .slice da dn dc] 38))
      have c7 : (v1.alloc (.cells #[.int .i64 op, .bool false, .int .u8 fl, .int .u64 0, .int .u32 tag, .int .u32 w0, .int .u32 w1, .int .u32 w2, .int .u32 w3, .int .u32 w4, .int .u32 w5, .int .u32 w6, .slice da dn dc] 38)).cell? ⟨d, 7, none⟩ = some (.slice (some ⟨b, off, none⟩) (st j).length wc) := hD1.cell rfl
      have f7 := blk_frozen hD1.desk 7
      have z1 := blk_lt hF1.desk.desk
      clear hlen hie hml hA' hAb hrd hD1 hF1 hdrop hda hfr hdl hles hsmall hpos zd
      go_upto_region 14 with fail
      generalize World.alloc (World.setCell _ _ _) _ = V2 at hF2 hbV0 hdaV ⊢
      clear c7 f7 z1 hs
      have y0 : V2.cell? ⟨v1.heap.size, 0, none⟩ = some (.int .i64 op) := blk_cell hbV0 rfl
      have y1 : V2.cell? ⟨v1.heap.size, 1, none⟩ = some (.bool false) := blk_cell hbV0 rfl
      have y2 : V2.cell? ⟨v1.heap.size, 2, none⟩ = some (.int .u8 fl) := blk_cell hbV0 rfl
      have y3 : V2.cell? ⟨v1.heap.size, 3, none⟩ = some (.int .u64 0) := blk_cell hbV0 rfl
      have y4 : V2.cell? ⟨v1.heap.size, 4, none⟩ = some (.int .u32 tag) := blk_cell hbV0 rfl
      have y5 : V2.cell? ⟨v1.heap.size, 5, none⟩ = some (.int .u32 w0) := blk_cell hbV0 rfl
      have y6 : V2.cell? ⟨v1.heap.size, 6, none⟩ = some (.int .u32 w1) := blk_cell hbV0 rfl
      have y7 : V2.cell? ⟨v1.heap.size, 7, none⟩ = some (.int .u32 w2) := blk_cell hbV0 rfl
      have y8 : V2.cell? ⟨v1.heap.size, 8, none⟩ = some (.int .u32 w3) := blk_cell hbV0 rfl
      have y9 : V2.cell? ⟨v1.heap.size, 9, none⟩ = some (.int .u32 w4) := blk_cell hbV0 rfl
      have y10 : V2.cell? ⟨v1.heap.size, 10, none⟩ = some (.int .u32 w5) := blk_cell hbV0 rfl
      have y11 : V2.cell? ⟨v1.heap.size, 11, none⟩ = some (.int .u32 w6) := blk_cell hbV0 rfl
      have y12 : V2.cell? ⟨v1.heap.size, 12, none⟩ = some (.slice da dn dc) := blk_cell hbV0 rfl
      have zb := blk_lt hbV0
      go_wp2_with fail
      have hdo := hstep W V2 A' (wc - (48 + dn + padN dn)) ao ac da dc hF2 hcap2 hdaV hdc hoffD
      simp only [Ms.cells] at hdo
      refine hdo.mono ?_
      rintro e v5 ⟨oa', oc', wa', wc', rfl, hF5, hc5⟩
      clear hdo y0 y1 y2 y3 y4 y5 y6 y7 y8 y9 y10 y11 y12 hstep
      go_wp2
      go_roundg (gk - 1)
      case measure => omega
      case rel => exact ⟨j + 1, oa', oc', wa', wc', by omega, rfl, hF5, hc5⟩
    · obtain rfl : j = N := by omega
      have s20 : ¬ (20000 : Int) < ((st j).length : Int) := by have := hP.rest; omega
      have fin : ∀ w', FeedAt s W w' d ((Gs j).waits wa wc (st j)) ao ac (outs j) → ∃ oa oc wa wc, Ending.returned (.tuple #[.slice ao (outs j).length ac, .int .i64 0]) = Ending.returned (.tuple #[.slice oa (outs j).length oc, .int .i64 0]) ∧ DeskAt s w' d ((Gs j).waits wa wc (st j)) ∧
          w'.ownsRow w.heap.size 5 1 (.slice oa (outs j).length oc) (outs j).length ((outs j).map By) ∧ Mod (d :: (Gs 0).gs) w w' := by
        intro w' h
        refine ⟨ao, ac, wa, wc, rfl, h.desk, own_mono h.out hWd.size, ?_⟩
        have h1 := h.mod
        have e1 : ((Gs j).waits wa wc (st j)).gs = (Gs 0).gs := hP.gs j (by omega)
        rw [e1] at h1
        exact (hWd.mono (fun t ht => by simp at ht; simp [ht])).trans h1 (fun t ht => .inl ht)
      rcases hP.done with h2 | ⟨h2, hsh⟩
      · rw [h2] at c6
        clear h2
        go_wp2
        try rw [Exit.noGoto_ret]
        go_ret2
        exact fin wr hF
      · have hget := hsh wr wa wc hF.desk.wait
        have c7' : ∀ v1, Mod [] wr v1 → (v1.alloc (.cells #[.int .i64 0, .bool false, .int .u8 0, .int .u64 0, .int .u32 0, .int .u32 0, .int .u32 0, .int .u32 0, .int .u32 0, .int .u32 0, .int .u32 0, .int .u32 0, .slice none 0 0] 38)).cell? ⟨d, 7, none⟩ = some (.slice wa (st j).length wc) := fun v1 hm => (hF.desk.mod0 (hm.alloc _)).cell rfl
        replace c7' := Lib.hid c7'
        go_wp2_with fail
        refine hget.mono ?_
        rintro e v1 ⟨rfl, hm1⟩
        have c8 := c7'.out v1 hm1
        have hF1 := hF.mod0 (hm1.alloc (.cells #[.int .i64 0, .bool false, .int .u8 0, .int .u64 0, .int .u32 0, .int .u32 0, .int .u32 0, .int .u32 0, .int .u32 0, .int .u32 0, .int .u32 0, .int .u32 0, .slice none 0 0] 38))
        have z1 := blk_lt (hF.mod0 hm1).desk.desk
        clear c7' hget c6 c7
        go_wp2
        try rw [Exit.noGoto_ret]
        go_ret2
        exact fin _ hF1
end Go.Proofs.Ytfkhefoilancnaa
