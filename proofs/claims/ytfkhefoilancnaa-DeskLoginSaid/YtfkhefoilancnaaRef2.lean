/-
  The reference's Put: a message's bytes are those that the program makes of it.
-/
import Derived.WalkKit
import Derived.Handy
import Derived.BigQuiet
import Derived.Deep.QuietTactic
import Derived.Deep.RegionWith
import Derived.Deep.CutBlock
import Derived.Deep.CutRange
import Derived.Lib.Hide
import Derived.Test.YtfkhefoilancnaaRef1
namespace Go.Proofs.Ytfkhefoilancnaa
open Go.RowKit
def slen : Value → Nat
  | .slice _ n _ => n
  | _ => 0
theorem dig4 (v : Nat) : ((List.range 4).map fun j => UInt8.ofNat (v / 2 ^ (8 * (4 - 1 - j)))) = be4 v := by
  simp [be4, List.range_succ]
theorem dig3 (v : Nat) (h : v < 16777216) : (0 : UInt8) :: ((List.range 3).map fun j => UInt8.ofNat (v / 2 ^ (8 * (3 - 1 - j)))) = be4 v := by
  have e : v / 16777216 = 0 := by omega
  simp [be4, List.range_succ, e]
theorem dig8 : ((List.range 8).map fun j => UInt8.ofNat (0 / 2 ^ (8 * (8 - 1 - j)))) = be4 0 ++ be4 0 := by
  simp [be4, List.range_succ]
set_option maxRecDepth 100000 in
set_option maxHeartbeats 16000000 in
theorem put20_k (m : Ms) (hF : m.Fit) (data : List UInt8) (w : World) (hd : Rds w m.da m.dn (data.map By)) :
    Calls Try.prog 10 #[.agg m.cells] w fun e w' => ∃ ao cp, e = .returned (.tuple #[.slice ao (48 + m.dn + padN m.dn) cp, .int .i64 0]) ∧ w'.ownsRow w.heap.size 5 1 (.slice ao (48 + m.dn + padN m.dn) cp) (48 + m.dn + padN m.dn) ((m.enc data).map By) ∧ Mod [] w w' := by
  obtain ⟨op, fl, lun, tag, w0, w1, w2, w3, w4, w5, w6, da, dn, dc⟩ := m
  obtain ⟨hop, hfl, rfl, htag, hdn, hws⟩ := hF
  simp only at hop hfl htag hdn hd
  have hop64 : op < 64 := by
    simp only [opsL, List.mem_cons, List.not_mem_nil, or_false] at hop
    omega
  have hck := fun w => check20_k ⟨op, fl, 0, tag, w0, w1, w2, w3, w4, w5, w6, da, dn, dc⟩ hop hdn w
  have kop : IntKind.u8.wrap (op : Int) = (op : Int) := by rw [IntKind.wrap_u8]; omega
  have kdn : IntKind.u64.wrap (dn : Int) = (dn : Int) := IntWalk.u64_in _ (by omega)
  have ktag : IntKind.u64.wrap (tag : Int) = (tag : Int) := IntWalk.u64_in _ (by omega)
  simp only [Ms.cells]
  go_enter Try.func10, Try.ntmps10
  go_wp2_with fail
  refine (hck _).mono ?_
  rintro e v1 ⟨rfl, hm1⟩
  have hb1 := hm1.blk (blk_alloc w _ _) (by simp)
  have hmw : Mod [] w v1 := ((Mod.refl [] w).alloc _).then0 hm1
  have hv1w' : w.heap.size < v1.heap.size := blk_lt hb1
  clear hm1 hck
  have y0 : v1.cell? ⟨w.heap.size, 0, none⟩ = some (.int .i64 op) := blk_cell hb1 rfl
  have y1 : v1.cell? ⟨w.heap.size, 1, none⟩ = some (.bool false) := blk_cell hb1 rfl
  have y2 : v1.cell? ⟨w.heap.size, 2, none⟩ = some (.int .u8 fl) := blk_cell hb1 rfl
  have y12 : v1.cell? ⟨w.heap.size, 12, none⟩ = some (.slice da dn dc) := blk_cell hb1 rfl
  have z1 := blk_lt hb1
  go_wp2_with fail
  refine (put19_k dn 3 (by omega) _).mono ?_
  rintro e v2 ⟨a2, c2, rfl, ho2, hm2⟩
  have h3 := dig3 dn (by omega)
  generalize ((List.range 3).map fun j => UInt8.ofNat (dn / 2 ^ (8 * (3 - 1 - j)))) = L2 at ho2 h3
  replace h3 := Lib.hid h3
  have hA : Mod [] v1 (v1.alloc (.cells #[.int .u8 op, .int .u8 fl, .int .u8 0, .int .u8 0, .int .u8 0] 5)) := (Mod.refl _ _).alloc _
  have hm12 := hA.then0 hm2
  have hb2 := hm12.blk hb1 (by simp)
  have hmw2 := hmw.then0 hm12
  have hor2 : v2.ownsRow w.heap.size 5 1 (.slice (some ⟨v1.heap.size, 0, none⟩) 5 5) 5 (([UInt8.ofNat op, UInt8.ofNat fl, 0, 0, 0] : List UInt8).map By) := by
    have e : (([UInt8.ofNat op, UInt8.ofNat fl, 0, 0, 0] : List UInt8).map By) = [.int .u8 op, .int .u8 fl, .int .u8 0, .int .u8 0, .int .u8 0] := by
      simp only [List.map, By_of]
      have e1 : (op : Int) % 256 = op := by omega
      have e2 : (fl : Int) % 256 = fl := by omega
      rw [e1, e2]
      rfl
    rw [e]
    exact hm2.own0 (World.ownsRow_lit v1 #[.int .u8 op, .int .u8 fl, .int .u8 0, .int .u8 0, .int .u8 0] 5 hmw.size (by simp [maxLen]) rfl)
  obtain ⟨L1, hL1⟩ : ∃ L : List UInt8, L = [UInt8.ofNat op, UInt8.ofNat fl, 0, 0, 0] := ⟨_, rfl⟩
  rw [← hL1] at hor2
  replace hL1 := Lib.hid hL1
  clear y0 y1 y2 y12 z1 hb1 hA hm2 hm12 hmw
  have y3 : v2.cell? ⟨w.heap.size, 3, none⟩ = some (.int .u64 0) := blk_cell hb2 rfl
  have z2 := blk_lt hb2
  go_wp2_with fail
  refine (put19_k 0 8 (by omega) _).mono ?_
  rintro e v3 ⟨a3, c3, rfl, ho3, hm3⟩
  rw [dig8] at ho3
  obtain ⟨L3, hL3⟩ : ∃ L, L = be4 0 ++ be4 0 := ⟨_, rfl⟩
  rw [← hL3] at ho3
  replace hL3 := Lib.hid hL3
  have hsz23 := hm3.size
  have hb3 := hm3.blk hb2 (by simp)
  have hmw3 := hmw2.then0 hm3
  have hor3 := hm3.own0 hor2
  have ho23 := hm3.own0 ho2
  have hor2' := hor2
  clear y3 z2 hb2 hm3 hor2 ho2
  have y4 : v3.cell? ⟨w.heap.size, 4, none⟩ = some (.int .u32 tag) := blk_cell hb3 rfl
  have z3 := blk_lt hb3
  go_wp2_with fail
  refine (put19_k tag 4 (by omega) _).mono ?_
  rintro e v4 ⟨a4, c4, rfl, ho4, hm4⟩
  have hb4 := hm4.blk hb3 (by simp)
  have hmw4 := hmw3.then0 hm4
  have hor4 := hm4.own0 hor3
  have ho24 := hm4.own0 ho23
  have ho34 := hm4.own0 ho3
  rw [dig4] at ho4
  obtain ⟨L4, hL4⟩ : ∃ L, L = be4 tag := ⟨_, rfl⟩
  rw [← hL4] at ho4
  replace hL4 := Lib.hid hL4
  have hsz4 := hmw4.size
  have hsz2 := hmw2.size
  have hsz3 := hmw3.size
  clear y4 z3 hb3 hm4 hor3 ho23 ho3
  have hlt1 : v1.heap.size < v2.heap.size := (own_ge hor2' v1.heap.size (by simp [Value.ownBlock])).2
  have hne2 : ∀ t, t ∈ (Value.slice a3 8 c3).ownBlock.toList → v1.heap.size < t ∧ t < v4.heap.size := fun t ht => ⟨Nat.lt_of_lt_of_le hlt1 (own_ge ho34 t ht).1, (own_ge ho34 t ht).2⟩
  have hne3 : ∀ t, t ∈ (Value.slice a4 4 c4).ownBlock.toList → v1.heap.size < t ∧ t < v4.heap.size := fun t ht => ⟨by have := (own_ge ho4 t ht).1; omega, (own_ge ho4 t ht).2⟩
  have hv1w : w.heap.size < v1.heap.size := hv1w'
  go_wp2_with (at_builtin; refine wpList_catF v4 rfl (.tmp 40) (.tmp 41) 32 rfl w.heap.size 5 _ 1 Try.underlying32 info5 rfl (by decide) (.slice (some ⟨v1.heap.size, 0, none⟩) 5 5) 5 _ rfl hor4 a2 3 c2 _ rfl (by omega) (Rds.own ho24) (bytes_one _) (by omega) hsz4 ?_)
  intro a5 c5 v5 ho5 hm5 hf5
  replace ho5 := (show v5.ownsRow w.heap.size 5 1 (.slice a5 8 c5) 8 ((L1 ++ L2).map By) by simpa using ho5)
  have hmw5 : Mod [] w v5 := hmw4.trans hm5 (fun t ht => .inr (own_ge hor4 t ht).1)
  have hb5 := hm5.blk hb4 (own_off hor4 hb4 (by decide))
  have ho35 := hm5.own ho34 (fun g hg hin => by have := hne2 g (by simp [hg]); simp [Value.ownBlock] at hin; omega)
  have ho45 := hm5.own ho4 (fun g hg hin => by have := hne3 g (by simp [hg]); simp [Value.ownBlock] at hin; omega)
  have hf5' : ∀ t, t ∈ (Value.slice a5 8 c5).ownBlock.toList → t = v1.heap.size ∨ v4.heap.size ≤ t := fun t ht => by
    rcases hf5 t (by simpa using ht) with h1 | h1
    · simp [Value.ownBlock] at h1; exact .inl h1.symm
    · exact .inr h1
  have hsz5 := hmw5.size
  clear hm5 hf5 hb4 hor4 ho24 ho34 ho4
  go_wp2_with (at_builtin; refine wpList_catF v5 rfl (.tmp 43) (.tmp 44) 32 rfl w.heap.size 5 _ 1 Try.underlying32 info5 rfl (by decide) (.slice a5 8 c5) 8 _ rfl ho5 a3 8 c3 _ rfl (by omega) (Rds.own ho35) (bytes_one _) (by omega) hsz5 ?_)
  intro a6 c6 v6 ho6 hm6 _
  replace ho6 := (show v6.ownsRow w.heap.size 5 1 (.slice a6 16 c6) 16 (((L1 ++ L2) ++ L3).map By) by simpa using ho6)
  have hmw6 : Mod [] w v6 := hmw5.trans hm6 (fun t ht => .inr (own_ge ho5 t ht).1)
  have hb6 := hm6.blk hb5 (own_off ho5 hb5 (by decide))
  have ho46 := hm6.own ho45 (fun g hg hin => by have := hne3 g (by simp [hg]); have := hf5' g hin; omega)
  have hsz6 := hmw6.size
  clear hm6 hb5 ho5 ho35 ho45 hf5'
  go_wp2_with (at_builtin; refine wpList_catF v6 rfl (.tmp 46) (.tmp 47) 32 rfl w.heap.size 5 _ 1 Try.underlying32 info5 rfl (by decide) (.slice a6 16 c6) 16 _ rfl ho6 a4 4 c4 _ rfl (by omega) (Rds.own ho46) (bytes_one _) (by omega) hsz6 ?_)
  intro a7 c7 v7 ho7 hm7 _
  replace ho7 := (show v7.ownsRow w.heap.size 5 1 (.slice a7 20 c7) 20 ((((L1 ++ L2) ++ L3) ++ L4).map By) by simpa using ho7)
  have hmw7 : Mod [] w v7 := hmw6.trans hm7 (fun t ht => .inr (own_ge ho6 t ht).1)
  have hb7 := hm7.blk hb6 (own_off ho6 hb6 (by decide))
  clear hm7 hb6 ho6 ho46 hne2 hne3
  have ehd : (((L1 ++ L2) ++ L3) ++ L4 : List UInt8) = [UInt8.ofNat op, UInt8.ofNat fl, 0, 0] ++ [dn, 0, 0, tag].flatMap be4 := by
    have e1 : (L1 ++ L2 : List UInt8) = [UInt8.ofNat op, UInt8.ofNat fl, 0, 0] ++ be4 dn := by rw [← h3.out, hL1.out]; rfl
    rw [e1, hL3.out, hL4.out]
    simp [List.append_assoc]
  rw [ehd] at ho7
  go_wp2_with fail
  clear hlt1 hv1w hsz2 hsz3 hsz4 hsz5 hsz6 hsz23 hor2' ehd
  generalize hHD : ([UInt8.ofNat op, UInt8.ofNat fl, 0, 0] ++ [dn, 0, 0, tag].flatMap be4 : List UInt8) = HD at ho7
  replace hHD := Lib.hid hHD
  go_loopw [6, 10] (fun o i wr => ∃ (k : Nat) (ao : Option Addr) (cp : Nat), o = .slice ao (20 + 4 * k) cp ∧ i = .int .i64 k ∧ k ≤ 7 ∧ wr.ownsRow w.heap.size 5 1 (.slice ao (20 + 4 * k) cp) (20 + 4 * k) ((HD ++ ([w0, w1, w2, w3, w4, w5, w6].take k).flatMap be4).map By) ∧ Mod [] w wr ∧ wr.heap[w.heap.size]? = some (.cells #[.int .i64 op, .bool false, .int .u8 fl, .int .u64 0, .int .u32 tag, .int .u32 w0, .int .u32 w1, .int .u32 w2, .int .u32 w3, .int .u32 w4, .int .u32 w5, .int .u32 w6, .slice da dn dc] 38 (0, 0))) (fun _ i _ => 7 - (intOf i).toNat)
  case atStart => exact ⟨0, a7, c7, rfl, rfl, by omega, by simpa using ho7, hmw7, hb7⟩
  case round =>
    obtain ⟨k, ao, cp, rfl, rfl, hk, ho, hm, hb⟩ := hrel
    clear ho7 hmw7 hb7
    have r1 : (k : Int) ≤ 7 := by omega
    by_cases hk7 : k < 7
    · have r2 : (k : Int) < 7 := by omega
      obtain ⟨x, hx, hx32, hcx⟩ : ∃ x, [w0, w1, w2, w3, w4, w5, w6][k]? = some x ∧ x < 4294967296 ∧ wr.cell? ⟨w.heap.size, 5 + k, none⟩ = some (.int .u32 x) := by
        match k, hk7 with
        | 0, _ => exact ⟨w0, rfl, hws w0 (by simp [Ms.ws]), blk_cell hb rfl⟩
        | 1, _ => exact ⟨w1, rfl, hws w1 (by simp [Ms.ws]), blk_cell hb rfl⟩
        | 2, _ => exact ⟨w2, rfl, hws w2 (by simp [Ms.ws]), blk_cell hb rfl⟩
        | 3, _ => exact ⟨w3, rfl, hws w3 (by simp [Ms.ws]), blk_cell hb rfl⟩
        | 4, _ => exact ⟨w4, rfl, hws w4 (by simp [Ms.ws]), blk_cell hb rfl⟩
        | 5, _ => exact ⟨w5, rfl, hws w5 (by simp [Ms.ws]), blk_cell hb rfl⟩
        | 6, _ => exact ⟨w6, rfl, hws w6 (by simp [Ms.ws]), blk_cell hb rfl⟩
      have kx : IntKind.u64.wrap (x : Int) = (x : Int) := IntWalk.u64_in _ (by omega)
      have zb := blk_lt hb
      replace hx := Lib.hid hx
      go_wp2_with fail
      refine (put19_k x 4 (by omega) _).mono ?_
      rintro e u1 ⟨ax, cx, rfl, hox, hmx⟩
      rw [dig4] at hox
      have hou := hmx.own0 ho
      have hbu := hmx.blk hb (by simp)
      have hmu := hm.then0 hmx
      have hszu := hmu.size
      generalize hLk : HD ++ ([w0, w1, w2, w3, w4, w5, w6].take k).flatMap be4 = Lk at hou
      replace hLk := Lib.hid hLk
      obtain ⟨Lx, hLx⟩ : ∃ L, L = be4 x := ⟨_, rfl⟩
      rw [← hLx] at hox
      replace hLx := Lib.hid hLx
      clear ho hb hm hmx hcx zb
      go_wp2_with (at_builtin; refine wpList_catF u1 rfl (.tmp 59) (.tmp 60) 32 rfl w.heap.size 5 _ 1 Try.underlying32 info5 rfl (by decide) (.slice ao (20 + 4 * k) cp) (20 + 4 * k) _ rfl hou ax 4 cx _ rfl (by omega) (Rds.own hox) (bytes_one _) (by omega) hszu ?_)
      intro b1 d1 u2 ho2 hm2 _
      have hm3 : Mod [] w u2 := hmu.trans hm2 (fun t ht => .inr (own_ge hou t ht).1)
      have hb3 := hm2.blk hbu (own_off hou hbu (by decide))
      have e4 : 20 + 4 * k + 4 = 20 + 4 * (k + 1) := by omega
      have ho3 : u2.ownsRow w.heap.size 5 1 (.slice b1 (20 + 4 * (k + 1)) d1) (20 + 4 * (k + 1)) ((HD ++ ([w0, w1, w2, w3, w4, w5, w6].take (k + 1)).flatMap be4).map By) := by
        have h1 : u2.ownsRow w.heap.size 5 1 (.slice b1 (20 + 4 * k + 4) d1) (20 + 4 * k + 4) ((Lk ++ Lx).map By) := by simpa using ho2
        rw [e4, ← hLk.out, hLx.out, List.append_assoc] at h1
        have etk : ([w0, w1, w2, w3, w4, w5, w6].take k).flatMap be4 ++ be4 x = ([w0, w1, w2, w3, w4, w5, w6].take (k + 1)).flatMap be4 := by
          rw [List.take_add_one, hx.out, List.flatMap_append]
          simp
        rw [etk] at h1
        exact h1
      rw [e4]
      clear ho2 hm2 hou hox hmu hbu e4
      go_wp2
      go_roundw
      · exact ⟨k + 1, b1, d1, rfl, by go_num, by omega, ho3, hm3, hb3⟩
      · simp [intOf]; omega
    · obtain rfl : k = 7 := by omega
      clear hk7 hk r1
      have c12 : wr.cell? ⟨w.heap.size, 12, none⟩ = some (.slice da dn dc) := blk_cell hb rfl
      have zb := blk_lt hb
      have hdr := hd.mod0 hm
      have hsz := hm.size
      have e48 : 20 + 4 * 7 = 48 := rfl
      rw [e48] at ho
      generalize hLw : HD ++ ([w0, w1, w2, w3, w4, w5, w6].take 7).flatMap be4 = Lw at ho
      replace hLw := Lib.hid hLw
      go_wp2_with (at_builtin; refine wpList_cat wr rfl (.tmp 62) (.tmp 64) 32 rfl w.heap.size 5 _ 1 Try.underlying32 info5 rfl (by decide) (.slice ao 48 cp) 48 _ rfl ho da dn dc (data.map By) rfl hdr (bytes_one _) (by omega) hsz ?_)
      intro b1 d1 u2 ho2 hm2
      have hm3 : Mod [] w u2 := hm.trans hm2 (fun t ht => .inr (own_ge ho t ht).1)
      have ho3 : u2.ownsRow w.heap.size 5 1 (.slice b1 (48 + dn) d1) (48 + dn) ((Lw ++ data).map By) := by simpa using ho2
      clear ho2 hm2 ho hb hm c12 zb hdr hsz
      have hp4 : padN dn < 4 := by unfold padN; omega
      have hpd : padN dn = (4 - dn % 4) % 4 := rfl
      go_wp2_with fail
      go_loopw [6] (fun o wr => ∃ (j : Nat) (ao : Option Addr) (cp : Nat), o = .slice ao (48 + dn + j) cp ∧ j ≤ padN dn ∧ wr.ownsRow w.heap.size 5 1 (.slice ao (48 + dn + j) cp) (48 + dn + j) (((Lw ++ data) ++ List.replicate j 0).map By) ∧ Mod [] w wr) (fun o _ => padN dn + 48 + dn - slen o)
      case atStart => exact ⟨0, b1, d1, rfl, by omega, by simpa using ho3, hm3⟩
      case round =>
        obtain ⟨j, ao, cp, rfl, hj, ho, hm⟩ := hrel
        clear ho3 hm3
        by_cases hjp : j < padN dn
        · have q2 : ¬ (48 + (dn : Int) + (j : Int)).tmod 4 = 0 := by
            rw [Int.tmod_eq_emod_of_nonneg (by omega)]
            omega
          have q3 : ((48 + (dn : Int) + (j : Int)).tmod 4 == 0) = false := by simpa using q2
          have hsz := hm.size
          generalize hLj : (Lw ++ data) ++ List.replicate j (0 : UInt8) = Lj at ho
          replace hLj := Lib.hid hLj
          go_wp2_with (at_builtin; refine wpList_pushF (wr.alloc (.cells #[.int .u8 0] 5)) rfl (.tmp 70) (.tmp 71) 32 rfl w.heap.size 5 _ 1 1 Try.underlying32 info5 rfl (by omega) (by omega) (.slice ao (48 + dn + j) cp) (48 + dn + j) _ rfl (ho.alloc _) #[.int .u8 0] wr.heap.size 1 1 rfl (blk_alloc _ _ _) rfl (by simp [Value.oneCell']) (by omega) (by simp; omega) ?_)
          intro b2 d2 u3 ho4 hm4 _
          have hm5 : Mod [] w u3 := (hm.alloc _).trans hm4 (fun t ht => .inr (own_ge ho t ht).1)
          have ho5 : u3.ownsRow w.heap.size 5 1 (.slice b2 (48 + dn + (j + 1)) d2) (48 + dn + (j + 1)) (((Lw ++ data) ++ List.replicate (j + 1) 0).map By) := by
            have h0 : By 0 = .int .u8 0 := rfl
            have h1 : u3.ownsRow w.heap.size 5 1 (.slice b2 (48 + dn + j + 1) d2) (48 + dn + j + 1) ((Lj ++ [(0 : UInt8)]).map By) := by
              rw [List.map_append, List.map_cons, List.map_nil, h0]
              simpa using ho4
            rw [List.replicate_succ', ← List.append_assoc, hLj.out]
            exact h1
          clear ho4 hm4 ho
          have e5 : 48 + dn + j + 1 = 48 + dn + (j + 1) := by omega
          rw [e5]
          clear e5
          go_wp2
          go_roundw
          · exact ⟨j + 1, b2, d2, rfl, by omega, ho5, hm5⟩
          · simp [slen]; omega
        · obtain rfl : j = padN dn := by omega
          have q2 : (48 + (dn : Int) + (padN dn : Int)).tmod 4 = 0 := by
            rw [Int.tmod_eq_emod_of_nonneg (by omega)]
            omega
          have q3 : ((48 + (dn : Int) + (padN dn : Int)).tmod 4 == 0) = true := by simpa using q2
          go_wp2
          go_ret2
          refine ⟨ao, cp, rfl, ?_, hm⟩
          have e : (Ms.enc ⟨op, fl, 0, tag, w0, w1, w2, w3, w4, w5, w6, da, dn, dc⟩ data) = (Lw ++ data) ++ List.replicate (padN dn) 0 := by
            rw [← hLw.out, ← hHD.out]
            simp only [Ms.enc, Ms.ws, List.append_assoc, List.take]
          rw [e]
          exact ho
end Go.Proofs.Ytfkhefoilancnaa
