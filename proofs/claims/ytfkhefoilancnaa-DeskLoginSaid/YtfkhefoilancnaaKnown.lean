/-
  What the chapter's examples fix: the law's known answers true.
-/
import Derived.WalkKit
import Derived.Handy
import Derived.BigQuiet
import Derived.KernelRfl
import Derived.Lib.Hide
import Derived.Lib.SlBytesConst
import Derived.Deep.CutBlock
import Derived.Deep.CutRange
import Derived.Test.YtfkhefoilancnaaVol1
import Derived.Test.YtfkhefoilancnaaGet20
import Derived.Test.YtfkhefoilancnaaPhase
namespace Go.Proofs.Ytfkhefoilancnaa
open Go.RowKit
theorem make128 (w : World) : (Instr.makeSlice 32 (.int .i64 128) (.int .i64 128)).run Try.prog w = .ok (.slice (some ⟨w.heap.size, 0, none⟩) 128 128) (w.alloc (.cells (rowOf 128 fun _ => 0).toArray 5)) :=
  run_make_bytes w 32 5 Try.underlying32 info5' 128 (by simp) .i64 .i64
/-- A seven and noughts. -/
def two : List UInt8 := 7 :: List.replicate 127 0
def hey : List UInt8 := [104, 101, 121]
/-- A desk that was made here, and the world as it was but for new blocks. -/
structure Kn (s : Sh) (w wr : World) (N d : Nat) (G : Gh) : Prop where
  desk : DeskAt s wr d G
  mod : Mod [] w wr
  old : ∀ t, t ∈ d :: G.h :: G.gs → w.heap.size ≤ t
  low : ∀ t, t ∈ d :: G.gs → t < N
  size : N ≤ wr.heap.size
namespace Kn
variable {s : Sh} {w wr w' : World} {N d : Nat} {G G' : Gh}
theorem mod0 (h : Kn s w wr N d G) (hm : Mod [] wr w') : Kn s w w' N d G := ⟨h.desk.mod0 hm, h.mod.then0 hm, h.old, h.low, Nat.le_trans h.size hm.size⟩
theorem turn (h : Kn s w wr N d G) (hm : Mod (d :: G.gs) wr w') (hD : DeskAt s w' d G') (hh : G'.h = G.h) (hg : G'.gs = G.gs) : Kn s w w' N d G' := ⟨hD, h.mod.trans hm (fun _ ht => .inr (h.old _ (by
  rcases List.mem_cons.1 ht with e | e
  · simp [e]
  · simp [e]))), by rw [hh, hg]; exact h.old, by rw [hg]; exact h.low, Nat.le_trans h.size hm.size⟩
theorem gsMod (hm : Mod G.gs wr w') : Mod (d :: G.gs) wr w' := hm.mono (fun _ ht => List.mem_cons_of_mem _ ht)
/-- A block from N on stands. -/
theorem blk (h : Kn s w wr N d G) (hm : Mod (d :: G.gs) wr w') {g : Nat} {o : Obj} (ho : wr.heap[g]? = some o) (hg : N ≤ g) : w'.heap[g]? = some o := hm.blk ho (fun hin => by have := h.low g hin; omega)
theorem off (h : Kn s w wr N d G) {A : Option Addr} {n : Nat} (hA : ∀ a, A = some a → N ≤ a.block) : Off G.gs A n := fun a ha _ hin => by
  have := h.low a.block (List.mem_cons_of_mem _ hin)
  have := hA a ha
  omega
end Kn
theorem two_row : (rowOf 128 fun _ => 0).set 0 (.int .u8 7) = two.map By := by
  kernel_rfl
theorem Rds.list {w : World} {g : Nat} {xs : List Value} {t : TypeId} {fz : Nat × Nat} (h : w.heap[g]? = some (.cells xs.toArray t fz)) : Rds w (some ⟨g, 0, none⟩) xs.length xs := by
  refine ⟨rfl, fun _ => ⟨g, 0, rfl, (Array.getElem?_eq_some_iff.1 h).1, fun j u hj => ?_⟩⟩
  rw [Nat.zero_add]
  exact (cell_of_row w g j xs.toArray t fz h).trans (by simpa using hj)
/-- What a new desk is. -/
structure New1 (G : Gh) : Prop where
  ph : G.phase = 0
  wt : G.wait = []
  ct : G.count = ((0 : Nat) : Int)
  vol : ∀ j, view wh1 G.vol j = 0
  len : G.gs.length = 3
/-- The message that pings. -/
def pingMs (da : Option Addr) (dc : Nat) : Ms := ⟨0, 0, 0, 5, 0, 0, 0, 0, 0, 0, 0, da, 3, dc⟩
theorem pingMs_fit (da : Option Addr) (dc : Nat) : (pingMs da dc).Fit := ⟨by simp [pingMs, opsL], by simp [pingMs], rfl, by simp [pingMs], by simp [pingMs], by simp [pingMs, Ms.ws]⟩
theorem pingBack2_fit : (pingBack 5 2 none 3 0).Fit := ⟨by simp [pingBack, opsL], by simp [pingBack], rfl, by simp [pingBack], by simp [pingBack], by simp [pingBack, Ms.ws]⟩
set_option maxRecDepth 100000 in
set_option maxHeartbeats 4000000 in
theorem known_k (w : World) : Calls Try.prog 23 #[] w fun e w' => e = .returned (.bool true) ∧ Mod [] w w' := by
  have mk := make128
  go_enter Try.func23, Try.ntmps23
  go_wp2_with fail
  refine (shape_k _).mono ?_
  rintro e w1 ⟨rfl, hm1⟩
  go_wp2_with fail
  refine (new_1 ⟨#[120]⟩ _).mono ?_
  rintro e w2 ⟨d, h, cap, gs, rfl, hD2, hm2, hfr⟩
  have c0 : (w2.alloc (.cells (rowOf 128 fun _ => 0).toArray 5)).cell? ⟨w2.heap.size, 0, none⟩ = some (.int .u8 0) := blk_cell (blk_alloc _ _ _) rfl
  have f0 := blk_frozen (blk_alloc w2 (rowOf 128 fun _ => 0).toArray 5) 0
  go_upto_region 6 with fail
  clear c0 f0 mk
  have hK2 : ∃ G, New1 G ∧ Kn sh1 w w2 w2.heap.size d G := by
    refine ⟨_, ⟨rfl, rfl, rfl, fun _ => rfl, hD2.len⟩, hD2, hm1.then0 hm2, fun t ht => Nat.le_trans hm1.size (hfr t ht), fun t ht => ?_, Nat.le_refl _⟩
    rcases List.mem_cons.1 ht with e | e
    · rw [e]; exact blk_lt hD2.desk
    · obtain ⟨i, _, hc⟩ := hD2.gs_chunk e
      exact blk_lt hc
  clear hD2 hm1 hm2 hfr
  obtain ⟨G, hN, hK2⟩ := hK2
  have hKX := hK2.mod0 ((Mod.refl [] w2).alloc (.cells ((rowOf 128 fun _ => 0).set 0 (.int .u8 7)).toArray 5))
  have hRT := Rds.list (blk_alloc w2 ((rowOf 128 fun _ => 0).set 0 (.int .u8 7)).toArray 5)
  rw [two_row] at hRT hKX ⊢
  generalize hn : w2.heap.size = N0 at hRT hKX ⊢
  clear hK2
  generalize World.alloc w2 _ = X at hRT hKX ⊢
  clear hn
  go_wp2_with fail
  have hw3 := write42 X d G (fun _ => 0) hKX.desk (fun j _ => hN.vol j) 5 2 (by decide) (some ⟨N0, 0, none⟩) 128 two rfl hRT (by decide) (hKX.off (fun a ha => by cases ha; exact Nat.le_refl _))
  refine hw3.mono ?_
  rintro e w3 ⟨vol, rfl, hD3, hv3, hm3⟩
  have hK3 := hKX.turn (Kn.gsMod hm3) hD3 rfl rfl
  clear hw3 hD3 hm3 hKX hRT
  have hK3' := hK3.mod0 ((Mod.refl [] w3).alloc (.cells #[.int .u8 0, .int .u16 0] 70))
  have hb5 := blk_alloc w3 #[.int .u8 0, .int .u16 0] 70
  have hn5 : N0 ≤ w3.heap.size := hK3.size
  clear hK3
  go_wp2_with fail
  generalize w3.heap.size = n5 at hb5 hn5 ⊢
  generalize World.alloc w3 _ = V3 at hb5 hK3' ⊢
  refine (do_x_136_1 V3 d _ hK3'.desk 11 2 (by decide) (by decide) (by decide)).mono ?_
  rintro e w4 ⟨rfl, hm4⟩
  have hK4 := hK3'.mod0 hm4
  replace hb5 := hm4.blk hb5 (by simp)
  clear hK3' hm4
  have hK4' := hK4.mod0 ((Mod.refl [] w4).alloc (.cells #[.int .u8 5, .int .u16 8448] 70))
  have hb7 := blk_alloc w4 #[.int .u8 5, .int .u16 8448] 70
  replace hb5 := ((Mod.refl [] w4).alloc (.cells #[.int .u8 5, .int .u16 8448] 70)).blk hb5 (by simp)
  have hn7 : N0 ≤ w4.heap.size := hK4.size
  clear hK4
  go_wp2_with fail
  generalize w4.heap.size = n7 at hb7 hn7 ⊢
  generalize World.alloc w4 _ = V4 at hb5 hb7 hK4' ⊢
  refine (read40 V4 d _ _ hK4'.desk hv3 5 1 (by decide) 64 rfl).mono ?_
  rintro e w5 ⟨gb, rfl, hgb, hbb, hm5⟩
  have hK5 := hK4'.mod0 hm5
  replace hb5 := hm5.blk hb5 (by simp)
  replace hb7 := hm5.blk hb7 (by simp)
  have hgb' : N0 ≤ gb := Nat.le_trans hK4'.size hgb
  clear hK4' hm5 hgb
  have hA5 : Mod [] w5 (w5.alloc (.cells #[.int .u8 0, .int .u16 0] 70)) := (Mod.refl [] w5).alloc _
  have hK5' := hK5.mod0 hA5
  have hb9 := blk_alloc w5 #[.int .u8 0, .int .u16 0] 70
  replace hb5 := hA5.blk hb5 (by simp)
  replace hb7 := hA5.blk hb7 (by simp)
  replace hbb := hA5.blk hbb (by simp)
  have hn9 : N0 ≤ w5.heap.size := hK5.size
  clear hK5 hA5
  go_wp2_with fail
  generalize w5.heap.size = n9 at hb9 hn9 ⊢
  generalize World.alloc w5 _ = V5 at hb5 hb7 hbb hb9 hK5' ⊢
  obtain ⟨g2, hg2⟩ : ∃ g, (G.setVol vol).gs[2]? = some g := ⟨_, List.getElem?_eq_getElem (by rw [show (G.setVol vol).gs = G.gs from rfl, hN.len]; decide)⟩
  refine (chunk_k sh1 V5 d _ hK5'.desk 2 g2 hg2 (by decide) (by decide)).mono ?_
  rintro e w6 ⟨ca, cc, rfl, hoc, hm6⟩
  rw [show sh1.n = 256 from rfl] at hoc ⊢
  have hK6 := hK5'.mod0 hm6
  replace hb5 := hm6.blk hb5 (by simp)
  replace hb7 := hm6.blk hb7 (by simp)
  replace hb9 := hm6.blk hb9 (by simp)
  replace hbb := hm6.blk hbb (by simp)
  replace hoc := own_mono hoc hK5'.size
  clear hK5' hm6
  go_wp2_with fail
  refine (login25_k _).mono ?_
  rintro e w7 ⟨la, lc, rfl, hol, hm7⟩
  have hK7 := hK6.mod0 hm7
  replace hb5 := hm7.blk hb5 (by simp)
  replace hb7 := hm7.blk hb7 (by simp)
  replace hb9 := hm7.blk hb9 (by simp)
  replace hbb := hm7.blk hbb (by simp)
  replace hoc := hm7.own0 hoc
  clear hK6 hm7
  go_wp2_with fail
  have hcn : (G.setVol vol).count = ((0 : Nat) : Int) := hN.ct
  have hph : (G.setVol vol).phase < 2 := by rw [show (G.setVol vol).phase = G.phase from rfl, hN.ph]; decide
  have hf8 := feed_1 sh1 w7 d (G.setVol vol) { (G.setVol vol).counted 1 with phase := 1 } (loginMs none 0) nameA (loginOut 1 1) hK7.desk hph hN.wt (loginMs_fit _ _) rfl (.inr (by show (1 : Int) < 2; decide)) rfl (step_login sh1 d (G.setVol vol) 0 hcn (by decide) [] (by decide) (loginMs none 0) rfl (loginMs_fit _ _) rfl []) la lc 64 rfl (Rds.own hol)
  with_reducible refine hf8.mono ?_
  rintro e w8 ⟨oa, oc, wa, wc, rfl, hD8, ho8, hm8⟩
  rw [show (loginOut 1 1).length = 72 from rfl] at ho8 ⊢
  have hK8 := hK7.turn hm8 hD8 rfl rfl
  replace hb5 := hK7.blk hm8 hb5 hn5
  replace hb7 := hK7.blk hm8 hb7 hn7
  replace hb9 := hK7.blk hm8 hb9 hn9
  replace hbb := hK7.blk hm8 hbb hgb'
  replace hoc := hm8.own hoc (fun g hg hin => by
    have h1 := hK7.low g hin
    have h2 := (own_ge hoc g (by simp [hg])).1
    omega)
  clear hf8 hD8 hm8 hcn hph hol ho8
  have kc := fun (w : World) (C : Array Value) (n c : Nat) => Lib.run_convert_bytes_const (P := Try.prog) w 32 5 C n c Try.underlying32 Try.underlying5
  have hA8 : Mod [] w8 (w8.alloc (.cells #[.int .u8 104, .int .u8 101, .int .u8 121] 5 (3, 4))) := (Mod.refl [] w8).alloc _
  have hK8' := hK8.mod0 hA8
  replace hb5 := hA8.blk hb5 (by simp)
  replace hb7 := hA8.blk hb7 (by simp)
  replace hb9 := hA8.blk hb9 (by simp)
  replace hbb := hA8.blk hbb (by simp)
  replace hoc := hA8.own0 hoc
  have hrow : Rds (w8.alloc (.cells #[.int .u8 104, .int .u8 101, .int .u8 121] 5 (3, 4))) (some ⟨w8.heap.size, 0, none⟩) 3 (hey.map By) := Rds.list (heap_alloc_new w8 _)
  clear hK8
  go_wp2_with fail
  clear kc hA8
  have hp9 := put20_k (pingMs (some ⟨w8.heap.size, 0, none⟩) 3) (pingMs_fit _ _) hey _ hrow
  rw [show 48 + (pingMs (some ⟨w8.heap.size, 0, none⟩) 3).dn + padN (pingMs (some ⟨w8.heap.size, 0, none⟩) 3).dn = 52 from rfl] at hp9
  generalize World.alloc w8 _ = V8 at hb5 hb7 hb9 hbb hoc hK8' hp9 ⊢
  refine hp9.mono ?_
  rintro e w9 ⟨pa, pc, rfl, hop, hm9⟩
  have hK9 := hK8'.mod0 hm9
  replace hb5 := hm9.blk hb5 (by simp)
  replace hb7 := hm9.blk hb7 (by simp)
  replace hb9 := hm9.blk hb9 (by simp)
  replace hbb := hm9.blk hbb (by simp)
  replace hoc := hm9.own0 hoc
  clear hK8' hm9 hp9 hrow
  go_wp2_with fail
  have hf10 := feed_1 sh1 w9 d ({ (G.setVol vol).counted 1 with phase := 1 }.waits wa wc []) ({ (G.setVol vol).counted 1 with phase := 1 }.waits wa wc [] |>.counted 2) (pingMs none 0) hey (pingOut 5 2 hey) hK9.desk (by show (1 : Int) < 2; decide) rfl (pingMs_fit _ _) rfl (.inr (by show (1 : Int) < 2; decide)) rfl (step_ping sh1 d ({ (G.setVol vol).counted 1 with phase := 1 }.waits wa wc []) 1 rfl (by decide) rfl [] (by decide) (pingMs none 0) rfl (pingMs_fit _ _) hey []) pa pc 52 rfl (Rds.own hop)
  with_reducible refine hf10.mono ?_
  rintro e w10 ⟨qa, qc, va, vc, rfl, hD10, ho10, hm10⟩
  rw [show (pingOut 5 2 hey).length = 52 from rfl] at ho10 ⊢
  have hK10 := hK9.turn hm10 hD10 rfl rfl
  replace hb5 := hK9.blk hm10 hb5 hn5
  replace hb7 := hK9.blk hm10 hb7 hn7
  replace hb9 := hK9.blk hm10 hb9 hn9
  replace hbb := hK9.blk hm10 hbb hgb'
  replace hoc := hm10.own hoc (fun g hg hin => by
    have h1 := hK9.low g hin
    have h2 := (own_ge hoc g (by simp [hg])).1
    omega)
  clear hf10 hD10 hm10 hK9 hop
  go_wp2_with fail
  have henc := (pingBack2_fit).enc hey rfl []
  rw [List.append_nil] at henc
  have hcap : 52 ≤ qc := by
    rcases ho10.2 with ⟨_, h2⟩ | ⟨g, cap, cur, h1, _, _, hc1, _⟩
    · cases h2
    · injection h1 with _ _ h3
      omega
  have hg11 := get20_k w10 qa 52 qc (pingOut 5 2 hey) (Rds.own ho10) (by decide) hcap _ _ _ _ _ henc
  rw [show ((pingOut 5 2 hey).drop 48).take (pingBack 5 2 none 3 0).dn = hey from rfl, show (pingBack 5 2 none 3 0).dn = 3 from rfl, show (48 : Int) + ((3 : Nat) : Int) + ((padN 3 : Nat) : Int) = 52 from rfl] at hg11
  refine hg11.mono ?_
  rintro e w11 ⟨ha, hc, rfl, hah, _, hm11⟩
  rw [show gotCells (pingBack 5 2 none 3 0).op (pingBack 5 2 none 3 0).fl (pingBack 5 2 none 3 0).tag (fun i => (pingBack 5 2 none 3 0).ws.getD i 0) 7 (.slice ha 3 hc) = #[.int .i64 32, .bool false, .int .u8 128, .int .u64 0, .int .u32 5, .int .u32 2, .int .u32 0, .int .u32 0, .int .u32 0, .int .u32 0, .int .u32 0, .int .u32 0, .slice ha 3 hc] from rfl]
  have hA11 : Mod [] w10 (w11.alloc (.cells #[.int .i64 32, .bool false, .int .u8 128, .int .u64 0, .int .u32 5, .int .u32 2, .int .u32 0, .int .u32 0, .int .u32 0, .int .u32 0, .int .u32 0, .int .u32 0, .slice ha 3 hc] 38)) := hm11.alloc _
  have hK11 := hK10.mod0 hA11
  replace hb5 := hA11.blk hb5 (by simp)
  replace hb7 := hA11.blk hb7 (by simp)
  replace hb9 := hA11.blk hb9 (by simp)
  replace hbb := hA11.blk hbb (by simp)
  replace hoc := hA11.own0 hoc
  have hbm := blk_alloc w11 #[.int .i64 32, .bool false, .int .u8 128, .int .u64 0, .int .u32 5, .int .u32 2, .int .u32 0, .int .u32 0, .int .u32 0, .int .u32 0, .int .u32 0, .int .u32 0, .slice ha 3 hc] 38
  have hahV := hah.mod0 ((Mod.refl [] w11).alloc (.cells #[.int .i64 32, .bool false, .int .u8 128, .int .u64 0, .int .u32 5, .int .u32 2, .int .u32 0, .int .u32 0, .int .u32 0, .int .u32 0, .int .u32 0, .int .u32 0, .slice ha 3 hc] 38))
  clear hg11 henc hK10 hA11 hah hm11 ho10
  go_upto_region 14 with fail
  generalize w11.heap.size = nm at hbm ⊢
  generalize World.alloc w11 _ = V at hb5 hb7 hb9 hbb hoc hbm hahV hK11 ⊢
  obtain ⟨cb, rfl, _, hcl, _⟩ := own_block hoc (by decide)
  have s50 : V.cell? ⟨n5, 0, none⟩ = some (.int .u8 0) := blk_cell hb5 rfl
  have s51 : V.cell? ⟨n5, 1, none⟩ = some (.int .u16 0) := blk_cell hb5 rfl
  have s70 : V.cell? ⟨n7, 0, none⟩ = some (.int .u8 5) := blk_cell hb7 rfl
  have s71 : V.cell? ⟨n7, 1, none⟩ = some (.int .u16 8448) := blk_cell hb7 rfl
  have s90 : V.cell? ⟨n9, 0, none⟩ = some (.int .u8 0) := blk_cell hb9 rfl
  have s91 : V.cell? ⟨n9, 1, none⟩ = some (.int .u16 0) := blk_cell hb9 rfl
  have sb : V.cell? ⟨gb, 0, none⟩ = some (.int .u8 7) := blk_cell hbb rfl
  have e64 : vol 2 64 = 7 := (hv3 320 (by decide)).trans rfl
  have sc : V.cell? ⟨cb, 64, none⟩ = some (.int .u8 7) := by
    have h1 := hoc.cellAt 64 (by decide)
    have h2 : (rowOf 256 ((G.setVol vol).vol 2))[64]? = some (.int .u8 7) := by
      rw [rowOf_get, if_pos (by decide), show (G.setVol vol).vol 2 64 = 7 from e64]
      rfl
    exact h1.trans h2
  have z5 := blk_lt hb5
  have z7 := blk_lt hb7
  have z9 := blk_lt hb9
  have zb := blk_lt hbb
  have zm := blk_lt hbm
  have m0 : V.cell? ⟨nm, 0, none⟩ = some (.int .i64 32) := blk_cell hbm rfl
  have m5 : V.cell? ⟨nm, 5, none⟩ = some (.int .u32 2) := blk_cell hbm rfl
  have m12 : V.cell? ⟨nm, 12, none⟩ = some (.slice ha 3 hc) := blk_cell hbm rfl
  have kc : (convert 32 9 (.slice ha 3 hc)).run Try.prog V = .ok (.string ⟨#[104, 101, 121]⟩) V := conv_bytes V ha 3 hc hey hahV
  clear e64 hv3 hb5 hb7 hb9 hbb hoc hbm hahV
  go_wp2_with fail
  refine (phase_k sh1 V d _ hK11.desk).mono ?_
  rintro e w12 ⟨rfl, hw⟩
  obtain rfl := hw.symm
  go_wp2
  go_ret
  exact ⟨rfl, hK11.mod⟩
end Go.Proofs.Ytfkhefoilancnaa
