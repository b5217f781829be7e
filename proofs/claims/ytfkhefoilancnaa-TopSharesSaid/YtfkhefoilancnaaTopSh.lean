/-
  TopShares answers true at every input, and changes nothing that was there.
-/
import Derived.WalkKit
import Derived.Handy
import Derived.BigQuiet
import Derived.Deep.QuietTactic
import Derived.Deep.RegionLaw
import Derived.Deep.RegionWith
import Derived.Deep.RegionHeld3
import Derived.Deep.CutBlock
import Derived.Deep.CutRange
import Derived.Lib.Hide
import Derived.Test.YtfkhefoilancnaaHold2
import Derived.Test.YtfkhefoilancnaaArgs
import Derived.Test.YtfkhefoilancnaaDrr1
import Derived.Test.YtfkhefoilancnaaNew
import Derived.Test.YtfkhefoilancnaaPop
namespace Go.Proofs.Ytfkhefoilancnaa
open Go.RowKit
set_option maxRecDepth 100000 in
set_option maxHeartbeats 16000000 in
theorem topShares_walk (A : Option Addr) (n c : Nat) (shl : List Int) (B : Option Addr) (m c' : Nat) (l : List (Int × Ord)) (W : World) (hsh : Rds W A n (shl.map (Value.int .i64))) (hl : JobsIn W B m l) :
    Calls Try.prog 7 #[.slice A n c, .slice B m c'] W fun e w' => e = .returned (.bool true) ∧ Mod [] W w' := by
  obtain ⟨v0, hv0⟩ : ∃ v, v = mo (shl.getD 0 0) 50 := ⟨_, rfl⟩
  obtain ⟨v1, hv1⟩ : ∃ v, v = mo (shl.getD 1 0) 50 := ⟨_, rfl⟩
  obtain ⟨v2, hv2⟩ : ∃ v, v = mo (shl.getD 2 0) 50 := ⟨_, rfl⟩
  have b0 := mo_lt (shl.getD 0 0) 50 (by omega)
  have b1 := mo_lt (shl.getD 1 0) 50 (by omega)
  have b2 := mo_lt (shl.getD 2 0) 50 (by omega)
  rw [← hv0] at b0
  rw [← hv1] at b1
  rw [← hv2] at b2
  have hc0 := at_k W A n c 0 shl hsh
  have hc1 := at_k W A n c 1 shl hsh
  have hc2 := at_k W A n c 2 shl hsh
  have hm0 := mod_k (shl.getD 0 0) 50 (by omega) (by omega) W
  have hm1 := mod_k (shl.getD 1 0) 50 (by omega) (by omega) W
  have hm2 := mod_k (shl.getD 2 0) 50 (by omega) (by omega) W
  rw [← hv0] at hm0
  rw [← hv1] at hm1
  rw [← hv2] at hm2
  clear hv0 hv1 hv2
  generalize shl.getD 0 0 = a0 at *
  generalize shl.getD 1 0 = a1 at *
  generalize shl.getD 2 0 = a2 at *
  have kw0 : IntKind.i64.wrap (30 + (v0 : Int)) = 30 + (v0 : Int) := IntWalk.i64_in _ (by omega)
  have kw1 : IntKind.i64.wrap (30 + (v1 : Int)) = 30 + (v1 : Int) := IntWalk.i64_in _ (by omega)
  have kw2 : IntKind.i64.wrap (30 + (v2 : Int)) = 30 + (v2 : Int) := IntWalk.i64_in _ (by omega)
  have kx0 : wrap64 (30 + (v0 : Int)) = 30 + (v0 : Int) := IntWalk.wrap64_in _ (by omega)
  have kx1 : wrap64 (30 + (v1 : Int)) = 30 + (v1 : Int) := IntWalk.wrap64_in _ (by omega)
  have kx2 : wrap64 (30 + (v2 : Int)) = 30 + (v2 : Int) := IntWalk.wrap64_in _ (by omega)
  go_enter Try.func7, Try.ntmps7
  go_wp2_with fail
  refine hc0.mono ?_
  rintro e w1 ⟨rfl, hw⟩
  obtain rfl := hw.symm
  go_wp2_with fail
  refine hm0.mono ?_
  rintro e w1 ⟨rfl, hw⟩
  obtain rfl := hw.symm
  go_wp2_with fail
  refine hc1.mono ?_
  rintro e w1 ⟨rfl, hw⟩
  obtain rfl := hw.symm
  go_wp2_with fail
  refine hm1.mono ?_
  rintro e w1 ⟨rfl, hw⟩
  obtain rfl := hw.symm
  go_wp2_with fail
  refine hc2.mono ?_
  rintro e w1 ⟨rfl, hw⟩
  obtain rfl := hw.symm
  go_wp2_with fail
  refine hm2.mono ?_
  rintro e w1 ⟨rfl, hw⟩
  obtain rfl := hw.symm
  go_wp2_with fail
  clear hc0 hc1 hc2 hm0 hm1 hm2 kw0 kw1 kw2 kx0 kx1 kx2
  refine (drrNew_3 (30 + (v0 : Int)) (30 + (v1 : Int)) (30 + (v2 : Int)) (by omega) (by omega) (by omega) W.heap.size _ (blk_alloc W _ _)).mono ?_
  rintro e w1 ⟨rfl, hmN, hSs, hSf⟩
  have hsb := hmN.blk (blk_alloc W _ _) (by simp)
  have hmW : Mod [] W w1 := ((Mod.refl [] W).alloc _).then0 hmN
  have hz1 : W.heap.size + 1 = (W.alloc (.cells #[.int .i64 (30 + (v0 : Int)), .int .i64 (30 + (v1 : Int)), .int .i64 (30 + (v2 : Int))] 3)).heap.size := by simp
  rw [← hz1] at hSs hSf
  clear hz1
  go_wp2_with fail
  refine (small_k _).mono ?_
  rintro e w2 ⟨rfl, hm2⟩
  have hsb2 := hm2.blk hsb (by simp)
  have hSs2 := hm2.blk hSs (by simp)
  have hSf2 := hm2.blk hSf (by simp)
  have hmW2 := hmW.then0 hm2
  clear hsb hSs hSf hmW hm2 hmN
  go_wp2_with fail
  refine (new_2 _ _).mono ?_
  rintro e w3 ⟨d, dh, dcap, gs, rfl, hD, hm3, hDn⟩
  have hsb3 := hm3.blk hsb2 (by simp)
  have hSs3 := hm3.blk hSs2 (by simp)
  have hSf3 := hm3.blk hSf2 (by simp)
  have hmW3 := hmW2.then0 hm3
  have hDn' : ∀ t, t ∈ d :: dh :: gs → W.heap.size ≤ t := fun t ht => Nat.le_trans hmW2.size (hDn t ht)
  clear hsb2 hSs2 hSf2 hmW2 hm3 hDn
  go_wp2_with fail
  have hP0 := pushInv_new W w3 d _ v0 v1 v2 hmW3 hsb3 hSs3 hSf3 hD hDn' rfl
  have hQ0 := pushPl_new (W.heap.size + 1) (min m 60) (shares v0 v1 v2) (shares_le v0 v1 v2 b0 b1 b2)
  have hV0 : ∀ j, j < 2560 → view wh2 (fun _ _ => 0) j = (fun _ => 0 : Nat → UInt8) j := fun _ _ => rfl
  have hNe : (min (m : Int) 60) = ((min m 60 : Nat) : Int) := by omega
  rw [hNe]
  have hN1 : min m 60 ≤ m := Nat.min_le_left _ _
  have hN2 : min m 60 ≤ 60 := Nat.min_le_right _ _
  clear hNe hsb3 hSs3 hSf3 hmW3
  generalize hD0 : ({ h := dh, cap := dcap, gs := gs, name := _, vol := fun _ _ => 0, phase := 0, wa := none, wc := 0, wait := [], count := 0 } : Gh) = D at hP0 hD
  generalize min m 60 = N at *
  generalize hs : W.heap.size + 1 + 1 = s at *
  generalize w3.heap.size = wb at *
  go_loopw [12] (fun i wr => ∃ (k : Nat) (G : Sg) (wv : Nat → Value) (wl : Nat → List Nat), i = .int .i64 k ∧ k ≤ N ∧ PushInv W wr s G d D W.heap.size wb (shares v0 v1 v2) wv wl ∧ PushPl N k (shares v0 v1 v2) G.pu wl) (fun i _ => N - (intOf i).toNat)
  case atStart => exact ⟨0, _, _, _, rfl, by omega, hP0, hQ0⟩
  case round =>
    obtain ⟨k, G, wv, wl, rfl, hk, hI, hQ⟩ := hrel
    clear hP0 hQ0 hD
    have q1 : (k : Int) ≤ N := by omega
    by_cases hlt : k < N
    · as_aux_lemma =>
        have q2 : (k : Int) < N := by omega
        have q3 : (k : Int) < m := by omega
        obtain ⟨q, hq⟩ : ∃ q, l[k]? = some q := ⟨l[k]'(by rw [hl.len]; omega), List.getElem?_eq_getElem _⟩
        obtain ⟨jb, jo, rfl, hjb, j0, j1, j2, j3, j4, j5⟩ := (hl.mod0 hI.base.mod).get k q hq
        go_wp2_with fail
        refine (mod_k _ 3 (by omega) (by omega) _).mono ?_
        rintro e w4 ⟨rfl, hw⟩
        obtain rfl := hw.symm
        have hi := mo_lt q.1 3 (by omega)
        generalize mo q.1 3 = i at *
        go_wp2_with fail
        refine (cmd_k q.2 _).mono ?_
        rintro e w5 ⟨ba, bc, rfl, hba, hbc, hbn, hbr, hm5⟩
        clear hba hbc hbn hbr
        have hI5 := hI.mod0 hm5
        clear hI hm5 j0 j1 j2 j3 j4 j5
        have hmlt := q.2.m_lt
        have hcm : q.2.cmd = .agg #[.int .i64 q.2.op, .int .u64 q.2.x, .int .i64 q.2.m, .int .i64 0] := rfl
        rw [hcm]
        clear hcm
        go_wp2_with fail
        have ec : (1 : Int) + (q.2.m : Int) = ((1 + q.2.m : Nat) : Int) := by omega
        rw [ec]
        have hsN := hQ.sane
        have hgn : G.n = k := hQ.n
        have hX := fun o => hI5.mod0 ((Mod.refl [] w5).alloc o)
        refine (push_k s G i (1 + q.2.m) k hi (by omega) (by omega) (hsN.ok.len i) (hsN.ok.rlen) _ (hX _).base.sched).mono ?_
        rintro e w6 ⟨rfl, ja, jc, ra, rc, hS6, hm6, hr6, hn6⟩
        have hI6 := (hX _).turned hm6 hS6 hn6 hr6
        have hQ6 := hQ.push (c := 1 + q.2.m) hi (by omega) hlt hN2
        rw [← Sg.pushed_pu G i ⟨i, 1 + q.2.m, k⟩ ja jc ra rc] at hQ6
        generalize G.pushed i ⟨i, 1 + q.2.m, k⟩ ja jc ra rc = G6 at hI6 hQ6
        clear hX hS6 hm6 hr6 hn6 hI5 ec
        have hw6 := tri_cell hI6.base.wait hi
        have hz6 := blk_lt hI6.base.wait
        have hzW : W.heap.size ≤ w6.heap.size := hI6.base.mod.size
        have k1 : (i : Int) < 3 := by omega
        have hlen6 : (wl i).length ≤ 60 := by
          have h1 := (hsN.ok.len i)
          have h2 := hQ.wl i
          have h3 := hsN.n
          have h4 := hsN.cnt
          rw [h2, List.length_map]
          rcases lt3 hi with rfl | rfl | rfl <;> omega
        go_wp2_with (at_builtin; refine wpList_pushF (w6.alloc (.cells #[.int .i64 k] 3)) rfl (.tmp 104) (.tmp 106) 23 rfl W.heap.size 3 _ 1 8 Try.underlying23 info3 rfl (by omega) (by omega) (wv i) (wl i).length (rnd (wl i)) rfl ((hI6.rows i hi).alloc _) #[.int .i64 k] w6.heap.size 1 1 rfl (blk_alloc _ _ _) rfl (by simp [Value.oneCell']) (by omega) (by simp; omega) ?_)
        intro ao cp w7 hown7 hm7 hfr7
        have hA7 : Mod [] w6 (w6.alloc (.cells #[.int .i64 k] 3)) := (Mod.refl [] w6).alloc _
        have hw7 := hm7.blk (hA7.blk hI6.base.wait (by simp)) (own_off (hI6.rows i hi) hI6.base.wait (by decide))
        have f7 := blk_frozen hw7 i
        have z7 := blk_lt hw7
        have c7 := tri_cell hw7 hi
        have hI8 := (hI6.mod0 hA7).waits hi k ao cp (by simpa [rnd] using hown7) hm7 (fun g hg => (hfr7 g hg).imp id (fun h => by simpa using h))
        clear hown7 hm7 hfr7 hw6 hz6 hzW hI6 hA7
        go_wp2
        go_roundw
        · exact ⟨k + 1, _, _, _, by go_num, by omega, hI8, hQ6⟩
        · simp [intOf]; omega
    · as_aux_lemma =>
        obtain rfl : k = N := by omega
        clear hlt hk q1
        have hD00 : ∀ j, j < 2560 → view wh2 D.vol j = 0 := by rw [← hD0]; exact hV0
        have hJ0 := popInv_new hI hD00
        have hR0 := popPl_new hQ
        have hjl : JobsIn W B m l := hl
        clear hD0 hV0 hI hQ hD00 hl
        go_wp2_with fail
        generalize wr.heap.size = ab at *
        generalize hpb : ab + 1 = pb at *
        generalize hfb : pb + 1 = fb at *
        clear hpb hfb
        generalize hXw : World.alloc _ _ = X at hJ0 ⊢
        clear hXw
        go_loopw [19] (fun i wr => ∃ (r : Nat) (G : Sg) (D : Gh) (wv : Nat → Value) (wl : Nat → List Nat) (f : Nat → UInt8) (sp : Nat → Int) (F : Nat → Bool), i = .int .i64 r ∧ r ≤ k ∧ PopInv W wr s G d D W.heap.size wb ab pb fb (shares v0 v1 v2) wv wl f sp F ∧ PopPl k r (shares v0 v1 v2) G.pu wl sp F) (fun i _ => k - (intOf i).toNat)
        case atStart => exact ⟨0, _, _, _, _, _, _, _, rfl, by omega, hJ0, hR0⟩
        case round =>
          obtain ⟨r, G, D, wv, wl, f, sp, F, rfl, hr, hI, hQ⟩ := hrel
          clear hJ0 hR0
          have q1 : (r : Int) ≤ k := by omega
          by_cases hlt : r < k
          · as_aux_lemma =>
              have q2 : (r : Int) < k := by omega
              have hnz : G.n ≠ 0 := by have h1 : G.n + r = k := hQ.n; omega
              go_wp2_with fail
              refine (pop_k s G hQ.sane.ok (hQ.sane.ne hnz) hnz _ hI.base.sched).mono ?_
              rintro e w4 hpost
              obtain ⟨G', i, rest, j, js, rfl, hS4, hr4, hj4, hpu4, hm4, hrv4, hsub4⟩ := hpost
              have hI4 := hI.popped hm4 hS4 hsub4 hrv4
              obtain ⟨hi, hjf, hjc1, hjc2, hji, hwl, hQ4, hchk⟩ := hQ.pop hlt hr4 hj4
              rw [← hpu4] at hQ4
              clear hr4 hj4 hpu4 hm4 hrv4 hsub4 hS4 hI hnz
              subst hjf
              go_wp2_with fail
              have hA5 : Mod [] w4 (w4.alloc (.cells #[.int .i64 j.f, .int .i64 j.c, .int .u64 j.i] 95)) := (Mod.refl [] w4).alloc _
              have hI5 := hI4.mod0 hA5
              have hjb := blk_alloc w4 #[.int .i64 j.f, .int .i64 j.c, .int .u64 j.i] 95
              generalize w4.alloc (.cells #[.int .i64 j.f, .int .i64 j.c, .int .u64 j.i] 95) = V at hA5 hI5 hjb ⊢
              clear hA5 hI4
              generalize w4.heap.size = jk at *
              have e0 := blk_cell (i := 0) hjb rfl
              have e1 := blk_cell (i := 1) hjb rfl
              have e2 := blk_cell (i := 2) hjb rfl
              have zj := blk_lt hjb
              obtain ⟨A1, cap, hv, hcap, hx⟩ := hI5.rows j.f hi
              rw [hwl] at hv hcap hx
              simp only [List.length_cons, List.length_map] at hv hcap
              obtain ⟨g, off, cur, rfl, hg, hb, hc⟩ := hx (by simp)
              have hc0 := hc 0 j.i rfl
              have e3 : V.cell? ⟨g, off, none⟩ = some (.int .i64 j.i) := blk_cell hb hc0
              have e4 := tri_cell hI5.base.wait hi
              rw [hv] at e4
              have zg := blk_lt hb
              have zw := blk_lt hI5.base.wait
              clear hx hc hc0
              have k1 : ¬ (j.f : Int) < 0 := by omega
              have k2 : ¬ (2 : Int) < (j.f : Int) := by omega
              have k3 : (j.f : Int) < 3 := by omega
              have k4 : ¬ ((js.length + 1 : Nat) : Int) = 0 := by omega
              have k5 : ¬ (js.length : Int) + 1 = 0 := by omega
              have k5' : ((js.length : Int) + 1 == 0) = false := by simp; omega
              have k6 : IntKind.i64.wrap (j.i : Int) = (j.i : Int) := IntWalk.i64_in _ (by omega)
              have k7 : cap ≠ 0 := by omega
              go_quiet (fail)
              go_upto_region 25 with fail
              generalize hV2 : World.drewN V _ = V2
              have hmV2 : Mod [] V V2 := by rw [← hV2]; exact (Mod.refl [] _).drewN _
              clear hV2
              have hI6 := hI5.mod0 hmV2
              have hjb6 := hmV2.blk hjb (by simp)
              have hb6 := hmV2.blk hb (by simp)
              clear hjb hb e0 e1 e2 e3 e4 zj zg zw hI5 hmV2 k4 k5 k5' k6 k7
              have e0 := blk_cell (i := 0) hjb6 rfl
              have e1 := blk_cell (i := 1) hjb6 rfl
              have zj := blk_lt hjb6
              have e4 := tri_cell hI6.base.wait hi
              rw [hv] at e4
              have f4 := blk_frozen hI6.base.wait j.f
              have zw := blk_lt hI6.base.wait
              obtain ⟨ad, had, hE⟩ := tail_23 g off js.length cap hcap
              go_region
              go_upto_region 26 with fail
              have hlm : (js.map Jb.i).length = js.length := by simp
              have hA7 : js.map Jb.i ≠ [] → some ad = some (⟨g, off + 1, none⟩ : Addr) := by
                intro h
                have h1 : 1 ≤ js.length := by
                  rcases Nat.eq_zero_or_pos js.length with h0 | h0
                  · exact absurd (by rw [List.eq_nil_of_length_eq_zero h0]; rfl) h
                  · exact h0
                rw [had h1]
              have hI7 := (hI6.gone (xs := js.map Jb.i) hi hwl (by rw [hlm]; exact hv) (A' := some ad) hA7 (cap - 1) (by rw [hlm]; omega)).mod0 (Mod.refl [] _).drew
              have hjb7 := ((mod_set V2 wb j.f (.slice (some ad) (js.map Jb.i).length (cap - 1))).drew).blk hjb6 (PopInv.ne_ty hjb6 hI6.base.wait (by decide))
              rw [hlm] at hI7 hjb7
              generalize (V2.setCell ⟨wb, j.f, none⟩ (.slice (some ad) js.length (cap - 1))).drew = V3 at hI7 hjb7 ⊢
              generalize put wv j.f (.slice (some ad) js.length (cap - 1)) = wv7 at hI7
              clear hI6 hjb6 hb6 e0 e1 e4 f4 zj zw hE had hv hA7
              have hspb := hQ.spb j.f
              generalize hwl7 : put wl j.f (js.map Jb.i) = wl7 at *
              have e0 := blk_cell (i := 0) hjb7 rfl
              have zj := blk_lt hjb7
              have f4 := blk_frozen hI7.first j.f
              have e5 := tri_cell hI7.first hi
              have zf := blk_lt hI7.first
              go_upto_region 27 with fail
              have hI8 := hI7.setFirst hi
              have hjb8 := (mod_set V3 fb j.f (.bool true)).blk hjb7 (PopInv.ne_ty hjb7 hI7.first (by decide))
              generalize V3.setCell ⟨fb, j.f, none⟩ (.bool true) = V4 at hI8 hjb8 ⊢
              generalize hF7 : put F j.f true = F7 at *
              clear hI7 hjb7 e0 zj f4 e5 zf
              have e0 := blk_cell (i := 0) hjb8 rfl
              have e1 := blk_cell (i := 1) hjb8 rfl
              have zj := blk_lt hjb8
              have f4 := blk_frozen hI8.spent j.f
              have e5 := tri_cell hI8.spent hi
              have zf := blk_lt hI8.spent
              have kw : IntKind.i64.wrap (sp j.f + (j.c : Int)) = sp j.f + (j.c : Int) := IntWalk.i64_in _ (by omega)
              have kx : wrap64 (sp j.f + (j.c : Int)) = sp j.f + (j.c : Int) := IntWalk.wrap64_in _ (by omega)
              go_region
              go_upto_region 28 with fail
              have hI9 := (hI8.setSpent hi (sp j.f + (j.c : Int))).mod0 (Mod.refl [] _).drew
              have hjb9 := ((mod_set V4 pb j.f (.int .i64 (sp j.f + (j.c : Int)))).drew).blk hjb8 (PopInv.ne_ty hjb8 hI8.spent (by decide))
              generalize (V4.setCell ⟨pb, j.f, none⟩ (.int .i64 (sp j.f + (j.c : Int)))).drew = V5 at hI9 hjb9 ⊢
              generalize hsp7 : put sp j.f (sp j.f + (j.c : Int)) = sp7 at *
              clear hI8 hjb8 e0 e1 zj f4 e5 zf kw kx hQ hspb
              go_wp2_with fail
              go_loopw [22] (fun i wr => ∃ (p : Nat), i = .int .i64 p ∧ p ≤ 3 ∧ PopInv W wr s G' d D W.heap.size wb ab pb fb (shares v0 v1 v2) wv7 wl7 f sp7 F7 ∧ wr.heap[jk]? = some (.cells #[.int .i64 j.f, .int .i64 j.c, .int .u64 j.i] 95 (0, 0))) (fun i _ => 3 - (intOf i).toNat)
              case atStart => exact ⟨0, rfl, by omega, hI9, hjb9⟩
              case round =>
                obtain ⟨p, rfl, hp, hI, hjb⟩ := hrel
                clear hI9 hjb9
                have p1 : (p : Int) ≤ 3 := by omega
                by_cases hp3 : p < 3
                · as_aux_lemma =>
                    have p2 : (p : Int) < 3 := by omega
                    have e0 := blk_cell (i := 0) hjb rfl
                    have zj := blk_lt hjb
                    have x1 := tri_cell hI.first hp3
                    have x2 := tri_cell hI.base.wait hp3
                    have x3 := tri_cell hI.spent hi
                    have x4 := tri_cell hI.base.shs hi
                    have z1 := blk_lt hI.first
                    have z2 := blk_lt hI.base.wait
                    have z3 := blk_lt hI.spent
                    have z4 := blk_lt hI.base.shs
                    have hc := hchk p hp3
                    obtain ⟨A1, cp1, hv1, _, _⟩ := hI.rows p hp3
                    rw [hv1] at x2
                    go_upto_region 31 with fail
                    cases hFp : F7 p
                    · as_aux_lemma =>
                        rw [hFp] at x1 hc
                        by_cases hz : wl7 p = []
                        · rw [hz] at x2
                          go_quiet (fail)
                          go_wp2
                          go_roundw
                          · exact ⟨p + 1, by go_num, by omega, hI.mod0 ((Mod.refl _ _).drewN _), hjb⟩
                          · simp [intOf]; omega
                        · have hle : sp7 j.f ≤ shares v0 v1 v2 j.f := by
                            rcases hc with h | h | h
                            · cases h
                            · exact absurd h hz
                            · exact h
                          have hl0 : 0 < (wl7 p).length := List.length_pos_iff.2 hz
                          generalize (wl7 p).length = lp at x2 hl0
                          have w1 : (0 : Int) < (lp : Int) := by omega
                          have w2 : ¬ shares v0 v1 v2 j.f < sp7 j.f := by omega
                          go_quiet (fail)
                          go_wp2
                          go_roundw
                          · exact ⟨p + 1, by go_num, by omega, hI.mod0 ((Mod.refl _ _).drewN _), hjb⟩
                          · simp [intOf]; omega
                    · as_aux_lemma =>
                        rw [hFp] at x1
                        go_quiet (fail)
                        go_wp2
                        go_roundw
                        · exact ⟨p + 1, by go_num, by omega, hI.mod0 ((Mod.refl _ _).drewN _), hjb⟩
                        · simp [intOf]; omega
                · as_aux_lemma =>
                    obtain rfl : p = 3 := by omega
                    clear hp3 hp p1 hchk
                    have e2 := blk_cell (i := 2) hjb rfl
                    have zj := blk_lt hjb
                    obtain ⟨q, hq⟩ : ∃ q, l[j.i]? = some q := ⟨l[j.i]'(by rw [hjl.len]; omega), List.getElem?_eq_getElem _⟩
                    obtain ⟨lb, lo, rfl, hlb, l0, l1, l2, l3, l4, l5⟩ := (hjl.mod0 hI.base.mod).get j.i q hq
                    have y1 : (j.i : Int) < m := by omega
                    have y2 : (0 : Int) ≤ (j.i : Int) := by omega
                    go_wp2_with fail
                    refine (cmd_k q.2 _).mono ?_
                    rintro e w5 ⟨ba, bc, rfl, hba, hbc, hbn, hbr, hm5⟩
                    have hI5 := hI.mod0 hm5
                    have hoff : Off D.gs ba q.2.data.length := by
                      intro a ha _ hin
                      obtain ⟨_, _, hc⟩ := hI.base.desk.gs_chunk hin
                      exact absurd (blk_lt hc) (Nat.not_lt.2 (hbn a ha))
                    clear hI hm5 hbn hjb e2 zj l0 l1 l2 l3 l4 l5
                    have hcm : q.2.cmd = .agg #[.int .i64 q.2.op, .int .u64 q.2.x, .int .i64 q.2.m, .int .i64 0] := rfl
                    rw [hcm]
                    clear hcm
                    go_wp2_with fail
                    have hX := fun o => hI5.mod0 ((Mod.refl [] w5).alloc o)
                    have hba5 := fun o => hba.mod0 ((Mod.refl [] w5).alloc o)
                    refine (do_k q.2 _ d D f (hX _).base.desk hI5.vw ba bc (hba5 _) hbc hoff hbr).mono ?_
                    rintro e w6 ⟨ao, acp, vol, rfl, hao, han, hD6, hv6, hm6⟩
                    have hba6 := (hba5 _).mod hm6 hoff
                    have hX6 := hX (.cells #[.int .i64 q.2.op, .int .u64 q.2.x, .int .i64 q.2.m, .int .i64 0] 40)
                    have hA6 := hm6.blk hX6.arr (hX6.base.desk.off hX6.arr (by decide))
                    have hoa : Off [ab] ao (q.2.reads f).length := by
                      intro a ha _ hin
                      have h1 := han a ha
                      have h2 := blk_lt hX6.arr
                      simp at hin
                      rw [hin] at h1
                      exact absurd h2 (Nat.not_lt.2 h1)
                    clear hX hba hoff han hba5 hbc
                    have hsame : ∀ (w : World) (A' : Option Addr) (cp cp' : Nat), Rds w ao (q.2.reads f).length ((q.2.reads f).map By) → Rds w A' (q.2.reads f).length ((q.2.reads f).map By) → Calls Try.prog 19 #[.slice ao (q.2.reads f).length cp, .slice A' (q.2.reads f).length cp'] w fun e w' => e = .returned (.bool true) ∧ w' = w := by
                      intro w A' cp cp' h1 h2
                      refine (same_k w ao A' _ _ cp cp' _ _ h1 h2).mono ?_
                      rintro e w' ⟨rfl, rfl⟩
                      simp
                    have hdoes := fun w h1 h2 => does_k q.2 w ab f h1 ba bc h2 hbr
                    have hfin : ∀ w, Mod [ab] w6 w → w.heap[ab]? = some (.cells (rowOf 2560 (q.2.after f)).toArray 57 (0, 0)) → PopInv W w s G' d (D.setVol vol) W.heap.size wb ab pb fb (shares v0 v1 v2) wv7 wl7 (q.2.after f) sp7 F7 := fun w h1 h2 => hX6.did hm6 hD6 hv6 h1 h2
                    have hcm : q.2.cmd = .agg #[.int .i64 q.2.op, .int .u64 q.2.x, .int .i64 q.2.m, .int .i64 0] := rfl
                    rw [hcm] at hdoes
                    have hcell6 : w6.heap[w5.heap.size]? = some (.cells #[.int .i64 q.2.op, .int .u64 q.2.x, .int .i64 q.2.m, .int .i64 0] 40 (0, 0)) := hm6.blk (blk_alloc w5 _ _) (hX6.base.desk.off (blk_alloc w5 _ _) (by decide))
                    generalize w5.heap.size = cb at *
                    clear hX6 hm6 hD6 hv6 hI5 hcm
                    have e0 := blk_cell (i := 0) hcell6 rfl
                    have e1 := blk_cell (i := 1) hcell6 rfl
                    have e2 := blk_cell (i := 2) hcell6 rfl
                    have e3 := blk_cell (i := 3) hcell6 rfl
                    have zc := blk_lt hcell6
                    have hs1 : q.2.good = true → q.2.sense = .agg #[.int .u8 0, .int .u16 0] := fun h => by simp only [Ord.sense, h]
                    have hs2 : q.2.good = false → q.2.sense = .agg #[.int .u8 5, .int .u16 8448] := fun h => by simp only [Ord.sense, h]
                    cases hgd : q.2.good
                    · as_aux_lemma =>
                        rw [hs2 hgd]
                        rw [hgd] at hdoes
                        clear hs1 hs2 hgd
                        go_wp2_with fail
                        refine (hdoes _ (((Mod.refl [] w6).alloc _).blk hA6 (by simp)) (hba6.mod0 ((Mod.refl [] w6).alloc _))).mono ?_
                        rintro e w7 ⟨bo, bcp, rfl, hbo, hA7, hm7⟩
                        have hm67 : Mod [ab] w6 w7 := (((Mod.refl [] w6).alloc _).mono (by simp)).trans hm7 (fun t ht => .inl ht)
                        have hI7 := hfin w7 hm67 hA7
                        have hao7 := hao.mod hm67 hoa
                        have hs7 := hm7.blk (blk_alloc w6 _ _) (by simp; intro h; have := blk_lt hA6; omega)
                        clear hfin hdoes hA7 hm67 hm7 hA6 hba6 hao hoa hcell6 e0 e1 e2 e3 zc
                        have e0 := blk_cell (i := 0) hs7 rfl
                        have e1 := blk_cell (i := 1) hs7 rfl
                        have zc := blk_lt hs7
                        go_wp2_with fail
                        refine (hsame _ bo acp bcp hao7 hbo).mono ?_
                        rintro e w8 ⟨rfl, hw⟩
                        obtain rfl := hw.symm
                        go_wp2
                        go_roundw
                        · exact ⟨r + 1, G', D.setVol vol, wv7, wl7, q.2.after f, sp7, F7, by go_num, by omega, hI7, hQ4⟩
                        · simp [intOf]; omega
                    · as_aux_lemma =>
                        rw [hs1 hgd]
                        rw [hgd] at hdoes
                        clear hs1 hs2 hgd
                        go_wp2_with fail
                        refine (hdoes _ (((Mod.refl [] w6).alloc _).blk hA6 (by simp)) (hba6.mod0 ((Mod.refl [] w6).alloc _))).mono ?_
                        rintro e w7 ⟨bo, bcp, rfl, hbo, hA7, hm7⟩
                        have hm67 : Mod [ab] w6 w7 := (((Mod.refl [] w6).alloc _).mono (by simp)).trans hm7 (fun t ht => .inl ht)
                        have hI7 := hfin w7 hm67 hA7
                        have hao7 := hao.mod hm67 hoa
                        have hs7 := hm7.blk (blk_alloc w6 _ _) (by simp; intro h; have := blk_lt hA6; omega)
                        clear hfin hdoes hA7 hm67 hm7 hA6 hba6 hao hoa hcell6 e0 e1 e2 e3 zc
                        have e0 := blk_cell (i := 0) hs7 rfl
                        have e1 := blk_cell (i := 1) hs7 rfl
                        have zc := blk_lt hs7
                        go_wp2_with fail
                        refine (hsame _ bo acp bcp hao7 hbo).mono ?_
                        rintro e w8 ⟨rfl, hw⟩
                        obtain rfl := hw.symm
                        go_wp2
                        go_roundw
                        · exact ⟨r + 1, G', D.setVol vol, wv7, wl7, q.2.after f, sp7, F7, by go_num, by omega, hI7, hQ4⟩
                        · simp [intOf]; omega
          · as_aux_lemma =>
              obtain rfl : r = k := by omega
              clear hlt hr q1 hjl
              have hn0 : G.n = 0 := by have h1 : G.n + r = r := hQ.n; omega
              go_wp2_with fail
              refine (pop_empty s G hn0 _ hI.base.sched).mono ?_
              rintro e w4 ⟨rfl, hm4⟩
              have hmW := hI.base.mod.then0 hm4
              clear hI hQ hm4
              go_wp2
              go_ret
              exact ⟨rfl, hmW.alloc _⟩
end Go.Proofs.Ytfkhefoilancnaa
