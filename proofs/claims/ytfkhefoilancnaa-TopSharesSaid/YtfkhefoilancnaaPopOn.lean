/-
  drr's Pop where a turn is under way.
-/
import Derived.WalkKit
import Derived.Handy
import Derived.BigQuiet
import Derived.Deep.QuietTactic
import Derived.Deep.RegionLaw
import Derived.Deep.RegionWith
import Derived.Deep.RegionHeld3
import Derived.Lib.Hide
import Derived.Test.YtfkhefoilancnaaPush
import Derived.Test.YtfkhefoilancnaaPu
import Derived.Test.YtfkhefoilancnaaPopHead
namespace Go.Proofs.Ytfkhefoilancnaa
open Go.RowKit
set_option maxRecDepth 100000 in
set_option maxHeartbeats 16000000 in
theorem pop_on (s : Nat) (G0 : Sg) (hon : G0.on = true) (hok : G0.pu.Ok) (hne : G0.round ≠ []) (hn0 : G0.n ≠ 0) (w : World) (h0 : SchedAt w s G0) :
    Calls Try.prog 33 #[.pointer (some ⟨s, 0, none⟩)] w fun e w' => PopPost s G0 w e w' := by
  have k2 : ¬ (G0.n : Int) = 0 := by omega
  have k2' : ((G0.n : Int) == 0) = false := by simpa using hn0
  have c0 : w.cell? ⟨s, 0, none⟩ = some (.slice (some ⟨G0.fb, 0, none⟩) 3 3) := h0.cell rfl
  have c2 : w.cell? ⟨s, 2, none⟩ = some (.bool G0.on) := h0.cell rfl
  have c3 : w.cell? ⟨s, 3, none⟩ = some (.int .i64 G0.n) := h0.cell rfl
  have zs := blk_lt h0.sched
  have hA : Mod [] w (w.alloc (.cells #[.int .i64 0, .int .i64 0, .int .u64 0] 95)) := (Mod.refl [] w).alloc _
  have hlt0 := h0.sblk_lt
  have hrel0 : ∀ W G, Mod (sblk s G0) (w.alloc (.cells #[.int .i64 0, .int .i64 0, .int .u64 0] 95)) W → SchedAt W s G → sblk s G = sblk s G0 → G.rv = G0.rv → PopRel w W s G0 G := by
    intro W G hm hS hb hv
    refine ⟨hS, hm.blk (blk_alloc w _ _) (fun hin => absurd (hlt0 _ hin) (Nat.lt_irrefl _)), (hA.mono (by simp)).trans hm (fun t ht => .inl ht), fun t ht => .inl (hb ▸ ht), fun t ht => ?_, fun g hg => .inl (hv ▸ hg)⟩
    have := hlt0 t (hb ▸ ht)
    omega
  rw [hon] at c2
  go_enter Try.func33, Try.ntmps33
  go_wp2_with fail
  have hst : PopRel w _ s G0 G0 := hrel0 _ G0 (Mod.refl _ _) (h0.mod0 hA) rfl rfl
  clear c0 c2 c3
  go_loopw [4] (fun f wr => ∃ G, PopRel w wr s G0 G ∧ ((f = undef ∧ G.pu = G0.pu.first) ∨ (∃ z, f = .int .i64 z ∧ G.pu = G0.pu.ready ∧ G.pu.over = false))) (fun f _ => match f with | .int _ _ => 0 | _ => 1)
  case atStart => exact ⟨G0, hst, .inl ⟨rfl, by simp [Pu.first, Sg.pu, hon]⟩⟩
  case round =>
    clear hst
    obtain ⟨G, hR, hph⟩ := hrel
    have hlike : G0.pu.Like G.pu := by
      rcases hph with ⟨_, h⟩ | ⟨z, _, h, _⟩
      · rw [h]; exact Pu.first_like _
      · rw [h]; exact Pu.ready_like _
    have hcrs : ∀ f, 0 ≤ (G.fl f).cr ∧ (G.fl f).cr ≤ 1200 := by
      intro f
      rcases hph with ⟨_, h⟩ | ⟨z, _, h, _⟩
      · have := hok.first_cr f
        rw [← h] at this
        exact ⟨this.1, by have h2 : (G.fl f).cr ≤ 1100 := this.2; omega⟩
      · have := hok.ready_cr f
        rw [← h] at this
        exact this
    obtain ⟨i, rest, hr⟩ : ∃ i rest, G.round = i :: rest := by
      have := hlike.ne hne
      cases hq : G.round with
      | nil => exact absurd hq this
      | cons a l => exact ⟨a, l, rfl⟩
    have hif := hok.flow i (hlike.mem i (by show i ∈ G.round; rw [hr]; simp))
    have hi := hif.1
    have hjobs : (G.fl i).jobs = G0.pu.jobs i := congrFun hlike.jobs i
    obtain ⟨j, js, hj⟩ : ∃ j js, (G.fl i).jobs = j :: js := by
      rw [hjobs]
      cases hq : G0.pu.jobs i with
      | nil => exact absurd hq hif.2
      | cons a l => exact ⟨a, l, rfl⟩
    have hjl' : js.length ≤ 1000 := by
      have := hok.len i
      rw [← hjobs, hj] at this
      simp at this
      omega
    have hrl : rest.length ≤ 1000 := by
      have h1 := hlike.len
      have h2 := hok.rlen
      rw [← h1] at h2
      have h3 : G.round.length ≤ 1000 := h2
      rw [hr] at h3
      simp at h3
      omega
    have hnG : G.n = G0.n := hlike.n
    have hover : G.pu.over = decide ((G.fl i).cr < (j.c : Int)) := by
      show (match G.round with | [] => false | i :: _ => match (G.fl i).jobs with | [] => false | j :: _ => decide ((G.fl i).cr < (j.c : Int))) = _
      simp only [hr, hj]
    have hcr := (hcrs i).2
    have hcr0 := (hcrs i).1
    have hn : G.n ≠ 0 := by rw [hnG]; exact hn0
    have hn2 : G.n ≤ 1000 := by rw [hnG]; exact hok.n
    obtain ⟨rg, jg, ra0, ja0, c0, c1, c2, c3, r0, f0, f1, f2, j0, j1, j2, zs, zf, zr, zj, rp, jp⟩ := hR.at_.front hi hr hj
    have k1 : (i : Int) < 3 := by omega
    by_cases hcost : (j.c : Int) ≤ (G.fl i).cr
    · have k3 : ¬ (G.fl i).cr < (j.c : Int) := by omega
      have hready : G.pu = G0.pu.ready := by
        rcases hph with ⟨_, h⟩ | ⟨z, _, h, _⟩
        · have : G0.pu.first.over = false := by rw [← h, hover]; simpa using hcost
          rw [h, Pu.ready, this]
          rfl
        · exact h
      clear hph
      clear ra0 ja0 hnG hover hjobs hlike hcrs hif hne hn0
      go_wp2_with fail
      go_quiet (fail)
      go_wp2_with fail
      go_quiet (fail)
      generalize hV : World.drewN (World.drewN wr _) _ = V
      have hmV0 : Mod [] wr V := by rw [← hV]; exact ((Mod.refl [] _).drewN _).drewN _
      have hmV : Mod (sblk s G0) w V := hR.mod.then0 hmV0
      have hbV0 := hmV0.blk hR.res (by simp)
      clear hV
      have hSV : SchedAt V s G := hR.at_.mod0 hmV0
      clear c0 c1 c2 c3 r0 f0 f1 f2 j0 j1 j2 zs zf zr zj rp jp
      have hsb0 := hR.rbn
      have hfin0 : ∀ t, t ∈ w.heap.size :: sblk s G → t ∈ sblk s G0 ∨ w.heap.size ≤ t := by
        intro t ht
        rcases List.mem_cons.1 ht with rfl | ht
        · exact .inr (Nat.le_refl _)
        · exact hR.sub t ht
      have hbV := hbV0
      have hsb := hsb0
      have hfin := hfin0
      have hrnw := hR.rnw
      have hend : ∀ (e : Ending) (w' : World), e = .returned (.tuple #[.agg #[.int .i64 j.f, .int .i64 j.c, .int .u64 j.i], .bool true]) → ∀ G', SchedAt w' s G' → G'.pu = G.pu.take i rest j js → Mod (w.heap.size :: sblk s G) V w' → G'.rv.ownBlock = G.rv.ownBlock → (∀ t, t ∈ sblk s G' → t ∈ sblk s G) →
          PopPost s G0 w e w' :=
        fun e w' he G' h1 h2 h3 h4 h5 => ⟨G', i, rest, j, js, he, h1, by rw [← hready]; exact hr, by rw [← hready]; exact hj, by rw [← hready]; exact h2, hmV.trans h3 hfin, fun g hg => hrnw g (by rw [← h4]; exact hg), fun t ht => hR.sub t (h5 t ht)⟩
      clear hbV0 hsb0 hfin0 hR hrel0 hlt0 hA h0 k2 k2' hready hfin hrnw hmV hmV0
      generalize hrb : w.heap.size = rb at *
      obtain ⟨rg', jg', ra, ja, c0, c1, c2, c3, r0, f0, f1, f2, j0, j1, j2, zs, zf, zr, zj, rp, jp⟩ := hSV.front hi hr hj
      have zb := blk_lt hbV
      have b0 := blk_cell (i := 0) hbV rfl
      have b1 := blk_cell (i := 1) hbV rfl
      have b2 := blk_cell (i := 2) hbV rfl
      have hjl : js.length ≤ 1000000 := by omega
      have hjo : V.ownsRow 0 95 3 (.slice (some ⟨jg', 0, none⟩) (js.length + 1) (G.fl i).jc) (js.length + 1) (jrows (j :: js)) := by
        have := hSV.jobs i hi
        rw [Fl.jv, ja, hj] at this
        exact this
      go_wp2_with fail
      refine (delete_job 0 jg' js.length (G.fl i).jc (jrows (j :: js)) _ (hjo.alloc _) hjl (jrows_one _)).mono ?_
      rintro e w3 ⟨rfl, hown3, hm3⟩
      rw [jrows_drop] at hown3
      have hmA : Mod [] V (V.alloc (.cells #[.int .i64 j.f, .int .i64 j.c, .int .u64 j.i] 95)) := (Mod.refl _ _).alloc _
      have hjv : (G.fl i).jv = .slice (some ⟨jg', 0, none⟩) (js.length + 1) (G.fl i).jc := by rw [Fl.jv, ja, hj]; rfl
      have hJ := (hSV.mod0 hmA).setJobs (w' := w3) hi js (some ⟨jg', 0, none⟩) (G.fl i).jc hown3 (by rw [hjv]; exact hm3) (by rw [hjv]; intro g hg; exact .inl hg)
      have hf3 := hm3.blk (hmA.blk hSV.flows (by simp)) (by have := hSV.jobs_fb hi; rw [hjv] at this; exact this)
      obtain ⟨q0, q1, q2⟩ := flow_cells hf3 hi
      have qf := blk_frozen hf3 (i * 3 + 2)
      have qz := blk_lt hf3
      clear hown3
      go_wp2_with fail
      obtain ⟨hJ1, hJ2⟩ := hJ
      have hjl3 : (G.fl i).jv.ownBlock.toList = [jg'] := by rw [hjv]; rfl
      rw [hjl3] at hJ2
      have njr : jg' ≠ rb := hsb jg' (by have hjm : jg' ∈ (G.fl i).jv.ownBlock.toList := by rw [hjl3]; simp
                                         rcases lt3 hi with rfl | rfl | rfl <;> (simp only [sblk, List.mem_cons, List.mem_append]; simp [hjm]))
      have nfr : G.fb ≠ rb := hsb _ (by simp [sblk])
      have nsr : s ≠ rb := hsb _ (by simp [sblk])
      have nrr : rg' ≠ rb := hsb _ (by
        have hrm : rg' ∈ G.rv.ownBlock.toList := by rw [Sg.rv, ra]; simp [Value.ownBlock]
        simp only [sblk, List.mem_cons, List.mem_append]
        exact .inr (.inr (.inr hrm)))
      have hkX := hJ2.blk (blk_alloc V _ _) (by simp; omega)
      have hbX := hJ2.blk (hmA.blk hbV (by simp)) (by simp; omega)
      have hmX : Mod [G.fb, jg'] V _ := (hmA.mono (by simp)).trans hJ2 (fun t ht => .inl ht)
      generalize w3.setCell ⟨G.fb, i * 3 + 2, none⟩ (.slice (some ⟨jg', 0, none⟩) js.length (G.fl i).jc) = X at hJ1 hJ2 hkX hbX hmX ⊢
      clear hJ2 hm3 hf3 q0 q1 q2 qf qz c0 c1 c2 c3 r0 f0 f1 f2 j0 j1 j2 b0 b1 b2 hjo hmA
      generalize hkb : V.heap.size = kb at *
      generalize hG1 : ({ G with fl := upd G.fl i { G.fl i with jobs := js, ja := some ⟨jg', 0, none⟩, jc := (G.fl i).jc } } : Sg) = G1 at hJ1
      have e1 : G1.fb = G.fb := by rw [← hG1]
      have e2 : (G1.fl i) = { G.fl i with jobs := js, ja := some ⟨jg', 0, none⟩, jc := (G.fl i).jc } := by rw [← hG1]; exact upd_same _ _ _
      have ff := hJ1.flow hi
      rw [e1, e2] at ff
      obtain ⟨f0, f1, f2⟩ := ff
      have zf2 : G.fb < X.heap.size := by rw [← e1]; exact blk_lt hJ1.flows
      have z1 : X.frozen? ⟨G.fb, i * 3 + 1, none⟩ = false := by rw [← e1]; exact blk_frozen hJ1.flows _
      have kc := blk_cell (i := 1) hkX rfl
      have zk := blk_lt hkX
      have kw : IntKind.i64.wrap ((G.fl i).cr - (j.c : Int)) = (G.fl i).cr - (j.c : Int) := IntWalk.i64_in _ (by omega)
      go_region
      have hC := hJ1.setCr hi ((G.fl i).cr - (j.c : Int))
      obtain ⟨hC1, hC2⟩ := hC
      generalize hG2 : ({ G1 with fl := upd G1.fl i { G1.fl i with cr := (G.fl i).cr - (j.c : Int) } } : Sg) = G2 at hC1
      rw [e1] at hC1 hC2
      replace hC1 := hC1.mod0 (Mod.refl [] _).drew
      replace hC2 := hC2.drew
      have hne : ∀ t, t ∈ [G.fb] → t ∈ [G.fb, jg'] := by simp
      have hkY := hC2.blk hkX (by simp; omega)
      have hbY := hC2.blk hbX (by simp; omega)
      have hmY := hmX.trans hC2 (fun t ht => .inl (hne t ht))
      generalize (X.setCell ⟨G.fb, i * 3 + 1, none⟩ (.int .i64 ((G.fl i).cr - (j.c : Int)))).drew = Y at hC1 hC2 hkY hbY hmY ⊢
      clear hC2 hkX hbX hmX f0 f1 f2 zf2 z1 kc zk kw hJ1
      have e3 : G2.fb = G.fb := by rw [← hG2]; exact e1
      have e4 : G2.fl i = { G.fl i with cr := (G.fl i).cr - (j.c : Int), jobs := js, ja := some ⟨jg', 0, none⟩, jc := (G.fl i).jc } := by
        rw [← hG2]
        show upd G1.fl i _ i = _
        rw [upd_same, e2]
      have e5 : G2.n = G.n := by rw [← hG2, ← hG1]
      have e6 : G2.rv = .slice (some ⟨rg', 0, none⟩) (rest.length + 1) G.rc := by
        rw [← hG2, ← hG1]
        show Value.slice G.ra G.round.length G.rc = _
        rw [ra, hr]
        rfl
      have e7 : G2.round = i :: rest := by rw [← hG2, ← hG1]; exact hr
      have c3 : Y.cell? ⟨s, 3, none⟩ = some (.int .i64 G.n) := by
        have : Y.cell? ⟨s, 3, none⟩ = some (.int .i64 G2.n) := hC1.cell rfl
        rw [this, e5]
      have zs3 := blk_frozen hC1.sched 3
      have zs2 := blk_lt hC1.sched
      have kw : IntKind.i64.wrap ((G.n : Int) - 1) = (G.n : Int) - 1 := IntWalk.i64_in _ (by omega)
      go_upto_region 14 with (fail)
      have ec : ((G.n - 1 : Nat) : Int) = (G.n : Int) - 1 := by omega
      have hN := hC1.setN (G.n - 1)
      rw [ec] at hN
      obtain ⟨hN1, hN2⟩ := hN
      have hkZ := hN2.blk hkY (by simp; omega)
      have hbZ := hN2.blk hbY (by simp; omega)
      have hmZ : Mod [s, G.fb, jg'] V _ := (hmY.mono (by simp)).trans hN2 (by simp)
      generalize Y.setCell ⟨s, 3, none⟩ (.int .i64 ((G.n : Int) - 1)) = Z at hN1 hN2 hkZ hbZ hmZ ⊢
      clear hN2 hkY hbY hmY c3 zs3 zs2 kw hC1
      generalize hG3 : ({ G2 with n := G.n - 1 } : Sg) = G3 at hN1
      have a1 : G3.fb = G.fb := by rw [← hG3]; exact e3
      have a2 : G3.fl i = { G.fl i with cr := (G.fl i).cr - (j.c : Int), jobs := js, ja := some ⟨jg', 0, none⟩, jc := (G.fl i).jc } := by rw [← hG3]; exact e4
      have a3 : G3.rv = .slice (some ⟨rg', 0, none⟩) (rest.length + 1) G.rc := by rw [← hG3]; exact e6
      have a4 : G3.round = i :: rest := by rw [← hG3]; exact e7
      have ff := hN1.flow hi
      rw [a1, a2] at ff
      obtain ⟨f0, f1, f2⟩ := ff
      have f2' : Z.cell? ⟨G.fb, i * 3 + 2, none⟩ = some (.slice (some ⟨jg', 0, none⟩) js.length (G.fl i).jc) := f2
      have k0 := blk_cell (i := 0) hkZ rfl
      have k1' := blk_cell (i := 1) hkZ rfl
      have k2x := blk_cell (i := 2) hkZ rfl
      have v0 := blk_cell (i := 0) hbZ rfl
      have v1 := blk_cell (i := 1) hbZ rfl
      have v2 := blk_cell (i := 2) hbZ rfl
      have u0 := blk_frozen hbZ 0
      have u1 := blk_frozen hbZ 1
      have u2 := blk_frozen hbZ 2
      have ub := blk_lt hbZ
      have uk := blk_lt hkZ
      have us := blk_lt hN1.sched
      have uf : G.fb < Z.heap.size := by rw [← a1]; exact blk_lt hN1.flows
      clear f2
      have hpu : G3.pu = { G.pu with cr := put G.pu.cr i ((G.fl i).cr - (j.c : Int)), jobs := put G.pu.jobs i js, n := G.n - 1 } := by
        have h1 : G3.pu = { G2.pu with n := G.n - 1 } := by rw [← hG3]; rfl
        have h2 : G2.pu = { G1.pu with sh := put G1.pu.sh i (G1.fl i).sh, cr := put G1.pu.cr i ((G.fl i).cr - (j.c : Int)), jobs := put G1.pu.jobs i (G1.fl i).jobs } := by rw [← hG2]; exact pu_upd G1 i _
        have h3 : G1.pu = { G.pu with sh := put G.pu.sh i (G.fl i).sh, cr := put G.pu.cr i (G.fl i).cr, jobs := put G.pu.jobs i js } := by rw [← hG1]; exact pu_upd G i _
        have h4 : put G.pu.sh i (G.fl i).sh = G.pu.sh := put_self G.pu.sh i
        rw [h1, h2, e2, h3]
        simp only [put_put, h4]
      have hsub : ∀ t, t ∈ [s, G.fb, jg'] → t ∈ sblk s G := by
        intro t ht
        have hjm : jg' ∈ (G.fl i).jv.ownBlock.toList := by rw [hjl3]; simp
        simp only [List.mem_cons, List.not_mem_nil, or_false] at ht
        rcases ht with rfl | rfl | rfl
        · simp [sblk]
        · simp [sblk]
        · rcases lt3 hi with rfl | rfl | rfl <;> (simp only [sblk, List.mem_cons, List.mem_append]; simp [hjm])
      have hown : ∀ k, (G3.fl k).jv.ownBlock = (G.fl k).jv.ownBlock := by
        intro k
        by_cases hk : k = i
        · subst hk
          rw [a2, hjv]
          rfl
        · rw [← hG3, ← hG2, ← hG1]
          show (upd (upd G.fl i _) i _ k).jv.ownBlock = _
          rw [upd_other _ _ _ hk, upd_other _ _ _ hk]
      have hrvb : G3.rv.ownBlock = G.rv.ownBlock := by rw [a3, Sg.rv, ra]; rfl
      have hsub3a : ∀ t, t ∈ sblk s G3 → t ∈ sblk s G := by
        intro t ht
        simp only [sblk, hown, hrvb, a1] at ht ⊢
        exact ht
      by_cases hz : js.length = 0
      · obtain rfl : js = [] := List.eq_nil_of_length_eq_zero hz
        simp only [List.length_nil] at f2'
        have uz1 : Z.frozen? ⟨G.fb, i * 3 + 1, none⟩ = false := by rw [← a1]; exact blk_frozen hN1.flows _
        go_upto_region 16 with (fail)
        have hD := hN1.setCr hi 0
        obtain ⟨hD1, hD2⟩ := hD
        generalize hG4 : ({ G3 with fl := upd G3.fl i { G3.fl i with cr := 0 } } : Sg) = G4 at hD1
        rw [a1] at hD1 hD2
        have hkU := hD2.blk hkZ (by simp; omega)
        have hbU := hD2.blk hbZ (by simp; omega)
        have hmU := hmZ.trans hD2 (by simp)
        generalize Z.setCell ⟨G.fb, i * 3 + 1, none⟩ (.int .i64 0) = U at hD1 hD2 hkU hbU hmU ⊢
        clear hD2 k0 k1' k2x v0 v1 v2 u0 u1 u2 ub uk us uf f0 f1 f2' uz1 hkZ hbZ hmZ hN1
        have b1 : G4.fb = G.fb := by rw [← hG4]; exact a1
        have b3 : G4.rv = .slice (some ⟨rg', 0, none⟩) (rest.length + 1) G.rc := by rw [← hG4]; exact a3
        have b4 : G4.round = i :: rest := by rw [← hG4]; exact a4
        have c1 : U.cell? ⟨s, 1, none⟩ = some (.slice (some ⟨rg', 0, none⟩) (rest.length + 1) G.rc) := by
          have : U.cell? ⟨s, 1, none⟩ = some G4.rv := hD1.cell rfl
          rw [this, b3]
        have us := blk_lt hD1.sched
        have hro : U.ownsRow 0 3 1 (.slice (some ⟨rg', 0, none⟩) (rest.length + 1) G.rc) (rest.length + 1) (rnd (i :: rest)) := by
          have := hD1.round
          rw [b3, b4] at this
          exact this
        go_wp2_with fail
        refine (delete_int 0 rg' rest.length G.rc (rnd (i :: rest)) _ hro (by omega) (by intro u hu; simp only [rnd, List.mem_map] at hu; obtain ⟨f, _, rfl⟩ := hu; rfl)).mono ?_
        rintro e w4 ⟨rfl, hown4, hm4⟩
        have hown4' : w4.ownsRow 0 3 1 (.slice (some ⟨rg', 0, none⟩) rest.length G.rc) rest.length (rnd rest) := hown4
        have hrvl : G4.rv.ownBlock.toList = [rg'] := by rw [b3]; rfl
        have hE := hD1.setRound rest (some ⟨rg', 0, none⟩) G.rc hown4' (by rw [hrvl]; exact hm4)
        have hs4 := hm4.blk hD1.sched (by have := hD1.round_s; rw [hrvl] at this; exact this)
        have hk4 := hm4.blk hkU (by simp; omega)
        have hb4 := hm4.blk hbU (by simp; omega)
        have us4 := blk_lt hs4
        have d1 := blk_cell (i := 1) hs4 rfl
        have d1f := blk_frozen hs4 1
        go_upto_region 17 with (fail)
        obtain ⟨hE1, hE2⟩ := hE
        rw [hrvl] at hE2
        have hkT := hE2.blk hkU (by simp; omega)
        have hbT := hE2.blk hbU (by simp; omega)
        have hmT : Mod [s, G.fb, jg', rg'] V _ := (hmU.mono (by intro t ht; simp at ht ⊢; omega)).trans hE2 (by intro t ht; simp at ht ⊢; omega)
        generalize w4.setCell ⟨s, 1, none⟩ (.slice (some ⟨rg', 0, none⟩) rest.length G.rc) = T at hE1 hE2 hkT hbT hmT ⊢
        clear hE2 hk4 hb4 hs4 us4 d1 d1f hown4 hown4' hm4 hro c1 hkU hbU hmU hD1 us
        generalize hG5 : ({ G4 with round := rest, ra := some ⟨rg', 0, none⟩, rc := G.rc } : Sg) = G5 at hE1
        have c2 : T.cell? ⟨s, 2, none⟩ = some (.bool G5.on) := hE1.cell rfl
        have c2f := blk_frozen hE1.sched 2
        have us := blk_lt hE1.sched
        go_upto_region 18 with (fail)
        have hO := hE1.setOn false
        obtain ⟨hO1, hO2⟩ := hO
        have hkO := hO2.blk hkT (by simp; omega)
        have hbO := hO2.blk hbT (by simp; omega)
        have hmO := hmT.trans hO2 (by simp)
        generalize T.setCell ⟨s, 2, none⟩ (.bool false) = O at hO1 hO2 hkO hbO hmO ⊢
        clear hO2 hkT hbT hmT hE1 c2 c2f us
        generalize hG6 : ({ G5 with on := false } : Sg) = G6 at hO1
        have k0 := blk_cell (i := 0) hkO rfl
        have k1' := blk_cell (i := 1) hkO rfl
        have k2x := blk_cell (i := 2) hkO rfl
        have v0 := blk_cell (i := 0) hbO rfl
        have v1 := blk_cell (i := 1) hbO rfl
        have v2 := blk_cell (i := 2) hbO rfl
        have u0 := blk_frozen hbO 0
        have u1 := blk_frozen hbO 1
        have u2 := blk_frozen hbO 2
        have ub := blk_lt hbO
        have uk := blk_lt hkO
        have d1 : G6.fb = G.fb := by rw [← hG6, ← hG5]; exact b1
        have d3 : G6.rv.ownBlock = G.rv.ownBlock := by
          rw [← hrvb, a3, ← hG6, ← hG5]
          rfl
        have hown6 : ∀ k, (G6.fl k).jv.ownBlock = (G.fl k).jv.ownBlock := by
          intro k
          rw [← hG6, ← hG5, ← hG4]
          by_cases hk : k = i
          · subst hk
            show (upd G3.fl _ _ _).jv.ownBlock = _
            rw [upd_same, ← hown]
            rfl
          · show (upd G3.fl _ _ _).jv.ownBlock = _
            rw [upd_other _ _ _ hk, hown]
        have hsub6a : ∀ t, t ∈ sblk s G6 → t ∈ sblk s G := by
          intro t ht
          simp only [sblk, hown6, d3, d1] at ht ⊢
          exact ht
        go_wp2
        have hs := setCells_blk [.int .i64 j.f, .int .i64 j.c, .int .u64 j.i] O rb 0 [.int .i64 0, .int .i64 0, .int .u64 0] 95 hbO (by simp)
        refine bodyPost_ret (res_cell_tmp _ _ rb 95 _ rfl hs.1 Try.underlying95 info95s rfl) rfl (hend _ _ ?_ G6 (hO1.mod hs.2 ?_) ?_ (((hmO.mono (T := rb :: sblk s G) ?_).trans hs.2 ?_)) d3 hsub6a)
        · rfl
        · intro t ht hin
          have := hsb t (hsub6a t ht)
          simp at hin
          omega
        · have h4 : G4.pu = { G3.pu with sh := put G3.pu.sh i (G3.fl i).sh, cr := put G3.pu.cr i 0, jobs := put G3.pu.jobs i (G3.fl i).jobs } := by rw [← hG4]; exact pu_upd G3 i _
          have h6 : G6.pu = { G4.pu with round := rest, on := false } := by rw [← hG6, ← hG5]; rfl
          have h7 : put G.pu.sh i (G.fl i).sh = G.pu.sh := put_self G.pu.sh i
          rw [h6, h4, a2, hpu]
          simp only [put_put, h7]
          rfl
        · intro t ht
          have hrm : rg' ∈ G.rv.ownBlock.toList := by rw [← hrvb, a3]; simp [Value.ownBlock]
          simp only [List.mem_cons, List.not_mem_nil, or_false] at ht
          refine List.mem_cons_of_mem _ ?_
          rcases ht with rfl | rfl | rfl | rfl
          · exact hsub _ (by simp)
          · exact hsub _ (by simp)
          · exact hsub _ (by simp)
          · simp only [sblk, List.mem_cons, List.mem_append]
            exact .inr (.inr (.inr hrm))
        · intro t ht
          simp at ht
          exact .inl (by simp [ht])
      · have hz' : ¬ (js.length : Int) = 0 := by omega
        have hz2 : ((js.length : Int) == 0) = false := by simpa using hz
        go_wp2
        have hs := setCells_blk [.int .i64 j.f, .int .i64 j.c, .int .u64 j.i] Z rb 0 [.int .i64 0, .int .i64 0, .int .u64 0] 95 hbZ (by simp)
        refine bodyPost_ret (res_cell_tmp _ _ rb 95 _ rfl hs.1 Try.underlying95 info95s rfl) rfl (hend _ _ ?_ G3 (hN1.mod hs.2 ?_) ?_ (((hmZ.mono (T := rb :: sblk s G) (fun t ht => List.mem_cons_of_mem _ (hsub t ht))).trans hs.2 ?_)) hrvb hsub3a)
        · rfl
        · intro t ht hin
          have := hsb t (hsub3a t ht)
          simp at hin
          omega
        · rw [hpu]
          cases js with
          | nil => exact (hz rfl).elim
          | cons a l => rfl
        · intro t ht
          simp at ht
          exact .inl (by simp [ht])
    · have k3 : (G.fl i).cr < (j.c : Int) := by omega
      obtain ⟨hu, hfst⟩ : u4 = undef ∧ G.pu = G0.pu.first := by
        rcases hph with h | ⟨z, _, _, h⟩
        · exact h
        · rw [hover] at h
          simp at h
          omega
      have hov : G0.pu.first.over = true := by rw [← hfst, hover]; simpa using k3
      have hrdy : G0.pu.ready = G0.pu.first.turn.begin := by rw [Pu.ready, if_pos hov]
      obtain ⟨i2, rest2, hr2⟩ : ∃ i2 rest2, rest ++ [i] = i2 :: rest2 := by
        cases rest with
        | nil => exact ⟨i, [], rfl⟩
        | cons a l => exact ⟨a, l ++ [i], rfl⟩
      have hi2 : i2 < 3 := by
        have hm : i2 ∈ rest ++ [i] := by rw [hr2]; simp
        have hm2 : i2 ∈ G.round := by rw [hr]; simp at hm ⊢; exact hm.symm
        exact (hok.flow i2 (hlike.mem i2 hm2)).1
      have hcb : 0 ≤ (G.fl i2).cr ∧ (G.fl i2).cr ≤ 1000000 ∧ 0 ≤ (G.fl i2).sh ∧ (G.fl i2).sh ≤ 1000000 := by
        have h1 := hcrs i2
        have h2 : 30 ≤ (G.fl i2).sh ∧ (G.fl i2).sh ≤ 100 := by
          have := hok.sh i2
          rw [← hlike.sh] at this
          exact this
        omega
      have hover2 : G0.pu.ready.over = false := hok.ready_over hne
      have hcap : rest.length + 1 ≤ G.rc := by
        obtain ⟨_, _, _, _, hc⟩ := own_block hR.at_.round (by rw [hr]; simp)
        rw [hr] at hc
        simpa using hc
      obtain ⟨ad, had, hE3⟩ := del_3 Try.underlying23 size_of_3 rg rest.length G.rc hcap
      clear hph hnG hover hjobs hlike hcrs hif hne hn0 ja0 hov
      have Hf := Lib.hid hfst
      have Hr := Lib.hid hrdy
      have Hu := Lib.hid hu
      clear hfst hrdy hu
      go_wp2_with fail
      go_quiet (fail)
      generalize hV : World.drewN wr _ = V
      have hmV0 : Mod [] wr V := by rw [← hV]; exact (Mod.refl [] _).drewN _
      clear hV
      have hSV : SchedAt V s G := hR.at_.mod0 hmV0
      obtain ⟨rg', jg', ra, ja, c0, c1, c2, c3, r0, f0, f1, f2, j0, j1, j2, zs, zf, zr, zj, rp, jp⟩ := hSV.front hi hr hj
      obtain rfl : rg' = rg := by rw [ra0] at ra; simpa using ra.symm
      have hrow : V.ownsRow 0 3 1 (.slice (some ⟨rg', 0, none⟩) (rest.length + 1) G.rc) (rest.length + 1) (rnd (i :: rest)) := by
        have := hSV.round
        rw [Sg.rv, ra, hr] at this
        exact this
      have hrds : Rds V (some ad) rest.length (rnd rest) := by
        refine ⟨by simp [rnd], fun hm => ⟨rg', 1, by rw [had hm], blk_lt (own_blk hrow rfl).choose_spec, fun k u hk => ?_⟩⟩
        have hk' := (List.getElem?_eq_some_iff.1 hk).1
        simp only [rnd, List.length_map] at hk'
        rw [hrow.cellAt (1 + k) (by omega), Nat.add_comm]
        exact hk
      have hone : ∀ l : List Nat, ∀ u ∈ rnd l, u.oneCell' = true := by
        intro l u hu
        simp only [rnd, List.mem_map] at hu
        obtain ⟨f, _, rfl⟩ := hu
        rfl
      go_wp2_with fail
      refine (clone_int (some ad) rest.length (G.rc - 1) (rnd rest) _ (by simp) (by omega) hrds (hone _)).mono ?_
      rintro e w2 ⟨ao, cp, rfl, hown2, hm2⟩
      go_wp2_with (at_builtin; refine wpList_pushF (w2.alloc (.cells #[.int .i64 i] 3)) rfl (.tmp 66) (.tmp 68) 23 rfl V.heap.size 3 _ 1 8 Try.underlying23 info3 rfl (by omega) (by omega) (.slice ao rest.length cp) rest.length (rnd rest) rfl (hown2.alloc _) #[.int .i64 i] w2.heap.size 1 1 rfl (blk_alloc _ _ _) rfl (by simp [Value.oneCell']) (by omega) (by have := hm2.size; simp; omega) ?_)
      intro ra2 rc2 w3 hown3 hm3 _
      have hm3' : Mod [] V w3 := (hm2.then0 ((Mod.refl [] w2).alloc _)).trans hm3 (fun t ht => .inr (own_ge hown2 t ht).1)
      have hlen3 : (rest ++ [i]).length = rest.length + 1 := by simp
      have hR3 := hSV.setRound (w' := w3) (rest ++ [i]) ra2 rc2 (by rw [hlen3]; exact own_mono (by simpa [rnd] using hown3) (Nat.zero_le _)) (hm3'.mono (by simp))
      rw [hlen3] at hR3
      obtain ⟨hT1, hT2⟩ := hR3
      have hs3 := hm3'.blk hSV.sched (by simp)
      have d1 := blk_cell (i := 1) hs3 rfl
      have d2 := blk_frozen hs3 1
      have d3 := blk_lt hs3
      go_wp2_with fail
      refine (begin_k s _ i2 rest2 hi2 _ hT1 hr2 hcb).mono ?_
      rintro e w5 ⟨rfl, hS5, hm5⟩
      go_wp2
      go_roundw
      case measure =>
        rw [Hu.out]
        simp [undef]
      case rel =>
        have hV0 : w.heap.size < V.heap.size := blk_lt (hmV0.blk hR.res (by simp))
        have hnew : ∀ g, (Value.slice ra2 (rest.length + 1) rc2).ownBlock = some g → V.heap.size ≤ g := fun g hg => (own_ge hown3 g (by simp [hg])).1
        have hs1 : ∀ t, t ∈ s :: G.rv.ownBlock.toList → t ∈ sblk s G := by
          intro t ht
          simp only [sblk, List.mem_cons, List.mem_append] at ht ⊢
          rcases ht with h | h <;> simp [h]
        have hs2 : ∀ t, t ∈ [s, G.fb] → t ∈ sblk s G := by
          intro t ht
          simp only [sblk, List.mem_cons, List.mem_append, List.not_mem_nil, or_false] at ht ⊢
          rcases ht with h | h <;> simp [h]
        have hmm : Mod (sblk s G) V w5 := (hT2.mono hs1).trans hm5 (fun t ht => .inl (hs2 t ht))
        have hjv : ∀ k, (upd G.fl i2 { G.fl i2 with cr := (G.fl i2).cr + (G.fl i2).sh } k).jv = (G.fl k).jv := by
          intro k
          by_cases hk : k = i2
          · subst hk; rw [upd_same]; rfl
          · rw [upd_other _ _ _ hk]
        have hrv5 : ∀ g, g ∈ (Value.slice ra2 (rest ++ [i]).length rc2).ownBlock.toList → V.heap.size ≤ g := fun g hg => hnew g (by rw [hlen3] at hg; simpa using hg)
        have hp5 : ({ G with fl := upd G.fl i2 { G.fl i2 with cr := (G.fl i2).cr + (G.fl i2).sh }, round := rest ++ [i], ra := ra2, rc := rc2, on := true } : Sg).pu = G0.pu.ready := by
          have g1 := pu_upd G i2 { G.fl i2 with cr := (G.fl i2).cr + (G.fl i2).sh }
          have g2 : put G.pu.sh i2 (G.fl i2).sh = G.pu.sh := put_self G.pu.sh i2
          have g3 : put G.pu.jobs i2 (G.fl i2).jobs = G.pu.jobs := put_self G.pu.jobs i2
          rw [g2, g3] at g1
          have g4 : G.pu.round = i :: rest := hr
          have g5 : G.pu.turn = { G.pu with round := rest ++ [i] } := by simp only [Pu.turn, g4]
          rw [Hr.out, ← Hf.out, g5]
          simp only [Pu.begin, hr2]
          show ({ ({ G with fl := upd G.fl i2 { G.fl i2 with cr := (G.fl i2).cr + (G.fl i2).sh } } : Sg).pu with round := i2 :: rest2, on := true } : Pu) = _
          rw [g1]
          rfl
        have hsub5 : ∀ t, t ∈ sblk s ({ G with fl := upd G.fl i2 { G.fl i2 with cr := (G.fl i2).cr + (G.fl i2).sh }, round := rest ++ [i], ra := ra2, rc := rc2, on := true } : Sg) → t ∈ sblk s G ∨ V.heap.size ≤ t := by
          intro t ht
          simp only [sblk, hjv, List.mem_cons, List.mem_append] at ht ⊢
          rcases ht with h | h | h | h
          · exact .inl (.inl h)
          · exact .inl (.inr (.inl h))
          · exact .inl (.inr (.inr (.inl h)))
          · exact .inr (hrv5 t h)
        refine ⟨_, ⟨hS5, hmm.blk (hmV0.blk hR.res (by simp)) (fun hin => hR.rbn _ hin rfl), (hR.mod.then0 hmV0).trans hmm hR.sub, fun t ht => ?_, fun t ht => ?_, fun g hg => .inr ?_⟩, .inr ⟨i, rfl, ?_, ?_⟩⟩
        · rcases hsub5 t ht with h | h
          · exact hR.sub t h
          · exact .inr (by omega)
        · rcases hsub5 t ht with h | h
          · exact hR.rbn t h
          · omega
        · have hg' : (Value.slice ra2 (rest ++ [i]).length rc2).ownBlock = some g := hg
          have := hrv5 g (by rw [hg']; simp)
          omega
        · exact hp5
        · rw [hp5]; exact hover2
end Go.Proofs.Ytfkhefoilancnaa
