/-
  drr's is, begin and Push.
-/
import Derived.WalkKit
import Derived.Handy
import Derived.BigQuiet
import Derived.Deep.QuietTactic
import Derived.Deep.RegionLaw
import Derived.Deep.RegionWith
import Derived.Deep.RegionHeld3
import Derived.Lib.Hide
import Derived.Test.YtfkhefoilancnaaSched
import Derived.Test.YtfkhefoilancnaaSlices
import Derived.Test.YtfkhefoilancnaaFresh
namespace Go.Proofs.Ytfkhefoilancnaa
open Go.RowKit
set_option maxHeartbeats 1000000 in
theorem is_k (s : Nat) (G : Sg) (i : Nat) (hi : i < 3) (w : World) (h : SchedAt w s G) : Calls Try.prog 54 #[.pointer (some ⟨s, 0, none⟩), .int .i64 i] w fun e w' => e = .returned (.bool true) ∧ w' = w := by
  have c0 : w.cell? ⟨s, 0, none⟩ = some (.slice (some ⟨G.fb, 0, none⟩) 3 3) := h.cell rfl
  have k1 : (i : Int) < 3 := by omega
  have k2 : ¬ (i : Int) < 0 := by omega
  go_enter Try.func54, Try.ntmps54
  go_wp2
  go_ret
  exact ⟨rfl, rfl⟩
set_option maxRecDepth 100000 in
set_option maxHeartbeats 4000000 in
theorem begin_k (s : Nat) (G : Sg) (i : Nat) (rest : List Nat) (hi : i < 3) (w : World) (h : SchedAt w s G) (hr : G.round = i :: rest) (hb : 0 ≤ (G.fl i).cr ∧ (G.fl i).cr ≤ 1000000 ∧ 0 ≤ (G.fl i).sh ∧ (G.fl i).sh ≤ 1000000) :
    Calls Try.prog 56 #[.pointer (some ⟨s, 0, none⟩)] w fun e w' => e = .returned (.tuple #[]) ∧ SchedAt w' s { G with fl := upd G.fl i { G.fl i with cr := (G.fl i).cr + (G.fl i).sh }, on := true } ∧ Mod [s, G.fb] w w' := by
  have c0 : w.cell? ⟨s, 0, none⟩ = some (.slice (some ⟨G.fb, 0, none⟩) 3 3) := h.cell rfl
  obtain ⟨g, hra, _, hg, hcp⟩ := own_block h.round (by rw [hr]; simp)
  have c1 : w.cell? ⟨s, 1, none⟩ = some (.slice (some ⟨g, 0, none⟩) (rest.length + 1) G.rc) := by
    have h1 : w.cell? ⟨s, 1, none⟩ = some G.rv := h.cell rfl
    rw [h1]
    simp only [Sg.rv, hra, hr, List.length_cons]
  have cr0 : w.cell? ⟨g, 0, none⟩ = some (.int .i64 i) := by
    have := h.round
    rw [Sg.rv, hra] at this
    rw [this.cellAt 0 (by rw [hr]; simp), hr]
    rfl
  obtain ⟨f0, f1, f2⟩ := h.flow hi
  have z0 := blk_lt h.sched
  have z1 := blk_lt h.flows
  have zr := blk_frozen h.flows (i * 3 + 1)
  have kw : IntKind.i64.wrap ((G.fl i).cr + (G.fl i).sh) = (G.fl i).cr + (G.fl i).sh := IntWalk.i64_in _ (by omega)
  have k1 : (i : Int) < 3 := by omega
  have hfin : ∀ W, Mod [] w W → SchedAt ((W.setCell ⟨G.fb, i * 3 + 1, none⟩ (.int .i64 ((G.fl i).cr + (G.fl i).sh))).setCell ⟨s, 2, none⟩ (.bool true)) s { G with fl := upd G.fl i { G.fl i with cr := (G.fl i).cr + (G.fl i).sh }, on := true } ∧
      Mod [s, G.fb] w ((W.setCell ⟨G.fb, i * 3 + 1, none⟩ (.int .i64 ((G.fl i).cr + (G.fl i).sh))).setCell ⟨s, 2, none⟩ (.bool true)) := by
    intro W hW
    have h1 := (h.mod0 hW).setCr hi ((G.fl i).cr + (G.fl i).sh)
    have h2 := h1.1.setOn true
    exact ⟨h2.1, ((hW.mono (by simp)).trans h1.2 (by simp)).trans h2.2 (by simp)⟩
  have hne : ¬ s = G.fb := h.ne
  have hne' : ¬ G.fb = s := fun e => h.ne e.symm
  have zs := blk_frozen h.sched 2
  have c2 : w.cell? ⟨s, 2, none⟩ = some (.bool G.on) := h.cell rfl
  go_enter Try.func56, Try.ntmps56
  go_wp2_with fail
  go_quiet (fail)
  go_wp2_with fail
  go_region
  all_goals go_wp2
  all_goals go_end0
  all_goals exact ⟨rfl, hfin _ ((Mod.refl _ _).drewN _)⟩
theorem flow_cells {w : World} {fb : Nat} {fl : Nat → Fl} (h : w.heap[fb]? = some (.cells (flowCells fl) 129 (0, 0))) {i : Nat} (hi : i < 3) :
    w.cell? ⟨fb, i * 3, none⟩ = some (.int .i64 (fl i).sh) ∧ w.cell? ⟨fb, i * 3 + 1, none⟩ = some (.int .i64 (fl i).cr) ∧ w.cell? ⟨fb, i * 3 + 2, none⟩ = some (fl i).jv := by
  rcases lt3 hi with rfl | rfl | rfl <;> exact ⟨blk_cell h rfl, blk_cell h rfl, blk_cell h rfl⟩
theorem contains_nat (A : Option Addr) (n c : Nat) (l : List Nat) (v : Nat) (b : Bool) (hb : b = decide (v ∈ l)) (w : World) (hn : n ≤ 1000000) (hr : Rds w A n (rnd l)) :
    Calls Try.prog 55 #[.slice A n c, .int .i64 v] w fun e w' => e = .returned (.bool b) ∧ w' = w := by
  have hr' : Rds w A n ((l.map fun (f : Nat) => (f : Int)).map (Value.int .i64)) := by rw [List.map_map]; exact hr
  refine (contains_int A n c _ v w hn hr').mono ?_
  rintro e w' ⟨rfl, rfl⟩
  refine ⟨?_, rfl⟩
  rw [hb]
  congr 2
  apply decide_eq_decide.2
  simp only [List.mem_map]
  exact ⟨fun ⟨f, hf, e⟩ => by have : f = v := by omega
                              exact this ▸ hf, fun hf => ⟨v, hf, rfl⟩⟩
/-- The scheduler behind a push. -/
def Sg.pushed (G : Sg) (i : Nat) (j : Jb) (ja : Option Addr) (jc : Nat) (ra : Option Addr) (rc : Nat) : Sg :=
  { G with fl := upd G.fl i { G.fl i with jobs := (G.fl i).jobs ++ [j], ja := ja, jc := jc }, round := if i ∈ G.round then G.round else G.round ++ [i], ra := ra, rc := rc, n := G.n + 1 }
theorem Rds.ofOwn {w : World} {base : Nat} {e : TypeId} {G : Sg} (h : w.ownsRow base e 1 G.rv G.round.length (rnd G.round)) : Rds w G.ra G.round.length (rnd G.round) := Rds.own h
theorem sblk_pushed (s : Nat) (G : Sg) (i : Nat) (j : Jb) (ja : Option Addr) (jc : Nat) (ra : Option Addr) (rc B : Nat) (hj : ∀ g, (Value.slice ja ((G.fl i).jobs.length + 1) jc).ownBlock = some g → (G.fl i).jv.ownBlock = some g ∨ B ≤ g)
    (hr : ∀ g, (G.pushed i j ja jc ra rc).rv.ownBlock = some g → G.rv.ownBlock = some g ∨ B ≤ g) (hi : i < 3) : ∀ t, t ∈ sblk s (G.pushed i j ja jc ra rc) → t ∈ sblk s G ∨ B ≤ t := by
  have h1 : ∀ k, k < 3 → ∀ g, ((G.pushed i j ja jc ra rc).fl k).jv.ownBlock = some g → g ∈ sblk s G ∨ B ≤ g := by
    intro k hk g hg
    by_cases hki : k = i
    · subst hki
      have e : ((G.pushed k j ja jc ra rc).fl k).jv = .slice ja ((G.fl k).jobs.length + 1) jc := by simp [Sg.pushed, upd_same, Fl.jv]
      rw [e] at hg
      rcases hj g hg with h | h
      · refine .inl ?_
        rcases lt3 hk with rfl | rfl | rfl <;> simp [sblk, h]
      · exact .inr h
    · have e : (G.pushed i j ja jc ra rc).fl k = G.fl k := by simp [Sg.pushed, upd_other _ _ _ hki]
      rw [e] at hg
      refine .inl ?_
      rcases lt3 hk with rfl | rfl | rfl <;> simp [sblk, hg]
  intro t ht
  simp only [sblk, List.mem_cons, List.mem_append, Option.mem_toList] at ht
  rcases ht with rfl | rfl | ((ht | ht) | ht) | ht
  · exact .inl (by simp [sblk])
  · exact .inl (by simp [sblk, Sg.pushed])
  · exact h1 0 (by omega) t ht
  · exact h1 1 (by omega) t ht
  · exact h1 2 (by omega) t ht
  · rcases hr t ht with h | h
    · exact .inl (by simp [sblk, h])
    · exact .inr h
set_option maxRecDepth 100000 in
set_option maxHeartbeats 8000000 in
theorem push_k (s : Nat) (G : Sg) (i c id : Nat) (hi : i < 3) (hc : 1 ≤ c ∧ c ≤ 1000) (hn : G.n < 1000) (hl : (G.fl i).jobs.length ≤ 1000) (hrl : G.round.length ≤ 1000) (w : World) (h : SchedAt w s G) :
    Calls Try.prog 32 #[.pointer (some ⟨s, 0, none⟩), .agg #[.int .i64 i, .int .i64 c, .int .u64 id]] w fun e w' => e = .returned (.int .i64 0) ∧ ∃ ja jc ra rc, SchedAt w' s (G.pushed i ⟨i, c, id⟩ ja jc ra rc) ∧ Mod (sblk s G) w w' ∧
      (∀ g, (G.pushed i ⟨i, c, id⟩ ja jc ra rc).rv.ownBlock = some g → G.rv.ownBlock = some g ∨ w.heap.size ≤ g) ∧ ∀ t, t ∈ sblk s (G.pushed i ⟨i, c, id⟩ ja jc ra rc) → t ∈ sblk s G ∨ w.heap.size ≤ t := by
  have h1 : SchedAt (w.alloc (.cells #[.int .i64 i, .int .i64 c, .int .u64 id] 95)) s G := h.mod0 ((Mod.refl [] _).alloc _)
  have c0 : w.cell? ⟨s, 0, none⟩ = some (.slice (some ⟨G.fb, 0, none⟩) 3 3) := h.cell rfl
  have c1 : w.cell? ⟨s, 1, none⟩ = some G.rv := h.cell rfl
  have c3 : w.cell? ⟨s, 3, none⟩ = some (.int .i64 G.n) := h.cell rfl
  obtain ⟨f0, f1, f2⟩ := h.flow hi
  have z0 := blk_lt h.sched
  have z1 := blk_lt h.flows
  have k1 : (i : Int) < 3 := by omega
  have k2 : ¬ (c : Int) < 1 := by omega
  have k3 : ¬ (100000 : Int) < (c : Int) := by omega
  have k4 : ¬ (1024 : Int) ≤ (G.n : Int) := by omega
  go_enter Try.func32, Try.ntmps32
  go_wp2_with fail
  refine (is_k s G i hi _ h1).mono ?_
  rintro e w1 ⟨rfl, rfl⟩
  go_wp2_with fail
  go_quiet (fail)
  go_wp2_with fail
  generalize hW : World.drewN (w.alloc _) _ = W
  have hmW : Mod [] w W := by rw [← hW]; exact ((Mod.refl [] _).alloc _).drewN _
  have hbW : W.heap[w.heap.size]? = some (.cells #[.int .i64 i, .int .i64 c, .int .u64 id] 95 (0, 0)) := by rw [← hW]; exact ((Mod.refl [] _).drewN _).blk (blk_alloc w _ _) (by simp)
  clear hW
  have hSW : SchedAt W s G := h.mod0 hmW
  obtain ⟨g0, g1, g2⟩ := hSW.flow hi
  have y0 := blk_lt hSW.sched
  have y1 := blk_lt hSW.flows
  have yb := blk_lt hbW
  have d0 := blk_cell (i := 0) hbW rfl
  have d1 := blk_cell (i := 1) hbW rfl
  have d2 := blk_cell (i := 2) hbW rfl
  have hlt : G.fb < W.heap.size := y1
  go_region_law (refine step_pushF _ (by rfl) _ _ _ (by rfl) 0 95 _ 3 24 Try.underlying127 info95 rfl (by omega) (by omega) (G.fl i).jv (G.fl i).jobs.length (jrows (G.fl i).jobs) (by rfl) (((hSW.jobs i hi).drew).alloc _) #[.int .i64 i, .int .i64 c, .int .u64 id] W.heap.size 1 1 (by rfl) (heap_alloc_new' _ _ _ (by simp)) rfl (by simp [Value.oneCell']) (by omega) (by omega) ?_; intro ao' cp' w2 hown2 hm2 hfr2; have hf2 := hm2.blk (((Mod.refl [] W).drew.alloc _).blk hSW.flows (by simp)) (hSW.jobs_fb hi); have hfr := blk_frozen hf2 (i * 3 + 2); have hcl := (flow_cells hf2 hi).2.2; have x2 := blk_lt hf2)
  all_goals
    have hA : Mod [] W ((W.alloc (.cells #[.int .i64 i, .int .i64 c, .int .u64 id] 95)).drew) := ((Mod.refl [] W).alloc _).drew
    have hlen : ((G.fl i).jobs ++ [(⟨i, c, id⟩ : Jb)]).length = (G.fl i).jobs.length + 1 := by simp
    have hJ := (hSW.mod0 hA).setJobs hi ((G.fl i).jobs ++ [⟨i, c, id⟩]) ao' cp' (by rw [hlen, jrows_snoc]; exact hown2) hm2 (by rw [hlen]; exact fun g hg => hfr2 g hg)
    have hfj : ∀ g, (Value.slice ao' ((G.fl i).jobs.length + 1) cp').ownBlock = some g → (G.fl i).jv.ownBlock = some g ∨ w.heap.size ≤ g := by
      intro g hg
      rcases hfr2 g hg with h | h
      · exact .inl h
      · exact .inr (Nat.le_trans hmW.size (Nat.le_trans hA.size h))
    rw [hlen] at hJ
    obtain ⟨hJ1, hJ2⟩ := hJ
    have hwb : w.heap.size ∉ G.fb :: (G.fl i).jv.ownBlock.toList := by
      intro hin
      rcases List.mem_cons.1 hin with e | hin
      · omega
      · have := (own_ge (h.jobs i hi) _ hin).2
        omega
    have hbX := hJ2.blk (hA.blk hbW (by simp)) hwb
    have hmX : Mod (G.fb :: (G.fl i).jv.ownBlock.toList) w _ := ((hmW.then0 hA).mono (by simp)).trans hJ2 (fun t ht => .inl ht)
    generalize w2.setCell ⟨G.fb, i * 3 + 2, none⟩ (.slice ao' ((G.fl i).jobs.length + 1) cp') = X at hJ1 hJ2 hbX hmX ⊢
    clear hJ2 hm2 hown2 hfr2 hf2 hfr hcl x2 hA
    generalize hG1 : ({ G with fl := upd G.fl i { G.fl i with jobs := (G.fl i).jobs ++ [⟨i, c, id⟩], ja := ao', jc := cp' } } : Sg) = G1 at hJ1
    have q0 : X.cell? ⟨s, 0, none⟩ = some (.slice (some ⟨G1.fb, 0, none⟩) 3 3) := hJ1.cell rfl
    have q1 : X.cell? ⟨s, 1, none⟩ = some G1.rv := hJ1.cell rfl
    have q3 : X.cell? ⟨s, 3, none⟩ = some (.int .i64 G1.n) := hJ1.cell rfl
    have e3 : G1.n = G.n := by rw [← hG1]
    have e4 : G1.rv = G.rv := by rw [← hG1]; rfl
    have e5 : G1.round = G.round := by rw [← hG1]
    have zf := blk_frozen hJ1.sched 3
    have zl := blk_lt hJ1.sched
    rw [e3] at q3
    have kw : IntKind.i64.wrap ((G.n : Int) + 1) = (G.n : Int) + 1 := IntWalk.i64_in _ (by omega)
    go_wp2_with fail
    have ec : ((G.n + 1 : Nat) : Int) = (G.n : Int) + 1 := by omega
    have hK := hJ1.setN (G.n + 1)
    rw [ec] at hK
    obtain ⟨hK1, hK2⟩ := hK
    have hbY := hK2.blk hbX (by simp; omega)
    have hmY : Mod (s :: G.fb :: (G.fl i).jv.ownBlock.toList) w _ := (hmX.mono (by intro t ht; exact List.mem_cons_of_mem _ ht)).trans hK2 (by simp)
    generalize X.setCell ⟨s, 3, none⟩ (.int .i64 ((G.n : Int) + 1)) = Y at hK1 hK2 hbY hmY ⊢
    clear hK2 q0 q1 q3 zf zl kw
    generalize hG2 : ({ G1 with n := G.n + 1 } : Sg) = G2 at hK1
    have e6 : G2.rv = G.rv := by rw [← hG2, ← e4]; rfl
    have e7 : G2.round = G.round := by rw [← hG2, ← e5]
    have q0 : Y.cell? ⟨s, 0, none⟩ = some (.slice (some ⟨G2.fb, 0, none⟩) 3 3) := hK1.cell rfl
    have q1 : Y.cell? ⟨s, 1, none⟩ = some (.slice G.ra G.round.length G.rc) := by
      have : Y.cell? ⟨s, 1, none⟩ = some G2.rv := hK1.cell rfl
      rw [this, e6]
      rfl
    have qb := blk_cell (i := 0) hbY rfl
    have zl := blk_lt hK1.sched
    have zb := blk_lt hbY
    have hrd : Rds Y G.ra G.round.length (rnd G.round) := by
      have h1 := hK1.round
      rw [e6, e7] at h1
      exact Rds.own h1
    obtain ⟨b, hb0⟩ : ∃ b, b = decide (i ∈ G.round) := ⟨_, rfl⟩
    have hb := Lib.hid hb0
    clear hb0
    have qs : Y.drew.cell? ⟨s, 1, none⟩ = some (.slice G.ra G.round.length G.rc) := q1
    have qt : Y.drew.cell? ⟨w.heap.size, 0, none⟩ = some (.int .i64 i) := qb
    go_region_held3 (fun w' => w' = Y.drew ∧ w'.cell? ⟨s, 1, none⟩ = some (.slice G.ra G.round.length G.rc) ∧ w'.cell? ⟨w.heap.size, 0, none⟩ = some (.int .i64 i))
      (first | exact ⟨rfl, qs, qt⟩ | assumption)
      (first | (refine (contains_nat G.ra G.round.length G.rc G.round i b hb.out _ (by omega) (hrd.mod0 ((Mod.refl _ _).drew))).mono ?_; rintro e w' ⟨rfl, rfl⟩))
    cases b
    · have hin : ¬ i ∈ G.round := by simpa using hb.out.symm
      clear hb
      go_wp2_with fail
      have hYd : SchedAt Y.drew s G2 := hK1.mod0 (Mod.refl _ _).drew
      have hrow : Y.drew.ownsRow 0 3 1 (.slice G.ra G.round.length G.rc) G.round.length (rnd G.round) := by
        have h1 := hYd.round
        rw [e6, e7] at h1
        exact h1
      generalize hV : Y.drew = V at *
      have hsl := blk_lt hYd.sched
      go_region_law (refine step_pushF _ (by rfl) _ _ _ (by rfl) 0 3 _ 1 8 Try.underlying23 info3 rfl (by omega) (by omega) (.slice G.ra G.round.length G.rc) G.round.length (rnd G.round) (by rfl) ((hrow.drew).alloc _) #[.int .i64 i] V.heap.size 1 1 (by rfl) (heap_alloc_new' _ _ _ (by simp)) rfl (by simp [Value.oneCell']) (by omega) (by omega) ?_; intro ra' rc' w3 hown3 hm3 hfr3; have hs3 := hm3.blk (((Mod.refl [] V).drew.alloc _).blk hYd.sched (by simp)) (own_off hrow hYd.sched (by decide)); have hfr := blk_frozen hs3 1; have hcl := blk_cell (i := 1) hs3 rfl; have x3 := blk_lt hs3)
      all_goals
        have hA3 : Mod [] V ((V.alloc (.cells #[.int .i64 i] 3)).drew) := ((Mod.refl [] V).alloc _).drew
        have hlen3 : (G.round ++ [i]).length = G.round.length + 1 := by simp
        have hR := (hYd.mod0 hA3).setRound (G.round ++ [i]) ra' rc' (by rw [hlen3]; simpa [rnd] using hown3) (by rw [e6]; exact hm3)
        rw [hlen3] at hR
        obtain ⟨hR1, hR2⟩ := hR
        go_wp2
        go_ret
        have hrv : ∀ g, (G.pushed i ⟨i, c, id⟩ ao' cp' ra' rc').rv.ownBlock = some g → G.rv.ownBlock = some g ∨ w.heap.size ≤ g := by
          intro g hg
          have hv : (G.pushed i ⟨i, c, id⟩ ao' cp' ra' rc').rv = .slice ra' (G.round.length + 1) rc' := by simp only [Sg.pushed, if_neg hin, Sg.rv, hlen3]
          rw [hv] at hg
          rcases hfr3 g hg with h | h
          · exact .inl h
          · refine .inr (Nat.le_trans ?_ h)
            have hmV : Mod (s :: G.fb :: (G.fl i).jv.ownBlock.toList) w V := by rw [← hV]; exact hmY.drew
            exact (hmV.then0 hA3).size
        refine ⟨rfl, ao', cp', ra', rc', ?_, ?_, hrv, sblk_pushed s G i _ ao' cp' ra' rc' _ hfj hrv hi⟩
        · have hGe : G.pushed i ⟨i, c, id⟩ ao' cp' ra' rc' = { G2 with round := G.round ++ [i], ra := ra', rc := rc' } := by
            rw [← hG2, ← hG1]
            simp only [Sg.pushed, if_neg hin]
          rw [hGe]
          exact hR1
        · rw [e6] at hR2
          have hmV : Mod (s :: G.fb :: (G.fl i).jv.ownBlock.toList) w V := by rw [← hV]; exact hmY.drew
          refine ((hmV.then0 hA3).mono (T := sblk s G) ?_).trans hR2 ?_
          · intro t ht
            rcases lt3 hi with rfl | rfl | rfl <;> (simp only [sblk, List.mem_cons, List.mem_append] at ht ⊢; rcases ht with h | h | h <;> simp [h])
          · intro t ht
            refine .inl ?_
            simp only [sblk, List.mem_cons, List.mem_append] at ht ⊢
            rcases ht with h | h <;> simp [h]
    · have hin : i ∈ G.round := by simpa using hb.out.symm
      clear hb
      go_wp2
      go_ret
      have hrv : ∀ g, (G.pushed i ⟨i, c, id⟩ ao' cp' G.ra G.rc).rv.ownBlock = some g → G.rv.ownBlock = some g ∨ w.heap.size ≤ g := by
        intro g hg
        have hv : (G.pushed i ⟨i, c, id⟩ ao' cp' G.ra G.rc).rv = G.rv := by simp only [Sg.pushed, if_pos hin, Sg.rv]
        exact .inl (by rw [← hv]; exact hg)
      refine ⟨rfl, ao', cp', G.ra, G.rc, ?_, ?_, hrv, sblk_pushed s G i _ ao' cp' G.ra G.rc _ hfj hrv hi⟩
      · have hGe : G.pushed i ⟨i, c, id⟩ ao' cp' G.ra G.rc = G2 := by
          rw [← hG2, ← hG1]
          simp only [Sg.pushed, if_pos hin]
        rw [hGe]
        exact hK1.mod0 (Mod.refl _ _).drew
      · refine (hmY.mono ?_).drew
        intro t ht
        rcases lt3 hi with rfl | rfl | rfl <;> (simp only [sblk, List.mem_cons, List.mem_append] at ht ⊢; rcases ht with h | h | h <;> simp [h])
end Go.Proofs.Ytfkhefoilancnaa
