/-
  What the law on shares holds in memory while it takes the jobs, and that it stands behind each step. No walk in it.
-/
import Derived.WalkKit
import Derived.Test.YtfkhefoilancnaaHold
namespace Go.Proofs.Ytfkhefoilancnaa
open Go.RowKit
structure PopInv (W w : World) (s : Nat) (G : Sg) (d : Nat) (D : Gh) (sb wb ab pb fb : Nat) (sv : Nat → Int) (wv : Nat → Value) (wl : Nat → List Nat) (f : Nat → UInt8) (sp : Nat → Int) (F : Nat → Bool) : Prop where
  base : Base W w s G d D sb wb sv wv
  rows : ∀ i, i < 3 → RowIn W w (wv i) (wl i)
  rround : ∀ i, i < 3 → ∀ g, G.rv.ownBlock = some g → OffRow (wv i) (wl i) g
  arr : w.heap[ab]? = some (.cells (rowOf 2560 f).toArray 57 (0, 0))
  anew : W.heap.size ≤ ab
  vw : ∀ j, j < 2560 → view wh2 D.vol j = f j
  spent : w.heap[pb]? = some (.cells (tri fun i => .int .i64 (sp i)) 96 (0, 0))
  pnew : W.heap.size ≤ pb
  first : w.heap[fb]? = some (.cells (tri fun i => .bool (F i)) 97 (0, 0))
  fnew : W.heap.size ≤ fb
theorem Base.did {W w w' : World} {s d : Nat} {G : Sg} {D : Gh} {sb wb : Nat} {sv : Nat → Int} {wv : Nat → Value} (h : Base W w s G d D sb wb sv wv) (hm : Mod D.gs w w') {vol : Nat → Nat → UInt8} (hD : DeskAt sh2 w' d (D.setVol vol)) : Base W w' s G d (D.setVol vol) sb wb sv wv :=
  ⟨h.mod.trans hm (fun t ht => .inr (h.dnew t (by simp [ht]))), h.sched.mod hm (fun t ht => h.sched.offDesk h.desk t ht), h.snew, hD, h.dnew, h.dw, hm.blk h.shs (h.desk.off h.shs (by decide)), h.sbr, h.sbnew, hm.blk h.wait (h.desk.off h.wait (by decide)), h.wnew⟩
namespace PopInv
variable {W w w' : World} {s d : Nat} {G G' : Sg} {D : Gh} {sb wb ab pb fb : Nat} {sv : Nat → Int} {wv : Nat → Value} {wl : Nat → List Nat} {f : Nat → UInt8} {sp : Nat → Int} {F : Nat → Bool}
theorem keep {S : List Nat} (h : PopInv W w s G d D sb wb ab pb fb sv wv wl f sp F) (hm : Mod S w w') (hB : Base W w' s G d D sb wb sv wv) (hr : ∀ g, g ∈ S → ∀ i, i < 3 → OffRow (wv i) (wl i) g) (ha : ab ∉ S) (hp : pb ∉ S) (hf : fb ∉ S) : PopInv W w' s G d D sb wb ab pb fb sv wv wl f sp F :=
  ⟨hB, fun i hi => (h.rows i hi).keep hm (fun g hg => hr g hg i hi), h.rround, hm.blk h.arr ha, h.anew, h.vw, hm.blk h.spent hp, h.pnew, hm.blk h.first hf, h.fnew⟩
theorem mod0 (h : PopInv W w s G d D sb wb ab pb fb sv wv wl f sp F) (hm : Mod [] w w') : PopInv W w' s G d D sb wb ab pb fb sv wv wl f sp F :=
  h.keep hm (h.base.mod0 hm) (by simp) (by simp) (by simp) (by simp)
theorem rowLt (h : PopInv W w s G d D sb wb ab pb fb sv wv wl f sp F) {i : Nat} (hi : i < 3) (hne : wl i ≠ []) {A : Addr} {n c : Nat} (hv : wv i = .slice (some A) n c) : A.block < w.heap.size ∧ ∃ cur, w.heap[A.block]? = some (.cells cur 3 (0, 0)) := by
  obtain ⟨A', cap, hv', _, hx⟩ := h.rows i hi
  obtain ⟨g, off, cur, rfl, _, hb, _⟩ := hx hne
  rw [hv] at hv'
  injection hv' with h1
  injection h1 with h1
  subst h1
  exact ⟨blk_lt hb, cur, hb⟩
/-- A job has been taken. -/
theorem popped (h : PopInv W w s G d D sb wb ab pb fb sv wv wl f sp F) (hm : Mod (sblk s G) w w') (hS : SchedAt w' s G') (hn : ∀ t, t ∈ sblk s G' → t ∈ sblk s G ∨ w.heap.size ≤ t) (hr : ∀ g, G'.rv.ownBlock = some g → G.rv.ownBlock = some g ∨ w.heap.size ≤ g) : PopInv W w' s G' d D sb wb ab pb fb sv wv wl f sp F where
  base := h.base.turned hm hS hn hr
  rows i hi := (h.rows i hi).keep hm (fun g hg hne A n c hv e => by
    obtain ⟨_, cur, hc⟩ := h.rowLt hi hne hv
    rw [e] at hc
    exact h.base.sched.off hc (by decide) (by decide) (by decide) (fun _ hr => h.rround i hi g hr hne A n c hv e) hg)
  rround i hi g hg hne A n c hv e := by
    rcases hr g hg with h1 | h1
    · exact h.rround i hi g h1 hne A n c hv e
    · have := (h.rowLt hi hne hv).1
      omega
  arr := hm.blk h.arr (h.base.sched.off h.arr (by decide) (by decide) (by decide) (fun e => absurd e (by decide)))
  anew := h.anew
  vw := h.vw
  spent := hm.blk h.spent (h.base.sched.off h.spent (by decide) (by decide) (by decide) (fun e => absurd e (by decide)))
  pnew := h.pnew
  first := hm.blk h.first (h.base.sched.off h.first (by decide) (by decide) (by decide) (fun e => absurd e (by decide)))
  fnew := h.fnew
theorem ne_ty {w : World} {a b : Nat} {ca cb : Array Value} {ta tb : TypeId} (ha : w.heap[a]? = some (.cells ca ta (0, 0))) (hb : w.heap[b]? = some (.cells cb tb (0, 0))) (hne : ta ≠ tb) : a ∉ [b] := by
  intro hin
  have : a = b := by simpa using hin
  subst this
  exact hne (blk_ty ha hb)
/-- The first of those that wait in i is gone from the list. -/
theorem gone (h : PopInv W w s G d D sb wb ab pb fb sv wv wl f sp F) {i : Nat} (hi : i < 3) {x : Nat} {xs : List Nat} (hx : wl i = x :: xs) {g off cap : Nat} (hv : wv i = .slice (some ⟨g, off, none⟩) (xs.length + 1) cap) {A' : Option Addr} (hA : xs ≠ [] → A' = some ⟨g, off + 1, none⟩) (cap' : Nat) (hcap : xs.length ≤ cap') :
    PopInv W (w.setCell ⟨wb, i, none⟩ (.slice A' xs.length cap')) s G d D sb wb ab pb fb sv (put wv i (.slice A' xs.length cap')) (put wl i xs) f sp F := by
  have hm := mod_set w wb i (.slice A' xs.length cap')
  have hwb := h.base.wait
  have hoff : ∀ k, k < 3 → OffRow (wv k) (wl k) wb := fun k hk => (h.rows k hk).offTy hwb (by decide)
  refine ⟨h.base.setWait hi _, fun k hk => ?_, fun k hk b hb => ?_, hm.blk h.arr (ne_ty h.arr hwb (by decide)), h.anew, h.vw, hm.blk h.spent (ne_ty h.spent hwb (by decide)), h.pnew, hm.blk h.first (ne_ty h.first hwb (by decide)), h.fnew⟩
  · by_cases hki : k = i
    · subst hki
      rw [put_same, put_same]
      refine ⟨A', cap', rfl, hcap, fun hne => ?_⟩
      obtain ⟨A0, c0, hv0, _, hx0⟩ := (h.rows k hk)
      obtain ⟨g0, off0, cur, rfl, hg, hb, hc⟩ := hx0 (by rw [hx]; simp)
      rw [hv] at hv0
      injection hv0 with h1
      injection h1 with h1
      injection h1 with h1 h2
      subst h1 h2
      refine ⟨g, off + 1, cur, hA hne, hg, hm.blk hb (ne_ty hb hwb (by decide)), fun j y hj => ?_⟩
      have := hc (j + 1) y (by rw [hx]; simpa using hj)
      rw [← this]
      congr 1
      omega
    · rw [put_ne _ _ _ hki, put_ne _ _ _ hki]
      exact (h.rows k hk).keep hm (fun b hb => by simp at hb; subst hb; exact hoff k hk)
  · by_cases hki : k = i
    · subst hki
      rw [put_same, put_same]
      intro hne A n c he
      rw [hA hne] at he
      injection he with h1
      injection h1 with h1
      subst h1
      exact h.rround k hk b hb (by rw [hx]; simp) ⟨g, off, none⟩ _ _ hv
    · rw [put_ne _ _ _ hki, put_ne _ _ _ hki]
      exact h.rround k hk b hb
theorem setFirst (h : PopInv W w s G d D sb wb ab pb fb sv wv wl f sp F) {i : Nat} (hi : i < 3) : PopInv W (w.setCell ⟨fb, i, none⟩ (.bool true)) s G d D sb wb ab pb fb sv wv wl f sp (put F i true) := by
  have hm := mod_set w fb i (.bool true)
  have hx := h.first
  refine ⟨h.base.other hx h.fnew (by decide) hm, fun k hk => (h.rows k hk).keep hm (fun b hb => by simp at hb; subst hb; exact (h.rows k hk).offTy hx (by decide)), h.rround, hm.blk h.arr (ne_ty h.arr hx (by decide)), h.anew, h.vw, hm.blk h.spent (ne_ty h.spent hx (by decide)), h.pnew, ?_, h.fnew⟩
  rw [tri_set hx hi]
  congr 2
  rcases lt3 hi with rfl | rfl | rfl <;> rfl
theorem setSpent (h : PopInv W w s G d D sb wb ab pb fb sv wv wl f sp F) {i : Nat} (hi : i < 3) (z : Int) : PopInv W (w.setCell ⟨pb, i, none⟩ (.int .i64 z)) s G d D sb wb ab pb fb sv wv wl f (put sp i z) F := by
  have hm := mod_set w pb i (.int .i64 z)
  have hx := h.spent
  refine ⟨h.base.other hx h.pnew (by decide) hm, fun k hk => (h.rows k hk).keep hm (fun b hb => by simp at hb; subst hb; exact (h.rows k hk).offTy hx (by decide)), h.rround, hm.blk h.arr (ne_ty h.arr hx (by decide)), h.anew, h.vw, ?_, h.pnew, hm.blk h.first (ne_ty h.first hx (by decide)), h.fnew⟩
  rw [tri_set hx hi]
  congr 2
  rcases lt3 hi with rfl | rfl | rfl <;> rfl
/-- The desk has done an order, and then the array. -/
theorem did (h : PopInv W w s G d D sb wb ab pb fb sv wv wl f sp F) (hm : Mod D.gs w w') {vol : Nat → Nat → UInt8} (hD : DeskAt sh2 w' d (D.setVol vol)) {f' : Nat → UInt8} (hv : ∀ j, j < 2560 → view wh2 vol j = f' j) {w'' : World} (hm2 : Mod [ab] w' w'') (hA : w''.heap[ab]? = some (.cells (rowOf 2560 f').toArray 57 (0, 0))) :
    PopInv W w'' s G d (D.setVol vol) sb wb ab pb fb sv wv wl f' sp F := by
  have hgs : ∀ g, g ∈ D.gs → ∀ i, i < 3 → OffRow (wv i) (wl i) g := fun g hg i hi => by
    obtain ⟨_, _, hc⟩ := h.base.desk.gs_chunk hg
    exact (h.rows i hi).offTy hc (by decide)
  have hB := h.base.did hm hD
  have ha := hm.blk h.arr (h.base.desk.off h.arr (by decide))
  have hs := hm.blk h.spent (h.base.desk.off h.spent (by decide))
  have hf := hm.blk h.first (h.base.desk.off h.first (by decide))
  have hrow : ∀ i, i < 3 → RowIn W w' (wv i) (wl i) := fun i hi => (h.rows i hi).keep hm (fun g hg => hgs g hg i hi)
  exact ⟨hB.other ha h.anew (by decide) hm2, fun i hi => (hrow i hi).keep hm2 (fun b hb => by simp at hb; subst hb; exact (hrow i hi).offTy ha (by decide)), h.rround, hA, h.anew, hv, hm2.blk hs (ne_ty hs ha (by decide)), h.pnew, hm2.blk hf (ne_ty hf ha (by decide)), h.fnew⟩
end PopInv
/-- What 's[1:]' is of a row that begins anywhere. -/
theorem tail_23 (g off m cp : Nat) (hc : m + 1 ≤ cp) : ∃ ad, (1 ≤ m → ad = ⟨g, off + 1, none⟩) ∧ ∀ W, (Instr.slice 23 (.slice (some ⟨g, off, none⟩) (m + 1) cp) (some (.int .i64 1)) none none).run Try.prog W = .ok (.slice (some ad) m (cp - 1)) W := by
  have h := fun W => run_slice_l (P := Try.prog) W 23 (some ⟨g, off, none⟩) (m + 1) cp (und_of Try.underlying23) .i64 1 (by omega) (by omega)
  simp only [elem_of Try.underlying23, size_of_3, Result.andThen_ok, sliced] at h
  have e1 : (1 : Int).toNat = 1 := rfl
  simp only [e1, Nat.add_sub_cancel] at h
  by_cases h1 : cp = 1
  · refine ⟨⟨g, off, none⟩, by omega, fun W => ?_⟩
    rw [h W, if_pos h1]
  · refine ⟨⟨g, off + 1, none⟩, fun _ => rfl, fun W => ?_⟩
    rw [h W, if_neg h1]
    simp [addr_add]
theorem zero57 : Try.zeroCells57 = (rowOf 2560 fun _ => 0).toArray := by kernel_rfl
/-- All is pushed: the taking begins. -/
theorem popInv_new {W w : World} {s d : Nat} {G : Sg} {D : Gh} {sb wb : Nat} {sv : Nat → Int} {wv : Nat → Value} {wl : Nat → List Nat} (h : PushInv W w s G d D sb wb sv wv wl) (hv : ∀ j, j < 2560 → view wh2 D.vol j = 0) :
    PopInv W (((w.alloc (.cells Try.zeroCells57 57)).alloc (.cells #[.int .i64 0, .int .i64 0, .int .i64 0] 96)).alloc (.cells #[.bool false, .bool false, .bool false] 97)) s G d D sb wb w.heap.size (w.heap.size + 1) (w.heap.size + 1 + 1) sv wv wl (fun _ => 0) (fun _ => 0) (fun _ => false) := by
  have hm : Mod [] w (((w.alloc (.cells Try.zeroCells57 57)).alloc (.cells #[.int .i64 0, .int .i64 0, .int .i64 0] 96)).alloc (.cells #[.bool false, .bool false, .bool false] 97)) := (((Mod.refl [] w).alloc _).alloc _).alloc _
  have hsz := h.base.mod.size
  refine ⟨h.base.mod0 hm, fun i hi => RowIn.ofOwn (hm.own0 (h.rows i hi)), fun i hi g hg hne A n c hv' e => ?_, ?_, hsz, hv, ?_, by omega, ?_, by omega⟩
  · refine h.rround i hi g ?_ hg
    have hr := h.rows i hi
    rcases hr.2 with ⟨h1, _⟩ | ⟨g', cap, cur, h1, _⟩
    · rw [h1] at hv'; cases hv'
    · rw [h1] at hv'
      injection hv' with h2
      injection h2 with h2
      rw [h1, ← e, ← h2]
      rfl
  · rw [← zero57]
    exact (((Mod.refl [] (w.alloc (.cells Try.zeroCells57 57))).alloc _).alloc _).blk (blk_alloc w _ _) (by simp)
  · have := ((Mod.refl [] ((w.alloc (.cells Try.zeroCells57 57)).alloc (.cells #[.int .i64 0, .int .i64 0, .int .i64 0] 96))).alloc (.cells #[.bool false, .bool false, .bool false] 97)).blk (blk_alloc (w.alloc (.cells Try.zeroCells57 57)) _ _) (by simp)
    have e : (w.alloc (.cells Try.zeroCells57 57)).heap.size = w.heap.size + 1 := by simp
    rw [e] at this
    exact this
  · have := blk_alloc ((w.alloc (.cells Try.zeroCells57 57)).alloc (.cells #[.int .i64 0, .int .i64 0, .int .i64 0] 96)) #[.bool false, .bool false, .bool false] 97
    have e : ((w.alloc (.cells Try.zeroCells57 57)).alloc (.cells #[.int .i64 0, .int .i64 0, .int .i64 0] 96)).heap.size = w.heap.size + 1 + 1 := by simp
    rw [e] at this
    exact this
/-- What the law's plain state is while it takes the jobs. -/
structure PopPl (N k : Nat) (sv : Nat → Int) (p : Pu) (wl : Nat → List Nat) (sp : Nat → Int) (F : Nat → Bool) : Prop where
  sane : p.Sane N
  n : p.n + k = N
  sh : ∀ f, p.sh f = sv f
  wl : ∀ f, wl f = (p.jobs f).map Jb.i
  fair : Fair p F sp
  spb : ∀ f, 0 ≤ sp f ∧ sp f ≤ 24 * k
theorem popPl_new {N : Nat} {sv : Nat → Int} {p : Pu} {wl : Nat → List Nat} (h : PushPl N N sv p wl) : PopPl N 0 sv p wl (fun _ => 0) (fun _ => false) :=
  ⟨h.sane, h.n, h.sh, h.wl, fair_new h.on h.cr, fun _ => ⟨Int.le_refl _, by omega⟩⟩
/-- A job is taken: whose it is, which it is; and none who waits for its first turn waits too long. -/
theorem PopPl.pop {N k : Nat} {sv : Nat → Int} {p : Pu} {wl : Nat → List Nat} {sp : Nat → Int} {F : Nat → Bool} (h : PopPl N k sv p wl sp F) (hk : k < N) {i : Nat} {rest : List Nat} {j : Jb} {js : List Jb} (hr : p.ready.round = i :: rest) (hj : p.ready.jobs i = j :: js) :
    i < 3 ∧ j.f = i ∧ 1 ≤ j.c ∧ j.c ≤ 24 ∧ j.i < N ∧ wl i = j.i :: js.map Jb.i ∧ PopPl N (k + 1) sv (p.ready.take i rest j js) (put wl i (js.map Jb.i)) (put sp i (sp i + j.c)) (put F i true) ∧
      ∀ q, q < 3 → put F i true q = true ∨ put wl i (js.map Jb.i) q = [] ∨ put sp i (sp i + j.c) i ≤ sv i := by
  have hn : p.n ≠ 0 := by have := h.n; omega
  have hS := h.sane.ready
  have hf := hS.front hr
  have hjob := hS.job i j (by rw [hj]; simp)
  have hlike := p.ready_like
  have hjp : p.jobs i = j :: js := by rw [← hj, hlike.jobs]
  have hfp := fair_pop h.sane hn h.fair hr hj
  have hwl : ∀ q, put wl i (js.map Jb.i) q = ((p.ready.take i rest j js).jobs q).map Jb.i := by
    intro q
    rw [Pu.take_jobs]
    by_cases hq : q = i
    · subst hq; rw [put_same, put_same]
    · rw [put_ne _ _ _ hq, put_ne _ _ _ hq, hlike.jobs]; exact h.wl q
  refine ⟨hf.1, hjob.1, hjob.2.1, hjob.2.2.1, hjob.2.2.2, by rw [h.wl, hjp]; rfl, ⟨hS.take hr hj (h.sane.ok.ready_over (h.sane.ne hn)), ?_, fun q => ?_, hwl, hfp.1, fun q => ?_⟩, fun q hq => ?_⟩
  · rw [Pu.take_n, hlike.n]
    have := h.n
    omega
  · rw [Pu.take_sh, hlike.sh]; exact h.sh q
  · have := h.spb q
    have h2 := hjob.2.2.1
    by_cases hq : q = i
    · subst hq; rw [put_same]; omega
    · rw [put_ne _ _ _ hq]; omega
  · rw [put_same]
    rcases hfp.2 q hq with h1 | h1 | h1
    · exact .inl h1
    · refine .inr (.inl ?_)
      by_cases hqi : q = i
      · subst hqi
        rw [put_same] at h1 ⊢
        rw [h1]; rfl
      · rw [put_ne _ _ _ hqi] at h1 ⊢
        rw [h.wl, h1]; rfl
    · refine .inr (.inr ?_)
      rw [h.sh] at h1
      exact h1
end Go.Proofs.Ytfkhefoilancnaa
