/-
  What the law on shares holds in memory while its walk is under way, and that it stands behind each step. No walk in it.
-/
import Derived.WalkKit
import Derived.Test.YtfkhefoilancnaaFair
import Derived.Test.YtfkhefoilancnaaOrd
import Derived.Test.YtfkhefoilancnaaPush
namespace Go.Proofs.Ytfkhefoilancnaa
open Go.RowKit
/-- Three cells. -/
def tri (f : Nat → Value) : Array Value := #[f 0, f 1, f 2]
theorem tri_get (f : Nat → Value) {i : Nat} (hi : i < 3) : (tri f)[i]? = some (f i) := by
  rcases lt3 hi with rfl | rfl | rfl <;> rfl
theorem tri_cell {w : World} {b : Nat} {f : Nat → Value} {t : TypeId} (h : w.heap[b]? = some (.cells (tri f) t (0, 0))) {i : Nat} (hi : i < 3) : w.cell? ⟨b, i, none⟩ = some (f i) := blk_cell h (tri_get f hi)
theorem tri_set {w : World} {b : Nat} {f : Nat → Value} {t : TypeId} (h : w.heap[b]? = some (.cells (tri f) t (0, 0))) {i : Nat} (hi : i < 3) (v : Value) : (w.setCell ⟨b, i, none⟩ v).heap[b]? = some (.cells (tri (put f i v)) t (0, 0)) := by
  rw [heap_setCell_same w b i _ t _ h]
  rcases lt3 hi with rfl | rfl | rfl <;> rfl
theorem mod_set (w : World) (b i : Nat) (v : Value) : Mod [b] w (w.setCell ⟨b, i, none⟩ v) := (Mod.refl _ _).setCell (.inl (by simp)) _
theorem blk_other {w : World} {x b i : Nat} {cs : Array Value} {t : TypeId} {v : Value} (h : w.heap[x]? = some (.cells cs t (0, 0))) (hne : x ≠ b) : (w.setCell ⟨b, i, none⟩ v).heap[x]? = some (.cells cs t (0, 0)) :=
  (mod_set w b i v).blk h (by simpa using hne)
/-- A scheduler's blocks are of their types. -/
theorem SchedAt.off {w : World} {s : Nat} {G : Sg} (h : SchedAt w s G) {x : Nat} {cs : Array Value} {t : TypeId} (hx : w.heap[x]? = some (.cells cs t (0, 0))) (h1 : t ≠ 126) (h2 : t ≠ 129) (h3 : t ≠ 95) (h4 : t = 3 → G.rv.ownBlock ≠ some x) : x ∉ sblk s G := by
  intro hin
  simp only [sblk, List.mem_cons, List.mem_append] at hin
  rcases hin with rfl | rfl | ((hin | hin) | hin) | hin
  · exact h1 (blk_ty hx h.sched)
  · exact h2 (blk_ty hx h.flows)
  · exact own_off (h.jobs 0 (by omega)) hx (Ne.symm h3) hin
  · exact own_off (h.jobs 1 (by omega)) hx (Ne.symm h3) hin
  · exact own_off (h.jobs 2 (by omega)) hx (Ne.symm h3) hin
  · by_cases ht : t = 3
    · exact h4 ht (by simpa using hin)
    · exact own_off h.round hx (Ne.symm ht) hin
theorem SchedAt.lts {w : World} {s : Nat} {G : Sg} (h : SchedAt w s G) : ∀ t, t ∈ sblk s G → t < w.heap.size := by
  intro t ht
  simp only [sblk, List.mem_cons, List.mem_append] at ht
  rcases ht with rfl | rfl | ((ht | ht) | ht) | ht
  · exact blk_lt h.sched
  · exact blk_lt h.flows
  · exact (own_ge (h.jobs 0 (by omega)) t ht).2
  · exact (own_ge (h.jobs 1 (by omega)) t ht).2
  · exact (own_ge (h.jobs 2 (by omega)) t ht).2
  · exact (own_ge h.round t ht).2
theorem DeskAt.off {s : Sh} {w : World} {d : Nat} {D : Gh} (h : DeskAt s w d D) {x : Nat} {cs : Array Value} {t : TypeId} (hx : w.heap[x]? = some (.cells cs t (0, 0))) (h1 : t ≠ 5) : x ∉ D.gs := by
  intro hin
  obtain ⟨i, _, hc⟩ := h.gs_chunk hin
  exact h1 (blk_ty hx hc)
theorem SchedAt.offDesk {s : Sh} {w : World} {d : Nat} {D : Gh} {q : Nat} {G : Sg} (h : SchedAt w q G) (hD : DeskAt s w d D) : ∀ t, t ∈ sblk q G → t ∉ D.gs := by
  intro t ht hin
  obtain ⟨i, _, hc⟩ := hD.gs_chunk hin
  exact h.off hc (by decide) (by decide) (by decide) (fun e => absurd e (by decide)) ht
theorem DeskAt.offSched {s : Sh} {w : World} {d : Nat} {D : Gh} {q : Nat} {G : Sg} (h : SchedAt w q G) (hD : DeskAt s w d D) : ∀ t, t ∈ d :: D.h :: D.gs → t ∉ sblk q G := by
  intro t ht
  obtain ⟨cur, hcur⟩ := hD.headBlk
  rcases List.mem_cons.1 ht with rfl | ht
  · exact h.off hD.desk (by decide) (by decide) (by decide) (fun e => absurd e (by decide))
  · rcases List.mem_cons.1 ht with rfl | ht
    · exact h.off hcur (by decide) (by decide) (by decide) (fun e => absurd e (by decide))
    · obtain ⟨i, _, hc⟩ := hD.gs_chunk ht
      exact h.off hc (by decide) (by decide) (by decide) (fun e => absurd e (by decide))
/-- A desk at which nothing waits stands where none of its blocks is touched. -/
theorem DeskAt.keep {s : Sh} {w w' : World} {d : Nat} {D : Gh} {S : List Nat} (h : DeskAt s w d D) (hw : D.wait = []) (hm : Mod S w w') (hs : ∀ t, t ∈ d :: D.h :: D.gs → t ∉ S) : DeskAt s w' d D :=
  h.mod hm (hs d (by simp)) (hs _ (by simp)) (fun g hg => hs g (by simp [hg])) (by rw [hw]; intro a _ h0; simp at h0)
/-- A desk's blocks are not of another type. -/
theorem DeskAt.ne {s : Sh} {w : World} {d : Nat} {D : Gh} (h : DeskAt s w d D) {x : Nat} {cs : Array Value} {t : TypeId} (hx : w.heap[x]? = some (.cells cs t (0, 0))) (h1 : t ≠ 103) (h2 : t ≠ 32) (h3 : t ≠ 5) : ∀ b, b ∈ d :: D.h :: D.gs → b ≠ x := by
  rintro b hb rfl
  obtain ⟨cur, hcur⟩ := h.headBlk
  rcases List.mem_cons.1 hb with rfl | hb
  · exact h1 (blk_ty hx h.desk)
  · rcases List.mem_cons.1 hb with rfl | hb
    · exact h2 (blk_ty hx hcur)
    · exact h.off hx h3 hb
/-- What the law holds in both its loops. -/
structure Base (W w : World) (s : Nat) (G : Sg) (d : Nat) (D : Gh) (sb wb : Nat) (sv : Nat → Int) (wv : Nat → Value) : Prop where
  mod : Mod [] W w
  sched : SchedAt w s G
  snew : ∀ t, t ∈ sblk s G → W.heap.size ≤ t
  desk : DeskAt sh2 w d D
  dnew : ∀ t, t ∈ d :: D.h :: D.gs → W.heap.size ≤ t
  dw : D.wait = []
  shs : w.heap[sb]? = some (.cells (tri fun i => .int .i64 (sv i)) 3 (0, 0))
  sbr : G.rv.ownBlock ≠ some sb
  sbnew : W.heap.size ≤ sb
  wait : w.heap[wb]? = some (.cells (tri wv) 90 (0, 0))
  wnew : W.heap.size ≤ wb
namespace Base
variable {W w w' : World} {s d : Nat} {G G' : Sg} {D : Gh} {sb wb : Nat} {sv : Nat → Int} {wv : Nat → Value}
theorem mod0 (h : Base W w s G d D sb wb sv wv) (hm : Mod [] w w') : Base W w' s G d D sb wb sv wv :=
  ⟨h.mod.then0 hm, h.sched.mod0 hm, h.snew, h.desk.mod0 hm, h.dnew, h.dw, hm.blk h.shs (by simp), h.sbr, h.sbnew, hm.blk h.wait (by simp), h.wnew⟩
/-- The scheduler has turned. -/
theorem turned (h : Base W w s G d D sb wb sv wv) (hm : Mod (sblk s G) w w') (hS : SchedAt w' s G') (hn : ∀ t, t ∈ sblk s G' → t ∈ sblk s G ∨ w.heap.size ≤ t) (hr : ∀ g, G'.rv.ownBlock = some g → G.rv.ownBlock = some g ∨ w.heap.size ≤ g) : Base W w' s G' d D sb wb sv wv where
  mod := h.mod.trans hm (fun t ht => .inr (h.snew t ht))
  sched := hS
  snew t ht := (hn t ht).elim (h.snew t) (fun h1 => Nat.le_trans h.mod.size h1)
  desk := h.desk.keep h.dw hm (DeskAt.offSched h.sched h.desk)
  dnew := h.dnew
  dw := h.dw
  shs := hm.blk h.shs (h.sched.off h.shs (by decide) (by decide) (by decide) (fun _ => h.sbr))
  sbr hg := by
    rcases hr sb hg with h1 | h1
    · exact h.sbr h1
    · exact absurd (blk_lt h.shs) (Nat.not_lt.2 h1)
  sbnew := h.sbnew
  wait := hm.blk h.wait (h.sched.off h.wait (by decide) (by decide) (by decide) (fun e => absurd e (by decide)))
  wnew := h.wnew
/-- Nothing of it lies in a block that is touched. -/
theorem keep {S : List Nat} (h : Base W w s G d D sb wb sv wv) (hm : Mod S w w') (hnew : ∀ t, t ∈ S → W.heap.size ≤ t) (h1 : ∀ t, t ∈ sblk s G → t ∉ S) (h2 : ∀ t, t ∈ d :: D.h :: D.gs → t ∉ S) (h3 : sb ∉ S) (h4 : wb ∉ S) : Base W w' s G d D sb wb sv wv :=
  ⟨h.mod.trans hm (fun t ht => .inr (hnew t ht)), h.sched.mod hm h1, h.snew, h.desk.keep h.dw hm h2, h.dnew, h.dw, hm.blk h.shs h3, h.sbr, h.sbnew, hm.blk h.wait h4, h.wnew⟩
/-- The list of those that wait has another header. -/
theorem setWait (h : Base W w s G d D sb wb sv wv) {i : Nat} (hi : i < 3) (v : Value) : Base W (w.setCell ⟨wb, i, none⟩ v) s G d D sb wb sv (put wv i v) := by
  have hm := mod_set w wb i v
  exact ⟨h.mod.trans hm (fun t ht => .inr (by simp at ht; rw [ht]; exact h.wnew)), h.sched.mod hm (fun t ht hin => by simp at hin; subst hin; exact h.sched.off h.wait (by decide) (by decide) (by decide) (fun e => absurd e (by decide)) ht), h.snew,
    h.desk.keep h.dw hm (fun t ht hin => by simp at hin; exact h.desk.ne h.wait (by decide) (by decide) (by decide) t ht hin), h.dnew, h.dw,
    hm.blk h.shs (by simp; rintro rfl; exact absurd (blk_ty h.shs h.wait) (by decide)), h.sbr, h.sbnew, tri_set h.wait hi v, h.wnew⟩
/-- A block of another type turns. -/
theorem other {x : Nat} {cs : Array Value} {t : TypeId} (h : Base W w s G d D sb wb sv wv) (hx : w.heap[x]? = some (.cells cs t (0, 0))) (hnew : W.heap.size ≤ x) (ht : t ∉ [126, 129, 95, 3, 103, 32, 5, 90]) (hm : Mod [x] w w') : Base W w' s G d D sb wb sv wv := by
  simp only [List.mem_cons, List.not_mem_nil, or_false, not_or] at ht
  obtain ⟨t1, t2, t3, t4, t5, t6, t7, t8⟩ := ht
  refine h.keep hm (by simpa using hnew) (fun b hb hin => ?_) (fun b hb hin => ?_) (fun hin => ?_) (fun hin => ?_)
  · simp at hin; subst hin
    exact h.sched.off hx t1 t2 t3 (fun e => absurd e t4) hb
  · simp at hin
    exact h.desk.ne hx t5 t6 t7 b hb hin
  · simp at hin; subst hin
    exact t4 (blk_ty hx h.shs)
  · simp at hin; subst hin
    exact t8 (blk_ty hx h.wait)
end Base
/-- What the law holds while it pushes. -/
structure PushInv (W w : World) (s : Nat) (G : Sg) (d : Nat) (D : Gh) (sb wb : Nat) (sv : Nat → Int) (wv : Nat → Value) (wl : Nat → List Nat) : Prop where
  base : Base W w s G d D sb wb sv wv
  rows : ∀ i, i < 3 → w.ownsRow W.heap.size 3 1 (wv i) (wl i).length (rnd (wl i))
  rsb : ∀ i, i < 3 → (wv i).ownBlock ≠ some sb
  rround : ∀ i, i < 3 → ∀ g, (wv i).ownBlock = some g → G.rv.ownBlock ≠ some g
  rapart : ∀ i j, i < 3 → j < 3 → i ≠ j → ∀ g, (wv i).ownBlock = some g → (wv j).ownBlock ≠ some g
namespace PushInv
variable {W w w' : World} {s d : Nat} {G G' : Sg} {D : Gh} {sb wb : Nat} {sv : Nat → Int} {wv : Nat → Value} {wl : Nat → List Nat}
theorem mod0 (h : PushInv W w s G d D sb wb sv wv wl) (hm : Mod [] w w') : PushInv W w' s G d D sb wb sv wv wl :=
  ⟨h.base.mod0 hm, fun i hi => hm.own0 (h.rows i hi), h.rsb, h.rround, h.rapart⟩
theorem turned (h : PushInv W w s G d D sb wb sv wv wl) (hm : Mod (sblk s G) w w') (hS : SchedAt w' s G') (hn : ∀ t, t ∈ sblk s G' → t ∈ sblk s G ∨ w.heap.size ≤ t) (hr : ∀ g, G'.rv.ownBlock = some g → G.rv.ownBlock = some g ∨ w.heap.size ≤ g) : PushInv W w' s G' d D sb wb sv wv wl where
  base := h.base.turned hm hS hn hr
  rows i hi := hm.own (h.rows i hi) (fun g hg => by
    obtain ⟨cur, hc⟩ := own_blk (h.rows i hi) hg
    exact h.base.sched.off hc (by decide) (by decide) (by decide) (fun _ => h.rround i hi g hg))
  rsb := h.rsb
  rround i hi g hg hgr := by
    rcases hr g hgr with h1 | h1
    · exact h.rround i hi g hg h1
    · obtain ⟨cur, hc⟩ := own_blk (h.rows i hi) hg
      exact absurd (blk_lt hc) (Nat.not_lt.2 h1)
  rapart := h.rapart
/-- One more waits. -/
theorem waits (h : PushInv W w s G d D sb wb sv wv wl) {i : Nat} (hi : i < 3) (x : Nat) (ao : Option Addr) (cp : Nat) (hown : w'.ownsRow W.heap.size 3 1 (.slice ao ((wl i).length + 1) cp) ((wl i).length + 1) (rnd (wl i ++ [x]))) (hm : Mod (wv i).ownBlock.toList w w')
    (hnew : ∀ g, (Value.slice ao ((wl i).length + 1) cp).ownBlock = some g → (wv i).ownBlock = some g ∨ w.heap.size ≤ g) :
    PushInv W (w'.setCell ⟨wb, i, none⟩ (.slice ao ((wl i).length + 1) cp)) s G d D sb wb sv (put wv i (.slice ao ((wl i).length + 1) cp)) (put wl i (wl i ++ [x])) := by
  have hblk : ∀ g, (wv i).ownBlock = some g → ∃ cur, w.heap[g]? = some (.cells cur 3 (0, 0)) := fun g hg => own_blk (h.rows i hi) hg
  have hB : Base W w' s G d D sb wb sv wv := by
    refine h.base.keep hm (fun t ht => (own_ge (h.rows i hi) t ht).1) (fun t ht hin => ?_) (fun t ht hin => ?_) (fun hin => ?_) (fun hin => ?_)
    · obtain ⟨cur, hc⟩ := hblk t (by simpa using hin)
      exact h.base.sched.off hc (by decide) (by decide) (by decide) (fun _ => h.rround i hi t (by simpa using hin)) ht
    · obtain ⟨cur, hc⟩ := hblk t (by simpa using hin)
      exact h.base.desk.ne hc (by decide) (by decide) (by decide) t ht rfl
    · exact h.rsb i hi (by simpa using hin)
    · obtain ⟨cur, hc⟩ := hblk wb (by simpa using hin)
      exact absurd (blk_ty hc h.base.wait) (by decide)
  have hm2 := mod_set w' wb i (.slice ao ((wl i).length + 1) cp)
  have hlt : ∀ j, j < 3 → ∀ g, (wv j).ownBlock = some g → g < w.heap.size := fun j hj g hg => by
    obtain ⟨_, c⟩ := own_blk (h.rows j hj) hg
    exact blk_lt c
  have hdis : ∀ j, j < 3 → j ≠ i → ∀ g, (Value.slice ao ((wl i).length + 1) cp).ownBlock = some g → (wv j).ownBlock ≠ some g := by
    intro j hj hji g hg hgj
    rcases hnew g hg with h1 | h1
    · exact h.rapart i j hi hj (Ne.symm hji) g h1 hgj
    · have := hlt j hj g hgj
      omega
  refine ⟨hB.setWait hi _, fun j hj => ?_, fun j hj => ?_, fun j hj g hg => ?_, fun j k hj hk hjk g hg => ?_⟩
  · by_cases hji : j = i
    · subst hji
      rw [put_same, put_same, List.length_append]
      exact hm2.own hown (off1 hown hB.wait (by decide))
    · rw [put_ne _ _ _ hji, put_ne _ _ _ hji]
      have hj' : w'.ownsRow W.heap.size 3 1 (wv j) (wl j).length (rnd (wl j)) := hm.own (h.rows j hj) (fun g e hin => h.rapart j i hj hi hji g e (by simpa using hin))
      exact hm2.own hj' (off1 hj' hB.wait (by decide))
  · by_cases hji : j = i
    · subst hji
      rw [put_same]
      intro hg
      rcases hnew sb hg with h1 | h1
      · exact h.rsb j hj h1
      · exact absurd (blk_lt h.base.shs) (Nat.not_lt.2 h1)
    · rw [put_ne _ _ _ hji]; exact h.rsb j hj
  · by_cases hji : j = i
    · subst hji
      rw [put_same] at hg
      rcases hnew g hg with h1 | h1
      · exact h.rround j hj g h1
      · intro hr
        obtain ⟨_, c⟩ := own_blk h.base.sched.round hr
        exact absurd (blk_lt c) (Nat.not_lt.2 h1)
    · rw [put_ne _ _ _ hji] at hg; exact h.rround j hj g hg
  · by_cases hji : j = i
    · subst hji
      rw [put_same] at hg
      rw [put_ne _ _ _ (Ne.symm hjk)]
      exact hdis k hk (Ne.symm hjk) g hg
    · rw [put_ne _ _ _ hji] at hg
      by_cases hki : k = i
      · subst hki
        rw [put_same]
        exact fun h2 => hdis j hj hji g h2 hg
      · rw [put_ne _ _ _ hki]
        exact h.rapart j k hj hk hjk g hg
end PushInv
/-- A row of those that wait, from some place on. -/
def RowIn (W w : World) (v : Value) (l : List Nat) : Prop :=
  ∃ A cap, v = .slice A l.length cap ∧ l.length ≤ cap ∧ (l ≠ [] → ∃ g off cur, A = some ⟨g, off, none⟩ ∧ W.heap.size ≤ g ∧ w.heap[g]? = some (.cells cur 3 (0, 0)) ∧ ∀ i (x : Nat), l[i]? = some x → cur[off + i]? = some (.int .i64 x))
/-- No row that waits lies in the block. -/
def OffRow (v : Value) (l : List Nat) (b : Nat) : Prop := l ≠ [] → ∀ A n c, v = .slice (some A) n c → A.block ≠ b
theorem RowIn.ofOwn {W w : World} {v : Value} {l : List Nat} (h : w.ownsRow W.heap.size 3 1 v l.length (rnd l)) : RowIn W w v l := by
  rcases h.2 with ⟨rfl, hl⟩ | ⟨g, cap, cur, rfl, hb, hg, hc, hcur, hx⟩
  · exact ⟨none, 0, by rw [hl], by omega, fun hne => absurd (List.eq_nil_of_length_eq_zero hl) hne⟩
  · refine ⟨some ⟨g, 0, none⟩, cap, rfl, hc, fun _ => ⟨g, 0, cur, rfl, hb, hg, fun i x hi => ?_⟩⟩
    have hil := (List.getElem?_eq_some_iff.1 hi).1
    have := World.ownsRow.cellAt h i (by simpa using hil)
    have h2 : w.cell? ⟨g, i, none⟩ = cur[i]? := cell_of_row w g i cur 3 (0, 0) hg
    rw [Nat.zero_add, ← h2, this]
    simp [rnd, hi]
theorem RowIn.keep {W w w' : World} {v : Value} {l : List Nat} {S : List Nat} (h : RowIn W w v l) (hm : Mod S w w') (ho : ∀ g, g ∈ S → OffRow v l g) : RowIn W w' v l := by
  obtain ⟨A, cap, rfl, hc, hx⟩ := h
  refine ⟨A, cap, rfl, hc, fun hne => ?_⟩
  obtain ⟨g, off, cur, rfl, hg, hb, hx⟩ := hx hne
  exact ⟨g, off, cur, rfl, hg, hm.blk hb (fun hin => ho g hin hne _ _ _ rfl rfl), hx⟩
theorem RowIn.offTy {W w : World} {v : Value} {l : List Nat} (h : RowIn W w v l) {x : Nat} {cs : Array Value} {t : TypeId} (hx : w.heap[x]? = some (.cells cs t (0, 0))) (ht : t ≠ 3) : OffRow v l x := by
  intro hne A n c hv
  obtain ⟨A', cap, rfl, _, h2⟩ := h
  obtain ⟨g, off, cur, rfl, _, hb, _⟩ := h2 hne
  injection hv with h1
  injection h1 with h1
  subst h1
  rintro rfl
  exact ht (blk_ty hx hb)
/-- The three shares. -/
def shares (v0 v1 v2 : Nat) (i : Nat) : Int := 30 + ((match i with | 0 => v0 | 1 => v1 | _ => v2 : Nat) : Int)
theorem shares_le (v0 v1 v2 : Nat) (h0 : v0 < 50) (h1 : v1 < 50) (h2 : v2 < 50) (i : Nat) : 30 ≤ shares v0 v1 v2 i ∧ shares v0 v1 v2 i ≤ 100 := by
  unfold shares
  split <;> omega
/-- A new scheduler. -/
def newSg (fb : Nat) (sv : Nat → Int) : Sg := ⟨fb, fun i => ⟨sv i, 0, [], none, 0⟩, [], none, 0, false, 0⟩
theorem newSg_sane (fb : Nat) (sv : Nat → Int) (h : ∀ i, 30 ≤ sv i ∧ sv i ≤ 100) (N : Nat) : (newSg fb sv).pu.Sane N :=
  ⟨fun f => by simp [newSg, Sg.pu], fun _ _ => rfl, by simp [newSg, Sg.pu], rfl, fun f j hj => by simp [newSg, Sg.pu] at hj, h, fun f => ⟨Int.le_refl _, .inl (by simp [newSg, Sg.pu])⟩, by simp [newSg, Sg.pu], by simp [newSg, Sg.pu]⟩
theorem pushInv_new (W w : World) (d : Nat) (D : Gh) (v0 v1 v2 : Nat) (hm : Mod [] W w) (hsb : w.heap[W.heap.size]? = some (.cells #[.int .i64 (30 + (v0 : Int)), .int .i64 (30 + (v1 : Int)), .int .i64 (30 + (v2 : Int))] 3 (0, 0)))
    (hs : w.heap[W.heap.size + 1 + 1]? = some (.cells #[.slice (some ⟨W.heap.size + 1, 0, none⟩) 3 3, .slice none 0 0, .bool false, .int .i64 0] 126 (0, 0)))
    (hf : w.heap[W.heap.size + 1]? = some (.cells #[.int .i64 (30 + (v0 : Int)), .int .i64 0, .slice none 0 0, .int .i64 (30 + (v1 : Int)), .int .i64 0, .slice none 0 0, .int .i64 (30 + (v2 : Int)), .int .i64 0, .slice none 0 0] 129 (0, 0)))
    (hD : DeskAt sh2 w d D) (hDn : ∀ t, t ∈ d :: D.h :: D.gs → W.heap.size ≤ t) (hw : D.wait = []) :
    PushInv W (w.alloc (.cells #[.slice none 0 0, .slice none 0 0, .slice none 0 0] 90)) (W.heap.size + 1 + 1) (newSg (W.heap.size + 1) (shares v0 v1 v2)) d D W.heap.size w.heap.size (shares v0 v1 v2) (fun _ => .slice none 0 0) (fun _ => []) := by
  have ha : Mod [] w (w.alloc (.cells #[.slice none 0 0, .slice none 0 0, .slice none 0 0] 90)) := (Mod.refl _ _).alloc _
  have hS : SchedAt w (W.heap.size + 1 + 1) (newSg (W.heap.size + 1) (shares v0 v1 v2)) :=
    ⟨hs, hf, fun i _ => World.ownsRow_nil _ _ _ _, World.ownsRow_nil _ _ _ _, fun i j _ _ _ g hg => by simp [newSg, Fl.jv, Value.ownBlock] at hg⟩
  refine ⟨⟨hm.then0 ha, hS.mod0 ha, fun t ht => ?_, hD.mod0 ha, hDn, hw, ha.blk hsb (by simp), by simp [newSg, Sg.rv, Value.ownBlock], Nat.le_refl _, blk_alloc _ _ _, hm.size⟩, fun i _ => World.ownsRow_nil _ _ _ _, fun i _ => by simp [Value.ownBlock], fun i _ g hg => by simp [Value.ownBlock] at hg, fun i j _ _ _ g hg => by simp [Value.ownBlock] at hg⟩
  simp [sblk, newSg, Fl.jv, Sg.rv, Value.ownBlock] at ht
  omega
/-- What the law's plain state is while it pushes. -/
structure PushPl (N k : Nat) (sv : Nat → Int) (p : Pu) (wl : Nat → List Nat) : Prop where
  sane : p.Sane N
  on : p.on = false
  cr : ∀ f, p.cr f = 0
  rlen : p.round.length ≤ p.n
  n : p.n = k
  sh : ∀ f, p.sh f = sv f
  wl : ∀ f, wl f = (p.jobs f).map Jb.i
theorem pushPl_new (fb N : Nat) (sv : Nat → Int) (h : ∀ i, 30 ≤ sv i ∧ sv i ≤ 100) : PushPl N 0 sv (newSg fb sv).pu (fun _ => []) :=
  ⟨newSg_sane fb sv h N, rfl, fun _ => rfl, Nat.le_refl _, rfl, fun _ => rfl, fun _ => rfl⟩
theorem PushPl.push {N k : Nat} {sv : Nat → Int} {p : Pu} {wl : Nat → List Nat} (h : PushPl N k sv p wl) {i c : Nat} (hi : i < 3) (hc : 1 ≤ c ∧ c ≤ 24) (hk : k < N) (hN : N ≤ 60) : PushPl N (k + 1) sv (p.push i ⟨i, c, k⟩) (put wl i (wl i ++ [k])) := by
  have hp := h.sane.push (j := ⟨i, c, k⟩) hi rfl hc hk (by rw [h.n]; omega) h.rlen
  refine ⟨hp.1, h.on, h.cr, hp.2, by show p.n + 1 = k + 1; rw [h.n], h.sh, fun f => ?_⟩
  show put wl i (wl i ++ [k]) f = (put p.jobs i (p.jobs i ++ [⟨i, c, k⟩]) f).map Jb.i
  by_cases hf : f = i
  · subst hf
    rw [put_same, put_same, h.wl f]
    simp
  · rw [put_ne _ _ _ hf, put_ne _ _ _ hf, h.wl f]
end Go.Proofs.Ytfkhefoilancnaa
