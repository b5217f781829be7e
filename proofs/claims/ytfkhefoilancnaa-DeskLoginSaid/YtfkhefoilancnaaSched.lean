/-
  What a scheduler's blocks are: its own cells, its flows' cells, the rows of waiting jobs, and the round.
-/
import Derived.Test.YtfkhefoilancnaaNew
import Derived.Test.YtfkhefoilancnaaDel
namespace Go.Proofs.Ytfkhefoilancnaa
open Go.RowKit
/-- A job: its flow, its cost, its number. -/
structure Jb where
  f : Nat
  c : Nat
  i : Nat
def Jb.cells (j : Jb) : List Value := [.int .i64 j.f, .int .i64 j.c, .int .u64 j.i]
def jrows (l : List Jb) : List Value := l.flatMap Jb.cells
theorem jrows_snoc (l : List Jb) (j : Jb) : jrows (l ++ [j]) = jrows l ++ j.cells := by simp [jrows]
theorem jrows_drop (j : Jb) (l : List Jb) : (jrows (j :: l)).drop 3 = jrows l := by simp [jrows, Jb.cells]
theorem jrows_one (l : List Jb) : ∀ u ∈ jrows l, u.oneCell' = true := by
  intro u hu
  simp only [jrows, List.mem_flatMap, Jb.cells, List.mem_cons, List.not_mem_nil, or_false] at hu
  obtain ⟨j, _, rfl | rfl | rfl⟩ := hu <;> rfl
/-- A flow: share, credit, the jobs that wait, and where. -/
structure Fl where
  sh : Int
  cr : Int
  jobs : List Jb
  ja : Option Addr
  jc : Nat
def Fl.jv (f : Fl) : Value := .slice f.ja f.jobs.length f.jc
structure Sg where
  fb : Nat
  fl : Nat → Fl
  round : List Nat
  ra : Option Addr
  rc : Nat
  on : Bool
  n : Nat
def Sg.rv (G : Sg) : Value := .slice G.ra G.round.length G.rc
def flowCells (fl : Nat → Fl) : Array Value := #[.int .i64 (fl 0).sh, .int .i64 (fl 0).cr, (fl 0).jv, .int .i64 (fl 1).sh, .int .i64 (fl 1).cr, (fl 1).jv, .int .i64 (fl 2).sh, .int .i64 (fl 2).cr, (fl 2).jv]
def schedCells (G : Sg) : Array Value := #[.slice (some ⟨G.fb, 0, none⟩) 3 3, G.rv, .bool G.on, .int .i64 G.n]
def rnd (l : List Nat) : List Value := l.map fun (f : Nat) => Value.int .i64 (f : Int)
structure SchedAt (w : World) (s : Nat) (G : Sg) : Prop where
  sched : w.heap[s]? = some (.cells (schedCells G) 126 (0, 0))
  flows : w.heap[G.fb]? = some (.cells (flowCells G.fl) 129 (0, 0))
  jobs : ∀ i, i < 3 → w.ownsRow 0 95 3 (G.fl i).jv (G.fl i).jobs.length (jrows (G.fl i).jobs)
  round : w.ownsRow 0 3 1 G.rv G.round.length (rnd G.round)
  apart : ∀ i j, i < 3 → j < 3 → i ≠ j → ∀ g, (G.fl i).jv.ownBlock = some g → (G.fl j).jv.ownBlock ≠ some g
/-- The blocks that are a scheduler's own. -/
def sblk (s : Nat) (G : Sg) : List Nat := s :: G.fb :: ((G.fl 0).jv.ownBlock.toList ++ (G.fl 1).jv.ownBlock.toList ++ (G.fl 2).jv.ownBlock.toList ++ G.rv.ownBlock.toList)
/-- A flow is another now. -/
def upd (fl : Nat → Fl) (i : Nat) (f : Fl) (j : Nat) : Fl := if j = i then f else fl j
theorem upd_same (fl : Nat → Fl) (i : Nat) (f : Fl) : upd fl i f i = f := by simp [upd]
theorem upd_other (fl : Nat → Fl) (i : Nat) (f : Fl) {j : Nat} (h : j ≠ i) : upd fl i f j = fl j := by simp [upd, h]
theorem lt3 {i : Nat} (h : i < 3) : i = 0 ∨ i = 1 ∨ i = 2 := by omega
theorem own_blk {w : World} {base : Nat} {e : TypeId} {size : Nat} {v : Value} {n : Nat} {xs : List Value} (h : w.ownsRow base e size v n xs) {g : Nat} (hg : v.ownBlock = some g) : ∃ cur, w.heap[g]? = some (.cells cur e (0, 0)) := by
  rcases h.2 with ⟨rfl, _⟩ | ⟨g', cap, cur, rfl, _, hg', _⟩
  · simp [Value.ownBlock] at hg
  · simp [Value.ownBlock] at hg
    subst hg
    exact ⟨cur, hg'⟩
theorem blk_ty {w : World} {a : Nat} {ca cb : Array Value} {ta tb : TypeId} (ha : w.heap[a]? = some (.cells ca ta (0, 0))) (hb : w.heap[a]? = some (.cells cb tb (0, 0))) : ta = tb := by
  rw [ha] at hb
  injection hb with hb
  injection hb with _ ht
theorem off1 {w : World} {base : Nat} {e : TypeId} {size : Nat} {v : Value} {n : Nat} {xs : List Value} (ho : w.ownsRow base e size v n xs) {x : Nat} {cs : Array Value} {t : TypeId} (hx : w.heap[x]? = some (.cells cs t (0, 0))) (hne : e ≠ t) :
    ∀ g, v.ownBlock = some g → g ∉ [x] := by
  intro g hg hin
  have hgx : g = x := by simpa using hin
  exact own_off ho hx hne (by rw [← hgx]; simp [hg])
namespace SchedAt
variable {w w' : World} {s : Nat} {G : Sg}
theorem cell (h : SchedAt w s G) {i : Nat} {v : Value} (hi : (schedCells G)[i]? = some v) : w.cell? ⟨s, i, none⟩ = some v := blk_cell h.sched hi
theorem flow (h : SchedAt w s G) {i : Nat} (hi : i < 3) : w.cell? ⟨G.fb, i * 3, none⟩ = some (.int .i64 (G.fl i).sh) ∧ w.cell? ⟨G.fb, i * 3 + 1, none⟩ = some (.int .i64 (G.fl i).cr) ∧ w.cell? ⟨G.fb, i * 3 + 2, none⟩ = some (G.fl i).jv := by
  rcases lt3 hi with rfl | rfl | rfl <;> exact ⟨blk_cell h.flows rfl, blk_cell h.flows rfl, blk_cell h.flows rfl⟩
theorem ne (h : SchedAt w s G) : s ≠ G.fb := fun e => absurd (blk_ty (e ▸ h.sched) h.flows) (by decide)
theorem jobs_s (h : SchedAt w s G) {i : Nat} (hi : i < 3) : s ∉ (G.fl i).jv.ownBlock.toList := own_off (h.jobs i hi) h.sched (by decide)
theorem jobs_fb (h : SchedAt w s G) {i : Nat} (hi : i < 3) : G.fb ∉ (G.fl i).jv.ownBlock.toList := own_off (h.jobs i hi) h.flows (by decide)
theorem round_s (h : SchedAt w s G) : s ∉ G.rv.ownBlock.toList := own_off h.round h.sched (by decide)
theorem round_fb (h : SchedAt w s G) : G.fb ∉ G.rv.ownBlock.toList := own_off h.round h.flows (by decide)
theorem jobs_round (h : SchedAt w s G) {i : Nat} (hi : i < 3) {g : Nat} (h1 : (G.fl i).jv.ownBlock = some g) (h2 : G.rv.ownBlock = some g) : False := by
  obtain ⟨_, c1⟩ := own_blk (h.jobs i hi) h1
  obtain ⟨_, c2⟩ := own_blk h.round h2
  exact absurd (blk_ty c1 c2) (by decide)
/-- What it holds stands where nothing of it is touched. -/
theorem mod {S : List Nat} (h : SchedAt w s G) (hm : Mod S w w') (hs : ∀ t, t ∈ sblk s G → t ∉ S) : SchedAt w' s G where
  sched := hm.blk h.sched (hs _ (by simp [sblk]))
  flows := hm.blk h.flows (hs _ (by simp [sblk]))
  jobs i hi := hm.own (h.jobs i hi) (fun g e => hs _ (by rcases lt3 hi with rfl | rfl | rfl <;> simp [sblk, e]))
  round := hm.own h.round (fun g e => hs _ (by simp [sblk, e]))
  apart := h.apart
theorem mod0 (h : SchedAt w s G) (hm : Mod [] w w') : SchedAt w' s G := h.mod hm (by simp)
/-- A cell of its own turns: whose turn it is, how many wait. -/
theorem setOn (h : SchedAt w s G) (b : Bool) : SchedAt (w.setCell ⟨s, 2, none⟩ (.bool b)) s { G with on := b } ∧ Mod [s] w (w.setCell ⟨s, 2, none⟩ (.bool b)) := by
  have hm : Mod [s] w (w.setCell ⟨s, 2, none⟩ (.bool b)) := (Mod.refl _ _).setCell (.inl (by simp)) _
  refine ⟨⟨?_, hm.blk h.flows (by simpa using h.ne.symm), fun i hi => hm.own (h.jobs i hi) (off1 (h.jobs i hi) h.sched (by decide)), hm.own h.round (off1 h.round h.sched (by decide)), h.apart⟩, hm⟩
  rw [heap_setCell_same w s 2 _ 126 _ h.sched]
  rfl
theorem setN (h : SchedAt w s G) (n : Nat) : SchedAt (w.setCell ⟨s, 3, none⟩ (.int .i64 n)) s { G with n := n } ∧ Mod [s] w (w.setCell ⟨s, 3, none⟩ (.int .i64 n)) := by
  have hm : Mod [s] w (w.setCell ⟨s, 3, none⟩ (.int .i64 n)) := (Mod.refl _ _).setCell (.inl (by simp)) _
  refine ⟨⟨?_, hm.blk h.flows (by simpa using h.ne.symm), fun i hi => hm.own (h.jobs i hi) (off1 (h.jobs i hi) h.sched (by decide)), hm.own h.round (off1 h.round h.sched (by decide)), h.apart⟩, hm⟩
  rw [heap_setCell_same w s 3 _ 126 _ h.sched]
  rfl
/-- A flow's credit turns. -/
theorem setCr (h : SchedAt w s G) {i : Nat} (hi : i < 3) (c : Int) : SchedAt (w.setCell ⟨G.fb, i * 3 + 1, none⟩ (.int .i64 c)) s { G with fl := upd G.fl i { G.fl i with cr := c } } ∧ Mod [G.fb] w (w.setCell ⟨G.fb, i * 3 + 1, none⟩ (.int .i64 c)) := by
  have hm : Mod [G.fb] w (w.setCell ⟨G.fb, i * 3 + 1, none⟩ (.int .i64 c)) := (Mod.refl _ _).setCell (.inl (by simp)) _
  have ej : ∀ j, (upd G.fl i { G.fl i with cr := c } j).jv = (G.fl j).jv ∧ (upd G.fl i { G.fl i with cr := c } j).jobs = (G.fl j).jobs := by
    intro j
    by_cases hj : j = i
    · subst hj; rw [upd_same]; exact ⟨rfl, rfl⟩
    · rw [upd_other _ _ _ hj]; exact ⟨rfl, rfl⟩
  refine ⟨⟨hm.blk h.sched (by simpa using h.ne), ?_, fun j hj => ?_, hm.own h.round (off1 h.round h.flows (by decide)), fun j k hj hk hjk g hg => ?_⟩, hm⟩
  · rw [heap_setCell_same w G.fb (i * 3 + 1) _ 129 _ h.flows]
    rcases lt3 hi with rfl | rfl | rfl <;> rfl
  · show World.ownsRow _ 0 95 3 (upd G.fl i _ j).jv (upd G.fl i _ j).jobs.length (jrows (upd G.fl i _ j).jobs)
    rw [(ej j).1, (ej j).2]
    exact hm.own (h.jobs j hj) (off1 (h.jobs j hj) h.flows (by decide))
  · have h1 : (upd G.fl i { G.fl i with cr := c } j).jv.ownBlock = some g := hg
    show (upd G.fl i { G.fl i with cr := c } k).jv.ownBlock ≠ some g
    rw [(ej j).1] at h1
    rw [(ej k).1]
    exact h.apart j k hj hk hjk g h1
/-- A flow's row of jobs turns: the row has grown or shrunk in w', then its header is stored. -/
theorem setJobs (h : SchedAt w s G) {i : Nat} (hi : i < 3) (jobs : List Jb) (ja : Option Addr) (jc : Nat) (hown : w'.ownsRow 0 95 3 (.slice ja jobs.length jc) jobs.length (jrows jobs)) (hm : Mod (G.fl i).jv.ownBlock.toList w w')
    (hnew : ∀ g, (Value.slice ja jobs.length jc).ownBlock = some g → (G.fl i).jv.ownBlock = some g ∨ w.heap.size ≤ g) :
    SchedAt (w'.setCell ⟨G.fb, i * 3 + 2, none⟩ (.slice ja jobs.length jc)) s { G with fl := upd G.fl i { G.fl i with jobs := jobs, ja := ja, jc := jc } } ∧ Mod (G.fb :: (G.fl i).jv.ownBlock.toList) w (w'.setCell ⟨G.fb, i * 3 + 2, none⟩ (.slice ja jobs.length jc)) := by
  have hm2 : Mod [G.fb] w' (w'.setCell ⟨G.fb, i * 3 + 2, none⟩ (.slice ja jobs.length jc)) := (Mod.refl _ _).setCell (.inl (by simp)) _
  have hs : w'.heap[s]? = some (.cells (schedCells G) 126 (0, 0)) := hm.blk h.sched (h.jobs_s hi)
  have hf : w'.heap[G.fb]? = some (.cells (flowCells G.fl) 129 (0, 0)) := hm.blk h.flows (h.jobs_fb hi)
  have hr : w'.ownsRow 0 3 1 G.rv G.round.length (rnd G.round) := hm.own h.round (fun g e hin => h.jobs_round hi (by simpa using hin) e)
  have hlt : ∀ j, j < 3 → ∀ g, (G.fl j).jv.ownBlock = some g → g < w.heap.size := fun j hj g e => by
    obtain ⟨_, c⟩ := own_blk (h.jobs j hj) e
    exact blk_lt c
  have hdis : ∀ j, j < 3 → j ≠ i → ∀ g, (Value.slice ja jobs.length jc).ownBlock = some g → (G.fl j).jv.ownBlock ≠ some g := by
    intro j hj hji g hg hgj
    rcases hnew g hg with h1 | h1
    · exact h.apart i j hi hj (Ne.symm hji) g h1 hgj
    · have := hlt j hj g hgj
      omega
  refine ⟨⟨hm2.blk hs (by simpa using h.ne), ?_, fun j hj => ?_, hm2.own hr (off1 hr hf (by decide)), fun j k hj hk hjk g hg => ?_⟩, (hm.mono (by intro t ht; simp at ht ⊢; exact .inr ht)).trans hm2 (by simp)⟩
  · rw [heap_setCell_same w' G.fb (i * 3 + 2) _ 129 _ hf]
    rcases lt3 hi with rfl | rfl | rfl <;> rfl
  · show World.ownsRow _ 0 95 3 (upd G.fl i _ j).jv (upd G.fl i _ j).jobs.length (jrows (upd G.fl i _ j).jobs)
    by_cases hji : j = i
    · subst hji
      rw [upd_same]
      exact hm2.own hown (off1 hown hf (by decide))
    · rw [upd_other _ _ _ hji]
      have hj' : w'.ownsRow 0 95 3 (G.fl j).jv (G.fl j).jobs.length (jrows (G.fl j).jobs) := hm.own (h.jobs j hj) (fun g e hin => h.apart j i hj hi hji g e (by simpa using hin))
      exact hm2.own hj' (off1 hj' hf (by decide))
  · have h1 : (upd G.fl i { G.fl i with jobs := jobs, ja := ja, jc := jc } j).jv.ownBlock = some g := hg
    show (upd G.fl i { G.fl i with jobs := jobs, ja := ja, jc := jc } k).jv.ownBlock ≠ some g
    by_cases hji : j = i
    · subst hji
      rw [upd_same] at h1
      rw [upd_other _ _ _ (Ne.symm hjk)]
      exact hdis k hk (Ne.symm hjk) g h1
    · rw [upd_other _ _ _ hji] at h1
      by_cases hki : k = i
      · subst hki
        rw [upd_same]
        exact fun h2 => hdis j hj hji g h2 h1
      · rw [upd_other _ _ _ hki]
        exact h.apart j k hj hk hjk g h1
/-- The round turns. -/
theorem setRound (h : SchedAt w s G) (round : List Nat) (ra : Option Addr) (rc : Nat) (hown : w'.ownsRow 0 3 1 (.slice ra round.length rc) round.length (rnd round)) (hm : Mod G.rv.ownBlock.toList w w') :
    SchedAt (w'.setCell ⟨s, 1, none⟩ (.slice ra round.length rc)) s { G with round := round, ra := ra, rc := rc } ∧ Mod (s :: G.rv.ownBlock.toList) w (w'.setCell ⟨s, 1, none⟩ (.slice ra round.length rc)) := by
  have hm2 : Mod [s] w' (w'.setCell ⟨s, 1, none⟩ (.slice ra round.length rc)) := (Mod.refl _ _).setCell (.inl (by simp)) _
  have hs : w'.heap[s]? = some (.cells (schedCells G) 126 (0, 0)) := hm.blk h.sched h.round_s
  have hf : w'.heap[G.fb]? = some (.cells (flowCells G.fl) 129 (0, 0)) := hm.blk h.flows h.round_fb
  have hj : ∀ i, i < 3 → w'.ownsRow 0 95 3 (G.fl i).jv (G.fl i).jobs.length (jrows (G.fl i).jobs) := fun i hi => hm.own (h.jobs i hi) (fun g e hin => h.jobs_round hi e (by simpa using hin))
  refine ⟨⟨?_, hm2.blk hf (by simpa using h.ne.symm), fun i hi => hm2.own (hj i hi) (off1 (hj i hi) hs (by decide)), hm2.own hown (off1 hown hs (by decide)), h.apart⟩, (hm.mono (by intro t ht; simp at ht ⊢; exact .inr ht)).trans hm2 (by simp)⟩
  rw [heap_setCell_same w' s 1 _ 126 _ hs]
  rfl
end SchedAt
end Go.Proofs.Ytfkhefoilancnaa
