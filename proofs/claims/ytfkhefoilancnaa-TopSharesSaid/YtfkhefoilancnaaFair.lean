/-
  The scheduler of the law on shares: what holds of it all along, and that no first request waits till the others are through. Plain: no program in sight.
-/
import Derived.Test.YtfkhefoilancnaaPu
namespace Go.Proofs.Ytfkhefoilancnaa
open Go.RowKit
def Pu.push (p : Pu) (i : Nat) (j : Jb) : Pu := { p with jobs := put p.jobs i (p.jobs i ++ [j]), round := if i ∈ p.round then p.round else p.round ++ [i], n := p.n + 1 }
theorem put_same {α : Type} (f : Nat → α) (i : Nat) (a : α) : put f i a i = a := by simp [put]
theorem put_ne {α : Type} (f : Nat → α) (i : Nat) (a : α) {j : Nat} (h : j ≠ i) : put f i a j = f j := by simp [put, h]
theorem Sg.pushed_pu (G : Sg) (i : Nat) (j : Jb) (ja : Option Addr) (jc : Nat) (ra : Option Addr) (rc : Nat) : (G.pushed i j ja jc ra rc).pu = G.pu.push i j := by
  simp only [Sg.pu, Sg.pushed, Pu.push, Pu.mk.injEq, and_true]
  refine ⟨funext fun k => ?_, funext fun k => ?_, funext fun k => ?_, rfl⟩ <;> (simp only [upd, put]; split <;> simp_all)
/-- What holds of the law's scheduler all along. -/
structure Pu.Sane (p : Pu) (N : Nat) : Prop where
  mem : ∀ f, f ∈ p.round ↔ f < 3 ∧ p.jobs f ≠ []
  big : ∀ f, 3 ≤ f → p.jobs f = []
  nodup : p.round.Nodup
  cnt : p.n = (p.jobs 0).length + (p.jobs 1).length + (p.jobs 2).length
  job : ∀ f j, j ∈ p.jobs f → j.f = f ∧ 1 ≤ j.c ∧ j.c ≤ 24 ∧ j.i < N
  sh : ∀ f, 30 ≤ p.sh f ∧ p.sh f ≤ 100
  cr : ∀ f, 0 ≤ p.cr f ∧ (p.cr f ≤ 24 ∨ p.on = true ∧ p.round.head? = some f ∧ p.cr f ≤ 124)
  rlen : p.round.length ≤ 60
  n : p.n ≤ 60
namespace Pu.Sane
variable {p : Pu} {N : Nat}
theorem ok (h : p.Sane N) : p.Ok where
  flow f hf := (h.mem f).1 hf
  len f := by
    by_cases hf : f < 3
    · have := h.cnt
      have := h.n
      rcases lt3 hf with rfl | rfl | rfl <;> omega
    · rw [h.big f (by omega)]; simp
  cost f j hj := ⟨(h.job f j hj).2.1, (h.job f j hj).2.2.1⟩
  sh := h.sh
  cr f := by have := h.cr f; omega
  rlen := by have := h.rlen; omega
  n := by have := h.n; omega
theorem ne (h : p.Sane N) (hn : p.n ≠ 0) : p.round ≠ [] := by
  have hc := h.cnt
  intro hr
  have h0 : ∀ f, f < 3 → p.jobs f = [] := by
    intro f hf
    cases hj : p.jobs f with
    | nil => rfl
    | cons a l =>
      have := (h.mem f).2 ⟨hf, by rw [hj]; simp⟩
      rw [hr] at this
      cases this
  rw [h0 0 (by omega), h0 1 (by omega), h0 2 (by omega)] at hc
  simp at hc
  exact hn hc
theorem push (h : p.Sane N) {i : Nat} {j : Jb} (hi : i < 3) (hf : j.f = i) (hc : 1 ≤ j.c ∧ j.c ≤ 24) (hj : j.i < N) (hn : p.n < 60) (hr : p.round.length ≤ p.n) : (p.push i j).Sane N ∧ (p.push i j).round.length ≤ (p.push i j).n := by
  have hrl : (p.push i j).round.length ≤ p.n + 1 := by
    simp only [Pu.push]
    split
    · omega
    · simp; omega
  refine ⟨⟨fun f => ?_, fun f hf3 => ?_, ?_, ?_, fun f k hk => ?_, h.sh, fun f => ?_, by omega, by show p.n + 1 ≤ 60; omega⟩, hrl⟩
  · have hm := h.mem f
    by_cases hfi : f = i
    · subst hfi
      simp only [Pu.push, put_same]
      split <;> simp_all
    · simp only [Pu.push, put_ne _ _ _ hfi]
      split <;> simp_all
  · show put p.jobs i _ f = []
    rw [put_ne _ _ _ (by omega)]
    exact h.big f hf3
  · simp only [Pu.push]
    split
    · exact h.nodup
    · rename_i hin
      exact List.nodup_append.2 ⟨h.nodup, by simp, by intro a ha b hb; simp at hb; subst hb; rintro rfl; exact hin ha⟩
  · show p.n + 1 = (put p.jobs i (p.jobs i ++ [j]) 0).length + (put p.jobs i (p.jobs i ++ [j]) 1).length + (put p.jobs i (p.jobs i ++ [j]) 2).length
    have := h.cnt
    rcases lt3 hi with rfl | rfl | rfl <;> simp [put] <;> omega
  · have hk' : k ∈ put p.jobs i (p.jobs i ++ [j]) f := hk
    by_cases hfi : f = i
    · subst hfi
      rw [put_same] at hk'
      rcases List.mem_append.1 hk' with hk' | hk'
      · exact h.job f k hk'
      · have : k = j := by simpa using hk'
        subst this
        exact ⟨hf, hc.1, hc.2, hj⟩
    · rw [put_ne _ _ _ hfi] at hk'
      exact h.job f k hk'
  · have h0 := h.cr f
    refine ⟨h0.1, ?_⟩
    rcases h0.2 with h1 | ⟨h1, h2, h3⟩
    · exact .inl h1
    · refine .inr ⟨h1, ?_, h3⟩
      simp only [Pu.push]
      split
      · exact h2
      · cases hq : p.round with
        | nil => rw [hq] at h2; cases h2
        | cons a l => rw [hq] at h2; exact h2
theorem begin (h : p.Sane N) (hc : ∀ f, p.cr f ≤ 24) : p.begin.Sane N := by
  cases hq : p.round with
  | nil =>
    have : p.begin = p := by simp only [Pu.begin, hq]
    rw [this]; exact h
  | cons i rest =>
    have e : p.begin = { p with cr := put p.cr i (p.cr i + p.sh i), on := true } := by simp only [Pu.begin, hq]
    rw [e]
    refine ⟨h.mem, h.big, h.nodup, h.cnt, h.job, h.sh, fun f => ?_, h.rlen, h.n⟩
    show 0 ≤ put p.cr i (p.cr i + p.sh i) f ∧ (put p.cr i (p.cr i + p.sh i) f ≤ 24 ∨ true = true ∧ p.round.head? = some f ∧ put p.cr i (p.cr i + p.sh i) f ≤ 124)
    have h1 := h.cr f
    have h2 := hc f
    have h3 := h.sh f
    by_cases hf : f = i
    · subst hf
      rw [put_same, hq]
      exact ⟨by omega, .inr ⟨rfl, rfl, by omega⟩⟩
    · rw [put_ne _ _ _ hf]
      exact ⟨h1.1, .inl h2⟩
theorem off (h : p.Sane N) (hon : p.on = false) : ∀ f, p.cr f ≤ 24 := by
  intro f
  rcases (h.cr f).2 with h1 | ⟨h1, _⟩
  · exact h1
  · rw [hon] at h1; cases h1
theorem front (h : p.Sane N) {i : Nat} {rest : List Nat} (hr : p.round = i :: rest) : i < 3 ∧ ∃ j js, p.jobs i = j :: js := by
  have := (h.mem i).1 (by rw [hr]; simp)
  refine ⟨this.1, ?_⟩
  cases hj : p.jobs i with
  | nil => exact absurd hj this.2
  | cons a l => exact ⟨a, l, rfl⟩
theorem turn (h : p.Sane N) (ho : p.over = true) : p.turn.Sane N ∧ ∀ f, p.turn.cr f ≤ 24 := by
  cases hq : p.round with
  | nil =>
    have : p.over = false := by simp only [Pu.over, hq]
    rw [this] at ho; cases ho
  | cons i rest =>
    obtain ⟨hi, j, js, hj⟩ := h.front hq
    have e : p.turn = { p with round := rest ++ [i] } := by simp only [Pu.turn, hq]
    have eo : p.cr i < (j.c : Int) := by
      simp only [Pu.over, hq, hj] at ho
      simpa using ho
    have hcost := (h.job i j (by rw [hj]; simp)).2.2.1
    have hc : ∀ f, p.cr f ≤ 24 := by
      intro f
      rcases (h.cr f).2 with h1 | ⟨_, h1, _⟩
      · exact h1
      · rw [hq] at h1
        have : i = f := by simpa using h1
        subst this
        omega
    rw [e]
    have hm := h.mem
    have hnd := h.nodup
    have hl := h.rlen
    rw [hq] at hm hnd hl
    refine ⟨⟨fun f => ?_, h.big, ?_, h.cnt, h.job, h.sh, fun f => ⟨(h.cr f).1, .inl (hc f)⟩, by simpa using hl, h.n⟩, hc⟩
    · rw [← hm f]
      simp [or_comm]
    · show (rest ++ [i]).Nodup
      rw [List.nodup_cons] at hnd
      exact List.nodup_append.2 ⟨hnd.2, by simp, by intro a ha b hb; simp at hb; subst hb; rintro rfl; exact hnd.1 ha⟩
theorem first (h : p.Sane N) : p.first.Sane N := by
  unfold Pu.first
  split
  · exact h
  · rename_i hon
    exact h.begin (h.off (by simpa using hon))
theorem ready (h : p.Sane N) : p.ready.Sane N := by
  unfold Pu.ready
  split
  · rename_i ho
    have := h.first.turn ho
    exact this.1.begin this.2
  · exact h.first
theorem begin_on (hne : p.round ≠ []) : p.begin.on = true := by
  cases hq : p.round with
  | nil => exact absurd hq hne
  | cons i rest => simp only [Pu.begin, hq]
theorem ready_on (h : p.Sane N) (hn : p.n ≠ 0) : p.ready.on = true := by
  unfold Pu.ready
  split
  · refine begin_on ((p.first.turn_like).ne ((p.first_like).ne (h.ne hn)))
  · unfold Pu.first
    split
    · assumption
    · exact begin_on (h.ne hn)
theorem take (h : p.Sane N) {i : Nat} {rest : List Nat} {j : Jb} {js : List Jb} (hr : p.round = i :: rest) (hj : p.jobs i = j :: js) (ho : p.over = false) : (p.take i rest j js).Sane N := by
  have hi := (h.front hr).1
  have hm := h.mem
  have hnd := h.nodup
  have hl := h.rlen
  rw [hr] at hm hnd hl
  rw [List.nodup_cons] at hnd
  have hc := h.cnt
  have hov : (j.c : Int) ≤ p.cr i := by
    simp only [Pu.over, hr, hj] at ho
    simpa using ho
  have hcr : ∀ f, f ≠ i → p.cr f ≤ 24 := by
    intro f hf
    rcases (h.cr f).2 with h1 | ⟨_, h1, _⟩
    · exact h1
    · rw [hr] at h1
      exact absurd (by simpa using h1.symm) hf
  have hcri : p.cr i ≤ 124 := by rcases (h.cr i).2 with h1 | ⟨_, _, h1⟩ <;> omega
  have hjb : ∀ f k, k ∈ put p.jobs i js f → k ∈ p.jobs f := by
    intro f k hk
    by_cases hf : f = i
    · subst hf
      rw [put_same] at hk
      rw [hj]; simp [hk]
    · rwa [put_ne _ _ _ hf] at hk
  have hbig : ∀ f, 3 ≤ f → put p.jobs i js f = [] := fun f hf => by rw [put_ne _ _ _ (by omega)]; exact h.big f hf
  have hcnt : p.n - 1 = (put p.jobs i js 0).length + (put p.jobs i js 1).length + (put p.jobs i js 2).length := by
    rcases lt3 hi with rfl | rfl | rfl <;> (rw [hj] at hc; simp [put] at hc ⊢; omega)
  have hn := h.n
  simp only [List.length_cons] at hl
  cases js with
  | nil =>
    refine ⟨fun f => ?_, hbig, hnd.2, hcnt, fun f k hk => h.job f k (hjb f k hk), h.sh, fun f => ?_, by show rest.length ≤ 60; omega, by show p.n - 1 ≤ 60; omega⟩
    · show f ∈ rest ↔ f < 3 ∧ put p.jobs i [] f ≠ []
      by_cases hf : f = i
      · subst hf
        rw [put_same]
        simp [hnd.1]
      · rw [put_ne _ _ _ hf, ← hm f]
        simp [hf]
    · show 0 ≤ put p.cr i 0 f ∧ (put p.cr i 0 f ≤ 24 ∨ _)
      by_cases hf : f = i
      · subst hf
        rw [put_same]
        exact ⟨by omega, .inl (by omega)⟩
      · rw [put_ne _ _ _ hf]
        exact ⟨(h.cr f).1, .inl (hcr f hf)⟩
  | cons a l =>
    refine ⟨fun f => ?_, hbig, h.nodup, hcnt, fun f k hk => h.job f k (hjb f k hk), h.sh, fun f => ?_, h.rlen, by show p.n - 1 ≤ 60; omega⟩
    · show f ∈ p.round ↔ f < 3 ∧ put p.jobs i (a :: l) f ≠ []
      rw [h.mem f]
      by_cases hf : f = i
      · subst hf
        rw [put_same, hj]
        simp
      · rw [put_ne _ _ _ hf]
    · show 0 ≤ put p.cr i (p.cr i - j.c) f ∧ (put p.cr i (p.cr i - j.c) f ≤ 24 ∨ p.on = true ∧ p.round.head? = some f ∧ put p.cr i (p.cr i - j.c) f ≤ 124)
      by_cases hf : f = i
      · subst hf
        rw [put_same]
        refine ⟨by omega, ?_⟩
        rcases (h.cr f).2 with h1 | ⟨h1, h2, h3⟩
        · exact .inl (by omega)
        · exact .inr ⟨h1, h2, by omega⟩
      · rw [put_ne _ _ _ hf]
        exact ⟨(h.cr f).1, .inl (hcr f hf)⟩
end Pu.Sane
theorem Pu.take_jobs (p : Pu) (i : Nat) (rest : List Nat) (j : Jb) (js : List Jb) : (p.take i rest j js).jobs = put p.jobs i js := by
  unfold Pu.take
  cases js <;> rfl
theorem Pu.take_n (p : Pu) (i : Nat) (rest : List Nat) (j : Jb) (js : List Jb) : (p.take i rest j js).n = p.n - 1 := by
  unfold Pu.take
  cases js <;> rfl
theorem Pu.take_sh (p : Pu) (i : Nat) (rest : List Nat) (j : Jb) (js : List Jb) : (p.take i rest j js).sh = p.sh := by
  unfold Pu.take
  cases js <;> rfl
/-- The first round is under way: one may be at its first turn, some wait for theirs, some have had it. -/
structure Ph (p : Pu) (F : Nat → Bool) (sp : Nat → Int) (cur us vs : List Nat) : Prop where
  round : p.round = cur ++ (us ++ vs)
  now : (cur = [] ∧ p.on = false) ∨ ∃ i, cur = [i] ∧ p.on = true ∧ sp i + p.cr i ≤ p.sh i
  us : ∀ u, u ∈ us → F u = false ∧ p.cr u = 0 ∧ sp u = 0
  cured : ∀ k, k ∈ cur → F k = true
  seen : ∀ k, k ∈ vs → F k = true
def Fair (p : Pu) (F : Nat → Bool) (sp : Nat → Int) : Prop := (∀ k, k ∈ p.round → F k = true) ∨ ∃ cur us vs, Ph p F sp cur us vs
theorem fair_new {p : Pu} (hon : p.on = false) (hcr : ∀ f, p.cr f = 0) : Fair p (fun _ => false) (fun _ => 0) :=
  Or.inr ⟨[], p.round, [], by simp, .inl ⟨rfl, hon⟩, fun u _ => ⟨rfl, hcr u, rfl⟩, by simp, by simp⟩
/-- A flow begins its first turn, and its first job is taken. -/
theorem fair_begin {q : Pu} {N : Nat} (h : q.Sane N) {F : Nat → Bool} {sp : Nat → Int} {u : Nat} {us vs : List Nat} (hr : q.round = u :: (us ++ vs)) (hon : q.on = true) (hcr : q.cr u = q.sh u) (hu : sp u = 0)
    (hus : ∀ k, k ∈ us → F k = false ∧ q.cr k = 0 ∧ sp k = 0) (hvs : ∀ k, k ∈ vs → F k = true) {j : Jb} {js : List Jb} (hj : q.jobs u = j :: js) :
    Fair (q.take u (us ++ vs) j js) (put F u true) (put sp u (sp u + j.c)) ∧ sp u + j.c ≤ q.sh u := by
  have hcost := h.job u j (by rw [hj]; simp)
  have hsh := h.sh u
  have hnd := h.nodup
  rw [hr, List.nodup_cons] at hnd
  have hnu : ∀ k, k ∈ us → k ≠ u := fun k hk e => hnd.1 (by rw [← e]; simp [hk])
  have hvs' : ∀ k, k ∈ vs → put F u true k = true := by
    intro k hk
    by_cases e : k = u
    · rw [e, put_same]
    · rw [put_ne _ _ _ e]; exact hvs k hk
  refine ⟨Or.inr ?_, by omega⟩
  cases js with
  | nil =>
    refine ⟨[], us, vs, rfl, .inl ⟨rfl, rfl⟩, fun k hk => ?_, by simp, hvs'⟩
    have := hus k hk
    show put F u true k = false ∧ put q.cr u 0 k = 0 ∧ put sp u _ k = 0
    rw [put_ne _ _ _ (hnu k hk), put_ne _ _ _ (hnu k hk), put_ne _ _ _ (hnu k hk)]
    exact this
  | cons a l =>
    refine ⟨[u], us, vs, hr, .inr ⟨u, rfl, hon, ?_⟩, fun k hk => ?_, ?_, hvs'⟩
    · show put sp u _ u + put q.cr u _ u ≤ q.sh u
      rw [put_same, put_same]
      omega
    · have := hus k hk
      show put F u true k = false ∧ put q.cr u _ k = 0 ∧ put sp u _ k = 0
      rw [put_ne _ _ _ (hnu k hk), put_ne _ _ _ (hnu k hk), put_ne _ _ _ (hnu k hk)]
      exact this
    · intro k hk
      have : k = u := by simpa using hk
      rw [this, put_same]
/-- Behind each pop all is fair still, and who has not been first yet, and waits, has not been waiting for more than a share. -/
theorem fair_pop {p : Pu} {N : Nat} (h : p.Sane N) (hn : p.n ≠ 0) {F : Nat → Bool} {sp : Nat → Int} (hf : Fair p F sp) {i : Nat} {rest : List Nat} {j : Jb} {js : List Jb} (hr : p.ready.round = i :: rest) (hj : p.ready.jobs i = j :: js) :
    Fair (p.ready.take i rest j js) (put F i true) (put sp i (sp i + j.c)) ∧ ∀ k, k < 3 → put F i true k = true ∨ put p.jobs i js k = [] ∨ sp i + j.c ≤ p.sh i := by
  have hlike := p.ready_like
  have hS := h.ready
  have hover := h.ok.ready_over (h.ne hn)
  have hT := hS.take hr hj hover
  have hall : (∀ k, k ∈ p.round → F k = true) → Fair (p.ready.take i rest j js) (put F i true) (put sp i (sp i + j.c)) ∧ ∀ k, k < 3 → put F i true k = true ∨ put p.jobs i js k = [] ∨ sp i + j.c ≤ p.sh i := by
    intro hF
    have hF2 : ∀ k, k ∈ (p.ready.take i rest j js).round → put F i true k = true := by
      intro k hk
      by_cases e : k = i
      · rw [e, put_same]
      · rw [put_ne _ _ _ e]
        refine hF k (hlike.mem k ?_)
        have hjk := (hT.mem k).1 hk
        rw [Pu.take_jobs, put_ne _ _ _ e] at hjk
        exact (hS.mem k).2 hjk
    refine ⟨Or.inl hF2, fun k hk => ?_⟩
    by_cases hke : put p.jobs i js k = []
    · exact .inr (.inl hke)
    · refine .inl (hF2 k ((hT.mem k).2 ⟨hk, ?_⟩))
      rw [Pu.take_jobs, hlike.jobs]
      exact hke
  rcases hf with hF | ⟨cur, us, vs, hP⟩
  · exact hall hF
  · cases us with
    | nil =>
      apply hall
      intro k hk
      rw [hP.round] at hk
      simp only [List.nil_append, List.mem_append] at hk
      exact hk.elim (hP.cured k) (hP.seen k)
    | cons u us =>
      have hu := hP.us u (by simp)
      have hus : ∀ k, k ∈ us → F k = false ∧ p.cr k = 0 ∧ sp k = 0 := fun k hk => hP.us k (by simp [hk])
      rcases hP.now with ⟨hc, hon⟩ | ⟨c, hc, hon, hsp⟩
      · subst hc
        have hrr : p.round = u :: (us ++ vs) := by rw [hP.round]; rfl
        obtain ⟨hu3, j', js', hj'⟩ := h.front hrr
        have hcost := h.job u j' (by rw [hj']; simp)
        have hsh := h.sh u
        have e1 : p.first = { p with cr := put p.cr u (p.cr u + p.sh u), on := true } := by simp only [Pu.first, hon, Pu.begin, hrr]; rfl
        have e2 : p.first.over = false := by
          rw [e1]
          simp only [Pu.over, hrr, hj', put_same, decide_eq_false_iff_not]
          omega
        have e3 : p.ready = { p with cr := put p.cr u (p.cr u + p.sh u), on := true } := by
          unfold Pu.ready
          rw [e2, ← e1]
          rfl
        have hr' : p.ready.round = u :: (us ++ vs) := by rw [e3]; exact hrr
        rw [hr'] at hr
        injection hr with hr1 hr2
        subst hr1 hr2
        have hnd := h.nodup
        rw [hrr, List.nodup_cons] at hnd
        have := fair_begin hS (F := F) (sp := sp) hr' (by rw [e3]) (by rw [e3]; show put p.cr u _ u = p.sh u; rw [put_same]; omega) hu.2.2 (fun k hk => by
          have := hus k hk
          rw [e3]
          show _ ∧ put p.cr u _ k = 0 ∧ _
          rw [put_ne _ _ _ (fun e => hnd.1 (by rw [← e]; simp [hk]))]
          exact this) hP.seen hj
        refine ⟨this.1, fun k _ => .inr (.inr ?_)⟩
        have h2 := this.2
        rw [hlike.sh] at h2
        exact h2
      · subst hc
        have hrr : p.round = c :: (u :: us ++ vs) := by rw [hP.round]; rfl
        obtain ⟨hc3, j', js', hj'⟩ := h.front hrr
        have e1 : p.first = p := by simp only [Pu.first, hon]; rfl
        have hnd := h.nodup
        rw [hrr, List.nodup_cons] at hnd
        have hFc : F c = true := hP.cured c (by simp)
        by_cases hov : (j'.c : Int) ≤ p.cr c
        · have e2 : p.first.over = false := by
            rw [e1]
            simp only [Pu.over, hrr, hj', decide_eq_false_iff_not]
            omega
          have e3 : p.ready = p := by
            unfold Pu.ready
            rw [e2, ← e1]
            simp [e1]
          rw [e3] at hr hj ⊢
          rw [hrr] at hr
          injection hr with hr1 hr2
          subst hr1
          rw [hj'] at hj
          injection hj with hj1 hj2
          subst hj1 hj2
          have hsp' : sp c + j'.c ≤ p.sh c := by omega
          have hnu : ∀ k, k ∈ u :: us → k ≠ c := fun k hk e => hnd.1 (by rw [← e]; exact List.mem_append_left _ hk)
          have hvs' : ∀ k, k ∈ vs → put F c true k = true := by
            intro k hk
            by_cases e : k = c
            · rw [e, put_same]
            · rw [put_ne _ _ _ e]; exact hP.seen k hk
          refine ⟨Or.inr ?_, fun k _ => .inr (.inr hsp')⟩
          cases js' with
          | nil =>
            refine ⟨[], u :: us, vs, ?_, .inl ⟨rfl, rfl⟩, fun k hk => ?_, by simp, hvs'⟩
            · rw [← hr2]; rfl
            · have := hP.us k hk
              show put F c true k = false ∧ put p.cr c 0 k = 0 ∧ put sp c _ k = 0
              rw [put_ne _ _ _ (hnu k hk), put_ne _ _ _ (hnu k hk), put_ne _ _ _ (hnu k hk)]
              exact this
          | cons a l =>
            refine ⟨[c], u :: us, vs, hrr, .inr ⟨c, rfl, hon, ?_⟩, fun k hk => ?_, ?_, hvs'⟩
            · show put sp c _ c + put p.cr c _ c ≤ p.sh c
              rw [put_same, put_same]
              omega
            · have := hP.us k hk
              show put F c true k = false ∧ put p.cr c _ k = 0 ∧ put sp c _ k = 0
              rw [put_ne _ _ _ (hnu k hk), put_ne _ _ _ (hnu k hk), put_ne _ _ _ (hnu k hk)]
              exact this
            · intro k hk
              have : k = c := by simpa using hk
              rw [this, put_same]
        · have e2 : p.first.over = true := by
            rw [e1]
            simp only [Pu.over, hrr, hj', decide_eq_true_eq]
            omega
          have e4 : p.turn = { p with round := u :: (us ++ (vs ++ [c])) } := by
            simp only [Pu.turn, hrr]
            simp
          have e3 : p.ready = { p with round := u :: (us ++ (vs ++ [c])), cr := put p.cr u (p.cr u + p.sh u), on := true } := by
            unfold Pu.ready
            rw [e2, if_pos rfl, e1, e4]
            rfl
          have hr' : p.ready.round = u :: (us ++ (vs ++ [c])) := by rw [e3]
          rw [hr'] at hr
          injection hr with hr1 hr2
          subst hr1 hr2
          have hnd2 := hS.nodup
          rw [hr', List.nodup_cons] at hnd2
          have := fair_begin hS (F := F) (sp := sp) hr' (by rw [e3]) (by rw [e3]; show put p.cr u _ u = p.sh u; rw [put_same]; omega) hu.2.2 (fun k hk => by
            have := hus k hk
            rw [e3]
            show _ ∧ put p.cr u _ k = 0 ∧ _
            rw [put_ne _ _ _ (fun e => hnd2.1 (by rw [← e]; simp [hk]))]
            exact this) (fun k hk => by
              rcases List.mem_append.1 hk with hk | hk
              · exact hP.seen k hk
              · have : k = c := by simpa using hk
                rw [this]; exact hFc) hj
          refine ⟨this.1, fun k _ => .inr (.inr ?_)⟩
          have h2 := this.2
          rw [hlike.sh] at h2
          exact h2
end Go.Proofs.Ytfkhefoilancnaa
