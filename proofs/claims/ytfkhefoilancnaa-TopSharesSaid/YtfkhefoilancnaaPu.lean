/-
  A scheduler without its places: a turn begins, the round turns, the moment when a job is taken. Plain: no program in sight.
-/
import Derived.Test.YtfkhefoilancnaaPush
namespace Go.Proofs.Ytfkhefoilancnaa
open Go.RowKit
/-- A scheduler without its places. -/
structure Pu where
  sh : Nat → Int
  cr : Nat → Int
  jobs : Nat → List Jb
  round : List Nat
  on : Bool
  n : Nat
def Sg.pu (G : Sg) : Pu := ⟨fun i => (G.fl i).sh, fun i => (G.fl i).cr, fun i => (G.fl i).jobs, G.round, G.on, G.n⟩
def put {α : Type} (f : Nat → α) (i : Nat) (a : α) (j : Nat) : α := if j = i then a else f j
def Pu.begin (p : Pu) : Pu := match p.round with
  | [] => p
  | i :: _ => { p with cr := put p.cr i (p.cr i + p.sh i), on := true }
def Pu.turn (p : Pu) : Pu := match p.round with
  | [] => p
  | i :: rest => { p with round := rest ++ [i] }
def Pu.over (p : Pu) : Bool := match p.round with
  | [] => false
  | i :: _ => match p.jobs i with
    | [] => false
    | j :: _ => decide (p.cr i < (j.c : Int))
def Pu.first (p : Pu) : Pu := if p.on then p else p.begin
/-- The scheduler at the moment when a job is taken. -/
def Pu.ready (p : Pu) : Pu := if p.first.over then p.first.turn.begin else p.first
/-- What holds of a scheduler all along: every flow in the round has jobs, shares and credits are small, a share bears any job. -/
structure Pu.Ok (p : Pu) : Prop where
  flow : ∀ f, f ∈ p.round → f < 3 ∧ p.jobs f ≠ []
  len : ∀ f, (p.jobs f).length ≤ 1000
  cost : ∀ f j, j ∈ p.jobs f → 1 ≤ j.c ∧ j.c ≤ 24
  sh : ∀ f, 30 ≤ p.sh f ∧ p.sh f ≤ 100
  cr : ∀ f, 0 ≤ p.cr f ∧ p.cr f ≤ 1000
  rlen : p.round.length ≤ 1000
  n : p.n ≤ 1000
structure Pu.Like (p q : Pu) : Prop where
  jobs : q.jobs = p.jobs
  sh : q.sh = p.sh
  n : q.n = p.n
  mem : ∀ f, f ∈ q.round → f ∈ p.round
  ne : p.round ≠ [] → q.round ≠ []
  len : q.round.length = p.round.length
theorem Pu.Like.refl (p : Pu) : p.Like p := ⟨rfl, rfl, rfl, fun _ h => h, fun h => h, rfl⟩
theorem Pu.Like.trans {p q r : Pu} (h : p.Like q) (k : q.Like r) : p.Like r := ⟨k.jobs.trans h.jobs, k.sh.trans h.sh, k.n.trans h.n, fun f hf => h.mem f (k.mem f hf), fun hp => k.ne (h.ne hp), k.len.trans h.len⟩
theorem Pu.begin_like (p : Pu) : p.Like p.begin := by
  unfold Pu.begin
  split
  · exact Pu.Like.refl p
  · exact ⟨rfl, rfl, rfl, fun _ h => h, fun h => h, rfl⟩
theorem Pu.turn_like (p : Pu) : p.Like p.turn := by
  unfold Pu.turn
  split
  · exact Pu.Like.refl p
  · rename_i i rest h
    refine ⟨rfl, rfl, rfl, fun f hf => ?_, fun _ => by simp, by simp [h]⟩
    rw [h]
    simp at hf ⊢
    exact hf.symm
theorem Pu.first_like (p : Pu) : p.Like p.first := by
  unfold Pu.first
  split
  · exact Pu.Like.refl p
  · exact p.begin_like
theorem Pu.ready_like (p : Pu) : p.Like p.ready := by
  unfold Pu.ready
  split
  · exact (p.first_like.trans (p.first.turn_like)).trans (p.first.turn.begin_like)
  · exact p.first_like
theorem Pu.begin_cr {p : Pu} {b : Int} (h : ∀ f, 0 ≤ p.cr f ∧ p.cr f ≤ b) (hs : ∀ f, 30 ≤ p.sh f ∧ p.sh f ≤ 100) (_hb : 0 ≤ b) : ∀ f, 0 ≤ p.begin.cr f ∧ p.begin.cr f ≤ b + 100 := by
  intro f
  unfold Pu.begin
  split
  · have := h f; omega
  · rename_i i rest _
    simp only [put]
    split
    · have := h i; have := hs i; omega
    · have := h f; omega
theorem Pu.turn_cr (p : Pu) : p.turn.cr = p.cr := by
  unfold Pu.turn
  split <;> rfl
theorem Pu.Ok.first_cr {p : Pu} (h : p.Ok) : ∀ f, 0 ≤ p.first.cr f ∧ p.first.cr f ≤ 1100 := by
  intro f
  unfold Pu.first
  split
  · have := h.cr f; omega
  · exact Pu.begin_cr h.cr h.sh (by omega) f
theorem Pu.Ok.ready_cr {p : Pu} (h : p.Ok) : ∀ f, 0 ≤ p.ready.cr f ∧ p.ready.cr f ≤ 1200 := by
  intro f
  unfold Pu.ready
  split
  · refine Pu.begin_cr (b := 1100) ?_ ?_ (by omega) f
    · intro f; rw [Pu.turn_cr]; exact h.first_cr f
    · intro f; rw [(p.first.turn_like).sh, p.first_like.sh]; exact h.sh f
  · have := h.first_cr f; omega
theorem Pu.Ok.ready_over {p : Pu} (h : p.Ok) (hne : p.round ≠ []) : p.ready.over = false := by
  unfold Pu.ready
  by_cases ho : p.first.over = true
  · rw [if_pos ho]
    have hl := p.first_like.trans p.first.turn_like
    obtain ⟨i, rest, hr⟩ : ∃ i rest, p.first.turn.round = i :: rest := by
      have := hl.ne hne
      cases hq : p.first.turn.round with
      | nil => exact absurd hq this
      | cons a l => exact ⟨a, l, rfl⟩
    have e : p.first.turn.begin = { p.first.turn with cr := put p.first.turn.cr i (p.first.turn.cr i + p.first.turn.sh i), on := true } := by
      simp only [Pu.begin, hr]
    rw [e]
    unfold Pu.over
    simp only [hr]
    split
    · rfl
    · rename_i j _ hj
      have hj' : j ∈ p.jobs i := by rw [← hl.jobs, hj]; simp
      have h1 := h.cost i j hj'
      have h2 := h.first_cr i
      have h3 := h.sh i
      simp only [put, if_true, hl.sh, Pu.turn_cr, decide_eq_false_iff_not]
      omega
  · rw [if_neg ho]
    simpa using ho
/-- The scheduler, its front's first job taken. -/
def Pu.take (p : Pu) (i : Nat) (rest : List Nat) (j : Jb) (js : List Jb) : Pu :=
  match js with
  | [] => { p with cr := put p.cr i 0, jobs := put p.jobs i [], round := rest, on := false, n := p.n - 1 }
  | _ => { p with cr := put p.cr i (p.cr i - j.c), jobs := put p.jobs i js, n := p.n - 1 }
end Go.Proofs.Ytfkhefoilancnaa
