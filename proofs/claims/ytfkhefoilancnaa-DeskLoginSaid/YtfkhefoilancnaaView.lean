/-
  A volume as an array of bytes: what pieces that are written, and pieces that are read, say of it. Plain: no program in sight.
-/
import Derived.Test.YtfkhefoilancnaaMove
namespace Go.Proofs.Ytfkhefoilancnaa
open Go.RowKit
/-- Byte j of the volume. -/
def view (wh : Nat → Nat × Nat) (vol : Nat → Nat → UInt8) (j : Nat) : UInt8 := vol (wh (j / 64)).1 ((wh (j / 64)).2 * 64 + j % 64)
theorem wh1_inj {a b : Nat} (ha : a < 12) (hb : b < 12) (h : wh1 a = wh1 b) : a = b := by
  simp only [wh1, Prod.mk.injEq] at h
  omega
theorem wh2_inj {a b : Nat} (ha : a < 40) (hb : b < 40) (h : wh2 a = wh2 b) : a = b := by
  simp only [wh2, Prod.mk.injEq] at h
  omega
/-- A piece lies as it should. -/
def Fits (wh : Nat → Nat × Nat) (x n : Nat) (p : Pc) : Prop := ∀ i, i < p.n → p.f + i < n ∧ p.c = (wh (x + (p.f + i))).1 ∧ p.a + i = (wh (x + (p.f + i))).2
def Cov (x b : Nat) (p : Pc) : Prop := ∃ i, i < p.n ∧ x + (p.f + i) = b
theorem wr1_view {wh : Nat → Nat × Nat} {B x n : Nat} (hinj : ∀ a b, a < B → b < B → wh a = wh b → a = b) (hx : x + n ≤ B) (data : Nat → UInt8) (vol : Nat → Nat → UInt8) (p : Pc) (hp : Fits wh x n p) (b r : Nat) (hb : b < B) (hr : r < 64) :
    (Cov x b p → wr1 data vol p (wh b).1 ((wh b).2 * 64 + r) = data ((b - x) * 64 + r)) ∧ (¬ Cov x b p → wr1 data vol p (wh b).1 ((wh b).2 * 64 + r) = vol (wh b).1 ((wh b).2 * 64 + r)) := by
  constructor
  · rintro ⟨i, hi, rfl⟩
    obtain ⟨h1, h2, h3⟩ := hp i hi
    rw [wr1, if_pos ⟨h2.symm, by omega, by omega⟩]
    congr 1
    omega
  · intro hc
    rw [wr1, if_neg]
    rintro ⟨h1, h2, h3⟩
    apply hc
    refine ⟨(wh b).2 - p.a, by omega, ?_⟩
    obtain ⟨k1, k2, k3⟩ := hp ((wh b).2 - p.a) (by omega)
    apply hinj _ _ (by omega) hb
    apply Prod.ext
    · rw [← k2, h1]
    · rw [← k3]; omega
theorem wrAll_view {wh : Nat → Nat × Nat} {B x n : Nat} (hinj : ∀ a b, a < B → b < B → wh a = wh b → a = b) (hx : x + n ≤ B) (data : List UInt8) : ∀ (ps : List Pc) (vol : Nat → Nat → UInt8), (∀ p, p ∈ ps → Fits wh x n p) → ∀ (b r : Nat), b < B → r < 64 →
    ((∃ p, p ∈ ps ∧ Cov x b p) → wrAll data vol ps (wh b).1 ((wh b).2 * 64 + r) = dat data ((b - x) * 64 + r)) ∧ ((¬ ∃ p, p ∈ ps ∧ Cov x b p) → wrAll data vol ps (wh b).1 ((wh b).2 * 64 + r) = vol (wh b).1 ((wh b).2 * 64 + r))
  | [], vol, _, b, r, hb, hr => ⟨(by rintro ⟨p, hp, _⟩; cases hp), fun _ => rfl⟩
  | p :: ps, vol, h, b, r, hb, hr => by
    have ih := wrAll_view hinj hx data ps (wr1 (dat data) vol p) (fun q hq => h q (by simp [hq])) b r hb hr
    have h1 := wr1_view hinj hx (dat data) vol p (h p (by simp)) b r hb hr
    have e : wrAll data vol (p :: ps) = wrAll data (wr1 (dat data) vol p) ps := rfl
    rw [e]
    by_cases hc : ∃ q, q ∈ ps ∧ Cov x b q
    · refine ⟨fun _ => ih.1 hc, fun hn => (hn ?_).elim⟩
      obtain ⟨q, hq, hq2⟩ := hc
      exact ⟨q, by simp [hq], hq2⟩
    · rw [ih.2 hc]
      refine ⟨?_, fun hn => h1.2 fun hp => hn ⟨p, by simp, hp⟩⟩
      rintro ⟨q, hq, hq2⟩
      rcases List.mem_cons.1 hq with rfl | hq
      · exact h1.1 hq2
      · exact (hc ⟨q, hq, hq2⟩).elim
theorem Good.fits {wh : Nat → Nat × Nat} {x n : Nat} {ps : List Pc} (h : Good wh x ps n) : ∀ p, p ∈ ps → Fits wh x n p := fun _ hp _ hi => h.mem hp hi
theorem Good.cov {wh : Nat → Nat × Nat} {x n : Nat} {ps : List Pc} (h : Good wh x ps n) {b : Nat} (h1 : x ≤ b) (h2 : b < x + n) : ∃ p, p ∈ ps ∧ Cov x b p := by
  have hm : ((wh (x + (b - x))).1, (wh (x + (b - x))).2, b - x) ∈ ps.flatMap Pc.ent := by
    rw [h.ents, List.mem_map]
    exact ⟨b - x, by simp; omega, rfl⟩
  rw [List.mem_flatMap] at hm
  obtain ⟨p, hp, hm⟩ := hm
  simp only [Pc.ent, List.mem_map, List.mem_range, Prod.mk.injEq] at hm
  obtain ⟨i, hi, _, _, hf⟩ := hm
  exact ⟨p, hp, i, hi, by omega⟩
/-- What is written is what the array has then. -/
theorem view_write {wh : Nat → Nat × Nat} {B x n : Nat} (hinj : ∀ a b, a < B → b < B → wh a = wh b → a = b) (hx : x + n ≤ B) (data : List UInt8) {ps : List Pc} (h : Good wh x ps n) (vol : Nat → Nat → UInt8) (j : Nat) (hj : j < B * 64) :
    view wh (wrAll data vol ps) j = if x * 64 ≤ j ∧ j < (x + n) * 64 then dat data (j - x * 64) else view wh vol j := by
  have hv := wrAll_view hinj hx data ps vol h.fits (j / 64) (j % 64) (by omega) (by omega)
  by_cases hc : x * 64 ≤ j ∧ j < (x + n) * 64
  · rw [if_pos hc, view, hv.1 (h.cov (by omega) (by omega))]
    congr 1
    omega
  · rw [if_neg hc, view, hv.2]
    · rfl
    · rintro ⟨p, hp, i, hi, e⟩
      have := (h.fits p hp i hi).1
      omega
theorem rdAll_at {wh : Nat → Nat × Nat} {x n : Nat} (vol : Nat → Nat → UInt8) : ∀ (ps : List Pc) (g : Nat → UInt8), (∀ p, p ∈ ps → Fits wh x n p) → ∀ b r, x ≤ b → r < 64 →
    ((∃ p, p ∈ ps ∧ Cov x b p) → rdAll vol g ps ((b - x) * 64 + r) = vol (wh b).1 ((wh b).2 * 64 + r)) ∧ ((¬ ∃ p, p ∈ ps ∧ Cov x b p) → rdAll vol g ps ((b - x) * 64 + r) = g ((b - x) * 64 + r))
  | [], g, _, b, r, hb, hr => ⟨(by rintro ⟨p, hp, _⟩; cases hp), fun _ => rfl⟩
  | p :: ps, g, h, b, r, hb, hr => by
    have ih := rdAll_at vol ps (rd1 vol g p) (fun q hq => h q (by simp [hq])) b r hb hr
    have h1 : (Cov x b p → rd1 vol g p ((b - x) * 64 + r) = vol (wh b).1 ((wh b).2 * 64 + r)) ∧ (¬ Cov x b p → rd1 vol g p ((b - x) * 64 + r) = g ((b - x) * 64 + r)) := by
      constructor
      · rintro ⟨i, hi, rfl⟩
        obtain ⟨k1, k2, k3⟩ := h p (by simp) i hi
        rw [rd1, if_pos (by omega), ← k2, ← k3]
        congr 1
        omega
      · intro hc
        rw [rd1, if_neg]
        rintro ⟨q1, q2⟩
        exact hc ⟨b - x - p.f, by omega, by omega⟩
    have e : rdAll vol g (p :: ps) = rdAll vol (rd1 vol g p) ps := rfl
    rw [e]
    by_cases hc : ∃ q, q ∈ ps ∧ Cov x b q
    · refine ⟨fun _ => ih.1 hc, fun hn => (hn ?_).elim⟩
      obtain ⟨q, hq, hq2⟩ := hc
      exact ⟨q, by simp [hq], hq2⟩
    · rw [ih.2 hc]
      refine ⟨?_, fun hn => h1.2 fun hp => hn ⟨p, by simp, hp⟩⟩
      rintro ⟨q, hq, hq2⟩
      rcases List.mem_cons.1 hq with rfl | hq
      · exact h1.1 hq2
      · exact (hc ⟨q, hq, hq2⟩).elim
/-- What is read is what the array has. -/
theorem view_read {wh : Nat → Nat × Nat} {x n : Nat} {ps : List Pc} (h : Good wh x ps n) (vol : Nat → Nat → UInt8) (g : Nat → UInt8) (i : Nat) (hi : i < n * 64) : rdAll vol g ps i = view wh vol (x * 64 + i) := by
  have hv := rdAll_at vol ps g h.fits (x + i / 64) (i % 64) (by omega) (by omega)
  have e : (x + i / 64 - x) * 64 + i % 64 = i := by omega
  rw [e] at hv
  rw [hv.1 (h.cov (by omega) (by omega)), view]
  have e1 : (x * 64 + i) / 64 = x + i / 64 := by omega
  have e2 : (x * 64 + i) % 64 = i % 64 := by omega
  rw [e1, e2]
end Go.Proofs.Ytfkhefoilancnaa
