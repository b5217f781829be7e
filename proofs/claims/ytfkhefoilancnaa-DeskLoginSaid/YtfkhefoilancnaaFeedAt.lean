/-
  What holds while a desk is fed: the desk, the bytes that will go out, and that all that was there is as it was. The desk's answer and over in these words.
-/
import Derived.WalkKit
import Derived.Handy
import Derived.Lib.Hide
import Derived.Test.YtfkhefoilancnaaAnswer
namespace Go.Proofs.Ytfkhefoilancnaa
open Go.RowKit
structure FeedAt (s : Sh) (W w : World) (d : Nat) (G : Gh) (oa : Option Addr) (oc : Nat) (ob : List UInt8) : Prop where
  desk : DeskAt s w d G
  out : w.ownsRow W.heap.size 5 1 (.slice oa ob.length oc) ob.length (ob.map By)
  dl : d < W.heap.size
  hl : G.h < W.heap.size
  gl : ∀ g, g ∈ G.gs → g < W.heap.size
  wl : ∀ a, G.wa = some a → 0 < G.wait.length → a.block < W.heap.size
  wo : Off (d :: G.gs) G.wa G.wait.length
  mod : Mod (d :: G.gs) W w
theorem enc_len (m : Ms) (data : List UInt8) (h : data.length = m.dn) : (m.enc data).length = 48 + m.dn + padN m.dn := by
  simp [Ms.enc, Ms.ws, be4, h]
  omega
namespace FeedAt
variable {s : Sh} {W w w' : World} {d : Nat} {G G' : Gh} {oa : Option Addr} {oc : Nat} {ob : List UInt8}
theorem mod0 (h : FeedAt s W w d G oa oc ob) (hm : Mod [] w w') : FeedAt s W w' d G oa oc ob where
  desk := h.desk.mod0 hm
  out := hm.own0 h.out
  dl := h.dl
  hl := h.hl
  gl := h.gl
  wl := h.wl
  wo := h.wo
  mod := h.mod.then0 hm
theorem size (h : FeedAt s W w d G oa oc ob) : W.heap.size ≤ w.heap.size := h.mod.size
/-- Blocks above what was there: all stands. -/
theorem high {S : List Nat} (h : FeedAt s W w d G oa oc ob) (hm : Mod S w w') (hS : ∀ t, t ∈ S → w.heap.size ≤ t) : FeedAt s W w' d G oa oc ob :=
  h.mod0 ⟨hm.os, hm.tape, hm.output, hm.size, fun k hk _ => hm.block k hk (fun hin => absurd hk (Nat.not_lt.2 (hS k hin)))⟩
/-- Blocks from N on, where all that it holds lies below. -/
theorem keep {S : List Nat} (h : FeedAt s W w d G oa oc ob) (hm : Mod S w w') (N : Nat) (hN : W.heap.size ≤ N) (ho : ∀ g, (Value.slice oa ob.length oc).ownBlock = some g → g < N) (hS : ∀ t, t ∈ S → N ≤ t) : FeedAt s W w' d G oa oc ob where
  desk := h.desk.mod hm (fun hin => by have := hS _ hin; have := h.dl; omega) (fun hin => by have := hS _ hin; have := h.hl; omega) (fun g hg hin => by have := hS _ hin; have := h.gl g hg; omega) (fun a ha hn hin => by have := hS _ hin; have := h.wl a ha hn; omega)
  out := hm.own h.out (fun g e hin => by have := hS _ hin; have := ho g e; omega)
  dl := h.dl
  hl := h.hl
  gl := h.gl
  wl := h.wl
  wo := h.wo
  mod := h.mod.trans hm (fun t ht => .inr (by have := hS t ht; omega))
theorem outLt (h : FeedAt s W w d G oa oc ob) : ∀ g, (Value.slice oa ob.length oc).ownBlock = some g → g < w.heap.size := fun g hg => (own_ge h.out g (by simp [hg])).2
/-- The desk's own cells turn. -/
theorem turn (h : FeedAt s W w d G oa oc ob) (hm : Mod [d] w w') (hd : w'.heap[d]? = some (.cells (deskCells s G') 103 (0, 0))) (hh : G'.h = G.h) (hcap : G'.cap = G.cap) (hgs : G'.gs = G.gs) (hv : G'.vol = G.vol)
    (hw : Rds w G'.wa G'.wait.length (G'.wait.map By)) (ho : Off (d :: G.gs) G'.wa G'.wait.length) (hwl : ∀ a, G'.wa = some a → 0 < G'.wait.length → a.block < W.heap.size) : FeedAt s W w' d G' oa oc ob where
  desk := h.desk.turn hm hd hh hcap hgs hv hw ho
  out := hm.own h.out (fun g e hin => by
    have h1 := own_ge h.out g (by rw [e]; simp)
    have h2 := h.dl
    simp at hin
    omega)
  dl := h.dl
  hl := by rw [hh]; exact h.hl
  gl := by rw [hgs]; exact h.gl
  wl := hwl
  wo := by rw [hgs]; exact ho
  mod := by
    rw [hgs]
    exact h.mod.trans hm (fun t ht => by simp at ht; exact .inl (by simp [ht]))
/-- The phase is stored. -/
theorem phase (h : FeedAt s W w d G oa oc ob) (p : Int) : FeedAt s W (w.setCell ⟨d, 6, none⟩ (.int .i64 p)) d { G with phase := p } oa oc ob := by
  refine h.turn ((Mod.refl _ _).setCell (.inl (by simp)) _) ?_ rfl rfl rfl rfl h.desk.wait h.wo h.wl
  rw [heap_setCell_same w d 6 _ 103 _ h.desk.desk]
  rfl
/-- What waits is stored. -/
theorem setWait (h : FeedAt s W w d G oa oc ob) (A : Option Addr) (c : Nat) (l : List UInt8) (hr : Rds w A l.length (l.map By)) (ho : Off (d :: G.gs) A l.length) (hwl : ∀ a, A = some a → 0 < l.length → a.block < W.heap.size) :
    FeedAt s W (w.setCell ⟨d, 7, none⟩ (.slice A l.length c)) d { G with wa := A, wc := c, wait := l } oa oc ob := by
  refine h.turn ((Mod.refl _ _).setCell (.inl (by simp)) _) ?_ rfl rfl rfl rfl hr ho hwl
  rw [heap_setCell_same w d 7 _ 103 _ h.desk.desk]
  rfl
end FeedAt
theorem overF (s : Sh) (W w : World) (d : Nat) (G : Gh) (oa : Option Addr) (oc : Nat) (ob : List UInt8) (h : FeedAt s W w d G oa oc ob) :
    Calls Try.prog 43 #[.pointer (some ⟨d, 0, none⟩)] w fun e w' => e = .returned (.tuple #[]) ∧ FeedAt s W w' d { G with phase := 2, wa := none, wc := 0, wait := [] } oa oc ob := by
  refine (over_k s w d G h.desk).mono ?_
  rintro e w' ⟨rfl, hD, hm⟩
  refine ⟨rfl, h.turn hm hD.desk rfl rfl rfl rfl (Rds.none_ _) (by intro a _ h0; simp at h0) (by intro a _ h0; simp at h0)⟩
theorem answerF (s : Sh) (W w : World) (d : Nat) (G : Gh) (oa : Option Addr) (oc : Nat) (ob : List UInt8) (h : FeedAt s W w d G oa oc ob) (k : Nat) (hk : G.count = (k : Int)) (hk2 : k ≤ 1000000) (hn : ob.length ≤ 10000000)
    (m : Ms) (hF : m.Fit) (data : List UInt8) (hd : Rds w m.da m.dn (data.map By)) (hda : Off [d] m.da m.dn) :
    Calls Try.prog 66 #[.pointer (some ⟨d, 0, none⟩), .slice oa ob.length oc, .agg m.cells] w fun e w' => ∃ oa' oc', e = .returned (.slice oa' (ob ++ Ms.enc { m with w0 := k + 1 } data).length oc') ∧
      FeedAt s W w' d (G.counted (k + 1)) oa' oc' (ob ++ Ms.enc { m with w0 := k + 1 } data) := by
  refine (answer_k s w d G h.desk k hk hk2 W.heap.size oa ob.length oc ob h.out h.size hn m hF data hd hda).mono ?_
  rintro e w' ⟨oa', oc', rfl, ho, hdesk, hm, _⟩
  have hlen : (ob ++ Ms.enc { m with w0 := k + 1 } data).length = ob.length + (48 + m.dn + padN m.dn) := by
    rw [List.length_append, enc_len _ _ (by simpa using hd.1)]
  rw [← hlen] at ho ⊢
  have hge : ∀ t, t ∈ (Value.slice oa ob.length oc).ownBlock.toList → W.heap.size ≤ t := fun t ht => (own_ge h.out t ht).1
  have hlow : ∀ t, t < W.heap.size → t ≠ d → t ∉ d :: (Value.slice oa ob.length oc).ownBlock.toList := by
    intro t ht hne hin
    rcases List.mem_cons.1 hin with e | h1
    · exact hne e
    · have := hge t h1
      omega
  have hgd : ∀ g, g ∈ G.gs → g ≠ d := fun g hg e => h.desk.d_notin (by rw [← e]; exact hg)
  have hhd : G.h ≠ d := by
    obtain ⟨cur, hc⟩ := h.desk.headBlk
    exact DeskAt.blk_ne hc h.desk.desk (by decide)
  have hoff : Off (d :: (Value.slice oa ob.length oc).ownBlock.toList) G.wa G.wait.length := by
    intro a ha h0
    exact hlow _ (h.wl a ha h0) (fun e => h.wo a ha h0 (by simp [e]))
  refine ⟨oa', oc', rfl, ⟨⟨hdesk, ?_, ?_, h.desk.nodup, h.desk.wait.mod hm hoff, h.desk.apart⟩, ho, h.dl, h.hl, h.gl, h.wl, h.wo, ?_⟩⟩
  · exact hm.own h.desk.head (fun g e => by
      simp [Value.ownBlock] at e
      rw [← e]
      exact hlow _ h.hl hhd)
  · intro i g hi
    have hg := List.mem_of_getElem? hi
    exact hm.blk (h.desk.chunk i g hi) (hlow _ (h.gl g hg) (hgd g hg))
  · refine h.mod.trans hm (fun t ht => ?_)
    rcases List.mem_cons.1 ht with e | h1
    · exact .inl (by simp [e])
    · exact .inr (hge t h1)
end Go.Proofs.Ytfkhefoilancnaa
