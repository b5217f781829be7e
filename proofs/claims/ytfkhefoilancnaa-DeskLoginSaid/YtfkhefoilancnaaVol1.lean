/-
  The desk of the small shape as an array of bytes: writes and reads; and feeds of one message.
-/
import Derived.WalkKit
import Derived.Test.YtfkhefoilancnaaDo1
import Derived.Test.YtfkhefoilancnaaView
import Derived.Test.YtfkhefoilancnaaFeed
import Derived.Test.YtfkhefoilancnaaBits3
namespace Go.Proofs.Ytfkhefoilancnaa
open Go.RowKit
/-- An array behind a write. -/
def laid (f : Nat → UInt8) (x n : Nat) (data : List UInt8) : Nat → UInt8 := fun j => if x * 64 ≤ j ∧ j < (x + n) * 64 then dat data (j - x * 64) else f j
theorem write42 (w : World) (d : Nat) (G : Gh) (f : Nat → UInt8) (hD : DeskAt sh1 w d G) (hv : ∀ j, j < 768 → view wh1 G.vol j = f j) (x n : Nat) (hx : x + n ≤ 12) (ba : Option Addr) (bc : Nat) (data : List UInt8) (hdl : data.length = n * 64) (hb : Rds w ba data.length (data.map By)) (hbc : data.length ≤ bc) (ho : Off G.gs ba data.length) :
    Calls Try.prog 22 #[.pointer (some ⟨d, 0, none⟩), .agg #[.int .i64 42, .int .u64 x, .int .i64 n, .int .i64 0], .slice ba data.length bc] w
    fun e w' => ∃ vol, e = .returned (.tuple #[.slice none 0 0, .agg #[.int .u8 0, .int .u16 0]]) ∧ DeskAt sh1 w' d (G.setVol vol) ∧ (∀ j, j < 768 → view wh1 vol j = laid f x n data j) ∧ Mod G.gs w w' := by
  refine (do_w_42_1 w d G hD x n hx ba bc data hdl hb hbc ho).mono ?_
  rintro e w' ⟨rfl, ⟨ps, hg, hD'⟩, hm⟩
  refine ⟨_, rfl, hD', fun j hj => ?_, hm⟩
  rw [view_write (B := 12) (fun a b ha hb => wh1_inj ha hb) hx data hg G.vol j (by omega)]
  unfold laid
  split
  · rfl
  · exact hv j hj
theorem write138 (w : World) (d : Nat) (G : Gh) (f : Nat → UInt8) (hD : DeskAt sh1 w d G) (hv : ∀ j, j < 768 → view wh1 G.vol j = f j) (x n : Nat) (hx : x + n ≤ 12) (ba : Option Addr) (bc : Nat) (data : List UInt8) (hdl : data.length = n * 64) (hb : Rds w ba data.length (data.map By)) (hbc : data.length ≤ bc) (ho : Off G.gs ba data.length) :
    Calls Try.prog 22 #[.pointer (some ⟨d, 0, none⟩), .agg #[.int .i64 138, .int .u64 x, .int .i64 n, .int .i64 0], .slice ba data.length bc] w
    fun e w' => ∃ vol, e = .returned (.tuple #[.slice none 0 0, .agg #[.int .u8 0, .int .u16 0]]) ∧ DeskAt sh1 w' d (G.setVol vol) ∧ (∀ j, j < 768 → view wh1 vol j = laid f x n data j) ∧ Mod G.gs w w' := by
  refine (do_w_138_1 w d G hD x n hx ba bc data hdl hb hbc ho).mono ?_
  rintro e w' ⟨rfl, ⟨ps, hg, hD'⟩, hm⟩
  refine ⟨_, rfl, hD', fun j hj => ?_, hm⟩
  rw [view_write (B := 12) (fun a b ha hb => wh1_inj ha hb) hx data hg G.vol j (by omega)]
  unfold laid
  split
  · rfl
  · exact hv j hj
theorem read40 (w : World) (d : Nat) (G : Gh) (f : Nat → UInt8) (hD : DeskAt sh1 w d G) (hv : ∀ j, j < 768 → view wh1 G.vol j = f j) (x n : Nat) (hx : x + n ≤ 12) (N : Nat) (hN : N = n * 64) :
    Calls Try.prog 22 #[.pointer (some ⟨d, 0, none⟩), .agg #[.int .i64 40, .int .u64 x, .int .i64 n, .int .i64 0], .slice none 0 0] w
    fun e w' => ∃ gb, e = .returned (.tuple #[.slice (some ⟨gb, 0, none⟩) N N, .agg #[.int .u8 0, .int .u16 0]]) ∧ w.heap.size ≤ gb ∧ w'.heap[gb]? = some (.cells (rowOf N fun i => f (x * 64 + i)).toArray 5 (0, 0)) ∧ Mod [] w w' := by
  refine (do_r_40_1 w d G hD x n hx).mono ?_
  rintro e w' ⟨gb, ps, N', hN', rfl, hge, hg, hb, hm⟩
  obtain rfl : N' = N := by omega
  refine ⟨gb, rfl, hge, ?_, hm⟩
  rw [hb]
  congr 2
  rw [rowOf_congr (g := fun i => f (x * 64 + i)) fun i hi => ?_]
  rw [view_read hg G.vol _ i (by omega), hv _ (by omega)]
/-- A feed of one message. -/
theorem feed_1 (s : Sh) (w : World) (d : Nat) (G G' : Gh) (m : Ms) (data o' : List UInt8) (hD : DeskAt s w d G) (hG : G.phase < 2) (hw : G.wait = []) (hF : m.Fit) (hdl : data.length = m.dn) (hp : G'.phase = 2 ∨ G'.phase < 2) (hgs : G'.gs = G.gs)
    (hS : StepOk s d G [] m data [] G' o' []) (ba : Option Addr) (bc : Nat) (n : Nat) (hn : n = (m.enc data).length) (hb : Rds w ba n ((m.enc data).map By)) :
    Calls Try.prog 15 #[.pointer (some ⟨d, 0, none⟩), .slice ba n bc] w fun e w' => ∃ oa oc wa wc, e = .returned (.tuple #[.slice oa o'.length oc, .int .i64 0]) ∧ DeskAt s w' d (G'.waits wa wc []) ∧
      w'.ownsRow w.heap.size 5 1 (.slice oa o'.length oc) o'.length (o'.map By) ∧ Mod (d :: G.gs) w w' := by
  subst hn
  have hlen := enc_len m data hdl
  have hdn := hF.dn
  have hpad : padN m.dn < 4 := by unfold padN; omega
  have z : ∀ j : Nat, j < 1 → j = 0 := fun j h => by omega
  have hP : FeedPlan s d 1 (fun j => if j = 0 then G else G') (fun j => if j = 0 then [] else o') (fun j => if j = 0 then m.enc data else []) (fun _ => []) (fun _ => data) (fun _ => m) := by
    refine ⟨rfl, ?_, ?_, ?_, fun _ _ => hF, fun _ _ => hdl, ?_, ?_, ?_, ?_, ?_, ?_, hG⟩
    · simp; omega
    · intro j hj
      obtain rfl := z j hj
      simp
    · intro j hj
      obtain rfl := z j hj
      simp
    · intro j hj
      obtain rfl := z j hj
      exact hG
    · rcases hp with h | h
      · exact .inl h
      · exact .inr ⟨h, short_48 (by simp)⟩
    · simp
    · intro j hj
      by_cases h0 : j = 0
      · subst h0; simp; omega
      · simp [h0]
    · intro j hj
      by_cases h0 : j = 0
      · subst h0; rfl
      · simp [h0, hgs]
    · intro j hj
      obtain rfl := z j hj
      exact hS
  exact feed_k s w d 1 _ _ _ _ _ _ hP hD ba bc (m.enc data) hb (by simp [hw])
/-- The laws' names read as one pair. -/
theorem oneText_a (A : Option Addr) (c : Nat) : OneText A 16 c nameA ⟨#[73, 110, 105, 116, 105, 97, 116, 111, 114, 78, 97, 109, 101]⟩ ⟨#[97]⟩ := fun w h => texts_a w A c h
theorem step_login (s : Sh) (d : Nat) (G : Gh) (k : Nat) (hk : G.count = (k : Int)) (hk2 : k ≤ 1000000) (o : List UInt8) (hn : o.length ≤ 1000000) (m : Ms) (hop : m.op = 3) (hF : m.Fit) (hdn : m.dn = 16) (mid : List UInt8) :
    StepOk s d G o m nameA mid { G.counted (k + 1) with phase := 1 } (o ++ loginOut m.tag (k + 1)) mid := by
  intro W w wa wc oa oc da dc hFe hcap hd _ _
  obtain ⟨op, fl, lun, tag, w0, w1, w2, w3, w4, w5, w6, da0, dn, dc0⟩ := m
  simp only at hop hdn hd
  subst hop hdn
  refine (does_login s W w d _ oa oc o hFe k hk hk2 hn ⟨3, fl, lun, tag, w0, w1, w2, w3, w4, w5, w6, da, 16, dc⟩ rfl ⟨hF.op, hF.fl, hF.lun, hF.tag, hF.dn, hF.ws⟩ nameA hd ⟨#[97]⟩ (oneText_a da dc)).mono ?_
  rintro e w' ⟨oa', oc', rfl, hF'⟩
  exact ⟨oa', oc', wa, wc, rfl, hF', hcap⟩
theorem step_ping (s : Sh) (d : Nat) (G : Gh) (k : Nat) (hk : G.count = (k : Int)) (hk2 : k ≤ 1000000) (hp : G.phase = 1) (o : List UInt8) (hn : o.length ≤ 1000000) (m : Ms) (hop : m.op = 0) (hF : m.Fit) (data mid : List UInt8) :
    StepOk s d G o m data mid (G.counted (k + 1)) (o ++ pingOut m.tag (k + 1) data) mid := by
  intro W w wa wc oa oc da dc hFe hcap hd _ hoff
  obtain ⟨op, fl, lun, tag, w0, w1, w2, w3, w4, w5, w6, da0, dn, dc0⟩ := m
  simp only at hop hd
  subst hop
  refine (does_ping s W w d _ oa oc o hFe k hk hk2 hn hp ⟨0, fl, lun, tag, w0, w1, w2, w3, w4, w5, w6, da, dn, dc⟩ rfl ⟨hF.op, hF.fl, hF.lun, hF.tag, hF.dn, hF.ws⟩ data hd (fun a ha h0 hin => hoff a ha h0 (by simp at hin; simp [hin]))).mono ?_
  rintro e w' ⟨oa', oc', rfl, hF'⟩
  exact ⟨oa', oc', wa, wc, rfl, hF', hcap⟩
end Go.Proofs.Ytfkhefoilancnaa
