/-
  drr's Pop: the next job, by the shares; or none, where none waits.
-/
import Derived.Test.YtfkhefoilancnaaPopOn
import Derived.Test.YtfkhefoilancnaaPopOff
namespace Go.Proofs.Ytfkhefoilancnaa
open Go.RowKit
theorem pop_k (s : Nat) (G0 : Sg) (hok : G0.pu.Ok) (hne : G0.round ≠ []) (hn0 : G0.n ≠ 0) (w : World) (h0 : SchedAt w s G0) :
    Calls Try.prog 33 #[.pointer (some ⟨s, 0, none⟩)] w fun e w' => PopPost s G0 w e w' := by
  cases hon : G0.on
  · exact pop_off s G0 hon hok hne hn0 w h0
  · exact pop_on s G0 hon hok hne hn0 w h0
set_option maxRecDepth 100000 in
set_option maxHeartbeats 4000000 in
theorem pop_empty (s : Nat) (G : Sg) (hn : G.n = 0) (w : World) (h : SchedAt w s G) :
    Calls Try.prog 33 #[.pointer (some ⟨s, 0, none⟩)] w fun e w' => e = .returned (.tuple #[.agg #[.int .i64 0, .int .i64 0, .int .u64 0], .bool false]) ∧ Mod [] w w' := by
  have c3 : w.cell? ⟨s, 3, none⟩ = some (.int .i64 0) := by
    have := h.cell (i := 3) (v := .int .i64 G.n) rfl
    rw [hn] at this
    exact this
  have zs := blk_lt h.sched
  go_enter Try.func33, Try.ntmps33
  go_wp2
  have hA := blk_alloc w #[.int .i64 0, .int .i64 0, .int .u64 0] 95
  refine bodyPost_ret (res_cell_tmp _ _ w.heap.size 95 _ rfl hA Try.underlying95 info95s rfl) rfl ⟨rfl, (Mod.refl _ _).alloc _⟩
end Go.Proofs.Ytfkhefoilancnaa
