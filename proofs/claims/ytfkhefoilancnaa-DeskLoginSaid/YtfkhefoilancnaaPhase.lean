/-
  The desk's Phase: how far the session is.
-/
import Derived.WalkKit
import Derived.Handy
import Derived.Lib.Hide
import Derived.Test.YtfkhefoilancnaaAnswer
namespace Go.Proofs.Ytfkhefoilancnaa
open Go.RowKit
set_option maxRecDepth 100000 in
set_option maxHeartbeats 4000000 in
theorem phase_k (s : Sh) (w : World) (d : Nat) (G : Gh) (hD : DeskAt s w d G) : Calls Try.prog 17 #[.pointer (some ⟨d, 0, none⟩)] w fun e w' => e = .returned (.int .i64 G.phase) ∧ w' = w := by
  have c6 : w.cell? ⟨d, 6, none⟩ = some (.int .i64 G.phase) := hD.cell rfl
  have zd := blk_lt hD.desk
  go_enter Try.func17, Try.ntmps17
  go_wp2
  go_ret
  exact ⟨rfl, rfl⟩
end Go.Proofs.Ytfkhefoilancnaa
