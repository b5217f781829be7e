/-
  pdu's Texts at the texts of the laws' logins: one pair each. Printed by gen_texts.py.
-/
import Derived.WalkKit
import Derived.Handy
import Derived.BigQuiet
import Derived.Lib.Hide
import Derived.KernelRfl
import Derived.Deep.CutBlock
import Derived.Test.YtfkhefoilancnaaTexts1
import Derived.Test.YtfkhefoilancnaaCut
namespace Go.Proofs.Ytfkhefoilancnaa
open Go.RowKit
/-- "InitiatorName=me" and a nought. -/
def nameMe : List UInt8 := [73, 110, 105, 116, 105, 97, 116, 111, 114, 78, 97, 109, 101, 61, 109, 101, 0]
/-- "Name=a" and a nought. -/
def nameN : List UInt8 := [78, 97, 109, 101, 61, 97, 0]
theorem info159 : (Try.prog.info? 159).map (fun i => (i.zero, i.size, i.bytes)) = some (some (.agg #[.string ⟨#[]⟩, .string ⟨#[]⟩]), 2, 32) := by kernel_rfl
theorem pair_one (k v : ByteArray) : ∀ u ∈ (#[Value.string k, Value.string v] : Array Value).toList, u.oneCell' = true := by
  intro u hu
  simp at hu
  rcases hu with rfl | rfl <;> rfl
set_option maxRecDepth 100000 in
set_option maxHeartbeats 8000000 in
theorem texts_a (w : World) (A : Option Addr) (c : Nat) (h : Rds w A 16 (nameA.map By)) :
    Calls Try.prog 78 #[.slice A 16 c] w fun e w' => ∃ ao cp, e = .returned (.tuple #[.slice ao 1 cp, .int .i64 0]) ∧ w'.ownsRow w.heap.size 159 2 (.slice ao 1 cp) 1 [.string ⟨#[73, 110, 105, 116, 105, 97, 116, 111, 114, 78, 97, 109, 101]⟩, .string ⟨#[97]⟩] ∧ Mod [] w w' := by
  have kc : (convert 32 9 (.slice A 16 c)).run Try.prog w = .ok (.string ⟨#[73, 110, 105, 116, 105, 97, 116, 111, 114, 78, 97, 109, 101, 61, 97, 0]⟩) w := conv_bytes w A 16 c nameA h
  go_enter Try.func78, Try.ntmps78
  go_wp2_with fail
  refine wp_loop_rounds 2 ?_
  rw [rounds_succ]
  go_wp2_with fail
  refine (cut_a0 _).mono ?_
  rintro e w1 ⟨rfl, m1, rfl⟩
  go_wp2_with fail
  refine (cut_a1 _).mono ?_
  rintro e w2 ⟨rfl, m2, rfl⟩
  have hm1 : Mod [] w ((w.drewN m1).drewN m2) := ((Mod.refl _ _).drewN _).drewN _
  generalize (w.drewN m1).drewN m2 = V at hm1 ⊢
  clear kc h
  go_wp2_with (at_builtin; refine wpList_push V rfl (.tmp 41) (.tmp 45) 155 rfl w.heap.size 159 _ 2 32 Try.underlying155 info159 rfl (by decide) (by decide) (.slice none 0 0) 0 [] rfl (World.ownsRow_nil _ _ _ _) _ rfl rfl (pair_one _ _) (by decide) hm1.size ?_)
  · intro a4 c4 V4 hown4 hm4
    have hm14 : Mod [] w V4 := hm1.trans hm4 (by simp [Value.ownBlock])
    obtain ⟨g, hg, hgb, hgl, _⟩ := own_block hown4 (by decide)
    subst hg
    have y0 : V4.cell? ⟨g, 0, none⟩ = some (.string ⟨#[73, 110, 105, 116, 105, 97, 116, 111, 114, 78, 97, 109, 101]⟩) := hown4.cellAt 0 (by decide)
    have y1 : V4.cell? ⟨g, 1, none⟩ = some (.string ⟨#[97]⟩) := hown4.cellAt 1 (by decide)
    go_wp2_with fail
    rw [rounds_succ]
    go_wp2_with fail
    refine (putTexts_1 ⟨#[73, 110, 105, 116, 105, 97, 116, 111, 114, 78, 97, 109, 101]⟩ ⟨#[97]⟩ [73, 110, 105, 116, 105, 97, 116, 111, 114, 78, 97, 109, 101] rfl (by unfold Letter; decide) (by decide) (by decide) (by rw [ByteArray.toList_eq]; decide) (by decide) (fun w => indexByte_a w) g c4 V4 y0 y1).mono ?_
    rintro e w5 ⟨ao, cp, rfl, ho, hm⟩
    clear y0 y1
    go_wp2
    go_ret2
    exact ⟨_, _, rfl, hm.own0 hown4, hm14.then0 hm⟩
set_option maxRecDepth 100000 in
set_option maxHeartbeats 8000000 in
theorem texts_me (w : World) (A : Option Addr) (c : Nat) (h : Rds w A 17 (nameMe.map By)) :
    Calls Try.prog 78 #[.slice A 17 c] w fun e w' => ∃ ao cp, e = .returned (.tuple #[.slice ao 1 cp, .int .i64 0]) ∧ w'.ownsRow w.heap.size 159 2 (.slice ao 1 cp) 1 [.string ⟨#[73, 110, 105, 116, 105, 97, 116, 111, 114, 78, 97, 109, 101]⟩, .string ⟨#[109, 101]⟩] ∧ Mod [] w w' := by
  have kc : (convert 32 9 (.slice A 17 c)).run Try.prog w = .ok (.string ⟨#[73, 110, 105, 116, 105, 97, 116, 111, 114, 78, 97, 109, 101, 61, 109, 101, 0]⟩) w := conv_bytes w A 17 c nameMe h
  go_enter Try.func78, Try.ntmps78
  go_wp2_with fail
  refine wp_loop_rounds 2 ?_
  rw [rounds_succ]
  go_wp2_with fail
  refine (cut_m0 _).mono ?_
  rintro e w1 ⟨rfl, m1, rfl⟩
  go_wp2_with fail
  refine (cut_m1 _).mono ?_
  rintro e w2 ⟨rfl, m2, rfl⟩
  have hm1 : Mod [] w ((w.drewN m1).drewN m2) := ((Mod.refl _ _).drewN _).drewN _
  generalize (w.drewN m1).drewN m2 = V at hm1 ⊢
  clear kc h
  go_wp2_with (at_builtin; refine wpList_push V rfl (.tmp 41) (.tmp 45) 155 rfl w.heap.size 159 _ 2 32 Try.underlying155 info159 rfl (by decide) (by decide) (.slice none 0 0) 0 [] rfl (World.ownsRow_nil _ _ _ _) _ rfl rfl (pair_one _ _) (by decide) hm1.size ?_)
  · intro a4 c4 V4 hown4 hm4
    have hm14 : Mod [] w V4 := hm1.trans hm4 (by simp [Value.ownBlock])
    obtain ⟨g, hg, hgb, hgl, _⟩ := own_block hown4 (by decide)
    subst hg
    have y0 : V4.cell? ⟨g, 0, none⟩ = some (.string ⟨#[73, 110, 105, 116, 105, 97, 116, 111, 114, 78, 97, 109, 101]⟩) := hown4.cellAt 0 (by decide)
    have y1 : V4.cell? ⟨g, 1, none⟩ = some (.string ⟨#[109, 101]⟩) := hown4.cellAt 1 (by decide)
    go_wp2_with fail
    rw [rounds_succ]
    go_wp2_with fail
    refine (putTexts_1 ⟨#[73, 110, 105, 116, 105, 97, 116, 111, 114, 78, 97, 109, 101]⟩ ⟨#[109, 101]⟩ [73, 110, 105, 116, 105, 97, 116, 111, 114, 78, 97, 109, 101] rfl (by unfold Letter; decide) (by decide) (by decide) (by rw [ByteArray.toList_eq]; decide) (by decide) (fun w => indexByte_me w) g c4 V4 y0 y1).mono ?_
    rintro e w5 ⟨ao, cp, rfl, ho, hm⟩
    clear y0 y1
    go_wp2
    go_ret2
    exact ⟨_, _, rfl, hm.own0 hown4, hm14.then0 hm⟩
set_option maxRecDepth 100000 in
set_option maxHeartbeats 8000000 in
theorem texts_n (w : World) (A : Option Addr) (c : Nat) (h : Rds w A 7 (nameN.map By)) :
    Calls Try.prog 78 #[.slice A 7 c] w fun e w' => ∃ ao cp, e = .returned (.tuple #[.slice ao 1 cp, .int .i64 0]) ∧ w'.ownsRow w.heap.size 159 2 (.slice ao 1 cp) 1 [.string ⟨#[78, 97, 109, 101]⟩, .string ⟨#[97]⟩] ∧ Mod [] w w' := by
  have kc : (convert 32 9 (.slice A 7 c)).run Try.prog w = .ok (.string ⟨#[78, 97, 109, 101, 61, 97, 0]⟩) w := conv_bytes w A 7 c nameN h
  go_enter Try.func78, Try.ntmps78
  go_wp2_with fail
  refine wp_loop_rounds 2 ?_
  rw [rounds_succ]
  go_wp2_with fail
  refine (cut_n0 _).mono ?_
  rintro e w1 ⟨rfl, m1, rfl⟩
  go_wp2_with fail
  refine (cut_n1 _).mono ?_
  rintro e w2 ⟨rfl, m2, rfl⟩
  have hm1 : Mod [] w ((w.drewN m1).drewN m2) := ((Mod.refl _ _).drewN _).drewN _
  generalize (w.drewN m1).drewN m2 = V at hm1 ⊢
  clear kc h
  go_wp2_with (at_builtin; refine wpList_push V rfl (.tmp 41) (.tmp 45) 155 rfl w.heap.size 159 _ 2 32 Try.underlying155 info159 rfl (by decide) (by decide) (.slice none 0 0) 0 [] rfl (World.ownsRow_nil _ _ _ _) _ rfl rfl (pair_one _ _) (by decide) hm1.size ?_)
  · intro a4 c4 V4 hown4 hm4
    have hm14 : Mod [] w V4 := hm1.trans hm4 (by simp [Value.ownBlock])
    obtain ⟨g, hg, hgb, hgl, _⟩ := own_block hown4 (by decide)
    subst hg
    have y0 : V4.cell? ⟨g, 0, none⟩ = some (.string ⟨#[78, 97, 109, 101]⟩) := hown4.cellAt 0 (by decide)
    have y1 : V4.cell? ⟨g, 1, none⟩ = some (.string ⟨#[97]⟩) := hown4.cellAt 1 (by decide)
    go_wp2_with fail
    rw [rounds_succ]
    go_wp2_with fail
    refine (putTexts_1 ⟨#[78, 97, 109, 101]⟩ ⟨#[97]⟩ [78, 97, 109, 101] rfl (by unfold Letter; decide) (by decide) (by decide) (by rw [ByteArray.toList_eq]; decide) (by decide) (fun w => indexByte_a w) g c4 V4 y0 y1).mono ?_
    rintro e w5 ⟨ao, cp, rfl, ho, hm⟩
    clear y0 y1
    go_wp2
    go_ret2
    exact ⟨_, _, rfl, hm.own0 hown4, hm14.then0 hm⟩
end Go.Proofs.Ytfkhefoilancnaa
