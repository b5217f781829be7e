/-
  desk.New at the shapes 12/4/3/1 and 40/10/2/5: a new desk, its chunks all noughts; at 4097/17/1/17: refused as too long.
-/
import Derived.WalkKit
import Derived.Handy
import Derived.BigQuiet
import Derived.Deep.RegionLaw
import Derived.Lib.Hide
import Derived.Test.YtfkhefoilancnaaMove
import Derived.Test.YtfkhefoilancnaaLaws
import Derived.Test.YtfkhefoilancnaaCheck
import Derived.Test.YtfkhefoilancnaaSpan
namespace Go.Proofs.Ytfkhefoilancnaa
open Go.RowKit
theorem info32 : (Try.prog.info? 32).map (fun i => (i.zero, i.size, i.bytes)) = some (some (.slice none 0 0), 1, 24) := by kernel_rfl
theorem make640 (w : World) : (Instr.makeSlice 32 (.int .i64 640) (.int .i64 640)).run Try.prog w = .ok (.slice (some ⟨w.heap.size, 0, none⟩) 640 640) (w.alloc (.cells (rowOf 640 fun _ => 0).toArray 5)) :=
  run_make_bytes w 32 5 Try.underlying32 info5 640 (by omega) .i64 .i64
theorem make256 (w : World) : (Instr.makeSlice 32 (.int .i64 256) (.int .i64 256)).run Try.prog w = .ok (.slice (some ⟨w.heap.size, 0, none⟩) 256 256) (w.alloc (.cells (rowOf 256 fun _ => 0).toArray 5)) :=
  run_make_bytes w 32 5 Try.underlying32 info5 256 (by omega) .i64 .i64
theorem own_off {w : World} {base : Nat} {e : TypeId} {size : Nat} {v : Value} {n : Nat} {xs : List Value} (ho : w.ownsRow base e size v n xs) {x : Nat} {cs : Array Value} {t : TypeId} (hx : w.heap[x]? = some (.cells cs t (0, 0))) (hne : e ≠ t) :
    x ∉ v.ownBlock.toList := by
  intro hin
  rcases ho.2 with ⟨rfl, _⟩ | ⟨g, cap, cur, rfl, _, hg, _⟩
  · simp [Value.ownBlock] at hin
  · simp [Value.ownBlock] at hin
    subst hin
    rw [hx] at hg
    injection hg with hg
    injection hg with _ ht
    exact hne ht.symm
/-- What is made of a desk's blocks behind k rounds. -/
structure NewInv (s : Sh) (name : ByteArray) (w wr : World) (b d k : Nat) (ao : Option Addr) (cp : Nat) (gs : List Nat) : Prop where
  len : gs.length = k
  own : wr.ownsRow w.heap.size 32 1 (.slice ao k cp) k (gs.map fun g => .slice (some ⟨g, 0, none⟩) s.n s.n)
  chunk : ∀ g, g ∈ gs → wr.heap[g]? = some (Obj.cells (rowOf s.n fun _ => 0).toArray 5 (0, 0))
  nodup : gs.Nodup
  box : wr.heap[b]? = some (Obj.cells #[.int .u64 s.b, .int .i64 s.c, .int .i64 s.w, .int .i64 s.u] 30 (0, 0))
  desk : wr.heap[d]? = some (Obj.cells #[.int .u64 s.b, .int .i64 s.c, .int .i64 s.w, .int .i64 s.u, .string name, .slice ao k cp, .int .i64 0, .slice none 0 0, .int .u32 0] 103 (0, 0))
  ge : w.heap.size ≤ d
  fresh : ∀ g, g ∈ gs → w.heap.size ≤ g
  mod : Mod [] w wr

theorem NewInv.step {s : Sh} {name : ByteArray} {w wr w'' : World} {b d k : Nat} {ao ao' : Option Addr} {cp cp' : Nat} {gs : List Nat} (hI : NewInv s name w wr b d k ao cp gs) (hb : w.heap.size ≤ d)
    (hown' : w''.ownsRow w.heap.size 32 1 (.slice ao' (k + 1) cp') (k + 1) ((gs.map fun g => .slice (some ⟨g, 0, none⟩) s.n s.n) ++ #[.slice (some ⟨wr.heap.size, 0, none⟩) s.n s.n].toList))
    (hm' : Mod (Value.slice ao k cp).ownBlock.toList ((wr.alloc (.cells (rowOf s.n fun _ => 0).toArray 5)).alloc (.cells #[.slice (some ⟨wr.heap.size, 0, none⟩) s.n s.n] 32)).drew w'') :
    NewInv s name w (w''.setCell ⟨d, 5, none⟩ (.slice ao' (k + 1) cp')) b d (k + 1) ao' cp' (gs ++ [wr.heap.size]) := by
  have ha : Mod [] wr ((wr.alloc (.cells (rowOf s.n fun _ => 0).toArray 5)).alloc (.cells #[.slice (some ⟨wr.heap.size, 0, none⟩) s.n s.n] 32)).drew := (((Mod.refl [] wr).alloc _).alloc _).drew
  have hd := hm'.blk (ha.blk hI.desk (by simp)) (own_off hI.own hI.desk (by decide))
  have hset : Mod [d] w'' (w''.setCell ⟨d, 5, none⟩ (.slice ao' (k + 1) cp')) := (Mod.refl _ _).setCell (.inl (by simp)) _
  have hnew : wr.heap.size ∉ gs := fun hin => absurd (blk_lt (hI.chunk _ hin)) (Nat.lt_irrefl _)
  refine ⟨by simp [hI.len], ?_, ?_, ?_, ?_, ?_, hI.ge, ?_, ?_⟩
  · refine hset.own (by simpa using hown') fun g e hin => ?_
    have hin' : g = d := by simpa using hin
    exact own_off hown' hd (by decide) (by rw [← hin']; simp [e])
  · intro g hg
    rcases List.mem_append.1 hg with hg | hg
    · have hc := hm'.blk (ha.blk (hI.chunk g hg) (by simp)) (own_off hI.own (hI.chunk g hg) (by decide))
      exact hset.blk hc (by simpa using DeskAt.blk_ne hc hd (by decide))
    · have hg' : g = wr.heap.size := by simpa using hg
      subst hg'
      have hc : (((wr.alloc (.cells (rowOf s.n fun _ => 0).toArray 5)).alloc (.cells #[.slice (some ⟨wr.heap.size, 0, none⟩) s.n s.n] 32)).drew).heap[wr.heap.size]? = some (.cells (rowOf s.n fun _ => 0).toArray 5 (0, 0)) :=
        (((Mod.refl [] _).alloc _).drew).blk (blk_alloc wr _ _) (by simp)
      have hc' := hm'.blk hc (fun hin => absurd (own_ge hI.own _ hin).2 (Nat.lt_irrefl _))
      exact hset.blk hc' (by simpa using DeskAt.blk_ne hc' hd (by decide))
  · exact List.nodup_append.2 ⟨hI.nodup, by simp, by intro a ha b hb; simp at hb; subst hb; rintro rfl; exact hnew ha⟩
  · have hx := hm'.blk (ha.blk hI.box (by simp)) (own_off hI.own hI.box (by decide))
    exact hset.blk hx (by simpa using DeskAt.blk_ne hx hd (by decide))
  · rw [heap_setCell_same w'' d 5 _ 103 _ hd]
    rfl
  · intro g hg
    rcases List.mem_append.1 hg with hg | hg
    · exact hI.fresh g hg
    · have hg' : g = wr.heap.size := by simpa using hg
      rw [hg']
      exact hI.mod.size
  · have h1 : Mod [] w w'' := (hI.mod.then0 ha).trans hm' (fun t ht => .inr (own_ge hI.own t ht).1)
    exact h1.setCell (.inr hb) _
set_option maxRecDepth 100000 in
set_option maxHeartbeats 4000000 in
theorem new_2 (name : ByteArray) (w : World) : Calls Try.prog 8 #[.agg #[.int .u64 40, .int .i64 10, .int .i64 2, .int .i64 5], .string name] w fun e w' => ∃ d h cap gs, e = .returned (.tuple #[.pointer (some ⟨d, 0, none⟩), .int .i64 0]) ∧
    DeskAt sh2 w' d ⟨h, cap, gs, name, fun _ _ => 0, 0, none, 0, [], 0⟩ ∧ Mod [] w w' ∧ ∀ t, t ∈ d :: h :: gs → w.heap.size ≤ t := by
  go_enter Try.func8, Try.ntmps8
  go_wp2_with fail
  refine (check_2 _).mono ?_
  rintro e w1 ⟨rfl, hm⟩
  obtain ⟨hc, hf⟩ := hm.cells
  have hz : w.heap.size < w1.heap.size := by have := hm.size; simp at this; omega
  go_wp2_with fail
  refine (chunks_2 _).mono ?_
  rintro e w2 ⟨rfl, hm2⟩
  obtain ⟨hc2, hf2⟩ := hm2.cells
  have hz2 : w1.heap.size < w2.heap.size := by have := hm2.size; simp at this; omega
  go_wp2_with fail
  go_loopw [22] (fun i wr => ∃ (k : Nat) (ao : Option Addr) (cp : Nat) (gs : List Nat), i = .int .i64 k ∧ k ≤ 4 ∧ NewInv sh2 name w wr w.heap.size w1.heap.size k ao cp gs) (fun i _ => 4 - (intOf i).toNat)
  case atStart =>
    refine ⟨0, none, 0, [], rfl, by omega, ⟨rfl, World.ownsRow_nil _ _ _ _, by simp, by simp, ?_, ?_, by omega, by simp, ?_⟩⟩
    · exact hm2.blk (((Mod.refl [] w1).alloc _).blk (hm.blk (blk_alloc _ _ _) (by simp)) (by simp)) (by simp)
    · exact hm2.blk (blk_alloc _ _ _) (by simp)
    · exact ((((Mod.refl [] w).alloc _).then0 hm).alloc _).then0 hm2
  case round =>
    obtain ⟨k, ao, cp, gs, rfl, hk, hI⟩ := hrel
    clear hc hf hc2 hf2 hm hm2
    have q1 : (k : Int) ≤ 4 := by omega
    by_cases hlt : k < 4
    · have c5 : wr.cell? ⟨w1.heap.size, 5, none⟩ = some (.slice ao k cp) := blk_cell hI.desk rfl
      have c1 : wr.cell? ⟨w.heap.size, 1, none⟩ = some (.int .i64 10) := blk_cell hI.box rfl
      have n5 : w1.heap.size < wr.heap.size := blk_lt hI.desk
      have n1 : w.heap.size < wr.heap.size := blk_lt hI.box
      have hmk : ∀ w, (Instr.makeSlice 32 (.int .i64 (IntKind.i64.wrap 640)) (.int .i64 (IntKind.i64.wrap 640))).run Try.prog w = .ok (.slice (some ⟨w.heap.size, 0, none⟩) 640 640) (w.alloc (.cells (rowOf 640 fun _ => 0).toArray 5)) := make640
      go_wp2_with fail
      go_region_law (refine step_push _ (by rfl) _ _ _ (by rfl) w.heap.size 32 _ 1 24 Try.underlying83 info32 rfl (by omega) (by omega) (.slice ao k cp) k (gs.map fun g => .slice (some ⟨g, 0, none⟩) 640 640) (by rfl) (((hI.own.drew).alloc _).alloc _) #[.slice (some ⟨wr.heap.size, 0, none⟩) 640 640] (wr.heap.size + 1) 1 1 (by rfl) (heap_alloc_new' _ _ _ (by simp)) rfl (by simp [Value.oneCell']) (by omega) (by have := hI.mod.size; simp; omega) ?_; intro ao' cp' w'' hown' hm'; have hoff := own_off hI.own hI.desk (by decide); have hd'' := hm'.blk (((((Mod.refl [] wr).drew).alloc _).alloc _).blk hI.desk (by simp)) hoff; have c5'' : w''.cell? ⟨w1.heap.size, 5, none⟩ = some (.slice ao k cp) := blk_cell hd'' rfl; have f5'' := blk_frozen hd'' 5; have n5'' := blk_lt hd'')
      all_goals (go_wp2; go_roundw)
      all_goals first
        | exact ⟨k + 1, ao', cp', gs ++ [wr.heap.size], by go_num, by omega, hI.step (by omega) hown' hm'⟩
        | (simp [intOf]; omega)
    · obtain rfl : k = 4 := by omega
      clear hlt hk
      have c5 : wr.cell? ⟨w1.heap.size, 5, none⟩ = some (.slice ao 4 cp) := blk_cell hI.desk rfl
      go_wp2
      go_ret2
      obtain ⟨g, rfl, hgge, hg, _⟩ := own_block hI.own (by omega)
      refine ⟨w1.heap.size, g, cp, gs, rfl, ⟨hI.desk, own_mono hI.own (by omega), ?_, hI.nodup, ?_, ?_⟩, hI.mod, ?_⟩
      · intro i g' hi
        exact hI.chunk g' (List.mem_of_getElem? hi)
      · exact Rds.none_ _
      · intro a ha
        cases ha
      · intro t ht
        simp only [List.mem_cons] at ht
        rcases ht with rfl | rfl | ht
        · exact hI.ge
        · exact hgge
        · exact hI.fresh t ht
set_option maxRecDepth 100000 in
set_option maxHeartbeats 4000000 in
theorem new_1 (name : ByteArray) (w : World) : Calls Try.prog 8 #[.agg #[.int .u64 12, .int .i64 4, .int .i64 3, .int .i64 1], .string name] w fun e w' => ∃ d h cap gs, e = .returned (.tuple #[.pointer (some ⟨d, 0, none⟩), .int .i64 0]) ∧
    DeskAt sh1 w' d ⟨h, cap, gs, name, fun _ _ => 0, 0, none, 0, [], 0⟩ ∧ Mod [] w w' ∧ ∀ t, t ∈ d :: h :: gs → w.heap.size ≤ t := by
  go_enter Try.func8, Try.ntmps8
  go_wp2_with fail
  refine (check_1 _).mono ?_
  rintro e w1 ⟨rfl, hm⟩
  obtain ⟨hc, hf⟩ := hm.cells
  have hz : w.heap.size < w1.heap.size := by have := hm.size; simp at this; omega
  go_wp2_with fail
  refine (chunks_1 _).mono ?_
  rintro e w2 ⟨rfl, hm2⟩
  obtain ⟨hc2, hf2⟩ := hm2.cells
  have hz2 : w1.heap.size < w2.heap.size := by have := hm2.size; simp at this; omega
  go_wp2_with fail
  go_loopw [22] (fun i wr => ∃ (k : Nat) (ao : Option Addr) (cp : Nat) (gs : List Nat), i = .int .i64 k ∧ k ≤ 3 ∧ NewInv sh1 name w wr w.heap.size w1.heap.size k ao cp gs) (fun i _ => 3 - (intOf i).toNat)
  case atStart =>
    refine ⟨0, none, 0, [], rfl, by omega, ⟨rfl, World.ownsRow_nil _ _ _ _, by simp, by simp, ?_, ?_, by omega, by simp, ?_⟩⟩
    · exact hm2.blk (((Mod.refl [] w1).alloc _).blk (hm.blk (blk_alloc _ _ _) (by simp)) (by simp)) (by simp)
    · exact hm2.blk (blk_alloc _ _ _) (by simp)
    · exact ((((Mod.refl [] w).alloc _).then0 hm).alloc _).then0 hm2
  case round =>
    obtain ⟨k, ao, cp, gs, rfl, hk, hI⟩ := hrel
    clear hc hf hc2 hf2 hm hm2
    have q1 : (k : Int) ≤ 3 := by omega
    by_cases hlt : k < 3
    · have c5 : wr.cell? ⟨w1.heap.size, 5, none⟩ = some (.slice ao k cp) := blk_cell hI.desk rfl
      have c1 : wr.cell? ⟨w.heap.size, 1, none⟩ = some (.int .i64 4) := blk_cell hI.box rfl
      have n5 : w1.heap.size < wr.heap.size := blk_lt hI.desk
      have n1 : w.heap.size < wr.heap.size := blk_lt hI.box
      have hmk : ∀ w, (Instr.makeSlice 32 (.int .i64 (IntKind.i64.wrap 256)) (.int .i64 (IntKind.i64.wrap 256))).run Try.prog w = .ok (.slice (some ⟨w.heap.size, 0, none⟩) 256 256) (w.alloc (.cells (rowOf 256 fun _ => 0).toArray 5)) := make256
      go_wp2_with fail
      go_region_law (refine step_push _ (by rfl) _ _ _ (by rfl) w.heap.size 32 _ 1 24 Try.underlying83 info32 rfl (by omega) (by omega) (.slice ao k cp) k (gs.map fun g => .slice (some ⟨g, 0, none⟩) 256 256) (by rfl) (((hI.own.drew).alloc _).alloc _) #[.slice (some ⟨wr.heap.size, 0, none⟩) 256 256] (wr.heap.size + 1) 1 1 (by rfl) (heap_alloc_new' _ _ _ (by simp)) rfl (by simp [Value.oneCell']) (by omega) (by have := hI.mod.size; simp; omega) ?_; intro ao' cp' w'' hown' hm'; have hoff := own_off hI.own hI.desk (by decide); have hd'' := hm'.blk (((((Mod.refl [] wr).drew).alloc _).alloc _).blk hI.desk (by simp)) hoff; have c5'' : w''.cell? ⟨w1.heap.size, 5, none⟩ = some (.slice ao k cp) := blk_cell hd'' rfl; have f5'' := blk_frozen hd'' 5; have n5'' := blk_lt hd'')
      all_goals (go_wp2; go_roundw)
      all_goals first
        | exact ⟨k + 1, ao', cp', gs ++ [wr.heap.size], by go_num, by omega, hI.step (by omega) hown' hm'⟩
        | (simp [intOf]; omega)
    · obtain rfl : k = 3 := by omega
      clear hlt hk
      have c5 : wr.cell? ⟨w1.heap.size, 5, none⟩ = some (.slice ao 3 cp) := blk_cell hI.desk rfl
      go_wp2
      go_ret2
      obtain ⟨g, rfl, hgge, hg, _⟩ := own_block hI.own (by omega)
      refine ⟨w1.heap.size, g, cp, gs, rfl, ⟨hI.desk, own_mono hI.own (by omega), ?_, hI.nodup, ?_, ?_⟩, hI.mod, ?_⟩
      · intro i g' hi
        exact hI.chunk g' (List.mem_of_getElem? hi)
      · exact Rds.none_ _
      · intro a ha
        cases ha
      · intro t ht
        simp only [List.mem_cons] at ht
        rcases ht with rfl | rfl | ht
        · exact hI.ge
        · exact hgge
        · exact hI.fresh t ht
set_option maxRecDepth 100000 in
set_option maxHeartbeats 4000000 in
theorem new_3 (name : ByteArray) (w : World) : Calls Try.prog 8 #[.agg #[.int .u64 4097, .int .i64 17, .int .i64 1, .int .i64 17], .string name] w fun e w' => e = .returned (.tuple #[.pointer none, .int .i64 3]) ∧ Mod [] w w' := by
  go_enter Try.func8, Try.ntmps8
  go_wp2_with fail
  refine (check_3 _).mono ?_
  rintro e w1 ⟨rfl, hm⟩
  obtain ⟨hc, hf⟩ := hm.cells
  have hz : w.heap.size < w1.heap.size := by have := hm.size; simp at this; omega
  go_wp2
  go_ret2
  exact ⟨rfl, ((Mod.refl [] w).alloc _).then0 hm⟩
end Go.Proofs.Ytfkhefoilancnaa
