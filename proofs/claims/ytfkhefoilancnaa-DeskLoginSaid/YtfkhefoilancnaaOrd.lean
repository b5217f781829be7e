/-
  An order of the laws: the command that it is, what the desk does of it (shape 40/10/2/5), and what the laws' array does of it: one contract for all of them.
-/
import Derived.WalkKit
import Derived.Test.YtfkhefoilancnaaCmd
import Derived.Test.YtfkhefoilancnaaDoes
import Derived.Test.YtfkhefoilancnaaDo2
import Derived.Test.YtfkhefoilancnaaView
namespace Go.Proofs.Ytfkhefoilancnaa
open Go.RowKit
/-- An order. -/
structure Ord where
  rd : Bool
  lg : Bool
  lba : Int
  cnt : Int
  fl : UInt8
def Ord.val (o : Ord) : Value := .agg #[.bool o.rd, .bool o.lg, .int .i64 o.lba, .int .i64 o.cnt, By o.fl]
def Ord.x (o : Ord) : Nat := mo o.lba 42
def Ord.m (o : Ord) : Nat := mo o.cnt 24
def Ord.op (o : Ord) : Int := match o.rd, o.lg with
  | true, true => 136
  | true, false => 40
  | false, true => 138
  | false, false => 42
def Ord.data (o : Ord) : List UInt8 := match o.rd with
  | true => []
  | false => (List.range (o.m * 64)).map (fill o.fl)
def Ord.good (o : Ord) : Bool := decide (o.x + o.m ≤ 40)
def Ord.reads (o : Ord) (f : Nat → UInt8) : List UInt8 := match o.rd && o.good with
  | true => (List.range (o.m * 64)).map fun i => f (o.x * 64 + i)
  | false => []
def Ord.after (o : Ord) (f : Nat → UInt8) : Nat → UInt8 := match !o.rd && o.good with
  | true => fun i => if o.x * 64 ≤ i ∧ i < (o.x + o.m) * 64 then dat o.data (i - o.x * 64) else f i
  | false => f
/-- The command that an order is. -/
def Ord.cmd (o : Ord) : Value := .agg #[.int .i64 o.op, .int .u64 o.x, .int .i64 o.m, .int .i64 0]
def Ord.sense (o : Ord) : Value := match o.good with
  | true => .agg #[.int .u8 0, .int .u16 0]
  | false => .agg #[.int .u8 5, .int .u16 8448]
theorem Ord.x_lt (o : Ord) : o.x < 42 := mo_lt _ _ (by omega)
theorem Ord.m_lt (o : Ord) : o.m < 24 := mo_lt _ _ (by omega)
theorem rowOf_map (n : Nat) (f : Nat → UInt8) : rowOf n f = ((List.range n).map f).map By := by simp [rowOf]
theorem Rds.whole {w : World} {g n : Nat} {f : Nat → UInt8} (h : w.heap[g]? = some (.cells (rowOf n f).toArray 5 (0, 0))) : Rds w (some ⟨g, 0, none⟩) n (rowOf n f) := by
  have := Rds.ofBlk (m := n) (off := 0) h (by omega)
  simpa using this
theorem cmd_k (o : Ord) (w : World) : Calls Try.prog 11 #[o.val] w fun e w' => ∃ ba bc, e = .returned (.tuple #[o.cmd, .slice ba o.data.length bc]) ∧ Rds w' ba o.data.length (o.data.map By) ∧ o.data.length ≤ bc ∧ (∀ a, ba = some a → w.heap.size ≤ a.block) ∧ (o.rd = true → ba = none ∧ bc = 0) ∧ Mod [] w w' := by
  obtain ⟨rd, lg, lba, cnt, fl⟩ := o
  cases rd
  · have hw : ∀ (e : Ending) (w' : World), (∃ gb N, N = mo cnt 24 * 64 ∧ e = .returned (.tuple #[Ord.cmd ⟨false, lg, lba, cnt, fl⟩, .slice (some ⟨gb, 0, none⟩) N N]) ∧ w.heap.size ≤ gb ∧ w'.heap[gb]? = some (.cells (rowOf N (fill fl)).toArray 5 (0, 0)) ∧ Mod [] w w') →
        ∃ ba bc, e = .returned (.tuple #[Ord.cmd ⟨false, lg, lba, cnt, fl⟩, .slice ba (Ord.data ⟨false, lg, lba, cnt, fl⟩).length bc]) ∧ Rds w' ba (Ord.data ⟨false, lg, lba, cnt, fl⟩).length ((Ord.data ⟨false, lg, lba, cnt, fl⟩).map By) ∧ (Ord.data ⟨false, lg, lba, cnt, fl⟩).length ≤ bc ∧
          (∀ a, ba = some a → w.heap.size ≤ a.block) ∧ (false = true → ba = none ∧ bc = 0) ∧ Mod [] w w' := by
      rintro e w' ⟨gb, N, rfl, rfl, hge, hblk, hm⟩
      have hlen : (Ord.data ⟨false, lg, lba, cnt, fl⟩).length = mo cnt 24 * 64 := by simp [Ord.data, Ord.m]
      refine ⟨some ⟨gb, 0, none⟩, mo cnt 24 * 64, by rw [hlen], ?_, by omega, ?_, (by intro h; cases h), hm⟩
      · rw [hlen]
        have := Rds.whole hblk
        rw [rowOf_map] at this
        exact this
      · rintro a ⟨⟩
        exact hge
    cases lg
    · exact (cmd_w_false lba cnt fl w).mono hw
    · exact (cmd_w_true lba cnt fl w).mono hw
  · refine (cmd_r lg lba cnt fl w).mono ?_
    rintro e w' ⟨rfl, hm⟩
    refine ⟨none, 0, ?_, Rds.none_ _, Nat.le_refl _, (by rintro a ⟨⟩), fun _ => ⟨rfl, rfl⟩, hm⟩
    cases lg <;> rfl
theorem view2_read {vol : Nat → Nat → UInt8} {f : Nat → UInt8} (hv : ∀ j, j < 2560 → view wh2 vol j = f j) {ps : List Pc} {x n : Nat} (hg : Good wh2 x ps n) (hx : x + n ≤ 40) (g : Nat → UInt8) :
    rowOf (n * 64) (rdAll vol g ps) = ((List.range (n * 64)).map fun i => f (x * 64 + i)).map By := by
  rw [← rowOf_map]
  refine rowOf_congr fun i hi => ?_
  rw [view_read hg vol g i hi, hv _ (by omega)]
/-- What the desk does of it. -/
theorem do_k (o : Ord) (w : World) (d : Nat) (D : Gh) (f : Nat → UInt8) (hD : DeskAt sh2 w d D) (hv : ∀ j, j < 2560 → view wh2 D.vol j = f j) (ba : Option Addr) (bc : Nat) (hb : Rds w ba o.data.length (o.data.map By)) (hbc : o.data.length ≤ bc) (ho : Off D.gs ba o.data.length) (hr : o.rd = true → ba = none ∧ bc = 0) :
    Calls Try.prog 22 #[.pointer (some ⟨d, 0, none⟩), o.cmd, .slice ba o.data.length bc] w fun e w' => ∃ ao cp vol, e = .returned (.tuple #[.slice ao (o.reads f).length cp, o.sense]) ∧ Rds w' ao (o.reads f).length ((o.reads f).map By) ∧
      (∀ a, ao = some a → w.heap.size ≤ a.block) ∧ DeskAt sh2 w' d (D.setVol vol) ∧ (∀ j, j < 2560 → view wh2 vol j = o.after f j) ∧ Mod D.gs w w' := by
  have hx := o.x_lt
  have hm := o.m_lt
  obtain ⟨rd, lg, lba, cnt, fl⟩ := o
  by_cases hg : Ord.good ⟨rd, lg, lba, cnt, fl⟩ = true
  · have hxm : Ord.x ⟨rd, lg, lba, cnt, fl⟩ + Ord.m ⟨rd, lg, lba, cnt, fl⟩ ≤ 40 := of_decide_eq_true hg
    have hsen : Ord.sense ⟨rd, lg, lba, cnt, fl⟩ = .agg #[.int .u8 0, .int .u16 0] := by simp only [Ord.sense, hg]
    rw [hsen]
    cases rd
    · have hrd : Ord.reads ⟨false, lg, lba, cnt, fl⟩ f = [] := by simp [Ord.reads]
      have haf : ∀ j, Ord.after ⟨false, lg, lba, cnt, fl⟩ f j = if Ord.x ⟨false, lg, lba, cnt, fl⟩ * 64 ≤ j ∧ j < (Ord.x ⟨false, lg, lba, cnt, fl⟩ + Ord.m ⟨false, lg, lba, cnt, fl⟩) * 64 then dat (Ord.data ⟨false, lg, lba, cnt, fl⟩) (j - Ord.x ⟨false, lg, lba, cnt, fl⟩ * 64) else f j := by
        intro j
        simp only [Ord.after, hg, Bool.not_false, Bool.and_self]
      rw [hrd]
      have hdl : (Ord.data ⟨false, lg, lba, cnt, fl⟩).length = Ord.m ⟨false, lg, lba, cnt, fl⟩ * 64 := by simp [Ord.data]
      have fin : ∀ (e : Ending) (w' : World), (e = .returned (.tuple #[.slice none 0 0, .agg #[.int .u8 0, .int .u16 0]]) ∧ (∃ ps, Good wh2 (Ord.x ⟨false, lg, lba, cnt, fl⟩) ps (Ord.m ⟨false, lg, lba, cnt, fl⟩) ∧ DeskAt sh2 w' d (D.setVol (wrAll (Ord.data ⟨false, lg, lba, cnt, fl⟩) D.vol ps))) ∧ Mod D.gs w w') →
          ∃ ao cp vol, e = .returned (.tuple #[.slice ao ([] : List UInt8).length cp, .agg #[.int .u8 0, .int .u16 0]]) ∧ Rds w' ao ([] : List UInt8).length (([] : List UInt8).map By) ∧ (∀ a, ao = some a → w.heap.size ≤ a.block) ∧ DeskAt sh2 w' d (D.setVol vol) ∧ (∀ j, j < 2560 → view wh2 vol j = Ord.after ⟨false, lg, lba, cnt, fl⟩ f j) ∧ Mod D.gs w w' := by
        rintro e w' ⟨rfl, ⟨ps, hgd, hD'⟩, hm'⟩
        refine ⟨none, 0, _, rfl, Rds.none_ _, (by rintro a ⟨⟩), hD', fun j hj => ?_, hm'⟩
        rw [view_write (B := 40) (fun a b ha hb => wh2_inj ha hb) hxm _ hgd _ j (by omega), haf]
        split
        · rfl
        · exact hv j hj
      cases lg
      · exact (do_w_42_2 w d D hD _ _ hxm ba bc _ hdl hb hbc ho).mono fin
      · exact (do_w_138_2 w d D hD _ _ hxm ba bc _ hdl hb hbc ho).mono fin
    · obtain ⟨rfl, rfl⟩ := hr rfl
      have hrd : Ord.reads ⟨true, lg, lba, cnt, fl⟩ f = (List.range (Ord.m ⟨true, lg, lba, cnt, fl⟩ * 64)).map fun i => f (Ord.x ⟨true, lg, lba, cnt, fl⟩ * 64 + i) := by simp only [Ord.reads, hg, Bool.and_self]
      have hlen : (Ord.reads ⟨true, lg, lba, cnt, fl⟩ f).length = Ord.m ⟨true, lg, lba, cnt, fl⟩ * 64 := by rw [hrd]; simp
      have haf : Ord.after ⟨true, lg, lba, cnt, fl⟩ f = f := by simp [Ord.after]
      have fin : ∀ (e : Ending) (w' : World), (∃ gb ps N, N = Ord.m ⟨true, lg, lba, cnt, fl⟩ * 64 ∧ e = .returned (.tuple #[.slice (some ⟨gb, 0, none⟩) N N, .agg #[.int .u8 0, .int .u16 0]]) ∧ w.heap.size ≤ gb ∧ Good wh2 (Ord.x ⟨true, lg, lba, cnt, fl⟩) ps (Ord.m ⟨true, lg, lba, cnt, fl⟩) ∧
            w'.heap[gb]? = some (.cells (rowOf N (rdAll D.vol (fun _ => 0) ps)).toArray 5 (0, 0)) ∧ Mod [] w w') →
          ∃ ao cp vol, e = .returned (.tuple #[.slice ao (Ord.reads ⟨true, lg, lba, cnt, fl⟩ f).length cp, .agg #[.int .u8 0, .int .u16 0]]) ∧ Rds w' ao (Ord.reads ⟨true, lg, lba, cnt, fl⟩ f).length ((Ord.reads ⟨true, lg, lba, cnt, fl⟩ f).map By) ∧ (∀ a, ao = some a → w.heap.size ≤ a.block) ∧ DeskAt sh2 w' d (D.setVol vol) ∧ (∀ j, j < 2560 → view wh2 vol j = Ord.after ⟨true, lg, lba, cnt, fl⟩ f j) ∧ Mod D.gs w w' := by
        rintro e w' ⟨gb, ps, N, rfl, rfl, hgb, hgd, hblk, hm'⟩
        refine ⟨some ⟨gb, 0, none⟩, Ord.m ⟨true, lg, lba, cnt, fl⟩ * 64, D.vol, by rw [hlen], ?_, (by rintro a ⟨⟩; exact hgb), hD.mod0 hm', fun j hj => by rw [haf]; exact hv j hj, hm'.mono (by simp)⟩
        have := Rds.whole hblk
        rw [view2_read hv hgd hxm] at this
        rw [hlen, hrd]
        exact this
      cases lg
      · exact (do_r_40_2 w d D hD _ _ hxm).mono fin
      · exact (do_r_136_2 w d D hD _ _ hxm).mono fin
  · have hxm : ¬ Ord.x ⟨rd, lg, lba, cnt, fl⟩ + Ord.m ⟨rd, lg, lba, cnt, fl⟩ ≤ 40 := fun h => hg (decide_eq_true h)
    have hg' : Ord.good ⟨rd, lg, lba, cnt, fl⟩ = false := by simpa using hg
    have hsen : Ord.sense ⟨rd, lg, lba, cnt, fl⟩ = .agg #[.int .u8 5, .int .u16 8448] := by simp only [Ord.sense, hg']
    have hrd : Ord.reads ⟨rd, lg, lba, cnt, fl⟩ f = [] := by simp [Ord.reads, hg']
    have haf : Ord.after ⟨rd, lg, lba, cnt, fl⟩ f = f := by simp [Ord.after, hg']
    rw [hsen, hrd, haf]
    have fin : ∀ (e : Ending) (w' : World), (e = .returned (.tuple #[.slice none 0 0, .agg #[.int .u8 5, .int .u16 8448]]) ∧ Mod [] w w') →
        ∃ ao cp vol, e = .returned (.tuple #[.slice ao ([] : List UInt8).length cp, .agg #[.int .u8 5, .int .u16 8448]]) ∧ Rds w' ao ([] : List UInt8).length (([] : List UInt8).map By) ∧ (∀ a, ao = some a → w.heap.size ≤ a.block) ∧ DeskAt sh2 w' d (D.setVol vol) ∧ (∀ j, j < 2560 → view wh2 vol j = f j) ∧ Mod D.gs w w' := by
      rintro e w' ⟨rfl, hm'⟩
      exact ⟨none, 0, D.vol, rfl, Rds.none_ _, (by rintro a ⟨⟩), hD.mod0 hm', hv, hm'.mono (by simp)⟩
    cases rd
    · cases lg
      · exact (do_x_42_2 w d D hD _ _ hxm (by omega) (by omega) ba _ bc).mono fin
      · exact (do_x_138_2 w d D hD _ _ hxm (by omega) (by omega) ba _ bc).mono fin
    · obtain ⟨rfl, rfl⟩ := hr rfl
      cases lg
      · exact (do_x_40_2 w d D hD _ _ hxm (by omega) (by omega)).mono fin
      · exact (do_x_136_2 w d D hD _ _ hxm (by omega) (by omega)).mono fin
/-- What the laws' array does of it. -/
theorem does_k (o : Ord) (w : World) (ab : Nat) (f : Nat → UInt8) (hA : w.heap[ab]? = some (.cells (rowOf 2560 f).toArray 57 (0, 0))) (ba : Option Addr) (bc : Nat) (hb : Rds w ba o.data.length (o.data.map By)) (hr : o.rd = true → ba = none ∧ bc = 0) :
    Calls Try.prog 18 #[.pointer (some ⟨ab, 0, none⟩), o.cmd, .slice ba o.data.length bc] w fun e w' => ∃ ao cp, e = .returned (.tuple #[.slice ao (o.reads f).length cp, .bool o.good]) ∧ Rds w' ao (o.reads f).length ((o.reads f).map By) ∧
      w'.heap[ab]? = some (.cells (rowOf 2560 (o.after f)).toArray 57 (0, 0)) ∧ Mod [ab] w w' := by
  have hx := o.x_lt
  have hm := o.m_lt
  obtain ⟨rd, lg, lba, cnt, fl⟩ := o
  by_cases hg : Ord.good ⟨rd, lg, lba, cnt, fl⟩ = true
  · have hxm : Ord.x ⟨rd, lg, lba, cnt, fl⟩ + Ord.m ⟨rd, lg, lba, cnt, fl⟩ ≤ 40 := of_decide_eq_true hg
    rw [hg]
    cases rd
    · have hrd : Ord.reads ⟨false, lg, lba, cnt, fl⟩ f = [] := by simp [Ord.reads]
      have haf : Ord.after ⟨false, lg, lba, cnt, fl⟩ f = fun j => if Ord.x ⟨false, lg, lba, cnt, fl⟩ * 64 ≤ j ∧ j < (Ord.x ⟨false, lg, lba, cnt, fl⟩ + Ord.m ⟨false, lg, lba, cnt, fl⟩) * 64 then dat (Ord.data ⟨false, lg, lba, cnt, fl⟩) (j - Ord.x ⟨false, lg, lba, cnt, fl⟩ * 64) else f j := by
        simp only [Ord.after, hg, Bool.not_false, Bool.and_self]
      rw [hrd, haf]
      have hdl : (Ord.data ⟨false, lg, lba, cnt, fl⟩).length = Ord.m ⟨false, lg, lba, cnt, fl⟩ * 64 := by simp [Ord.data]
      cases lg
      · refine (does_w_42 ab _ _ hxm w f hA ba bc _ hdl hb).mono ?_
        rintro e w' ⟨rfl, h1, h2⟩
        exact ⟨none, 0, rfl, Rds.none_ _, h1, h2⟩
      · refine (does_w_138 ab _ _ hxm w f hA ba bc _ hdl hb).mono ?_
        rintro e w' ⟨rfl, h1, h2⟩
        exact ⟨none, 0, rfl, Rds.none_ _, h1, h2⟩
    · obtain ⟨rfl, rfl⟩ := hr rfl
      have hrd : Ord.reads ⟨true, lg, lba, cnt, fl⟩ f = (List.range (Ord.m ⟨true, lg, lba, cnt, fl⟩ * 64)).map fun i => f (Ord.x ⟨true, lg, lba, cnt, fl⟩ * 64 + i) := by simp only [Ord.reads, hg, Bool.and_self]
      have hlen : (Ord.reads ⟨true, lg, lba, cnt, fl⟩ f).length = Ord.m ⟨true, lg, lba, cnt, fl⟩ * 64 := by rw [hrd]; simp
      have haf : Ord.after ⟨true, lg, lba, cnt, fl⟩ f = f := by simp [Ord.after]
      rw [haf, hlen]
      have fin : ∀ (e : Ending) (w' : World), (∃ ao cp, e = .returned (.tuple #[.slice ao (Ord.m ⟨true, lg, lba, cnt, fl⟩ * 64) cp, .bool true]) ∧ Rds w' ao (Ord.m ⟨true, lg, lba, cnt, fl⟩ * 64) (rowOf (Ord.m ⟨true, lg, lba, cnt, fl⟩ * 64) fun i => f (Ord.x ⟨true, lg, lba, cnt, fl⟩ * 64 + i)) ∧ Mod [] w w') →
          ∃ ao cp, e = .returned (.tuple #[.slice ao (Ord.m ⟨true, lg, lba, cnt, fl⟩ * 64) cp, .bool true]) ∧ Rds w' ao (Ord.m ⟨true, lg, lba, cnt, fl⟩ * 64) ((Ord.reads ⟨true, lg, lba, cnt, fl⟩ f).map By) ∧ w'.heap[ab]? = some (.cells (rowOf 2560 f).toArray 57 (0, 0)) ∧ Mod [ab] w w' := by
        rintro e w' ⟨ao, cp, rfl, h1, h2⟩
        refine ⟨ao, cp, rfl, ?_, h2.blk hA (by simp), h2.mono (by simp)⟩
        rw [hrd, ← rowOf_map]
        exact h1
      cases lg
      · exact (does_r_40 ab _ _ hxm w f hA).mono fin
      · exact (does_r_136 ab _ _ hxm w f hA).mono fin
  · have hxm : ¬ Ord.x ⟨rd, lg, lba, cnt, fl⟩ + Ord.m ⟨rd, lg, lba, cnt, fl⟩ ≤ 40 := fun h => hg (decide_eq_true h)
    have hg' : Ord.good ⟨rd, lg, lba, cnt, fl⟩ = false := by simpa using hg
    have hrd : Ord.reads ⟨rd, lg, lba, cnt, fl⟩ f = [] := by simp [Ord.reads, hg']
    have haf : Ord.after ⟨rd, lg, lba, cnt, fl⟩ f = f := by simp [Ord.after, hg']
    rw [hrd, haf, hg']
    have fin : ∀ (e : Ending) (w' : World), (e = .returned (.tuple #[.slice none 0 0, .bool false]) ∧ Mod [] w w') →
        ∃ ao cp, e = .returned (.tuple #[.slice ao ([] : List UInt8).length cp, .bool false]) ∧ Rds w' ao ([] : List UInt8).length (([] : List UInt8).map By) ∧ w'.heap[ab]? = some (.cells (rowOf 2560 f).toArray 57 (0, 0)) ∧ Mod [ab] w w' := by
      rintro e w' ⟨rfl, h2⟩
      have h3 := h2.blk hA (by simp)
      exact ⟨none, 0, rfl, Rds.none_ _, h3, h2.mono (by simp)⟩
    cases rd <;> cases lg
    · exact (does_x ab 42 _ _ hxm (by omega) (by omega) ba _ bc w).mono fin
    · exact (does_x ab 138 _ _ hxm (by omega) (by omega) ba _ bc w).mono fin
    · exact (does_x ab 40 _ _ hxm (by omega) (by omega) ba _ bc w).mono fin
    · exact (does_x ab 136 _ _ hxm (by omega) (by omega) ba _ bc w).mono fin
end Go.Proofs.Ytfkhefoilancnaa
