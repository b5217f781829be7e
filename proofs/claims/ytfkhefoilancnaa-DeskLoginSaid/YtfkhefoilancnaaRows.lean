/-
  No cell of these rows narrows 'for every input' (looked for: loops, veiled, ifaces, maps, wideKeys, modest, calm, conditions, laid).
  DERIVED. THE GIVEN ROWS OF THIS SEAT. 5 by the template 'for every input the law returns true; each argument reads behind the call as it read before'; 0 by the template 'total and deterministic' (their statements: YtfkhefoilancnaaTotals.lean).
  GIVEN WITH THE SEED: the statements are not yours to turn. If you find one false, say at which input.
  Laid BY PROGRAM, IN A SANDBOX (cutbox-rows.mjs): the forced cells as the released guide's own fill.sh prints them over the translation dc5aa01885252da0… (all of the seat's roots in one cut). By AI agents, Wed Nov 11 2026. No macro, syntax, notation, axiom, sorry.
-/
import Derived.Test.YtfkhefoilancnaaChecked
import GoSem.Claim
import GoSem.ClaimJoined
import GoSem.ClaimMapViews
import Derived.JoinedTies
import Derived.KernelRfl
namespace Go.Proofs.Ytfkhefoilancnaa
/- THE CELL 'sum', in the pinned program and in every row, IS THE sha256 OF THE DUMP (.gsa) THAT YtfkhefoilancnaaProg.lean LOADS. Nothing in Lean hashes anything: it is a label: what it is worth is what the hold of that sum in a sandbox is worth. -/
noncomputable def Try.pinned : Pinned := { name := "ytfkhefoilancnaa", sum := "dc5aa01885252da020292849cc8c6bf08926f2dd20dfe6dc777deac16cafa1b5", checked := Try.checked }
namespace Rows
def none {H : Type} : Left H := { results := [], args := [] }

/-- 'seawalltop.TopTarget': WHATEVER THE INPUT: true; the input reads as it did. -/
def topTargetSpec : ChangeSpec := { name := "topTarget", fn := fun _ => fun
  | [d1, d2] => { results := [.lit (.bool true)], args := [d1, d2] }
  | _ => none }
def topTargetRow : OpenClaim := { program := "ytfkhefoilancnaa", sum := "dc5aa01885252da020292849cc8c6bf08926f2dd20dfe6dc777deac16cafa1b5", func := "seawall/seawalltop.TopTarget", spec := "topTarget", inPlace := ["internal/bytealg.IndexByteString", "internal/bytealg.IndexString", "gosem.stop:seawall/desk.wrong", "gosem.stop:seawall/cdb.Capacity", "gosem.stop:seawall/desk.noOp"], unfollowed := true, recurses := true, named := ["internal/bytealg.MaxLen", "math/bits.divideError", "math/bits.overflowError"], apart := false }
def TopTargetSaid : Prop := topTargetRow.holds Try.pinned (OpenSpec.ofChange topTargetSpec)

/-- ITS FALSE NEIGHBOUR: 'it returns false'. Refute it at one input. -/
def topTargetWrong : ChangeSpec := { name := "topTarget", fn := fun _ => fun
  | [d1, d2] => { results := [.lit (.bool false)], args := [d1, d2] }
  | _ => none }
def TopTargetWrongFalsely : Prop := topTargetRow.holds Try.pinned (OpenSpec.ofChange topTargetWrong)

/-- 'seawalllaw23.DeskArray': WHATEVER THE INPUT: true; the input reads as it did. -/
def deskArraySpec : ChangeSpec := { name := "deskArray", fn := fun _ => fun
  | [d] => { results := [.lit (.bool true)], args := [d] }
  | _ => none }
def deskArrayRow : OpenClaim := { program := "ytfkhefoilancnaa", sum := "dc5aa01885252da020292849cc8c6bf08926f2dd20dfe6dc777deac16cafa1b5", func := "seawall/seawalllaw23.DeskArray", spec := "deskArray", inPlace := ["gosem.stop:seawall/desk.wrong", "gosem.stop:seawall/cdb.Capacity", "internal/bytealg.IndexByteString", "internal/bytealg.IndexString", "gosem.stop:seawall/desk.noOp"], unfollowed := true, recurses := true, named := ["math/bits.divideError", "math/bits.overflowError", "internal/bytealg.MaxLen"], apart := false }
def DeskArraySaid : Prop := deskArrayRow.holds Try.pinned (OpenSpec.ofChange deskArraySpec)

/-- ITS FALSE NEIGHBOUR: 'it returns false'. Refute it at one input. -/
def deskArrayWrong : ChangeSpec := { name := "deskArray", fn := fun _ => fun
  | [d] => { results := [.lit (.bool false)], args := [d] }
  | _ => none }
def DeskArrayWrongFalsely : Prop := deskArrayRow.holds Try.pinned (OpenSpec.ofChange deskArrayWrong)

/-- 'seawalllaw23.DeskLogin': WHATEVER THE INPUT: true; the input reads as it did. -/
def deskLoginSpec : ChangeSpec := { name := "deskLogin", fn := fun _ => fun
  | [d1, d2] => { results := [.lit (.bool true)], args := [d1, d2] }
  | _ => none }
def deskLoginRow : OpenClaim := { program := "ytfkhefoilancnaa", sum := "dc5aa01885252da020292849cc8c6bf08926f2dd20dfe6dc777deac16cafa1b5", func := "seawall/seawalllaw23.DeskLogin", spec := "deskLogin", inPlace := ["internal/bytealg.IndexByteString", "internal/bytealg.IndexString", "gosem.stop:seawall/desk.wrong", "gosem.stop:seawall/cdb.Capacity", "gosem.stop:seawall/desk.noOp"], unfollowed := true, recurses := true, named := ["internal/bytealg.MaxLen", "math/bits.divideError", "math/bits.overflowError"], apart := false }
def DeskLoginSaid : Prop := deskLoginRow.holds Try.pinned (OpenSpec.ofChange deskLoginSpec)

/-- ITS FALSE NEIGHBOUR: 'it returns false'. Refute it at one input. -/
def deskLoginWrong : ChangeSpec := { name := "deskLogin", fn := fun _ => fun
  | [d1, d2] => { results := [.lit (.bool false)], args := [d1, d2] }
  | _ => none }
def DeskLoginWrongFalsely : Prop := deskLoginRow.holds Try.pinned (OpenSpec.ofChange deskLoginWrong)

/-- 'seawalllaw23.DeskNil': WHATEVER THE INPUT: true; the input reads as it did. -/
def deskNilSpec : ChangeSpec := { name := "deskNil", fn := fun _ => fun
  | [d1, d2] => { results := [.lit (.bool true)], args := [d1, d2] }
  | _ => none }
def deskNilRow : OpenClaim := { program := "ytfkhefoilancnaa", sum := "dc5aa01885252da020292849cc8c6bf08926f2dd20dfe6dc777deac16cafa1b5", func := "seawall/seawalllaw23.DeskNil", spec := "deskNil", inPlace := ["gosem.stop:seawall/desk.wrong", "gosem.stop:seawall/cdb.Capacity", "internal/bytealg.IndexByteString", "internal/bytealg.IndexString", "gosem.stop:seawall/desk.noOp"], unfollowed := true, recurses := true, named := ["math/bits.divideError", "math/bits.overflowError", "internal/bytealg.MaxLen"], apart := false }
def DeskNilSaid : Prop := deskNilRow.holds Try.pinned (OpenSpec.ofChange deskNilSpec)

/-- ITS FALSE NEIGHBOUR: 'it returns false'. Refute it at one input. -/
def deskNilWrong : ChangeSpec := { name := "deskNil", fn := fun _ => fun
  | [d1, d2] => { results := [.lit (.bool false)], args := [d1, d2] }
  | _ => none }
def DeskNilWrongFalsely : Prop := deskNilRow.holds Try.pinned (OpenSpec.ofChange deskNilWrong)

/-- 'seawalltop.TopShares': WHATEVER THE INPUT: true; the input reads as it did. -/
def topSharesSpec : ChangeSpec := { name := "topShares", fn := fun _ => fun
  | [d1, d2] => { results := [.lit (.bool true)], args := [d1, d2] }
  | _ => none }
def topSharesRow : OpenClaim := { program := "ytfkhefoilancnaa", sum := "dc5aa01885252da020292849cc8c6bf08926f2dd20dfe6dc777deac16cafa1b5", func := "seawall/seawalltop.TopShares", spec := "topShares", inPlace := ["gosem.stop:seawall/desk.wrong", "gosem.stop:seawall/cdb.Capacity"], unfollowed := true, recurses := true, named := ["math/bits.divideError", "math/bits.overflowError"], apart := false }
def TopSharesSaid : Prop := topSharesRow.holds Try.pinned (OpenSpec.ofChange topSharesSpec)

/-- ITS FALSE NEIGHBOUR: 'it returns false'. Refute it at one input. -/
def topSharesWrong : ChangeSpec := { name := "topShares", fn := fun _ => fun
  | [d1, d2] => { results := [.lit (.bool false)], args := [d1, d2] }
  | _ => none }
def TopSharesWrongFalsely : Prop := topSharesRow.holds Try.pinned (OpenSpec.ofChange topSharesWrong)

/- THE SECOND FORM. 'bulk': how many values and letters a reading holds, each counted each time it is reached (what is shared counts as often as it is met; a slice's spare places count too). A statement '..UptoSaid' is the law's where the arguments, and the package variables that the reading takes, are together of bulk at most 1048576: NARROWER than '..Said'. Prove '..Said' where nothing that the law and all that it calls make is longer than what came in: it says more and counts as full. Else prove '..UptoSaid'. A law counts once. -/
mutual
def uptoBulk {H : Type} : DataW H → Nat
  | .lit (.string bytes) => bytes.length + 1
  | .lit _ => 1
  | .nil => 1
  | .ptr d => uptoBulk d + 1
  | .slice elems spare => uptoBulkAll elems + uptoBulkAll spare + 1
  | .agg parts => uptoBulkAll parts + 1
  | .iface _ d => uptoBulk d + 1
  | .map entries => uptoBulkEntries entries + 1
  | .held _ => 1
def uptoBulkAll {H : Type} : List (DataW H) → Nat
  | [] => 0
  | d :: r => uptoBulk d + uptoBulkAll r
def uptoBulkEntries {H : Type} : List (Lit × DataW H) → Nat
  | [] => 0
  | x :: r => uptoBulkEntry x + uptoBulkEntries r
def uptoBulkEntry {H : Type} : Lit × DataW H → Nat
  | (.string bytes, d) => bytes.length + uptoBulk d + 1
  | (_, d) => uptoBulk d + 1
 end
def uptoSmall : (H : Type) → List (DataW H) → Bool := fun _ ds => decide (uptoBulkAll ds ≤ 1048576)
def OpenSpec.upto (s : _root_.Go.ChangeSpec) : _root_.Go.OpenSpec := { _root_.Go.OpenSpec.ofChange s with cond := some uptoSmall }

/-- 'seawalltop.TopTarget', WHERE WHAT IT READS IS OF BULK AT MOST 1048576: true; the input reads as it did. -/
def topTargetUptoRow : OpenClaim := { program := "ytfkhefoilancnaa", sum := "dc5aa01885252da020292849cc8c6bf08926f2dd20dfe6dc777deac16cafa1b5", func := "seawall/seawalltop.TopTarget", spec := "topTarget", inPlace := ["internal/bytealg.IndexByteString", "internal/bytealg.IndexString", "gosem.stop:seawall/desk.wrong", "gosem.stop:seawall/cdb.Capacity", "gosem.stop:seawall/desk.noOp"], unfollowed := true, recurses := true, named := ["internal/bytealg.MaxLen", "math/bits.divideError", "math/bits.overflowError"], apart := false, narrowed := true }
def TopTargetUptoSaid : Prop := topTargetUptoRow.holds Try.pinned (OpenSpec.upto topTargetSpec)

/-- 'seawalllaw23.DeskArray', WHERE WHAT IT READS IS OF BULK AT MOST 1048576: true; the input reads as it did. -/
def deskArrayUptoRow : OpenClaim := { program := "ytfkhefoilancnaa", sum := "dc5aa01885252da020292849cc8c6bf08926f2dd20dfe6dc777deac16cafa1b5", func := "seawall/seawalllaw23.DeskArray", spec := "deskArray", inPlace := ["gosem.stop:seawall/desk.wrong", "gosem.stop:seawall/cdb.Capacity", "internal/bytealg.IndexByteString", "internal/bytealg.IndexString", "gosem.stop:seawall/desk.noOp"], unfollowed := true, recurses := true, named := ["math/bits.divideError", "math/bits.overflowError", "internal/bytealg.MaxLen"], apart := false, narrowed := true }
def DeskArrayUptoSaid : Prop := deskArrayUptoRow.holds Try.pinned (OpenSpec.upto deskArraySpec)

/-- 'seawalllaw23.DeskLogin', WHERE WHAT IT READS IS OF BULK AT MOST 1048576: true; the input reads as it did. -/
def deskLoginUptoRow : OpenClaim := { program := "ytfkhefoilancnaa", sum := "dc5aa01885252da020292849cc8c6bf08926f2dd20dfe6dc777deac16cafa1b5", func := "seawall/seawalllaw23.DeskLogin", spec := "deskLogin", inPlace := ["internal/bytealg.IndexByteString", "internal/bytealg.IndexString", "gosem.stop:seawall/desk.wrong", "gosem.stop:seawall/cdb.Capacity", "gosem.stop:seawall/desk.noOp"], unfollowed := true, recurses := true, named := ["internal/bytealg.MaxLen", "math/bits.divideError", "math/bits.overflowError"], apart := false, narrowed := true }
def DeskLoginUptoSaid : Prop := deskLoginUptoRow.holds Try.pinned (OpenSpec.upto deskLoginSpec)

/-- 'seawalllaw23.DeskNil', WHERE WHAT IT READS IS OF BULK AT MOST 1048576: true; the input reads as it did. -/
def deskNilUptoRow : OpenClaim := { program := "ytfkhefoilancnaa", sum := "dc5aa01885252da020292849cc8c6bf08926f2dd20dfe6dc777deac16cafa1b5", func := "seawall/seawalllaw23.DeskNil", spec := "deskNil", inPlace := ["gosem.stop:seawall/desk.wrong", "gosem.stop:seawall/cdb.Capacity", "internal/bytealg.IndexByteString", "internal/bytealg.IndexString", "gosem.stop:seawall/desk.noOp"], unfollowed := true, recurses := true, named := ["math/bits.divideError", "math/bits.overflowError", "internal/bytealg.MaxLen"], apart := false, narrowed := true }
def DeskNilUptoSaid : Prop := deskNilUptoRow.holds Try.pinned (OpenSpec.upto deskNilSpec)

/-- 'seawalltop.TopShares', WHERE WHAT IT READS IS OF BULK AT MOST 1048576: true; the input reads as it did. -/
def topSharesUptoRow : OpenClaim := { program := "ytfkhefoilancnaa", sum := "dc5aa01885252da020292849cc8c6bf08926f2dd20dfe6dc777deac16cafa1b5", func := "seawall/seawalltop.TopShares", spec := "topShares", inPlace := ["gosem.stop:seawall/desk.wrong", "gosem.stop:seawall/cdb.Capacity"], unfollowed := true, recurses := true, named := ["math/bits.divideError", "math/bits.overflowError"], apart := false, narrowed := true }
def TopSharesUptoSaid : Prop := topSharesUptoRow.holds Try.pinned (OpenSpec.upto topSharesSpec)

end Rows
end Go.Proofs.Ytfkhefoilancnaa
