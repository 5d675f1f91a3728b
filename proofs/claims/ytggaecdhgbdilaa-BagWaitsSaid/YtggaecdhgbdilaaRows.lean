/-
  No cell of these rows narrows 'for every input' (looked for: loops, veiled, ifaces, maps, wideKeys, modest, calm, conditions, laid).
  DERIVED. THE GIVEN ROWS OF THIS SEAT. 6 by the template 'for every input the law returns true; each argument reads behind the call as it read before'; 0 by the template 'total and deterministic' (their statements: YtggaecdhgbdilaaTotals.lean).
  GIVEN WITH THE SEED: the statements are not yours to turn. If you find one false, say at which input.
  Laid BY PROGRAM, IN A SANDBOX (cutbox-rows.mjs): the forced cells as the released guide's own fill.sh prints them over the translation 7a33dd6b66e93aa7… (all of the seat's roots in one cut). By AI agents, Wed Nov 11 2026. No macro, syntax, notation, axiom, sorry.
-/
import Derived.Test.YtggaecdhgbdilaaChecked
import GoSem.Claim
import GoSem.ClaimJoined
import GoSem.ClaimMapViews
import Derived.JoinedTies
import Derived.KernelRfl
namespace Go.Proofs.Ytggaecdhgbdilaa
/- THE CELL 'sum', in the pinned program and in every row, IS THE sha256 OF THE DUMP (.gsa) THAT YtggaecdhgbdilaaProg.lean LOADS. Nothing in Lean hashes anything: it is a label: what it is worth is what the hold of that sum in a sandbox is worth. -/
noncomputable def Try.pinned : Pinned := { name := "ytggaecdhgbdilaa", sum := "7a33dd6b66e93aa75ebfa1cbdd48f43163181d4773aa1c7394fd90f5e883fd7a", checked := Try.checked }
namespace Rows
def none {H : Type} : Left H := { results := [], args := [] }

/-- 'coatchecklaw04.RackSame': WHATEVER THE INPUT: true; the input reads as it did. -/
def rackSameSpec : ChangeSpec := { name := "rackSame", fn := fun _ => fun
  | [d1, d2] => { results := [.lit (.bool true)], args := [d1, d2] }
  | _ => none }
def rackSameRow : OpenClaim := { program := "ytggaecdhgbdilaa", sum := "7a33dd6b66e93aa75ebfa1cbdd48f43163181d4773aa1c7394fd90f5e883fd7a", func := "coatcheck/coatchecklaw04.RackSame", spec := "rackSame", apart := false }
def RackSameSaid : Prop := rackSameRow.holds Try.pinned (OpenSpec.ofChange rackSameSpec)

/-- ITS FALSE NEIGHBOUR: 'it returns false'. Refute it at one input. -/
def rackSameWrong : ChangeSpec := { name := "rackSame", fn := fun _ => fun
  | [d1, d2] => { results := [.lit (.bool false)], args := [d1, d2] }
  | _ => none }
def RackSameWrongFalsely : Prop := rackSameRow.holds Try.pinned (OpenSpec.ofChange rackSameWrong)

/-- 'coatchecklaw04.RackMoves': WHATEVER THE INPUT: true; the input reads as it did. -/
def rackMovesSpec : ChangeSpec := { name := "rackMoves", fn := fun _ => fun
  | [d1, d2, d3, d4] => { results := [.lit (.bool true)], args := [d1, d2, d3, d4] }
  | _ => none }
def rackMovesRow : OpenClaim := { program := "ytggaecdhgbdilaa", sum := "7a33dd6b66e93aa75ebfa1cbdd48f43163181d4773aa1c7394fd90f5e883fd7a", func := "coatcheck/coatchecklaw04.RackMoves", spec := "rackMoves", apart := false }
def RackMovesSaid : Prop := rackMovesRow.holds Try.pinned (OpenSpec.ofChange rackMovesSpec)

/-- ITS FALSE NEIGHBOUR: 'it returns false'. Refute it at one input. -/
def rackMovesWrong : ChangeSpec := { name := "rackMoves", fn := fun _ => fun
  | [d1, d2, d3, d4] => { results := [.lit (.bool false)], args := [d1, d2, d3, d4] }
  | _ => none }
def RackMovesWrongFalsely : Prop := rackMovesRow.holds Try.pinned (OpenSpec.ofChange rackMovesWrong)

/-- 'coatchecklaw04.RackStacks': WHATEVER THE INPUT: true; the input reads as it did. -/
def rackStacksSpec : ChangeSpec := { name := "rackStacks", fn := fun _ => fun
  | [d1, d2] => { results := [.lit (.bool true)], args := [d1, d2] }
  | _ => none }
def rackStacksRow : OpenClaim := { program := "ytggaecdhgbdilaa", sum := "7a33dd6b66e93aa75ebfa1cbdd48f43163181d4773aa1c7394fd90f5e883fd7a", func := "coatcheck/coatchecklaw04.RackStacks", spec := "rackStacks", apart := false }
def RackStacksSaid : Prop := rackStacksRow.holds Try.pinned (OpenSpec.ofChange rackStacksSpec)

/-- ITS FALSE NEIGHBOUR: 'it returns false'. Refute it at one input. -/
def rackStacksWrong : ChangeSpec := { name := "rackStacks", fn := fun _ => fun
  | [d1, d2] => { results := [.lit (.bool false)], args := [d1, d2] }
  | _ => none }
def RackStacksWrongFalsely : Prop := rackStacksRow.holds Try.pinned (OpenSpec.ofChange rackStacksWrong)

/-- 'coatchecklaw05.BagWaits': WHATEVER THE INPUT: true; the input reads as it did. -/
def bagWaitsSpec : ChangeSpec := { name := "bagWaits", fn := fun _ => fun
  | [d1, d2] => { results := [.lit (.bool true)], args := [d1, d2] }
  | _ => none }
def bagWaitsRow : OpenClaim := { program := "ytggaecdhgbdilaa", sum := "7a33dd6b66e93aa75ebfa1cbdd48f43163181d4773aa1c7394fd90f5e883fd7a", func := "coatcheck/coatchecklaw05.BagWaits", spec := "bagWaits", apart := false }
def BagWaitsSaid : Prop := bagWaitsRow.holds Try.pinned (OpenSpec.ofChange bagWaitsSpec)

/-- ITS FALSE NEIGHBOUR: 'it returns false'. Refute it at one input. -/
def bagWaitsWrong : ChangeSpec := { name := "bagWaits", fn := fun _ => fun
  | [d1, d2] => { results := [.lit (.bool false)], args := [d1, d2] }
  | _ => none }
def BagWaitsWrongFalsely : Prop := bagWaitsRow.holds Try.pinned (OpenSpec.ofChange bagWaitsWrong)

/-- 'coatchecklaw05.BagRoom': WHATEVER THE INPUT: true; the input reads as it did. -/
def bagRoomSpec : ChangeSpec := { name := "bagRoom", fn := fun _ => fun
  | [d1, d2, d3] => { results := [.lit (.bool true)], args := [d1, d2, d3] }
  | _ => none }
def bagRoomRow : OpenClaim := { program := "ytggaecdhgbdilaa", sum := "7a33dd6b66e93aa75ebfa1cbdd48f43163181d4773aa1c7394fd90f5e883fd7a", func := "coatcheck/coatchecklaw05.BagRoom", spec := "bagRoom", apart := false }
def BagRoomSaid : Prop := bagRoomRow.holds Try.pinned (OpenSpec.ofChange bagRoomSpec)

/-- ITS FALSE NEIGHBOUR: 'it returns false'. Refute it at one input. -/
def bagRoomWrong : ChangeSpec := { name := "bagRoom", fn := fun _ => fun
  | [d1, d2, d3] => { results := [.lit (.bool false)], args := [d1, d2, d3] }
  | _ => none }
def BagRoomWrongFalsely : Prop := bagRoomRow.holds Try.pinned (OpenSpec.ofChange bagRoomWrong)

/-- 'coatchecklaw05.BagPuts': WHATEVER THE INPUT: true; the input reads as it did. -/
def bagPutsSpec : ChangeSpec := { name := "bagPuts", fn := fun _ => fun
  | [d1, d2, d3, d4] => { results := [.lit (.bool true)], args := [d1, d2, d3, d4] }
  | _ => none }
def bagPutsRow : OpenClaim := { program := "ytggaecdhgbdilaa", sum := "7a33dd6b66e93aa75ebfa1cbdd48f43163181d4773aa1c7394fd90f5e883fd7a", func := "coatcheck/coatchecklaw05.BagPuts", spec := "bagPuts", unfollowed := true, recurses := true, apart := false }
def BagPutsSaid : Prop := bagPutsRow.holds Try.pinned (OpenSpec.ofChange bagPutsSpec)

/-- ITS FALSE NEIGHBOUR: 'it returns false'. Refute it at one input. -/
def bagPutsWrong : ChangeSpec := { name := "bagPuts", fn := fun _ => fun
  | [d1, d2, d3, d4] => { results := [.lit (.bool false)], args := [d1, d2, d3, d4] }
  | _ => none }
def BagPutsWrongFalsely : Prop := bagPutsRow.holds Try.pinned (OpenSpec.ofChange bagPutsWrong)

/- THE SECOND FORM. 'bulk': how many values and letters a reading holds, each counted each time it is reached (what is shared counts as often as it is met; a slice's spare places count too). A statement '..UptoSaid' is the law's where the arguments, and the package variables that the reading takes, are together of bulk at most 1048576: NARROWER than '..Said'. Prove '..Said' where nothing that the law and all that it calls make is longer than what came in: it says more and counts as full. Else prove '..UptoSaid'. A law counts once. -/
mutual
def uptoBulk {H : Type} : DataW H → Nat
  | .lit (.string bytes) => bytes.length + 1
  | .lit _ => 1
  | .nil => 1
  | .ptr d => uptoBulk d + 1
  | .slice elems spare => uptoBulkAll elems + uptoBulkAll spare + 1
  | .agg parts => uptoBulkAll parts + 1
  | .iface _ d => uptoBulk d + 1
  | .map entries => uptoBulkEntries entries + 1
  | .held _ => 1
def uptoBulkAll {H : Type} : List (DataW H) → Nat
  | [] => 0
  | d :: r => uptoBulk d + uptoBulkAll r
def uptoBulkEntries {H : Type} : List (Lit × DataW H) → Nat
  | [] => 0
  | x :: r => uptoBulkEntry x + uptoBulkEntries r
def uptoBulkEntry {H : Type} : Lit × DataW H → Nat
  | (.string bytes, d) => bytes.length + uptoBulk d + 1
  | (_, d) => uptoBulk d + 1
 end
def uptoSmall : (H : Type) → List (DataW H) → Bool := fun _ ds => decide (uptoBulkAll ds ≤ 1048576)
def OpenSpec.upto (s : _root_.Go.ChangeSpec) : _root_.Go.OpenSpec := { _root_.Go.OpenSpec.ofChange s with cond := some uptoSmall }

/-- 'coatchecklaw04.RackSame', WHERE WHAT IT READS IS OF BULK AT MOST 1048576: true; the input reads as it did. -/
def rackSameUptoRow : OpenClaim := { program := "ytggaecdhgbdilaa", sum := "7a33dd6b66e93aa75ebfa1cbdd48f43163181d4773aa1c7394fd90f5e883fd7a", func := "coatcheck/coatchecklaw04.RackSame", spec := "rackSame", apart := false, narrowed := true }
def RackSameUptoSaid : Prop := rackSameUptoRow.holds Try.pinned (OpenSpec.upto rackSameSpec)

/-- 'coatchecklaw04.RackMoves', WHERE WHAT IT READS IS OF BULK AT MOST 1048576: true; the input reads as it did. -/
def rackMovesUptoRow : OpenClaim := { program := "ytggaecdhgbdilaa", sum := "7a33dd6b66e93aa75ebfa1cbdd48f43163181d4773aa1c7394fd90f5e883fd7a", func := "coatcheck/coatchecklaw04.RackMoves", spec := "rackMoves", apart := false, narrowed := true }
def RackMovesUptoSaid : Prop := rackMovesUptoRow.holds Try.pinned (OpenSpec.upto rackMovesSpec)

/-- 'coatchecklaw04.RackStacks', WHERE WHAT IT READS IS OF BULK AT MOST 1048576: true; the input reads as it did. -/
def rackStacksUptoRow : OpenClaim := { program := "ytggaecdhgbdilaa", sum := "7a33dd6b66e93aa75ebfa1cbdd48f43163181d4773aa1c7394fd90f5e883fd7a", func := "coatcheck/coatchecklaw04.RackStacks", spec := "rackStacks", apart := false, narrowed := true }
def RackStacksUptoSaid : Prop := rackStacksUptoRow.holds Try.pinned (OpenSpec.upto rackStacksSpec)

/-- 'coatchecklaw05.BagWaits', WHERE WHAT IT READS IS OF BULK AT MOST 1048576: true; the input reads as it did. -/
def bagWaitsUptoRow : OpenClaim := { program := "ytggaecdhgbdilaa", sum := "7a33dd6b66e93aa75ebfa1cbdd48f43163181d4773aa1c7394fd90f5e883fd7a", func := "coatcheck/coatchecklaw05.BagWaits", spec := "bagWaits", apart := false, narrowed := true }
def BagWaitsUptoSaid : Prop := bagWaitsUptoRow.holds Try.pinned (OpenSpec.upto bagWaitsSpec)

/-- 'coatchecklaw05.BagRoom', WHERE WHAT IT READS IS OF BULK AT MOST 1048576: true; the input reads as it did. -/
def bagRoomUptoRow : OpenClaim := { program := "ytggaecdhgbdilaa", sum := "7a33dd6b66e93aa75ebfa1cbdd48f43163181d4773aa1c7394fd90f5e883fd7a", func := "coatcheck/coatchecklaw05.BagRoom", spec := "bagRoom", apart := false, narrowed := true }
def BagRoomUptoSaid : Prop := bagRoomUptoRow.holds Try.pinned (OpenSpec.upto bagRoomSpec)

/-- 'coatchecklaw05.BagPuts', WHERE WHAT IT READS IS OF BULK AT MOST 1048576: true; the input reads as it did. -/
def bagPutsUptoRow : OpenClaim := { program := "ytggaecdhgbdilaa", sum := "7a33dd6b66e93aa75ebfa1cbdd48f43163181d4773aa1c7394fd90f5e883fd7a", func := "coatcheck/coatchecklaw05.BagPuts", spec := "bagPuts", unfollowed := true, recurses := true, apart := false, narrowed := true }
def BagPutsUptoSaid : Prop := bagPutsUptoRow.holds Try.pinned (OpenSpec.upto bagPutsSpec)

end Rows
end Go.Proofs.Ytggaecdhgbdilaa
