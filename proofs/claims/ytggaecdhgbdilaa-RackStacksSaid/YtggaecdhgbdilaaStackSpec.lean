/- The loops of RackStacks. No condition. -/
import Derived.Test.YtggaecdhgbdilaaLawMoves
set_option linter.unusedVariables false
namespace Go.Proofs.Ytggaecdhgbdilaa
open Go Go.Ax

/-- A state that is zero but for its rack and its hold list. -/
def wkRH (r h : List Int) : Wk := ⟨0, ⟨0, 0, 0, 0, false, 0, 0⟩, false, 0, r, 0, [], 0, [], 0, [], h, 0, 0, 0, 0, 0, 0, 0, 0, 0, 0, 0, [], 0, 0, false⟩
def specStacks (c : Cfg) (l : List Int) : Nat → Option (St El → LSpec El) := addSpec (addSpec (addSpec noSpec
  8 fun _ => { σ := Nat, slots := fun i => [(6, .int .i64 (min i c.r.toNat : Nat)), (7, .int .i64 i)], res := fun i => [(1, .cells 32 (cdWk.enc (wkRH (l.take (min i c.r.toNat)) [])))], inv := fun i => i ≤ l.length, meas := fun i => l.length - i })
  17 fun _ => { σ := Nat, slots := fun i => [(10, .int .i64 ((i : Int) - 1))], res := fun i => [(1, .cells 32 (cdWk.enc (wkRH (l.take i) [])))], inv := fun i => i ≤ l.length, meas := fun i => i })
  28 fun _ => { σ := Nat, slots := fun i => [(15, .int .i64 i)], res := fun i => [(1, .cells 32 (cdWk.enc (wkRH [] (l.drop i))))], inv := fun i => i ≤ l.length, meas := fun i => l.length - i }
def aStacks : Cd El (Cfg × List Int) := .pair aCfg aL
end Go.Proofs.Ytggaecdhgbdilaa
