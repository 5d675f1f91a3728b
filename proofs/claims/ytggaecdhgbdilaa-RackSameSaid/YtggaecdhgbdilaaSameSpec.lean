/- The loops of RackSame: they change vectors of their own. No condition. -/
import Derived.Test.YtggaecdhgbdilaaLawMoves
set_option linter.unusedVariables false
namespace Go.Proofs.Ytggaecdhgbdilaa
open Go Go.Ax

/-- The name of the vector in a cell of what a slot points to. -/
def vecIn (st : St El) (slot cell : Nat) : Nat := match nth st.slots slot with
  | .ptr r _ => match getR st.res r with
    | .cells _ cs => match nth cs cell with
      | .vec q => q
      | _ => 0
    | _ => 0
  | _ => 0
/-- A loop that counts in slot 'd' and changes the elements of the vector 'q'. -/
def SB (t : TypeId) (f : List Int → List (El t)) (d q n : Nat) : LSpec El := { σ := Nat × List Int, slots := fun s => [(d, .int .i64 s.1)], res := fun s => [(1, .dead), (q, .vec t (f s.2))], inv := fun s => s.1 ≤ n ∧ s.2.length = n, meas := fun s => n - s.1 }
def specSame3 (x : Wk) : Nat → Option (St El → LSpec El) := addSpec (addSpec (addSpec (addSpec noSpec 12 fun st => SB 3 (fun l => l) 7 (vecIn st 6 10) x.rack.length) 16 fun st => SB 3 (fun l => l) 8 (vecIn st 6 17) x.hold.length) 20 fun st => SB 22 (fun l => l) 9 (vecIn st 6 29) x.read.length)
  27 fun st => match nth st.slots 10 with
    | .int _ n => match n.toNat with
      | 0 => SB 3 (fun l => l) 11 (vecIn st 6 12) x.l0.length
      | 1 => SB 3 (fun l => l) 11 (vecIn st 6 14) x.l1.length
      | _ => SB 3 (fun l => l) 11 (vecIn st 6 16) x.l2.length
    | _ => SB 3 (fun l => l) 11 (vecIn st 6 16) x.l2.length
end Go.Proofs.Ytggaecdhgbdilaa
