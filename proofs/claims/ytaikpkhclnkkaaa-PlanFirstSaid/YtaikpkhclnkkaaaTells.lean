/- The reference of layer 2, in plain Lean: its list of words, told loop by loop. No condition. -/
import Derived.Test.YtaikpkhclnkkaaaVc2
import Derived.Test.YtaikpkhclnkkaaaAx24
set_option linter.unusedVariables false
namespace Go.Proofs.Ytaikpkhclnkkaaa
open Go Go.Ax

def sp (k a b : Nat) : Spot := ⟨k, a, b⟩
def head3 : List Spot := [⟨0, 0, 0⟩, ⟨0, 1, 0⟩, ⟨0, 2, 0⟩]
def row (k n : Nat) : List Spot := (List.range n).map fun i => sp k i 0
def ent (n : Nat) : List Spot := (List.range n).flatMap fun i => [sp 3 i 0, sp 4 i 0]
def blkW (i o : Nat) : List Spot := (List.range o).map fun j => sp 6 i j
def blk (o n : Nat) : List Spot := (List.range n).flatMap fun i => sp 5 i 0 :: blkW i o
def all1 (x : Cfg) (i : Nat) : List Spot := head3 ++ row 1 i
def all2 (x : Cfg) (i : Nat) : List Spot := all1 x x.w.toNat ++ row 2 i
def all3 (x : Cfg) (i : Nat) : List Spot := all2 x x.s.toNat ++ ent i
def all4 (x : Cfg) (i : Nat) : List Spot := all3 x x.e.toNat ++ blk x.o.toNat i
def all5 (x : Cfg) (i j : Nat) : List Spot := all4 x i ++ sp 5 i 0 :: blkW i j
def allV (x : Cfg) : List Spot := all4 x (x.s * x.b).toNat

def nmOf (st : St El) (d : Nat) : Nat := match nth st.slots d with
  | .vec r => r
  | _ => 0
/-- A loop that counts in slot 'i' and appends to the vector in slot 3. -/
def SV (st : St El) (i : Nat) (m : Int) (f : Nat → List Spot) : LSpec El :=
  { σ := Nat, slots := fun k => [(3, .vec (lenR st.res)), (i, .int .i64 k)], res := fun k => [(nmOf st 3, .dead), (lenR st.res, .vec 43 (f k))], inv := fun k => (k : Int) ≤ m, meas := fun k => m.toNat - k, fresh := [.slot 3] }
def i7 (st : St El) : Nat := match nth st.slots 7 with
  | .int _ i => i.toNat
  | _ => 0
def specAll (x : Cfg) : Nat → Option (St El → LSpec El) := addSpec (addSpec (addSpec (addSpec (addSpec noSpec 3 fun st => SV st 4 x.w (all1 x)) 7 fun st => SV st 5 x.s (all2 x)) 11 fun st => SV st 6 x.e (all3 x))
  15 fun st => SV st 7 (x.s * x.b) (all4 x)) 19 fun st => SV st 8 x.o (all5 x (i7 st))
def cdSpots : Cd El (List Spot) := .list 43
end Go.Proofs.Ytaikpkhclnkkaaa
