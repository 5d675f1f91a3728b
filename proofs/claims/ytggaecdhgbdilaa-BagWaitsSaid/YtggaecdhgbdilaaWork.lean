/- A worker's state, as plain data, and its code. No condition. -/
import Derived.Test.YtggaecdhgbdilaaBase
set_option linter.unusedVariables false
namespace Go.Proofs.Ytggaecdhgbdilaa
open Go Go.Ax

structure OpD where
  k : Int
  t : Int
  x : Int
  s : Int
  u : Bool
  b : Int
  n : Int
structure Wk where
  line : Int
  op : OpD
  pin : Bool
  e : Int
  rack : List Int
  t0 : Int
  l0 : List Int
  t1 : Int
  l1 : List Int
  t2 : Int
  l2 : List Int
  hold : List Int
  b : Int
  k : Int
  i : Int
  c : Int
  bor : Int
  h : Int
  n : Int
  v : Int
  u : Int
  g : Int
  j : Int
  read : List Int
  t : Int
  ret : Int
  give : Bool
abbrev aI : Cd El Int := .int .i64
abbrev aU : Cd El Int := .int .u64
abbrev aL : Cd El (List Int) := .list 3
abbrev aW : Cd El (List Int) := .list 22
def cdOp : Cd El OpD := .iso (.pair aI (.pair aU (.pair aU (.pair aI (.pair .bool (.pair aI aI))))))
  (fun x => ⟨x.1, x.2.1, x.2.2.1, x.2.2.2.1, x.2.2.2.2.1, x.2.2.2.2.2.1, x.2.2.2.2.2.2⟩) (fun o => (o.k, o.t, o.x, o.s, o.u, o.b, o.n)) (fun _ => rfl)
/-- Three buckets. -/
def cdBags : Cd El (Int × List Int × Int × List Int × Int × List Int) := .pair aU (.pair aL (.pair aU (.pair aL (.pair aU aL))))
def cdTail1 : Cd El (List Int × Int × Int × Int × Int × Int) := .pair aL (.pair aI (.pair aI (.pair aI (.pair aI aI))))
def cdTail2 : Cd El (Int × Int × Int × Int × Int × Int) := .pair aU (.pair aU (.pair aU (.pair aU (.pair aU aI))))
def cdTail3 : Cd El (List Int × Int × Int × Bool) := .pair aW (.pair aU (.pair aI .bool))
def cdWk0 : Cd El (Int × OpD × Bool × Int × List Int × (Int × List Int × Int × List Int × Int × List Int) × (List Int × Int × Int × Int × Int × Int) × (Int × Int × Int × Int × Int × Int) × (List Int × Int × Int × Bool)) :=
  .pair aI (.pair cdOp (.pair .bool (.pair aU (.pair aL (.pair cdBags (.pair cdTail1 (.pair cdTail2 cdTail3)))))))
def cdWk : Cd El Wk := .iso cdWk0
  (fun q => ⟨q.1, q.2.1, q.2.2.1, q.2.2.2.1, q.2.2.2.2.1, q.2.2.2.2.2.1.1, q.2.2.2.2.2.1.2.1, q.2.2.2.2.2.1.2.2.1, q.2.2.2.2.2.1.2.2.2.1, q.2.2.2.2.2.1.2.2.2.2.1, q.2.2.2.2.2.1.2.2.2.2.2, q.2.2.2.2.2.2.1.1, q.2.2.2.2.2.2.1.2.1, q.2.2.2.2.2.2.1.2.2.1, q.2.2.2.2.2.2.1.2.2.2.1, q.2.2.2.2.2.2.1.2.2.2.2.1, q.2.2.2.2.2.2.1.2.2.2.2.2, q.2.2.2.2.2.2.2.1.1, q.2.2.2.2.2.2.2.1.2.1, q.2.2.2.2.2.2.2.1.2.2.1, q.2.2.2.2.2.2.2.1.2.2.2.1, q.2.2.2.2.2.2.2.1.2.2.2.2.1, q.2.2.2.2.2.2.2.1.2.2.2.2.2, q.2.2.2.2.2.2.2.2.1, q.2.2.2.2.2.2.2.2.2.1, q.2.2.2.2.2.2.2.2.2.2.1, q.2.2.2.2.2.2.2.2.2.2.2⟩)
  (fun x => (x.line, x.op, x.pin, x.e, x.rack, (x.t0, x.l0, x.t1, x.l1, x.t2, x.l2), (x.hold, x.b, x.k, x.i, x.c, x.bor), (x.h, x.n, x.v, x.u, x.g, x.j), (x.read, x.t, x.ret, x.give))) (fun _ => rfl)
def aWk : Cd El Wk := .agg cdWk
structure Cfg where
  w : Int
  s : Int
  b : Int
  o : Int
  e : Int
  r : Int
  a : Int
  l : Int
def cdCfg : Cd El Cfg := .iso (.pair aI (.pair aI (.pair aI (.pair aI (.pair aI (.pair aI (.pair aI aU)))))))
  (fun x => ⟨x.1, x.2.1, x.2.2.1, x.2.2.2.1, x.2.2.2.2.1, x.2.2.2.2.2.1, x.2.2.2.2.2.2.1, x.2.2.2.2.2.2.2⟩) (fun c => (c.w, c.s, c.b, c.o, c.e, c.r, c.a, c.l)) (fun _ => rfl)
def aCfg : Cd El Cfg := .agg cdCfg
def cdB : Cd El Bool := .bool

/-- Two lists, compared. -/
def sameS : List Int → List Int → Bool
  | [], [] => true
  | a :: l, b :: m => a == b && sameS l m
  | _, _ => false
/-- A loop that counts in slot 'd' up to 'm', changing nothing else; what is left to do: 'f'. -/
def SC {β : Type} (d m : Nat) (f : Nat → β) : LSpec El := { σ := Nat, slots := fun i => [(d, .int .i64 i)], res := fun _ => [], inv := fun i => i ≤ m ∧ f 0 = f i, meas := fun i => m - i }
end Go.Proofs.Ytggaecdhgbdilaa
