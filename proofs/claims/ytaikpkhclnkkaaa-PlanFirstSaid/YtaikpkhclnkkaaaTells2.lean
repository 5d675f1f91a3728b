/- The reference of layer 2, in plain Lean: addresses and slabs by search; the contracts. No condition. -/
import Derived.Test.YtaikpkhclnkkaaaTells
set_option linter.unusedVariables false
namespace Go.Proofs.Ytaikpkhclnkkaaa
open Go Go.Ax

/-- The first place of a word, counted from 'i'; -1 where there is none. -/
def findS : List Spot → Spot → Nat → Int
  | [], _, _ => -1
  | t :: l, s, i => match (t.k == s.k && (t.a == s.a && (t.b == s.b && true))) with
    | true => (i : Int)
    | false => findS l s (i + 1)
def atR (x : Cfg) (s : Spot) : Int := if checkV x = 0 then findS (allV x) s 0 else -1
/-- The slab of a block, by search: 'n' slabs to go, from 'j' on. -/
def homeF (b i : Int) : Nat → Nat → Int
  | 0, _ => -1
  | n + 1, j => if i < wr (wr ((j : Int) + 1) * b) then (j : Int) else homeF b i n (j + 1)
def homeR (x : Cfg) (i : Int) : Int := if checkV x ≠ 0 ∨ i < 0 then -1 else homeF x.b i x.s.toNat 0
def specHome (x : Cfg) (i : Int) : Nat → Option (St El → LSpec El) := addSpec noSpec 4 fun _ =>
  { σ := Nat, slots := fun k => [(5, .int .i64 k)], res := fun _ => [], inv := fun k => (k : Int) ≤ x.s ∧ homeF x.b i x.s.toNat 0 = homeF x.b i (x.s.toNat - k) k, meas := fun k => x.s.toNat - k }
def specAt (x : Cfg) (s : Spot) : Nat → Option (St El → LSpec El) := addSpec noSpec 5 fun _ =>
  { σ := Nat, slots := fun k => [(6, .int .i64 k)], res := fun _ => [], inv := fun k => k ≤ (allV x).length ∧ findS (allV x) s 0 = findS ((allV x).drop k) s k, meas := fun k => (allV x).length - k }
def cdS : Cd El Spot := .agg cdSpot
noncomputable def ΓH : FuncId → Option (GSpec El) := addΓ (addΓ ΓE 19 (plain aCfg cdSpots (fun x => checkV x = 0) allV)) 6 (ctr (tell .unit fun _ => (True, .bool true, [])))
noncomputable def ΓI : FuncId → Option (GSpec El) := addΓ (addΓ ΓH 22 (num (.pair aCfg cdS) fun x => atR x.1 x.2)) 21 (num aCI fun x => homeR x.1 x.2)
end Go.Proofs.Ytaikpkhclnkkaaa
