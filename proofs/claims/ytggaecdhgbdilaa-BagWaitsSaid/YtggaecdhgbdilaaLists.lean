/- Lists compared, searched, copied: what the functions of slices and of the reference compute, in plain Lean. No condition. -/
import Derived.Test.YtggaecdhgbdilaaWork
set_option linter.unusedVariables false
namespace Go.Proofs.Ytggaecdhgbdilaa
open Go Go.Ax

/-- The first place of a number, counted from 'i'; -1 where there is none. -/
def idxS : List Int → Int → Nat → Int
  | [], _, _ => -1
  | a :: l, v, i => match v == a with
    | true => (i : Int)
    | false => idxS l v (i + 1)
def hasS (l : List Int) (v : Int) : Bool := l.any (v == ·)
def small (l : List Int) : Prop := l.length ≤ 100000
def specE (d : Nat) (a b : List Int) : Nat → Option (St El → LSpec El) := addSpec noSpec 4 fun _ => SC d a.length fun i => sameS (a.drop i) (b.drop i)
def specI (l : List Int) (v : Int) : Nat → Option (St El → LSpec El) := addSpec noSpec 2 fun _ => SC 8 l.length fun i => idxS (l.drop i) v i
abbrev eqL (d : Cd El (List Int)) : GSpec El := plain (.pair d d) cdB (fun x => small x.1) fun x => sameS x.1 x.2
noncomputable def Γ1 : FuncId → Option (GSpec El) := addΓ (addΓ (addΓ (addΓ (addΓ noΓ 32 (eqL aL)) 33 (eqL aW)) 34 (eqL aL)) 35 (eqL aW)) 46 (plain (.pair aL aI) aI (fun x => small x.1) fun x => idxS x.1 x.2 0)
noncomputable def Γ2 : FuncId → Option (GSpec El) := addΓ (addΓ (addΓ Γ1 43 (plain (.pair aL aI) cdB (fun x => small x.1) fun x => hasS x.1 x.2)) 36 (freshV aL 3 small id)) 37 (freshV aW 22 small id)
end Go.Proofs.Ytggaecdhgbdilaa
