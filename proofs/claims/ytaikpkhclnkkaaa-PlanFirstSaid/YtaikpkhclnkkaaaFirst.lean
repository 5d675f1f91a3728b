/- The first contents of the memory, in plain Lean, as the program and as the reference make them; their loops. No condition. -/
import Derived.Test.YtaikpkhclnkkaaaTells2
set_option linter.unusedVariables false
namespace Go.Proofs.Ytaikpkhclnkkaaa
open Go Go.Ax

/-- One round of the program's loop. -/
def stepF (x : Cfg) (l : List Int) (i : Nat) : List Int :=
  if (i : Int) + 1 < x.e then (l.set (entryV x i).toNat 1048576).set (entryLinkV x i).toNat ((i : Int) + 2) else l.set (entryV x i).toNat 1048576
def firstL (x : Cfg) : Nat → List Int
  | 0 => ((List.replicate (sizeV x).toNat (0 : Int)).set 0 2).set 2 1
  | i + 1 => stepF x (firstL x i) i
def firstV (x : Cfg) : List Int := if checkV x = 0 then firstL x x.e.toNat else []
/-- A word of the reference. -/
def wordR (x : Cfg) (s : Spot) : Int :=
  if s.k = 4 ∧ s.a < x.e - 1 then s.a + 2 else if s.k = 3 then 1048576 else if s.k = 0 ∧ s.a = 2 then 1 else if s.k = 0 ∧ s.a = 0 then 2 else 0
def firstR (x : Cfg) : List Int := if checkV x = 0 then (allV x).map (wordR x) else []
def sameS : List Int → List Int → Bool
  | [], [] => true
  | a :: l, b :: m => a == b && sameS l m
  | _, _ => false
def specFirst (x : Cfg) : Nat → Option (St El → LSpec El) := addSpec noSpec 7 fun _ =>
  { σ := Nat, slots := fun i => [(24, .int .i64 i)], res := fun i => [(2, .vec 22 (firstL x i))], inv := fun i => (i : Int) ≤ x.e, meas := fun i => x.e.toNat - i }
def specRef (x : Cfg) : Nat → Option (St El → LSpec El) := addSpec noSpec 6 fun st =>
  { σ := Nat, slots := fun i => [(4, .vec (lenR st.res)), (5, .int .i64 i)], res := fun i => [(lenR st.res, .vec 22 (((allV x).take i).map (wordR x)))], inv := fun i => i ≤ (allV x).length, meas := fun i => (allV x).length - i, fresh := [.slot 4] }
def specSame (a b : List Int) : Nat → Option (St El → LSpec El) := addSpec noSpec 4 fun _ =>
  { σ := Nat, slots := fun i => [(5, .int .i64 i)], res := fun _ => [], inv := fun i => i ≤ a.length ∧ sameS a b = sameS (a.drop i) (b.drop i), meas := fun i => a.length - i }
def cdW : Cd El (List Int) := .list 22
def cdB : Cd El Bool := .bool
abbrev aU : Cd El Int := .int .u64
def specF (x : Cfg) : Nat → Option (St El → LSpec El) := addSpec noSpec 7 fun _ =>
  { σ := Nat, slots := fun i => [(4, .int .i64 i)], res := fun i => [(1, .vec 22 (List.replicate i 77 ++ (firstV x).drop i))], inv := fun i => i ≤ (firstV x).length, meas := fun i => (firstV x).length - i }
noncomputable def ΓL : FuncId → Option (GSpec El) := addΓ (addΓ noΓ 33 (inl cx noΓ 100 Try.f33 (codeOf Try.f33))) 34 (inl cx noΓ 100 Try.f34 (codeOf Try.f34))
/-- The three packings, at the numbers that occur. -/
noncomputable def ΓP : FuncId → Option (GSpec El) := addΓ (addΓ (addΓ ΓH 30 (ctr (tell (.pair aI aU) fun x => (x = (0, 0), .int .u64 1, [])))) 31 (ctr (tell (.pair aU (.pair aI aI)) fun x => (x = (1, -1, 0), .int .u64 1048576, []))))
  32 (ctr (tell (.pair aU (.pair aI aI)) fun x => (x = (1, -1, 0), .int .u64 1048576, [])))
noncomputable def ΓQ : FuncId → Option (GSpec El) := addΓ (addΓ (addΓ ΓP 23 (freshV aCfg 22 (fun _ => True) firstV)) 24 (plain (.pair cdW cdW) cdB (fun x => x.1.length ≤ 1000) fun x => sameS x.1 x.2)) 25 (plain aCfg cdW (fun _ => True) firstR)
end Go.Proofs.Ytaikpkhclnkkaaa
