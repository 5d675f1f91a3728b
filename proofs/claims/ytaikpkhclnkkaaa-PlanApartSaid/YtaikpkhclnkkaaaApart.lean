/- The statement PlanApart: its loops, told by what holds at their heads. No condition. -/
import Derived.Test.YtaikpkhclnkkaaaVc2
import Derived.Test.YtaikpkhclnkkaaaAx22
set_option linter.unusedVariables false
namespace Go.Proofs.Ytaikpkhclnkkaaa
open Go Go.Ax

/-- 'k' ones, then noughts, 'n' in all. -/
def oz (k n : Nat) : List Int := List.replicate k 1 ++ List.replicate (n - k) 0
/-- One more at a place, if it is one. -/
def putL (xs : List Int) (at_ n : Int) : List Int := if 0 ≤ at_ ∧ at_ < n then xs.set at_.toNat (wr (xs.getD at_.toNat 0 + 1)) else xs
def putV (args : List (AVal El)) (R : List (Res El)) (base : Nat) : Option (Eff El) := match args, getR R 2, getR R 3 with
  | .int _ a :: _, .cells t [.int k n], .vec 3 xs => some (.tup [], [(2, .cells t [.int k n]), (3, .vec 3 (putL xs a n)), (4, getR R 4)])
  | _, _, _ => none
noncomputable def ΓF (C : Bool → Prop → Prop → Prop) : FuncId → Option (GSpec El) := addΓ (addΓ ΓE 6 (ctr (tell .unit fun _ => (True, .bool true, [])))) 9 (viewed C (inl cx noΓ 40 Try.f9 (codeOf Try.f9)) putV)
def sz (x : Cfg) : Nat := (sizeV x).toNat
def S1 (x : Cfg) : LSpec El := { σ := Nat, slots := fun i => [(8, .int .i64 i)], res := fun i => [(3, .vec 3 (oz (3 + i) (sz x)))], inv := fun i => (i : Int) ≤ x.w, meas := fun i => x.w.toNat - i }
def S2 (x : Cfg) : LSpec El := { σ := Nat, slots := fun i => [(9, .int .i64 i)], res := fun i => [(3, .vec 3 (oz (3 + x.w.toNat + i) (sz x)))], inv := fun i => (i : Int) ≤ x.s, meas := fun i => x.s.toNat - i }
def S3 (x : Cfg) : LSpec El := { σ := Nat, slots := fun i => [(10, .int .i64 i)], res := fun i => [(3, .vec 3 (oz (3 + x.w.toNat + x.s.toNat + 2 * i) (sz x)))], inv := fun i => (i : Int) ≤ x.e, meas := fun i => x.e.toNat - i }
def S4 (x : Cfg) : LSpec El := { σ := Nat, slots := fun i => [(11, .int .i64 i)], res := fun i => [(3, .vec 3 (oz (3 + x.w.toNat + x.s.toNat + 2 * x.e.toNat + (1 + x.o.toNat) * i) (sz x)))], inv := fun i => (i : Int) ≤ totalV x, meas := fun i => (totalV x).toNat - i }
def S5 (x : Cfg) (i : Nat) : LSpec El := { σ := Nat, slots := fun k => [(12, .int .i64 k)], res := fun k => [(3, .vec 3 (oz (3 + x.w.toNat + x.s.toNat + 2 * x.e.toNat + (1 + x.o.toNat) * i + 1 + k) (sz x)))], inv := fun k => (k : Int) ≤ x.o, meas := fun k => x.o.toNat - k }
def S6 (x : Cfg) : LSpec El := { σ := Nat, slots := fun i => [(13, .int .i64 i)], res := fun i => [], inv := fun i => i ≤ sz x, meas := fun i => sz x - i }
def i11 (st : St El) : Nat := match nth st.slots 11 with
  | .int _ i => i.toNat
  | _ => 0
def specA (x : Cfg) : Nat → Option (St El → LSpec El) := addSpec (addSpec (addSpec (addSpec (addSpec (addSpec noSpec 13 fun _ => S1 x) 17 fun _ => S2 x) 21 fun _ => S3 x) 26 fun _ => S4 x) 30 fun st => S5 x (i11 st)) 34 fun _ => S6 x
end Go.Proofs.Ytaikpkhclnkkaaa
