/- The table of package bag; the loops of BagPuts. No condition. -/
import Derived.Test.YtggaecdhgbdilaaBag4
set_option linter.unusedVariables false
namespace Go.Proofs.Ytggaecdhgbdilaa
open Go Go.Ax

noncomputable def Γ9 : FuncId → Option (GSpec El) := addΓ (addΓ Γ8 24 (plain aPut cdWB (fun y => Easy y.2.1) bagPut)) 29 (plain aPut cdWB (fun y => Easy y.2.1) bagPut)
theorem Γ9_ok : ∀ f g, Γ9 f = some g → GOk cx f g := addΓ_ok (addΓ_ok Γ8_ok ok24) ok29
noncomputable def ΓB : FuncId → Option (GSpec El) := addΓ Γ9 23 gYes
/-- A loop that looks for 'b' in 'l'; 'w': whether it was found before. -/
def SL (l : List Int) (w : Bool) (b : Int) : LSpec El := { σ := Nat, slots := fun k => [(20, .bool (w || hasS (l.take k) b)), (22, .int .i64 k)], res := fun _ => [(0, .dead), (5, .dead), (6, .dead), (7, .dead)], inv := fun k => k ≤ l.length, meas := fun k => l.length - k }
def specPuts (x : Wk) (b : Int) : Nat → Option (St El → LSpec El) := addSpec noSpec 19 fun st => match nth st.slots 21 with
  | .int _ n => match n.toNat with
    | 0 => SL x.l0 false b
    | 1 => SL x.l1 (hasS x.l0 b) b
    | _ => SL x.l2 (hasS x.l0 b || hasS x.l1 b) b
  | _ => SL x.l2 (hasS x.l0 b || hasS x.l1 b) b
def aPuts : Cd El (Cfg × Wk × Int × Int) := .pair aCfg (.pair aWk (.pair aI aU))
end Go.Proofs.Ytggaecdhgbdilaa
