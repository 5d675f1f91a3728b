/- The examples of the ideal pool hold; the plain functions and the told loops of IdealDead. No condition. -/
import Derived.Test.YtbadejabphdkiaaVc1
set_option linter.unusedVariables false
set_option linter.unusedSimpArgs false
set_option maxRecDepth 100000
namespace Go.Proofs.Ytbadejabphdkiaa
open Go Go.Ax

theorem awake_told : aexecF cnd cx Γf noSpec 100 Try.f4 (codeOf Try.f4) [] [] (fun y _ => y = .bool true) := by
  have e := vc_awake (fun y => y = .bool true)
  rw [e]; clear e
  repeat (refine ⟨by decide +kernel, ?_⟩)
  rfl
def gYes : GSpec El := ctr (tell .unit fun _ => (True, .bool true, []))
theorem ok4 : GOk cx 4 gYes := tell_ctr Γf_ok Try.func4 (body_of (by kernel_rfl)) Try.call4 (n := 100) (fun x _ => by
  have h := awake_told
  have e1 : (fun (y : AVal El) (R : List (Res El)) => y = AVal.bool true ∧ matchR R []) = fun y _ => y = AVal.bool true := by funext y R; simp [matchR]
  show aexecF cnd cx Γf noSpec 100 Try.f4 (codeOf Try.f4) [] [] (fun (y : AVal El) (R : List (Res El)) => y = AVal.bool true ∧ matchR R [])
  rw [e1]; exact h)
abbrev aAs : Cd El (List Ans) := .list 36
abbrev cdB : Cd El Bool := .bool
def longL (l : List Ans) : Bool := l.any fun a => decide (10 < a.read.length)
def greatL (l : List Ans) : Bool := decide (60 < l.length) || longL l
noncomputable def specG (l : List Ans) : Nat → Option (St El → LSpec El) := addSpec noSpec 4 fun _ => { σ := Nat, slots := fun i => [(3, .int .i64 i)], res := fun _ => [], inv := fun i => i ≤ l.length ∧ longL l = longL (l.drop i), meas := fun i => l.length - i }
/-- With the map of words that a value names. -/
def withL (st : St El) (a : AVal El) (f : MapL → LSpec El) : LSpec El := match a with
  | .mapr r => match getR st.res r with
    | .mapS _ t m => if h : t = 28 then f (h ▸ m : List (Int × El 28)) else f []
    | _ => f []
  | _ => f []
/-- With the map of truth values that a value names. -/
def withD (st : St El) (a : AVal El) (f : MapD → LSpec El) : LSpec El := match a with
  | .mapr r => match getR st.res r with
    | .mapS _ t m => if h : t = 4 then f (h ▸ m : List (Int × El 4)) else f []
    | _ => f []
  | _ => f []
/-- With the pool: its name, its number of words, its maps. -/
def withPool (st : St El) (f : Nat → AVal El → Option (Nat × Nat) → MapL → MapD → LSpec El) : LSpec El := match nth st.slots 5 with
  | .ptr r _ => match getR st.res r with
    | .cells _ cs => withL st (nth cs 1) fun L => withD st (nth cs 2) fun D => f r (nth cs 0) (match nth cs 1, nth cs 2 with
      | .mapr a, .mapr b => some (a, b)
      | _, _ => none) L D
    | _ => f 0 .top none [] []
  | _ => f 0 .top none [] []
/-- With the number in a slot. -/
def withNum (st : St El) (d : Nat) (f : Nat → LSpec El) : LSpec El := match nth st.slots d with
  | .int _ n => f n.toNat
  | _ => f 0
def vecOf (st : St El) (d : Nat) : Nat := match nth st.slots d with
  | .vec q => q
  | _ => 0
noncomputable def specDead (l : List Ans) : Nat → Option (St El → LSpec El) := addSpec (addSpec (addSpec (addSpec (addSpec (addSpec noSpec
  1006 fun st => { σ := Int, slots := fun _ => [(5, .ptr (lenR st.res) 0)], res := fun n => [(lenR st.res, .cells 44 [.int .i64 n, .nilm, .nilm])], inv := fun n => 0 ≤ n ∧ n ≤ 4, meas := fun _ => 0, fresh := [.slot 5] })
  8 fun st => withPool st fun r w o _ _ => match o with
    | none => { σ := Unit, slots := fun _ => [], res := fun _ => [], inv := fun _ => True, meas := fun _ => 0, unroll := true }
    | some (a, b) => { σ := Nat × MapL × MapD × List Bool, slots := fun s => [(7, .int .i64 s.1)], res := fun s => [(vecOf st 6, .vec 4 s.2.2.2), (a, .mapS .u64 28 s.2.1), (b, .mapS .u64 4 s.2.2.1)], inv := fun s => DeadInv l s.1 s.2.1 s.2.2.1 s.2.2.2, meas := fun s => l.length - s.1 })
  1012 fun st => withPool st fun r w o L D => withNum st 7 fun i => { σ := Unit, slots := fun _ => [(10, .bool (toldM L D (l.getD i ansD).t))], res := fun _ => [], inv := fun _ => True, meas := fun _ => 0 })
  1013 fun st => withPool st fun r w o L D => withNum st 7 fun i => match o with
    | none => { σ := Bool × MapL × MapD, slots := fun s => [(11, .bool s.1)], res := fun s => [(r, .cells 44 [w, .mapr (lenR st.res), .mapr (lenR st.res + 1)]), (lenR st.res, .mapS .u64 28 s.2.1), (lenR st.res + 1, .mapS .u64 4 s.2.2)], inv := fun s => StepRel (l.getD i ansD) L D s.1 s.2.1 s.2.2, meas := fun _ => 0, fresh := [.cell r 1, .cell r 2] }
    | some (a, b) => { σ := Bool × MapL × MapD, slots := fun s => [(11, .bool s.1)], res := fun s => [(a, .mapS .u64 28 s.2.1), (b, .mapS .u64 4 s.2.2)], inv := fun s => StepRel (l.getD i ansD) L D s.1 s.2.1 s.2.2, meas := fun _ => 0 })
  1016 fun _ => { σ := Unit, slots := fun _ => [], res := fun _ => [], inv := fun _ => True, meas := fun _ => 0 })
  18 fun st => withNum st 7 fun i => { σ := Nat, slots := fun j => [(14, .int .i64 j)], res := fun _ => [], inv := fun j => j ≤ i + 1, meas := fun j => i + 1 - j }
def aDeadL : Cd El (Int × List Ans) := .pair aI aAs
end Go.Proofs.Ytbadejabphdkiaa
