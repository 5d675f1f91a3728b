/- The seat's program under the symbolic executor: how its elements lie, the facts on its types. Over this program's types; no condition. -/
import Derived.Test.YtaikpkhclnkkaaaRows
import Derived.Test.YtaikpkhclnkkaaaAx21
set_option linter.unusedVariables false
set_option linter.unusedSimpArgs false
namespace Go.Proofs.Ytaikpkhclnkkaaa
open Go Go.Ax

structure Spot where
  k : Int
  a : Int
  b : Int
inductive K where | none | i64 | u64 | spot
@[reducible] def K.Ty : K → Type
  | .none => Unit
  | .i64 => Int
  | .u64 => Int
  | .spot => Spot
def K.sz : K → Nat
  | .none => 0
  | .i64 => 1
  | .u64 => 1
  | .spot => 3
def K.dflt : (k : K) → k.Ty
  | .none => ()
  | .i64 => (0 : Int)
  | .u64 => (0 : Int)
  | .spot => ⟨0, 0, 0⟩
def K.known : K → Bool
  | .none => false
  | _ => true
@[reducible] def tab : TypeId → K
  | 3 => .i64
  | 22 => .u64
  | 43 => .spot
  | _ => .none
@[reducible] def El : TypeId → Type := fun t => (tab t).Ty
def cdSpot : Cd El Spot := .iso (.pair (.int .i64) (.pair (.int .i64) (.int .i64))) (fun x => ⟨x.1, x.2.1, x.2.2⟩) (fun s => (s.k, s.a, s.b)) (fun _ => rfl)
def K.cd : (k : K) → Cd El k.Ty
  | .none => .unit
  | .i64 => .int .i64
  | .u64 => .int .u64
  | .spot => cdSpot
theorem K.enc_len (k : K) (x : k.Ty) : (k.cd.enc x).length = k.sz := by cases k <;> rfl
def lay : Lay El := layOf (fun t => (tab t).cd) (fun t => (tab t).sz) (fun t => (tab t).dflt) (fun t x => by
  exact K.enc_len (tab t) x)
theorem tab_known {t : TypeId} (h : (tab t).known = true) : t = 3 ∨ t = 22 ∨ t = 43 := by
  unfold tab at h
  split at h
  · exact .inl rfl
  · exact .inr (.inl rfl)
  · exact .inr (.inr rfl)
  · cases h
def eqT : TypeId → Option (List Bool)
  | 27 => some [true, true, true, true, true, true, true, true]
  | 43 => some [true, true, true]
  | _ => none
noncomputable def cx : Cx El where
  P := Try.prog
  L := lay
  known t := (tab t).known
  known_ok t h := by
    rcases tab_known h with rfl | rfl | rfl
    · exact ⟨by kernel_rfl, by decide⟩
    · exact ⟨by kernel_rfl, by decide⟩
    · exact ⟨by kernel_rfl, by decide⟩
  zero_ok t h := by
    rcases tab_known h with rfl | rfl | rfl
    · refine ⟨.int .i64 0, by kernel_rfl, rfl, fun i hi => ?_⟩
      have hi : i < 1 := hi
      obtain rfl : i = 0 := by omega
      refine ⟨.int .i64 0, rfl, rfl, fun I w c hc => ?_⟩
      cases hc; exact .int
    · refine ⟨.int .u64 0, by kernel_rfl, rfl, fun i hi => ?_⟩
      have hi : i < 1 := hi
      obtain rfl : i = 0 := by omega
      refine ⟨.int .u64 0, rfl, rfl, fun I w c hc => ?_⟩
      cases hc; exact .int
    · refine ⟨.agg #[.int .i64 0, .int .i64 0, .int .i64 0], by kernel_rfl, rfl, fun i hi => ?_⟩
      have hi : i < 3 := hi
      refine ⟨.int .i64 0, ?_, rfl, fun I w c hc => ?_⟩
      · rcases i with _ | _ | _ | i
        · rfl
        · rfl
        · rfl
        · omega
      · rcases i with _ | _ | _ | i
        · cases hc; exact .int
        · cases hc; exact .int
        · cases hc; exact .int
        · omega
  flat t := (tab t).known
  flat_ok t h x := by
    rcases tab_known h with rfl | rfl | rfl <;> rfl
  eqT := eqT
  eq_ok t s h := by
    unfold eqT at h
    split at h
    · cases h
      exact eq_of_flat (d := 5) (by kernel_rfl) (by decide) (by kernel_rfl) Try.eqGuardType27
    · cases h
      exact eq_of_flat (d := 5) (by kernel_rfl) (by decide) (by kernel_rfl) Try.eqGuardType43
    · cases h
  mixed := by kernel_rfl
/-- A function's code. -/
def codeOf (f : Func) : Code := match f.body with
  | some c => c
  | none => .skip
/-- Equations over this seat's layout. -/
abbrev EqR (a b : Res El) : Prop := a = b
abbrev EqA (a b : AVal El) : Prop := a = b
abbrev EqE (a b : AVal El × List (Nat × Res El)) : Prop := a = b
end Go.Proofs.Ytaikpkhclnkkaaa
