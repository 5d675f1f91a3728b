/- The seat's program under the symbolic executor: how its elements lie, the facts on its types. Over this program's types; no condition. -/
import Derived.Test.YtggaecdhgbdilaaRows
import Derived.Test.YtggaecdhgbdilaaAx25
import Derived.Test.YtggaecdhgbdilaaAx23
set_option linter.unusedVariables false
set_option linter.unusedSimpArgs false
namespace Go.Proofs.Ytggaecdhgbdilaa
open Go Go.Ax

inductive K where | none | i64 | u64 | u8 | bool | ints
@[reducible] def K.Ty : K → Type
  | .none => Unit
  | .i64 => Int
  | .u64 => Int
  | .u8 => Int
  | .bool => Bool
  | .ints => List Int
def K.sz : K → Nat
  | .none => 0
  | _ => 1
def K.dflt : (k : K) → k.Ty
  | .none => ()
  | .i64 => (0 : Int)
  | .u64 => (0 : Int)
  | .u8 => (0 : Int)
  | .bool => false
  | .ints => ([] : List Int)
def K.known : K → Bool
  | .none => false
  | _ => true
def K.flat : K → Bool
  | .none => false
  | .ints => false
  | _ => true
@[reducible] def tab : TypeId → K
  | 3 => .i64
  | 4 => .bool
  | 5 => .u8
  | 22 => .u64
  | 25 => .ints
  | _ => .none
@[reducible] def El : TypeId → Type := fun t => (tab t).Ty
def K.cd : (k : K) → Cd El k.Ty
  | .none => .unit
  | .i64 => .int .i64
  | .u64 => .int .u64
  | .u8 => .int .u8
  | .bool => .bool
  | .ints => .list 3
theorem K.enc_len (k : K) (x : k.Ty) : (k.cd.enc x).length = k.sz := by cases k <;> rfl
def lay : Lay El := layOf (fun t => (tab t).cd) (fun t => (tab t).sz) (fun t => (tab t).dflt) (fun t x => by
  exact K.enc_len (tab t) x)
theorem tab_known {t : TypeId} (h : (tab t).known = true) : t = 3 ∨ t = 4 ∨ t = 5 ∨ t = 22 ∨ t = 25 := by
  unfold tab at h
  split at h
  · exact .inl rfl
  · exact .inr (.inl rfl)
  · exact .inr (.inr (.inl rfl))
  · exact .inr (.inr (.inr (.inl rfl)))
  · exact .inr (.inr (.inr (.inr rfl)))
  · cases h
def eqT : TypeId → Option (List Bool)
  | 24 => some [true, true, true, true, false, true, true]
  | _ => none
theorem zero_one {t : TypeId} {v : Value} (hz : (Try.prog.info? t).bind (·.zero) = some v) (h1 : v.cells = #[v]) (hone : v.oneCell' = true) (hsz : lay.sz t = 1)
    (hr : ∀ (I : Nat → Prop) (w : World) (c : AVal El), (lay.enc t (lay.dflt t))[0]? = some c → Rep lay I w noE c v) :
    ∃ z, (Try.prog.info? t).bind (·.zero) = some z ∧ z.cells.size = lay.sz t ∧ ∀ i : Nat, i < lay.sz t → ∃ v, z.cells[i]? = some v ∧ v.oneCell' = true ∧
      ∀ (I : Nat → Prop) (w : World) (c : AVal El), (lay.enc t (lay.dflt t))[i]? = some c → Rep lay I w noE c v := by
  refine ⟨v, hz, by rw [h1, hsz]; rfl, fun i hi => ⟨v, ?_, hone, ?_⟩⟩
  · rw [hsz] at hi
    obtain rfl : i = 0 := by omega
    rw [h1]; rfl
  · rw [hsz] at hi
    obtain rfl : i = 0 := by omega
    exact hr
noncomputable def cx : Cx El where
  P := Try.prog
  L := lay
  split3 := true
  known t := (tab t).known
  known_ok t h := by
    rcases tab_known h with rfl | rfl | rfl | rfl | rfl
    · exact ⟨by kernel_rfl, by decide⟩
    · exact ⟨by kernel_rfl, by decide⟩
    · exact ⟨by kernel_rfl, by decide⟩
    · exact ⟨by kernel_rfl, by decide⟩
    · exact ⟨by kernel_rfl, by decide⟩
  zero_ok t h := by
    rcases tab_known h with rfl | rfl | rfl | rfl | rfl
    · exact zero_one (v := .int .i64 0) (by kernel_rfl) rfl rfl rfl (fun I w c hc => by cases hc; exact .int)
    · exact zero_one (v := .bool false) (by kernel_rfl) rfl rfl rfl (fun I w c hc => by cases hc; exact .bool)
    · exact zero_one (v := .int .u8 0) (by kernel_rfl) rfl rfl rfl (fun I w c hc => by cases hc; exact .int)
    · exact zero_one (v := .int .u64 0) (by kernel_rfl) rfl rfl rfl (fun I w c hc => by cases hc; exact .int)
    · exact zero_one (v := .slice none 0 0) (by kernel_rfl) rfl rfl rfl (fun I w c hc => by cases hc; exact .listNil)
  flat t := (tab t).flat
  flat_ok t h x := by
    have key : ∀ (k : K) (x : k.Ty), k.flat = true → flatL (k.cd.enc x) = true := fun k x h => by cases k <;> first | rfl | cases h
    exact key (tab t) x h
  eqT := eqT
  eq_ok t s h := by
    unfold eqT at h
    split at h
    · cases h
      exact eq_of_flat (d := 5) (by kernel_rfl) (by decide) (by kernel_rfl) Try.eqGuardType24
    · cases h
  mixed := by kernel_rfl
/-- A function's code. -/
def codeOf (f : Func) : Code := match f.body with
  | some c => c
  | none => .skip
theorem body_of {fn : Func} (h : fn.body.isSome = true) : fn.body = some (codeOf fn) := by
  unfold codeOf
  cases hb : fn.body with
  | none => rw [hb] at h; cases h
  | some c => rfl
/-- Equations over this seat's layout. -/
abbrev EqR (a b : Res El) : Prop := a = b
abbrev EqA (a b : AVal El) : Prop := a = b
abbrev EqE (a b : AVal El × List (Nat × Res El)) : Prop := a = b
end Go.Proofs.Ytggaecdhgbdilaa
