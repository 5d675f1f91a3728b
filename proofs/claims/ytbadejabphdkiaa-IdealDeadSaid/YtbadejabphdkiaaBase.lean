/- The seat's program under the symbolic executor: how its elements lie, the facts on its types. Over this program's types; no condition. -/
import Derived.Test.YtbadejabphdkiaaRows
import Derived.Test.YtbadejabphdkiaaAx25
import Derived.Test.YtbadejabphdkiaaAx23
set_option linter.unusedVariables false
set_option linter.unusedSimpArgs false
namespace Go.Proofs.Ytbadejabphdkiaa
open Go Go.Ax

structure OpD where
  k : Int
  t : Int
  x : Int
  s : Int
  u : Bool
  b : Int
  n : Int
/-- An answer. -/
structure Ans where
  op : OpD
  t : Int
  ret : Int
  read : List Int
inductive K where | none | i64 | u64 | bool | ans
@[reducible] def K.Ty : K → Type
  | .none => Unit
  | .i64 => Int
  | .u64 => Int
  | .bool => Bool
  | .ans => Ans
def K.sz : K → Nat
  | .none => 0
  | .ans => 10
  | _ => 1
def K.dflt : (k : K) → k.Ty
  | .none => ()
  | .i64 => (0 : Int)
  | .u64 => (0 : Int)
  | .bool => false
  | .ans => ⟨⟨0, 0, 0, 0, false, 0, 0⟩, 0, 0, []⟩
def K.known : K → Bool
  | .none => false
  | _ => true
def K.flat : K → Bool
  | .none => false
  | .ans => false
  | _ => true
@[reducible] def tab : TypeId → K
  | 3 => .i64
  | 4 => .bool
  | 28 => .u64
  | 33 => .i64
  | 36 => .ans
  | _ => .none
@[reducible] def El : TypeId → Type := fun t => (tab t).Ty
abbrev aI : Cd El Int := .int .i64
abbrev aU : Cd El Int := .int .u64
abbrev aW : Cd El (List Int) := .list 28
def cdOp : Cd El OpD := .iso (.pair aI (.pair aU (.pair aU (.pair aI (.pair .bool (.pair aI aI))))))
  (fun x => ⟨x.1, x.2.1, x.2.2.1, x.2.2.2.1, x.2.2.2.2.1, x.2.2.2.2.2.1, x.2.2.2.2.2.2⟩) (fun o => (o.k, o.t, o.x, o.s, o.u, o.b, o.n)) (fun _ => rfl)
def cdAns : Cd El Ans := .iso (.pair cdOp (.pair aU (.pair aI aW))) (fun x => ⟨x.1, x.2.1, x.2.2.1, x.2.2.2⟩) (fun a => (a.op, a.t, a.ret, a.read)) (fun _ => rfl)
def K.cd : (k : K) → Cd El k.Ty
  | .none => .unit
  | .i64 => .int .i64
  | .u64 => .int .u64
  | .bool => .bool
  | .ans => cdAns
theorem K.enc_len (k : K) (x : k.Ty) : (k.cd.enc x).length = k.sz := by cases k <;> rfl
def lay : Lay El := layOf (fun t => (tab t).cd) (fun t => (tab t).sz) (fun t => (tab t).dflt) (fun t x => by
  exact K.enc_len (tab t) x)
theorem tab_known {t : TypeId} (h : (tab t).known = true) : t = 3 ∨ t = 4 ∨ t = 28 ∨ t = 33 ∨ t = 36 := by
  unfold tab at h
  split at h
  · exact .inl rfl
  · exact .inr (.inl rfl)
  · exact .inr (.inr (.inl rfl))
  · exact .inr (.inr (.inr (.inl rfl)))
  · exact .inr (.inr (.inr (.inr rfl)))
  · cases h
def eqT : TypeId → Option (List Bool)
  | 53 => some [true, true]
  | _ => none
theorem zero_one {t : TypeId} {v : Value} (hz : (Try.prog.info? t).bind (·.zero) = some v) (h1 : v.cells = #[v]) (hone : v.oneCell' = true) (hsz : lay.sz t = 1)
    (hr : ∀ (I : Nat → Prop) (w : World) (c : AVal El), (lay.enc t (lay.dflt t))[0]? = some c → Rep lay I w noE c v) :
    ∃ z, (Try.prog.info? t).bind (·.zero) = some z ∧ z.cells.size = lay.sz t ∧ ∀ i : Nat, i < lay.sz t → ∃ v, z.cells[i]? = some v ∧ v.oneCell' = true ∧
      ∀ (I : Nat → Prop) (w : World) (c : AVal El), (lay.enc t (lay.dflt t))[i]? = some c → Rep lay I w noE c v := by
  refine ⟨v, hz, by rw [h1, hsz]; rfl, fun i hi => ⟨v, ?_, hone, ?_⟩⟩
  · rw [hsz] at hi
    obtain rfl : i = 0 := by omega
    rw [h1]; rfl
  · rw [hsz] at hi
    obtain rfl : i = 0 := by omega
    exact hr
def zAns : List Value := [.int .i64 0, .int .u64 0, .int .u64 0, .int .i64 0, .bool false, .int .i64 0, .int .i64 0, .int .u64 0, .int .i64 0, .slice none 0 0]
theorem zero_ans : ∃ z, (Try.prog.info? 36).bind (·.zero) = some z ∧ z.cells.size = lay.sz 36 ∧ ∀ i : Nat, i < lay.sz 36 → ∃ v, z.cells[i]? = some v ∧ v.oneCell' = true ∧
      ∀ (I : Nat → Prop) (w : World) (c : AVal El), (lay.enc 36 (lay.dflt 36))[i]? = some c → Rep lay I w noE c v := by
  refine ⟨.agg zAns.toArray, by kernel_rfl, rfl, fun i hi => ?_⟩
  have hi : i < 10 := hi
  match i, hi with
  | 0, _ => exact ⟨.int .i64 0, rfl, rfl, fun I w c hc => by cases hc; exact .int⟩
  | 1, _ => exact ⟨.int .u64 0, rfl, rfl, fun I w c hc => by cases hc; exact .int⟩
  | 2, _ => exact ⟨.int .u64 0, rfl, rfl, fun I w c hc => by cases hc; exact .int⟩
  | 3, _ => exact ⟨.int .i64 0, rfl, rfl, fun I w c hc => by cases hc; exact .int⟩
  | 4, _ => exact ⟨.bool false, rfl, rfl, fun I w c hc => by cases hc; exact .bool⟩
  | 5, _ => exact ⟨.int .i64 0, rfl, rfl, fun I w c hc => by cases hc; exact .int⟩
  | 6, _ => exact ⟨.int .i64 0, rfl, rfl, fun I w c hc => by cases hc; exact .int⟩
  | 7, _ => exact ⟨.int .u64 0, rfl, rfl, fun I w c hc => by cases hc; exact .int⟩
  | 8, _ => exact ⟨.int .i64 0, rfl, rfl, fun I w c hc => by cases hc; exact .int⟩
  | 9, _ => exact ⟨.slice none 0 0, rfl, rfl, fun I w c hc => by cases hc; exact .listNil⟩
theorem check_key (xs : List Value) (h : shpV xs [true, true] = true) (em : Bool) (w : World) : (Instr.checkKey em 10000 53 (.agg xs.toArray)).run Try.prog w = .ok () w := by
  have two : ∃ k a k' b, xs = [.int k a, .int k' b] := by
    cases xs with
    | nil => cases h
    | cons x xs =>
      cases x <;> simp only [shpV] at h <;> try (cases h; done)
      cases xs with
      | nil => cases h
      | cons y xs =>
        cases y <;> simp only [shpV] at h <;> try (cases h; done)
        cases xs with
        | nil => exact ⟨_, _, _, _, rfl⟩
        | cons z xs => cases z <;> cases h
  obtain ⟨k, a, k', b, rfl⟩ := two
  have p3 : (part 3 #[Value.int k a, Value.int k' b] 0).run Try.prog w = .ok (.int k a) w := run_part_plain w (by kernel_rfl) rfl
  have p33 : (part 33 #[Value.int k a, Value.int k' b] 1).run Try.prog w = .ok (.int k' b) w := run_part_plain w (by kernel_rfl) rfl
  have c3 : ∀ v, (Instr.checkKey em (9998 + 1) 3 v).run Try.prog w = .ok () w := fun v => by
    unfold Instr.checkKey
    simp [run_underlying Try.underlying3, Result.andThen]
  have c33 : ∀ v, (Instr.checkKey em (9998 + 1) 33 v).run Try.prog w = .ok () w := fun v => by
    unfold Instr.checkKey
    simp [run_underlying Try.underlying33, Result.andThen]
  show (Instr.checkKey em (9999 + 1) 53 (.agg #[.int k a, .int k' b])).run Try.prog w = .ok () w
  unfold Instr.checkKey
  simp [run_underlying Try.underlying53, Result.andThen, p3, p33]
  have c3' := c3 (.int k a)
  have c33' := c33 (.int k' b)
  simp at c3' c33'
  rw [c3']
  simp only []
  rw [p33]
  simp only []
  rw [c33']
noncomputable def cx : Cx El where
  P := Try.prog
  L := lay
  known t := (tab t).known
  known_ok t h := by
    rcases tab_known h with rfl | rfl | rfl | rfl | rfl
    · exact ⟨by kernel_rfl, by decide⟩
    · exact ⟨by kernel_rfl, by decide⟩
    · exact ⟨by kernel_rfl, by decide⟩
    · exact ⟨by kernel_rfl, by decide⟩
    · exact ⟨by kernel_rfl, by decide⟩
  zero_ok t h := by
    rcases tab_known h with rfl | rfl | rfl | rfl | rfl
    · exact zero_one (v := .int .i64 0) (by kernel_rfl) rfl rfl rfl (fun I w c hc => by cases hc; exact .int)
    · exact zero_one (v := .bool false) (by kernel_rfl) rfl rfl rfl (fun I w c hc => by cases hc; exact .bool)
    · exact zero_one (v := .int .u64 0) (by kernel_rfl) rfl rfl rfl (fun I w c hc => by cases hc; exact .int)
    · exact zero_one (v := .int .i64 0) (by kernel_rfl) rfl rfl rfl (fun I w c hc => by cases hc; exact .int)
    · exact zero_ans
  flat t := (tab t).flat
  flat_ok t h x := by
    have key : ∀ (k : K) (x : k.Ty), k.flat = true → flatL (k.cd.enc x) = true := fun k x h => by cases k <;> first | rfl | cases h
    exact key (tab t) x h
  eqT := eqT
  eq_ok t s h := by
    unfold eqT at h
    split at h
    · cases h
      exact eq_of_flat (d := 5) (by kernel_rfl) (by decide) (by kernel_rfl) Try.eqGuardType53
    · cases h
  mixed := by kernel_rfl
  keyT t := match t with
    | 53 => true
    | _ => false
  key_ok t h := by
    split at h
    · refine ⟨by rw [Try.underlying53], fun s hs xs hx em w => ?_⟩
      cases hs
      exact check_key xs hx em w
    · cases h
/-- A function's code. -/
def codeOf (f : Func) : Code := match f.body with
  | some c => c
  | none => .skip
theorem body_of {fn : Func} (h : fn.body.isSome = true) : fn.body = some (codeOf fn) := by
  unfold codeOf
  cases hb : fn.body with
  | none => rw [hb] at h; cases h
  | some c => rfl
/-- Equations over this seat's layout. -/
abbrev EqR (a b : Res El) : Prop := a = b
abbrev EqA (a b : AVal El) : Prop := a = b
abbrev EqE (a b : AVal El × List (Nat × Res El)) : Prop := a = b
end Go.Proofs.Ytbadejabphdkiaa
