/- A verified symbolic executor, part 21: equality of structs whose cells are numbers and truth values. Over any program; no condition. -/
import Derived.Test.YtbadejabphdkiaaAx20
set_option linter.unusedVariables false
set_option linter.unusedSimpArgs false
namespace Go.Ax

def eqFlatF (P : Program) (g : TypeId → Option (List Bool)) : List Field → Nat → Option (List Bool)
  | [], _ => some []
  | f :: fs, o => if f.offset = o ∧ f.name ≠ "_" then match g f.type with
      | some s => if (P.info? f.type).map (·.size) = some s.length ∧ 0 < s.length then (eqFlatF P g fs (o + s.length)).map (s ++ ·) else none
      | none => none
    else none
def eqFlat (P : Program) : Nat → TypeId → Option (List Bool)
  | 0, _ => none
  | d + 1, t => match P.underlying t with
    | some (.int _) => some [true]
    | some .bool => some [false]
    | some (.struct fs) => if P.stoodInHeld t = true then none else eqFlatF P (eqFlat P d) fs.toList 0
    | _ => none

theorem shpV_len {xs : List Value} {s : List Bool} (h : shpV xs s = true) : xs.length = s.length := by
  induction xs generalizing s with
  | nil => cases s <;> simp [shpV] at h ⊢
  | cons v xs ih =>
    unfold shpV at h
    split at h
    · rename_i e; cases e
    · rename_i e; cases e; simp [ih h]
    · rename_i e; cases e; simp [ih h]
    · cases h
theorem shpV_split {xs : List Value} {s1 s2 : List Bool} (h : shpV xs (s1 ++ s2) = true) : shpV (xs.take s1.length) s1 = true ∧ shpV (xs.drop s1.length) s2 = true := by
  induction s1 generalizing xs with
  | nil => simp [shpV]; exact h
  | cons b s1 ih =>
    cases xs with
    | nil => simp [shpV] at h
    | cons v xs =>
      simp only [List.cons_append] at h
      unfold shpV at h
      split at h
      · rename_i e; cases e
      · rename_i e1 e2; cases e1; cases e2; simpa [shpV] using ih h
      · rename_i e1 e2; cases e1; cases e2; simpa [shpV] using ih h
      · cases h
theorem eqVals_len {xs ys : List Value} {r : Bool} (he : eqVals xs ys = some r) : xs.length = ys.length := by
  induction xs generalizing ys r with
  | nil => cases ys <;> simp [eqVals] at he ⊢
  | cons v xs ihx =>
    unfold eqVals at he
    split at he
    · rename_i e; cases e
    · rename_i e; cases e
      split at he
      · obtain ⟨r', h1, _⟩ := Option.map_eq_some_iff.1 he
        simp [ihx h1]
      · cases he
    · rename_i e; cases e
      obtain ⟨r', h1, _⟩ := Option.map_eq_some_iff.1 he
      simp [ihx h1]
    · cases he
theorem eqVals_split {xs ys : List Value} {r : Bool} (n : Nat) (h : eqVals xs ys = some r) : ∃ r1 r2, eqVals (xs.take n) (ys.take n) = some r1 ∧ eqVals (xs.drop n) (ys.drop n) = some r2 ∧ r = (r1 && r2) := by
  induction n generalizing xs ys r with
  | zero => exact ⟨true, r, by simp [eqVals], by simpa using h, by simp⟩
  | succ n ih =>
    unfold eqVals at h
    split at h
    · cases h; exact ⟨true, true, by simp [eqVals], by simp [eqVals], rfl⟩
    · split at h
      · rename_i hk
        obtain ⟨r', h1, rfl⟩ := Option.map_eq_some_iff.1 h
        obtain ⟨r1, r2, g1, g2, rfl⟩ := ih h1
        rename_i x1 _ _ y1 _
        exact ⟨(x1 == y1) && r1, r2, by simp [eqVals, hk, g1], by simpa using g2, by rw [Bool.and_assoc]⟩
      · cases h
    · obtain ⟨r', h1, rfl⟩ := Option.map_eq_some_iff.1 h
      obtain ⟨r1, r2, g1, g2, rfl⟩ := ih h1
      rename_i x1 _ y1 _
      exact ⟨(x1 == y1) && r1, r2, by simp [eqVals, g1], by simpa using g2, by rw [Bool.and_assoc]⟩
    · cases h

/-- The value of some cells at a type. -/
def ValAt (P : Program) (t : TypeId) (xs : List Value) (v : Value) : Prop :=
  (isAggT P t = some true ∧ v = .agg xs.toArray) ∨ (isAggT P t = some false ∧ xs[0]? = some v)

theorem part_at {P : Program} {t : TypeId} {xs : List Value} {o n : Nat} (hs : (P.info? t).map (·.size) = some n) (hn : 0 < n) (hl : o + n ≤ xs.length) {b : Bool} (ha : isAggT P t = some b) (w : World) :
    ∃ v, (part t xs.toArray o).run P w = .ok v w ∧ ValAt P t ((xs.drop o).take n) v := by
  obtain ⟨i, hi, hsz⟩ := Option.map_eq_some_iff.1 hs
  cases b with
  | true =>
    refine ⟨.agg (xs.toArray.extract o (o + n)), ?_, .inl ⟨ha, ?_⟩⟩
    · have h1 := run_isAggT ha w
      simp [part, h1, sizeOf, typeInfo, hi, hsz]
    · congr 1
      apply Array.ext'
      simp [List.take_drop, Nat.add_comm]
  | false =>
    have hlt : o < xs.length := by omega
    refine ⟨xs[o], ?_, .inr ⟨ha, ?_⟩⟩
    · have h1 := run_isAggT ha w
      simp [part, h1, hlt]
    · rw [List.getElem?_take, if_pos hn]
      simp [hlt]

theorem eqFlat_ok {P : Program} : ∀ (d : Nat) (t : TypeId) (s : List Bool), eqFlat P d t = some s → (∃ b, isAggT P t = some b) ∧ ∀ (k : Nat) (xs ys : List Value) (r : Bool) (w : World) (x y : Value), eqVals xs ys = some r → shpV xs s = true → ValAt P t xs x → ValAt P t ys y →
    (Op.equalIn (d + k) t x y).run P w = .ok r w := by
  intro d
  induction d with
  | zero => intro t s h; cases h
  | succ d ih =>
    intro t s h
    unfold eqFlat at h
    split at h
    · rename_i k' hu
      simp only [Option.some.injEq] at h; subst h
      refine ⟨⟨false, by simp [isAggT, hu]⟩, fun k xs ys r w x y he hs hx hy => ?_⟩
      have hag : isAggT P t = some false := by simp [isAggT, hu]
      rcases hx with ⟨h1, _⟩ | ⟨_, hx⟩
      · rw [hag] at h1; cases h1
      rcases hy with ⟨h1, _⟩ | ⟨_, hy⟩
      · rw [hag] at h1; cases h1
      unfold shpV at hs
      split at hs
      · rename_i e; cases e
      · rename_i k1 n as s' e; cases e
        obtain rfl : as = [] := by
          cases as with
          | nil => rfl
          | cons _ _ => simp [shpV] at hs
        unfold eqVals at he
        split at he
        · rename_i e1; cases e1
        · rename_i k1 x1 as k2 y1 bs e1; cases e1
          split at he
          · rename_i hk; subst hk
            obtain ⟨r', h1, rfl⟩ := Option.map_eq_some_iff.1 he
            simp at hx hy; subst hx; subst hy
            obtain rfl : bs = [] := by
              cases bs with
              | nil => rfl
              | cons _ _ => simp [eqVals] at h1
            simp [eqVals] at h1; subst h1
            rw [show d + 1 + k = (d + k) + 1 from by omega]
            rw [run_equalIn_int w (d + k) t _ k' _ _ hu]; simp
          · cases he
        · rename_i e1; cases e1
        · cases he
      · rename_i e; cases e
      · cases hs
    · rename_i hu
      simp only [Option.some.injEq] at h; subst h
      refine ⟨⟨false, by simp [isAggT, hu]⟩, fun k xs ys r w x y he hs hx hy => ?_⟩
      have hag : isAggT P t = some false := by simp [isAggT, hu]
      rcases hx with ⟨h1, _⟩ | ⟨_, hx⟩
      · rw [hag] at h1; cases h1
      rcases hy with ⟨h1, _⟩ | ⟨_, hy⟩
      · rw [hag] at h1; cases h1
      unfold shpV at hs
      split at hs
      · rename_i e; cases e
      · rename_i e; cases e
      · rename_i n as s' e; cases e
        obtain rfl : as = [] := by
          cases as with
          | nil => rfl
          | cons _ _ => simp [shpV] at hs
        unfold eqVals at he
        split at he
        · rename_i e1; cases e1
        · rename_i e1; cases e1
        · rename_i x1 as y1 bs e1; cases e1
          obtain ⟨r', h1, rfl⟩ := Option.map_eq_some_iff.1 he
          simp at hx hy; subst hx; subst hy
          obtain rfl : bs = [] := by
            cases bs with
            | nil => rfl
            | cons _ _ => simp [eqVals] at h1
          simp [eqVals] at h1; subst h1
          rw [show d + 1 + k = (d + k) + 1 from by omega]
          rw [run_equalIn_bool' w (d + k) t _ _ hu]; simp
        · cases he
      · cases hs
    · rename_i fs hu
      split at h
      · cases h
      rename_i hst
      have hst : P.stoodInHeld t = false := by simpa using hst
      have hag : isAggT P t = some true := by simp [isAggT, hu]
      have hf : P.fieldsOf t = fs := by simp [Program.fieldsOf, hu]
      refine ⟨⟨true, hag⟩, fun k xs ys r w x y he hs hx hy => ?_⟩
      obtain rfl : x = .agg xs.toArray := hx.elim (fun h => h.2) (fun h => by rw [hag] at h; cases h.1)
      obtain rfl : y = .agg ys.toArray := hy.elim (fun h => h.2) (fun h => by rw [hag] at h; cases h.1)
      rw [show d + 1 + k = (d + k) + 1 from by omega, run_equalIn_agg w (d + k) t _ _ (by rw [hf]; exact hu) hst, hf]
      have hlen : xs.length = ys.length := eqVals_len he
      have key : ∀ (l : List Field) (o : Nat) (s : List Bool) (r : Bool), eqFlatF P (eqFlat P d) l o = some s → o ≤ xs.length → eqVals (xs.drop o) (ys.drop o) = some r → shpV (xs.drop o) s = true →
          (Op.eqFields (d + k) xs.toArray ys.toArray l).run P w = .ok r w := by
        intro l
        induction l with
        | nil =>
          intro o s r h1 ho h2 h3
          simp only [eqFlatF, Option.some.injEq] at h1; subst h1
          have := shpV_len h3
          cases hd : xs.drop o with
          | cons _ _ => rw [hd] at this; simp at this
          | nil =>
            rw [hd] at h2
            have hl2 := eqVals_len h2
            cases hd2 : ys.drop o with
            | cons _ _ => rw [hd2] at hl2; simp at hl2
            | nil =>
              rw [hd2] at h2
              simp [eqVals] at h2; subst h2; simp [Op.eqFields]
        | cons f l ihl =>
          intro o s r h1 ho h2 h3
          simp only [eqFlatF] at h1
          split at h1
          · rename_i hoff
            obtain ⟨hoff, hname⟩ := hoff
            split at h1
            · rename_i s1 hs1
              split at h1
              · rename_i hsz
                obtain ⟨hsz, hpos⟩ := hsz
                obtain ⟨s2, h4, rfl⟩ := Option.map_eq_some_iff.1 h1
                obtain ⟨⟨b, hb⟩, hgo⟩ := ih f.type s1 hs1
                obtain ⟨q1, q2⟩ := shpV_split h3
                obtain ⟨r1, r2, e1, e2, rfl⟩ := eqVals_split s1.length h2
                have hl3 := shpV_len h3
                simp only [List.length_drop, List.length_append] at hl3
                obtain ⟨v1, g1, g2⟩ := part_at (xs := xs) (o := o) hsz hpos (by omega) hb w
                obtain ⟨v2, g3, g4⟩ := part_at (xs := ys) (o := o) hsz hpos (by omega) hb w
                have g5 := hgo k _ _ r1 w v1 v2 e1 q1 g2 g4
                simp only [Op.eqFields, hname, ne_eq, not_false_eq_true, if_true, Sem.run_bind, hoff, g1, g3, g5, Result.andThen_ok]
                rw [List.drop_drop] at e2 q2
                rw [List.drop_drop] at e2
                cases r1 with
                | false => simp
                | true =>
                  simp only [Bool.not_true, Bool.false_eq_true, if_false, Bool.true_and]
                  exact ihl (o + s1.length) s2 r2 h4 (by omega) e2 q2
              · cases h1
            · cases h1
          · cases h1
      exact key fs.toList 0 s r h (Nat.zero_le _) (by simpa using he) (by simpa using hs)
    · cases h

theorem eq_of_flat {P : Program} {d : Nat} {t : TypeId} {s : List Bool} (h : eqFlat P d t = some s) (hd : d ≤ 10000) (hag : isAggT P t = some true) (hg : P.eqGuardType P.depth t = false) (xs ys : List Value) (r : Bool) (he : eqVals xs ys = some r) (hs : shpV xs s = true) (w : World) (x y : Operand) :
    (eqGuard .eql t x y (.agg xs.toArray) (.agg ys.toArray)).run P w = .ok () w ∧ (eqGuard .neq t x y (.agg xs.toArray) (.agg ys.toArray)).run P w = .ok () w ∧
    (binOp .eql t (.agg xs.toArray) (.agg ys.toArray)).run P w = .ok (.bool r) w ∧ (binOp .neq t (.agg xs.toArray) (.agg ys.toArray)).run P w = .ok (.bool !r) w := by
  have := (eqFlat_ok d t s h).2 (10000 - d) xs ys r w _ _ he hs (.inl ⟨hag, rfl⟩) (.inl ⟨hag, rfl⟩)
  rw [show d + (10000 - d) = 10000 from by omega] at this
  exact ⟨run_eqGuard_agg w .eql t x y _ _ hg, run_eqGuard_agg w .neq t x y _ _ hg, by rw [run_eql_struct, this]; rfl, by rw [run_neq_struct, this]; rfl⟩
end Go.Ax
