/- A verified symbolic executor, part 20: how plain data lies in cells: codes, layouts made of them, contracts told over plain data. Over any program; no condition. -/
import Derived.Test.YtbadejabphdkiaaAx19
set_option linter.unusedVariables false
set_option linter.unusedSimpArgs false
namespace Go.Ax
variable {El : TypeId → Type}

/-- A code: plain data as cells, and back. 'true': a nil slice is read as an empty list. -/
structure Cd (El : TypeId → Type) (α : Type) where
  enc : α → List (AVal El)
  dec : Bool → List (AVal El) → Option (α × List (AVal El))
  strict : ∀ l x r, dec false l = some (x, r) → l = enc x ++ r
  reads : ∀ b l x r, dec b l = some (x, r) → ∀ (L : Lay El) (I : Nat → Prop) (w : World) (E : Env) (vs : List Value), Reps L I w E l vs → Reps L I w E (enc x ++ r) vs

namespace Cd
def int (k : IntKind) : Cd El Int where
  enc x := [.int k x]
  dec _ l := match l with
    | .int k' x :: r => if k' = k then some (x, r) else none
    | _ => none
  strict l x r h := by
    split at h
    · split at h
      · rename_i hk; cases h; rw [hk]; rfl
      · cases h
    · cases h
  reads b l x r h L I w E vs hr := by
    split at h
    · split at h
      · rename_i hk; cases h; rw [← hk]; exact hr
      · cases h
    · cases h
def bool : Cd El Bool where
  enc x := [.bool x]
  dec _ l := match l with
    | .bool x :: r => some (x, r)
    | _ => none
  strict l x r h := by
    split at h
    · cases h; rfl
    · cases h
  reads b l x r h L I w E vs hr := by
    split at h
    · cases h; exact hr
    · cases h
def list (t : TypeId) : Cd El (List (El t)) where
  enc x := [.list t x]
  dec b l := match l with
    | .list t' x :: r => if h : t' = t then some (h ▸ x, r) else none
    | .nils :: r => match b with
      | true => some ([], r)
      | false => none
    | _ => none
  strict l x r h := by
    split at h
    · split at h
      · rename_i hk; subst hk; cases h; rfl
      · cases h
    · cases h
    · cases h
  reads b l x r h L I w E vs hr := by
    split at h
    · split at h
      · rename_i hk; subst hk; cases h; exact hr
      · cases h
    · split at h
      · cases h
        obtain ⟨v, vs', rfl, h1, h2⟩ := hr.inv_cons
        cases h1
        exact Reps.cons .listNil h2
      · cases h
    · cases h
def unit : Cd El Unit where
  enc _ := []
  dec _ l := some ((), l)
  strict l x r h := by cases h; rfl
  reads b l x r h L I w E vs hr := by cases h; exact hr
/-- One behind the other. -/
def pair {α β : Type} (a : Cd El α) (b : Cd El β) : Cd El (α × β) where
  enc x := a.enc x.1 ++ b.enc x.2
  dec f l := match a.dec f l with
    | some (x, r) => match b.dec f r with
      | some (y, r') => some ((x, y), r')
      | none => none
    | none => none
  strict l x r h := by
    split at h
    · rename_i x1 r1 h1
      split at h
      · rename_i y1 r2 h2
        cases h
        rw [a.strict _ _ _ h1, b.strict _ _ _ h2]; simp
      · cases h
    · cases h
  reads f l x r h L I w E vs hr := by
    split at h
    · rename_i x1 r1 h1
      split at h
      · rename_i y1 r2 h2
        cases h
        have g1 := a.reads _ _ _ _ h1 L I w E vs hr
        have gl := g1.drop (a.enc x1).length
        simp only [List.drop_left] at gl
        have g2 := b.reads _ _ _ _ h2 L I w E _ gl
        have gt := g1.take (a.enc x1).length
        simp only [List.take_left] at gt
        have := gt.append g2
        simpa [List.append_assoc] using this
      · cases h
    · cases h
/-- The same data under another form. -/
def iso {α β : Type} (a : Cd El α) (f : α → β) (g : β → α) (h : ∀ x, g (f x) = x) : Cd El β where
  enc y := a.enc (g y)
  dec b l := match a.dec b l with
    | some (x, r) => some (f x, r)
    | none => none
  strict l x r hd := by
    split at hd
    · rename_i x1 r1 h1; cases hd; rw [h]; exact a.strict _ _ _ h1
    · cases hd
  reads b l x r hd L I w E vs hr := by
    split at hd
    · rename_i x1 r1 h1; cases hd; rw [h]; exact a.reads _ _ _ _ h1 L I w E vs hr
    · cases hd
/-- A struct or an array, as one value. -/
def agg {α : Type} (a : Cd El α) : Cd El α where
  enc x := [.agg (a.enc x)]
  dec b l := match l with
    | .agg cs :: r => match a.dec b cs with
      | some (x, []) => some (x, r)
      | _ => none
    | _ => none
  strict l x r h := by
    split at h
    · split at h
      · rename_i h1; cases h
        rw [a.strict _ _ _ h1]; simp
      · cases h
    · cases h
  reads b l x r h L I w E vs hr := by
    split at h
    · split at h
      · rename_i h1; cases h
        obtain ⟨v, vs', rfl, g1, g2⟩ := hr.inv_cons
        cases g1 with
        | agg hl hh hone =>
          have := a.reads _ _ _ _ h1 L I w E _ ⟨hl, hh⟩
          rw [List.append_nil] at this
          exact Reps.cons (this.agg hone) g2
      · cases h
    · cases h
end Cd

/-- A contract told over plain data. -/
def tell {α : Type} (d : Cd El α) (f : α → Prop × AVal El × List (Res El)) : Told El := fun args => match d.dec true args with
  | some (x, []) => some ⟨d.enc x, (f x).1, (f x).2.1, (f x).2.2⟩
  | _ => none

theorem tell_ok {α : Type} {d : Cd El α} {f : α → Prop × AVal El × List (Res El)} {Φ : Tell El → Prop} (h : ∀ x, Φ ⟨d.enc x, (f x).1, (f x).2.1, (f x).2.2⟩) {args : List (AVal El)} {y : Tell El} (hy : tell d f args = some y) : ReadsAs args y.args ∧ Φ y := by
  unfold tell at hy
  split at hy
  · rename_i x hx
    cases hy
    refine ⟨fun L I w E vs hr => ?_, h x⟩
    have := d.reads _ _ _ _ hx L I w E vs hr
    simpa using this
  · cases hy

/-- A contract over plain data holds. -/
theorem tell_ctr {c : Cx El} {Γ : FuncId → Option (GSpec El)} {spec : Nat → Option (St El → LSpec El)} (hΓ : ∀ f g, Γ f = some g → GOk c f g) {f : FuncId} {fn : Func} {code : Code} (hfn : c.P.funcs[f]? = some fn) (hb : fn.body = some code)
    (henter : ∀ args w, (callFunc f args).run c.P w = .ok (.enter f args) w) {α : Type} {d : Cd El α} {t : α → Prop × AVal El × List (Res El)} {n : Nat}
    (h : ∀ x, (t x).1 → aexecF cnd c Γ spec n fn code (d.enc x) [] (fun y R => y = (t x).2.1 ∧ matchR R (t x).2.2)) : GOk c f (ctr (tell d t)) :=
  ctr_ok hΓ hfn hb henter (n := n) (fun args y hy => tell_ok (Φ := fun y => y.pre → aexecF cnd c Γ spec n fn code y.args [] (fun x R => x = y.val ∧ matchR R y.res)) h hy)

/-- The same, with loops that are told by the data. -/
theorem tell_ctr' {c : Cx El} {Γ : FuncId → Option (GSpec El)} (hΓ : ∀ f g, Γ f = some g → GOk c f g) {f : FuncId} {fn : Func} {code : Code} (hfn : c.P.funcs[f]? = some fn) (hb : fn.body = some code)
    (henter : ∀ args w, (callFunc f args).run c.P w = .ok (.enter f args) w) {α : Type} {d : Cd El α} {t : α → Prop × AVal El × List (Res El)}
    (h : ∀ x, (t x).1 → ∃ spec n, aexecF cnd c Γ spec n fn code (d.enc x) [] (fun y R => y = (t x).2.1 ∧ matchR R (t x).2.2)) : GOk c f (ctr (tell d t)) :=
  ctr_ok' hΓ hfn hb henter (fun args y hy => tell_ok (Φ := fun y => y.pre → ∃ spec n, aexecF cnd c Γ spec n fn code y.args [] (fun x R => x = y.val ∧ matchR R y.res)) h hy)

/-- A layout made of codes. -/
def layOf (cd : (t : TypeId) → Cd El (El t)) (sz : TypeId → Nat) (dflt : (t : TypeId) → El t) (h : ∀ t x, ((cd t).enc x).length = sz t) : Lay El where
  sz := sz
  enc t x := (cd t).enc x
  dec t cs := match (cd t).dec false cs with
    | some (x, []) => some x
    | _ => none
  dflt := dflt
  enc_len := h
  dec_enc t cs x hd := by
    split at hd
    · rename_i h1; cases hd
      have := (cd t).strict _ _ _ h1
      simpa using this.symm
    · cases hd

/-- No contract. -/
def noΓ : FuncId → Option (GSpec El) := fun _ => none
theorem noΓ_ok {c : Cx El} : ∀ f g, (noΓ : FuncId → Option (GSpec El)) f = some g → GOk c f g := fun f g h => by cases h
/-- One contract more. -/
def addΓ (Γ : FuncId → Option (GSpec El)) (f : FuncId) (g : GSpec El) : FuncId → Option (GSpec El) := fun f' => match Nat.decEq f' f with
  | .isTrue _ => some g
  | .isFalse _ => Γ f'
theorem addΓ_ok {c : Cx El} {Γ : FuncId → Option (GSpec El)} {f : FuncId} {g : GSpec El} (hΓ : ∀ f g, Γ f = some g → GOk c f g) (h : GOk c f g) : ∀ f' g', addΓ Γ f g f' = some g' → GOk c f' g' := by
  intro f' g' hf
  unfold addΓ at hf
  split at hf
  · rename_i e _; cases hf; subst e; exact h
  · exact hΓ f' g' hf
/-- The first few operations' names for loops that are told. -/
def noSpec : Nat → Option (St El → LSpec El) := fun _ => none
def oneSpec (k : Nat) (S : St El → LSpec El) : Nat → Option (St El → LSpec El) := fun k' => match Nat.decEq k' k with
  | .isTrue _ => some S
  | .isFalse _ => none
def addSpec (s : Nat → Option (St El → LSpec El)) (k : Nat) (S : St El → LSpec El) : Nat → Option (St El → LSpec El) := fun k' => match Nat.decEq k' k with
  | .isTrue _ => some S
  | .isFalse _ => s k'
end Go.Ax
