/- A verified symbolic executor, part 18: calls carried out in place. Over any program; the facts on its types are given with it. -/
import Derived.Test.YtbadejabphdkiaaAx17
set_option linter.unusedVariables false
set_option linter.unusedSimpArgs false
namespace Go.Ax
variable {El : TypeId → Type}

mutual
/-- The names that a value mentions, as bits. -/
def namesA : AVal El → Nat
  | .ptr r _ => 2 ^ r
  | .eptr r _ _ _ => 2 ^ r
  | .cs r _ _ => 2 ^ r
  | .vec r => 2 ^ r
  | .mapr r => 2 ^ r
  | .fn _ l => namesL l
  | .agg l => namesL l
  | .tup l => namesL l
  | _ => 0
def namesL : List (AVal El) → Nat
  | [] => 0
  | a :: l => namesA a ||| namesL l
end
/-- The names that the resources of a set mention. -/
def namesR (m : Nat) : Nat → List (Res El) → Nat
  | _, [] => 0
  | i, .cells _ cs :: l => if m.testBit i = true then namesL cs ||| namesR m (i + 1) l else namesR m (i + 1) l
  | i, _ :: l => namesR m (i + 1) l
def reachN (R : List (Res El)) : Nat → Nat → Nat
  | 0, m => m
  | n + 1, m => reachN R n (m ||| namesR m 0 R)

/-- The resources of a set, 'n' places long. -/
def restR (m : Nat) : Nat → Nat → List (Res El) → List (Res El)
  | 0, _, _ => []
  | n + 1, i, [] => .dead :: restR m n (i + 1) []
  | n + 1, i, x :: R => (if m.testBit i = true then x else .dead) :: restR m n (i + 1) R

theorem lenR_rest (m n i : Nat) (R : List (Res El)) : lenR (restR m n i R) = n := by
  induction n generalizing i R with
  | zero => rfl
  | succ n ih => cases R <;> simp [restR, lenR, ih]
theorem getR_rest {m n i r : Nat} {R : List (Res El)} (h : getR (restR m n i R) r ≠ .dead) : getR (restR m n i R) r = getR R r ∧ r < n := by
  induction n generalizing i R r with
  | zero => simp [restR, getR] at h
  | succ n ih =>
    cases R with
    | nil =>
      simp only [restR] at h ⊢
      cases r with
      | zero => simp [getR] at h
      | succ r => simp only [getR] at h ⊢; obtain ⟨h1, h2⟩ := ih h; rw [h1]; exact ⟨by simp [getR], by omega⟩
    | cons x R =>
      simp only [restR] at h ⊢
      cases r with
      | zero =>
        simp only [getR] at h ⊢
        by_cases hb : m.testBit i = true
        · rw [if_pos hb]; exact ⟨rfl, by omega⟩
        · rw [if_neg hb] at h; exact absurd rfl h
      | succ r => simp only [getR] at h ⊢; obtain ⟨h1, h2⟩ := ih h; exact ⟨h1, by omega⟩

/-- What became of the resources of the first list, and the new ones. -/
def updNew : Nat → List (Res El) → List (Nat × Res El)
  | _, [] => []
  | i, x :: R => (i, x) :: updNew (i + 1) R
def updFrom : Nat → List (Res El) → List (Res El) → List (Nat × Res El)
  | i, [], R' => updNew i R'
  | i, x :: R0, y :: R' => match isDead x with
    | true => updFrom (i + 1) R0 R'
    | false => (i, y) :: updFrom (i + 1) R0 R'
  | _, _ :: _, [] => []

theorem dom_cons {u : Nat × Res El} {us : List (Nat × Res El)} {r : Nat} : Dom (u :: us) r ↔ r = u.1 ∨ Dom us r := by
  obtain ⟨n, x⟩ := u
  constructor
  · rintro ⟨y, hy⟩
    rcases List.mem_cons.1 hy with hy | hy
    · cases hy; exact .inl rfl
    · exact .inr ⟨y, hy⟩
  · rintro (rfl | ⟨y, hy⟩)
    · exact ⟨x, List.mem_cons_self ..⟩
    · exact ⟨y, List.mem_cons_of_mem _ hy⟩

theorem updNew_spec (i : Nat) (R : List (Res El)) : (∀ r, Dom (updNew i R) r ↔ i ≤ r ∧ r < i + lenR R) ∧ ∀ r, Dom (updNew i R) r → ∀ X, getR (updR X (updNew i R)) r = getR R (r - i) := by
  induction R generalizing i with
  | nil => exact ⟨fun r => ⟨fun ⟨x, h⟩ => by simp [updNew] at h, fun h => by simp [lenR] at h; omega⟩, fun r ⟨x, h⟩ => by simp [updNew] at h⟩
  | cons x R ih =>
    obtain ⟨h1, h2⟩ := ih (i + 1)
    have hd : ∀ r, Dom (updNew i (x :: R)) r ↔ i ≤ r ∧ r < i + lenR (x :: R) := fun r => by
      simp only [updNew, dom_cons, h1, lenR]; omega
    refine ⟨hd, fun r hr X => ?_⟩
    simp only [updNew, updR]
    by_cases hri : r = i
    · subst hri
      rw [getR_updR_not (by rw [h1]; omega), getR_setR, if_pos rfl, Nat.sub_self]; rfl
    · have hr' := (hd r).1 hr
      rw [h2 r (by rw [h1]; simp only [lenR] at hr'; omega), show r - i = (r - (i + 1)) + 1 from by omega]; rfl

theorem updFrom_spec (i : Nat) (R0 R' : List (Res El)) (hl : lenR R0 ≤ lenR R') : (∀ r, Dom (updFrom i R0 R') r ↔ i ≤ r ∧ r < i + lenR R' ∧ (r < i + lenR R0 → getR R0 (r - i) ≠ .dead)) ∧
    ∀ r, Dom (updFrom i R0 R') r → ∀ X, getR (updR X (updFrom i R0 R')) r = getR R' (r - i) := by
  induction R0 generalizing i R' with
  | nil =>
    obtain ⟨h1, h2⟩ := updNew_spec i R'
    exact ⟨fun r => by simp only [updFrom, h1, lenR]; exact ⟨fun h => ⟨h.1, h.2, fun h' => by omega⟩, fun h => ⟨h.1, h.2.1⟩⟩, fun r hr X => h2 r hr X⟩
  | cons x R0 ih =>
    cases R' with
    | nil => simp [lenR] at hl
    | cons y R' =>
      obtain ⟨h1, h2⟩ := ih (i + 1) R' (by simpa [lenR] using hl)
      cases hx : isDead x with
      | true =>
        have hx' : x = .dead := by cases x <;> simp [isDead] at hx ⊢
        have hd : ∀ r, Dom (updFrom i (x :: R0) (y :: R')) r ↔ i ≤ r ∧ r < i + lenR (y :: R') ∧ (r < i + lenR (x :: R0) → getR (x :: R0) (r - i) ≠ .dead) := fun r => by
          simp only [updFrom, hx, h1, lenR]
          by_cases hri : r = i
          · subst hri
            simp [getR, hx']; omega
          · constructor
            · rintro ⟨k1, k2, k3⟩
              refine ⟨by omega, by omega, fun k => ?_⟩
              rw [show r - i = (r - (i + 1)) + 1 from by omega]
              exact k3 (by omega)
            · rintro ⟨k1, k2, k3⟩
              refine ⟨by omega, by omega, fun k => ?_⟩
              have := k3 (by omega)
              rwa [show r - i = (r - (i + 1)) + 1 from by omega] at this
        refine ⟨hd, fun r hr X => ?_⟩
        simp only [updFrom, hx] at hr ⊢
        have := (h1 r).1 hr
        rw [h2 r hr, show r - i = (r - (i + 1)) + 1 from by omega]; rfl
      | false =>
        have hx' : x ≠ .dead := by rintro rfl; simp [isDead] at hx
        have hd : ∀ r, Dom (updFrom i (x :: R0) (y :: R')) r ↔ i ≤ r ∧ r < i + lenR (y :: R') ∧ (r < i + lenR (x :: R0) → getR (x :: R0) (r - i) ≠ .dead) := fun r => by
          simp only [updFrom, hx, dom_cons, h1, lenR]
          by_cases hri : r = i
          · subst hri
            simp [getR, hx']
          · constructor
            · rintro (k | ⟨k1, k2, k3⟩)
              · exact absurd k hri
              refine ⟨by omega, by omega, fun k => ?_⟩
              rw [show r - i = (r - (i + 1)) + 1 from by omega]
              exact k3 (by omega)
            · rintro ⟨k1, k2, k3⟩
              refine .inr ⟨by omega, by omega, fun k => ?_⟩
              have := k3 (by omega)
              rwa [show r - i = (r - (i + 1)) + 1 from by omega] at this
        refine ⟨hd, fun r hr X => ?_⟩
        simp only [updFrom, hx] at hr ⊢
        simp only [updR]
        by_cases hri : r = i
        · subst hri
          rw [getR_updR_not (by rw [h1]; omega), getR_setR, if_pos rfl, Nat.sub_self]; rfl
        · have hr' : Dom (updFrom (i + 1) R0 R') r := by
            rcases dom_cons.1 hr with h | h
            · exact absurd h hri
            · exact h
          have := (h1 r).1 hr'
          rw [h2 r hr', show r - i = (r - (i + 1)) + 1 from by omega]; rfl

section defs
variable (c : Cx El) (Γ : FuncId → Option (GSpec El))
/-- A call carried out in place. -/
def inl (n : Nat) (fn : Func) (code : Code) : GSpec El := fun args R base =>
  let m := reachN R 4 (namesL args)
  let R0 := restR m base 0 R
  match refsL base args && refsR base R0 with
  | true => (texecF c Γ n fn code args R0).bind fun y => .leaf (y.1, updFrom 0 R0 y.2)
  | false => .fail
end defs

theorem HR.le {L : Lay El} {I : Nat → Prop} {w : World} {E E' : Env} {R : List (Res El)} (h : HR L I w E R) (hE : E.le E') : HR L I w E' R := by
  have back : ∀ r e, getR R r ≠ .dead → E' r = some e → E r = some e := fun r e hr he => by
    obtain ⟨e', h1, _⟩ := h.res r hr
    have := hE r e' h1
    rw [he] at this; cases this; exact h1
  refine ⟨fun r hr => ?_, fun r r' e e' b h1 h2 h3 h4 h5 h6 => h.apart r r' e e' b h1 h2 (back r e h1 h3) (back r' e' h2 h4) h5 h6, fun b hb => h.notI b ?_, h.old⟩
  · obtain ⟨e, h1, h2⟩ := h.res r hr
    exact ⟨e, hE r e h1, h2.keep (fun _ h => h) (fun _ _ => rfl) hE (fun _ _ _ => rfl)⟩
  · obtain ⟨r, e, h1, h2, h3⟩ := hb
    exact ⟨r, e, h1, back r e h1 h2, h3⟩

/-- A call that was shown over some of the resources and the names below 'base' alone. -/
theorem back_frame {c : Cx El} {I I' : Nat → Prop} {E E1 : Env} {w w' : World} {R R0 R' : List (Res El)} {base : Nat} {x : AVal El} {v : Value} (hr : HR c.L I w E R) (hlen : lenR R0 = base)
    (hR : ∀ r, getR R0 r ≠ .dead → getR R0 r = getR R r) (hb : Back c I (E.cut base) R0 w x R' v w' I' E1) (hfree : ∀ r y, (r, y) ∈ updFrom 0 R0 R' → base ≤ r → E r = none) :
    ∃ E', Post c.L I E R w base (updFrom 0 R0 R') x v w' I' E' := by
  obtain ⟨u1, u2⟩ := updFrom_spec 0 R0 R' hb.len
  have hcut : ∀ r, r < base → E.cut base r = E r := fun r h => by unfold Env.cut; rw [if_pos h]
  have hnew : ∀ r, base ≤ r → r < lenR R' → E r = none := fun r h1 h2 => by
    obtain ⟨y, hy⟩ := (u1 r).2 ⟨Nat.zero_le _, by omega, fun h => by omega⟩
    exact hfree r y hy h1
  let E' : Env := fun r => if r < lenR R' then E1 r else E r
  have hlow : ∀ r, r < base → E1 r = E r := fun r h => (hb.same r (by omega)).trans (hcut r h)
  have hE1 : E1.le E' := fun r e he => by
    show (if r < lenR R' then E1 r else E r) = some e
    rcases Nat.lt_or_ge r (lenR R') with h | h
    · rw [if_pos h]; exact he
    · rw [hb.free r h] at he; cases he
  have hEE : E.le E' := fun r e he => by
    show (if r < lenR R' then E1 r else E r) = some e
    rcases Nat.lt_or_ge r (lenR R') with h | h
    · rw [if_pos h]
      rcases Nat.lt_or_ge r base with h' | h'
      · rw [hlow r h']; exact he
      · rw [hnew r h' h] at he; cases he
    · rw [if_neg (by omega)]; exact he
  -- fewer resources than the call left
  have hless : ∀ r, getR (updR R0 (updFrom 0 R0 R')) r ≠ .dead → getR (updR R0 (updFrom 0 R0 R')) r = getR R' r := fun r hd => by
    by_cases hdom : Dom (updFrom 0 R0 R') r
    · rw [u2 r hdom]; rfl
    · rw [getR_updR_not hdom] at hd
      have hlt : r < lenR R0 := by
        rcases Nat.lt_or_ge r (lenR R0) with h | h
        · exact h
        · exact absurd (getR_ge h) hd
      refine absurd ((u1 r).2 ⟨Nat.zero_le _, ?_, fun _ => hd⟩) hdom
      have := hb.len; omega
  have hr1 := (hb.hr.less hless).le hE1
  have own : ∀ b, Own (E.cut base) R0 b → Own E R0 b := by
    rintro b ⟨r, e, h1, h2, h3⟩
    exact ⟨r, e, h1, E.cut_le base r e h2, h3⟩
  have ownNew : ∀ b, Own E' (updR R0 (updFrom 0 R0 R')) b → Own E1 R' b := by
    rintro b ⟨r, e, h1, h2, h3⟩
    have h4 := hless r h1
    have h5 : getR R' r ≠ .dead := by rw [← h4]; exact h1
    obtain ⟨e', h6, _⟩ := hb.hr.res r h5
    have := hE1 r e' h6
    rw [h2] at this; cases this
    exact ⟨r, e, h5, h6, h3⟩
  have hpost : Post c.L I E R0 w base (updFrom 0 R0 R') x v w' I' E' := by
    refine ⟨⟨hb.ext.imm, hEE, hb.ext.fr.weaken own, fun b h => (hb.ext.immOld b h).imp id (Or.imp (own b) id), fun b h => (hb.ext.ownOld b (ownNew b h)).imp (own b) id⟩, hr1, ?_, fun r hn => ?_⟩
    · exact hb.rep.mono (fun _ h => h) (fun _ _ => rfl) hE1
    · show (if r < lenR R' then E1 r else E r) = E r
      rcases Nat.lt_or_ge r (lenR R') with h | h
      · rw [if_pos h]
        rcases Nat.lt_or_ge r base with h' | h'
        · exact hlow r h'
        · obtain ⟨y, hy⟩ := (u1 r).2 ⟨Nat.zero_le _, by omega, fun h => by omega⟩
          have := hn y hy; omega
      · rw [if_neg (by omega)]
  refine ⟨E', hr.frame hR hpost (fun r hd => ?_)⟩
  have hd' := (u1 r).1 hd
  rcases Nat.lt_or_ge r base with h | h
  · exact .inr (by have := hd'.2.2 (by omega); simpa using this)
  · obtain ⟨y, hy⟩ := hd
    exact .inl ⟨h, hfree r y hy h⟩

theorem inl_ok {c : Cx El} {Γ : FuncId → Option (GSpec El)} (hΓ : ∀ f g, Γ f = some g → GOk c f g) {f : FuncId} {fn : Func} {code : Code} (hfn : c.P.funcs[f]? = some fn) (hb : fn.body = some code)
    (henter : ∀ args w, (callFunc f args).run c.P w = .ok (.enter f args) w) (n : Nat) : GOk c f (inl c Γ n fn code) := by
  refine ⟨henter, fun args R base y ho I E w vals hargs hr hfree => ?_⟩
  simp only [inl] at ho
  split at ho
  · rename_i hg
    simp only [Bool.and_eq_true] at hg
    rw [Tree.out_bind] at ho
    obtain ⟨⟨x, R'⟩, h1, h2⟩ := ho
    simp only [Tree.Out] at h2; subst h2
    have hR : ∀ r, getR (restR (reachN R 4 (namesL args)) base 0 R) r ≠ .dead → getR (restR (reachN R 4 (namesL args)) base 0 R) r = getR R r := fun r h => (getR_rest h).1
    have hr0 := hr.cutE hR (fun r h => (getR_rest h).2) hg.2
    refine Calls.mono (texecF_ok hΓ hfn hb h1 (hargs.cutE hg.1) hr0 (fun r h => ?_)) ?_
    · rw [lenR_rest] at h
      unfold Env.cut; rw [if_neg (by omega)]
    · rintro e w' ⟨v, I', E1, rfl, hback⟩
      obtain ⟨E', hp⟩ := back_frame hr (lenR_rest _ _ _ _) hR hback hfree
      exact ⟨v, I', E', rfl, hp⟩
  · exact ho.elim
end Go.Ax
