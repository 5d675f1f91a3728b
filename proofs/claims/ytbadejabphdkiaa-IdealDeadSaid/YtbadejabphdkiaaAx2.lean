/- A verified symbolic executor, part 2: trees of outcomes, and the ways in which the abstract state and the world move together. No program in sight; no condition. -/
import Derived.Test.YtbadejabphdkiaaAx1
set_option linter.unusedVariables false
set_option linter.unusedSimpArgs false
namespace Go.Ax

/-- A tree of outcomes: 'node' asks a truth value, 'need' asks for a proof. -/
inductive Tree (X : Type) : Type
  | leaf (x : X)
  | node (b : Bool) (t e : Tree X)
  | need (p : Prop) (t : Tree X)
  | fail

def Tree.bind {X Y : Type} : Tree X → (X → Tree Y) → Tree Y
  | .leaf x, f => f x
  | .node b t e, f => .node b (t.bind f) (e.bind f)
  | .need p t, f => .need p (t.bind f)
  | .fail, _ => .fail

/-- 'x' is what the tree comes to. -/
def Tree.Out {X : Type} : Tree X → X → Prop
  | .leaf x, y => x = y
  | .node b t e, y => (b = true ∧ t.Out y) ∨ (b = false ∧ e.Out y)
  | .need p t, y => p ∧ t.Out y
  | .fail, _ => False

/-- What is to be proved so that the tree comes to something in 'K'. 'C' asks a truth value. -/
def Tree.wp {X : Type} (C : Bool → Prop → Prop → Prop) : Tree X → (X → Prop) → Prop
  | .leaf x, K => K x
  | .node b t e, K => C b (t.wp C K) (e.wp C K)
  | .need p t, K => p ∧ t.wp C K
  | .fail, _ => False

def cnd (b : Bool) (A B : Prop) : Prop := match b with | true => A | false => B
theorem cnd_intro {b : Bool} {A B : Prop} (h : b = true → A) (h' : b = false → B) : cnd b A B := by
  cases b
  · exact h' rfl
  · exact h rfl
theorem cnd_elim {b : Bool} {A B : Prop} (h : cnd b A B) : (b = true ∧ A) ∨ (b = false ∧ B) := by
  cases b
  · exact .inr ⟨rfl, h⟩
  · exact .inl ⟨rfl, h⟩

theorem Tree.out_of_wp {X : Type} {t : Tree X} {K : X → Prop} (h : t.wp cnd K) : ∃ x, t.Out x ∧ K x := by
  induction t with
  | leaf x => exact ⟨x, rfl, h⟩
  | node b t e iht ihe =>
    rcases cnd_elim h with ⟨hb, h⟩ | ⟨hb, h⟩
    · obtain ⟨x, h1, h2⟩ := iht h; exact ⟨x, .inl ⟨hb, h1⟩, h2⟩
    · obtain ⟨x, h1, h2⟩ := ihe h; exact ⟨x, .inr ⟨hb, h1⟩, h2⟩
  | need p t ih =>
    obtain ⟨x, h1, h2⟩ := ih h.2
    exact ⟨x, ⟨h.1, h1⟩, h2⟩
  | fail => exact h.elim

theorem Tree.out_bind {X Y : Type} {t : Tree X} {f : X → Tree Y} {y : Y} : (t.bind f).Out y ↔ ∃ x, t.Out x ∧ (f x).Out y := by
  induction t with
  | leaf x => exact ⟨fun h => ⟨x, rfl, h⟩, fun ⟨x', h1, h2⟩ => by cases h1; exact h2⟩
  | node b t e iht ihe =>
    constructor
    · rintro (⟨hb, h⟩ | ⟨hb, h⟩)
      · obtain ⟨x, h1, h2⟩ := iht.1 h; exact ⟨x, .inl ⟨hb, h1⟩, h2⟩
      · obtain ⟨x, h1, h2⟩ := ihe.1 h; exact ⟨x, .inr ⟨hb, h1⟩, h2⟩
    · rintro ⟨x, (⟨hb, h1⟩ | ⟨hb, h1⟩), h2⟩
      · exact .inl ⟨hb, iht.2 ⟨x, h1, h2⟩⟩
      · exact .inr ⟨hb, ihe.2 ⟨x, h1, h2⟩⟩
  | need p t ih =>
    constructor
    · rintro ⟨hp, h⟩
      obtain ⟨x, h1, h2⟩ := ih.1 h
      exact ⟨x, ⟨hp, h1⟩, h2⟩
    · rintro ⟨x, ⟨hp, h1⟩, h2⟩
      exact ⟨hp, ih.2 ⟨x, h1, h2⟩⟩
  | fail => exact ⟨fun h => h.elim, fun ⟨_, h, _⟩ => h.elim⟩

theorem Tree.out_unique {X : Type} {t : Tree X} {x y : X} (h : t.Out x) (h' : t.Out y) : x = y := by
  induction t with
  | leaf z => cases h; cases h'; rfl
  | node b t e iht ihe =>
    rcases h with ⟨hb, h⟩ | ⟨hb, h⟩
    · rcases h' with ⟨hb', h'⟩ | ⟨hb', h'⟩
      · exact iht h h'
      · rw [hb] at hb'; cases hb'
    · rcases h' with ⟨hb', h'⟩ | ⟨hb', h'⟩
      · rw [hb] at hb'; cases hb'
      · exact ihe h h'
  | need p t ih => exact ih h.2 h'.2
  | fail => exact h.elim

/-- From an option. -/
def Tree.ofO {X : Type} : Option X → Tree X
  | some x => .leaf x
  | none => .fail
theorem Tree.out_ofO {X : Type} {o : Option X} {x : X} : (Tree.ofO o).Out x ↔ o = some x := by
  cases o with
  | none => exact ⟨fun h => h.elim, fun h => by cases h⟩
  | some y => exact ⟨fun h => by cases h; rfl, fun h => by cases h; rfl⟩

variable {El : TypeId → Type}

def Env.put (E : Env) (r : Nat) (e : REnv) : Env := fun r' => if r' = r then some e else E r'
theorem Env.put_same (E : Env) (r : Nat) (e : REnv) : E.put r e r = some e := by simp [Env.put]
theorem Env.put_ne (E : Env) {r r' : Nat} (e : REnv) (h : r' ≠ r) : E.put r e r' = E r' := by simp [Env.put, h]
theorem Env.le_put {E : Env} {r : Nat} {e : REnv} (h : E r = none) : E.le (E.put r e) := by
  intro r' e' he
  by_cases hr : r' = r
  · subst hr; rw [h] at he; cases he
  · rw [Env.put_ne E e hr]; exact he

section moves
variable {L : Lay El} {I : Nat → Prop} {E : Env} {R : List (Res El)} {w w' : World}

/-- What stands behind one operation: the new state, what it yields, and that only new resources are named anew. -/
structure Post (L : Lay El) (I : Nat → Prop) (E : Env) (R : List (Res El)) (w : World) (base : Nat) (upd : List (Nat × Res El)) (a : AVal El) (v : Value) (w' : World)
    (I' : Nat → Prop) (E' : Env) : Prop where
  ext : Ext I E R w I' E' (updR R upd) w'
  hr : HR L I' w' E' (updR R upd)
  rep : Rep L I' w' E' a v
  names : ∀ r, (∀ x, (r, x) ∈ upd → r < base) → E' r = E r

/-- A new resource. -/
theorem HR.add (h : HR L I w E R) {base : Nat} (hb : E base = none) (e : REnv) (x : Res El) (hf : Fr (fun _ => False) w w') (hx : HRes L I w' (E.put base e) e x)
    (hn : ∀ b, e.blk = some b → w.heap.size ≤ b) :
    HR L I w' (E.put base e) (setR R base x) ∧ Ext I E R w I (E.put base e) (setR R base x) w' := by
  have hd : getR R base = .dead := by
    cases hg : getR R base with
    | dead => rfl
    | cells t cs => obtain ⟨e', h1, _⟩ := h.res base (by rw [hg]; simp); rw [hb] at h1; cases h1
    | vec t xs => obtain ⟨e', h1, _⟩ := h.res base (by rw [hg]; simp); rw [hb] at h1; cases h1
    | mapS k t m => obtain ⟨e', h1, _⟩ := h.res base (by rw [hg]; simp); rw [hb] at h1; cases h1
    | mapC cs => obtain ⟨e', h1, _⟩ := h.res base (by rw [hg]; simp); rw [hb] at h1; cases h1
  have hle := Env.le_put (e := e) hb
  have own : ∀ b, Own (E.put base e) (setR R base x) b → Own E R b ∨ w.heap.size ≤ b := by
    rintro b ⟨r, e', h1, h2, h3⟩
    rw [getR_setR] at h1
    by_cases hr : r = base
    · subst hr
      rw [Env.put_same] at h2; cases h2
      exact .inr (hn b h3)
    · rw [if_neg hr] at h1
      rw [Env.put_ne E e hr] at h2
      exact .inl ⟨r, e', h1, h2, h3⟩
  refine ⟨⟨?_, ?_, ?_, ?_⟩, ⟨fun _ h => h, hle, hf.weaken (fun _ h => h.elim), fun _ h => .inl h, own⟩⟩
  · intro r hr
    rw [getR_setR] at hr ⊢
    by_cases hrb : r = base
    · subst hrb
      rw [if_pos rfl]
      exact ⟨e, Env.put_same _ _ _, hx⟩
    · rw [if_neg hrb] at hr ⊢
      obtain ⟨e', h1, h2⟩ := h.res r hr
      exact ⟨e', hle _ _ h1, h2.keep (fun _ h => h) (fun b hb => hf.block b (h.old b hb) id) hle (fun b _ hlt => hf.block b hlt id)⟩
  · intro r r' e1 e2 b h1 h2 h3 h4 h5 h6
    rw [getR_setR] at h1 h2
    by_cases hr : r = base
    · by_cases hr' : r' = base
      · exact hr.trans hr'.symm
      · rw [if_neg hr'] at h2
        rw [Env.put_ne E e hr'] at h4
        subst hr
        rw [Env.put_same] at h3; cases h3
        have := h.own_lt ⟨r', e2, h2, h4, h6⟩
        have := hn b h5
        omega
    · by_cases hr' : r' = base
      · rw [if_neg hr] at h1
        rw [Env.put_ne E e hr] at h3
        subst hr'
        rw [Env.put_same] at h4; cases h4
        have := h.own_lt ⟨r, e1, h1, h3, h5⟩
        have := hn b h6
        omega
      · rw [if_neg hr] at h1
        rw [if_neg hr'] at h2
        rw [Env.put_ne E e hr] at h3
        rw [Env.put_ne E e hr'] at h4
        exact h.apart r r' e1 e2 b h1 h2 h3 h4 h5 h6
  · intro b hb hI
    rcases own b hb with ho | ho
    · exact h.notI b ho hI
    · have := h.old b hI; omega
  · exact fun b hb => Nat.lt_of_lt_of_le (h.old b hb) hf.size

/-- A resource gets new contents, in its own block. -/
theorem HR.write (h : HR L I w E R) {r : Nat} {e : REnv} {b : Nat} (hr : getR R r ≠ .dead) (he : E r = some e) (hb : e.blk = some b) (x : Res El) (hxd : x ≠ .dead)
    (hos : w'.os = w.os) (htape : w'.tape = w.tape) (hout : w'.output = w.output) (hsize : w'.heap.size = w.heap.size) (hblk : ∀ k, k ≠ b → w'.heap[k]? = w.heap[k]?)
    (hx : HRes L I w' E e x) : HR L I w' E (setR R r x) ∧ Ext I E R w I E (setR R r x) w' := by
  have hown : Own E R b := ⟨r, e, hr, he, hb⟩
  have own : ∀ k, Own E (setR R r x) k → Own E R k := by
    rintro k ⟨r', e', h1, h2, h3⟩
    rw [getR_setR] at h1
    by_cases hrr : r' = r
    · subst hrr
      rw [he] at h2; cases h2
      exact ⟨r', e, hr, he, h3⟩
    · rw [if_neg hrr] at h1
      exact ⟨r', e', h1, h2, h3⟩
  have hI : ∀ k, I k → w'.heap[k]? = w.heap[k]? := fun k hk => hblk k (fun hkb => h.notI b hown (hkb ▸ hk))
  refine ⟨⟨?_, ?_, fun k hk => h.notI k (own k hk), fun k hk => by rw [hsize]; exact h.old k hk⟩,
    ⟨fun _ h => h, Env.le_refl _, ⟨hos, htape, hout, Nat.le_of_eq hsize.symm, fun k _ hk => hblk k (fun hkb => hk (hkb ▸ hown))⟩, fun _ h => .inl h, fun k hk => .inl (own k hk)⟩⟩
  · intro r' hr'
    rw [getR_setR] at hr' ⊢
    by_cases hrr : r' = r
    · rw [if_pos hrr]; subst hrr; exact ⟨e, he, hx⟩
    · rw [if_neg hrr] at hr' ⊢
      obtain ⟨e', h1, h2⟩ := h.res r' hr'
      exact ⟨e', h1, h2.keep (fun _ h => h) hI (Env.le_refl _) (fun k hk _ => hblk k (fun hkb => hrr (h.apart r' r e' e b hr' hr h1 he (hkb ▸ hk) hb)))⟩
  · intro r1 r2 e1 e2 k h1 h2 h3 h4 h5 h6
    rw [getR_setR] at h1 h2
    have g : ∀ r', (if r' = r then x else getR R r') ≠ .dead → getR R r' ≠ .dead := by
      intro r' hd
      by_cases hrr : r' = r
      · subst hrr; exact hr
      · rwa [if_neg hrr] at hd
    exact h.apart r1 r2 e1 e2 k (g r1 h1) (g r2 h2) h3 h4 h5 h6

/-- A resource is let go; its block may be frozen for good. -/
theorem HR.kill (h : HR L I w E R) {r : Nat} {e : REnv} (hr : getR R r ≠ .dead) (he : E r = some e) (I' : Nat → Prop) (hI : ∀ b, I b → I' b)
    (hI' : ∀ b, I' b → I b ∨ e.blk = some b) :
    HR L I' w E (setR R r .dead) ∧ Ext I E R w I' E (setR R r .dead) w := by
  have own : ∀ k, Own E (setR R r .dead) k → Own E R k ∧ e.blk ≠ some k := by
    rintro k ⟨r', e', h1, h2, h3⟩
    rw [getR_setR] at h1
    by_cases hrr : r' = r
    · rw [if_pos hrr] at h1; exact absurd rfl h1
    · rw [if_neg hrr] at h1
      exact ⟨⟨r', e', h1, h2, h3⟩, fun hk => hrr (h.apart r' r e' e k h1 hr h2 he h3 hk)⟩
  refine ⟨⟨?_, ?_, ?_, ?_⟩, ⟨hI, Env.le_refl _, Fr.refl _ _, ?_, fun k hk => .inl (own k hk).1⟩⟩
  · intro r' hr'
    rw [getR_setR] at hr' ⊢
    by_cases hrr : r' = r
    · rw [if_pos hrr] at hr'; exact absurd rfl hr'
    · rw [if_neg hrr] at hr' ⊢
      obtain ⟨e', h1, h2⟩ := h.res r' hr'
      exact ⟨e', h1, h2.keep hI (fun _ _ => rfl) (Env.le_refl _) (fun _ _ _ => rfl)⟩
  · intro r1 r2 e1 e2 k h1 h2 h3 h4 h5 h6
    rw [getR_setR] at h1 h2
    have g : ∀ r', (if r' = r then Res.dead else getR R r') ≠ .dead → getR R r' ≠ .dead := by
      intro r' hd
      by_cases hrr : r' = r
      · subst hrr; exact hr
      · rwa [if_neg hrr] at hd
    exact h.apart r1 r2 e1 e2 k (g r1 h1) (g r2 h2) h3 h4 h5 h6
  · intro k hk hIk
    obtain ⟨h1, h2⟩ := own k hk
    rcases hI' k hIk with h3 | h3
    · exact h.notI k h1 h3
    · exact h2 h3
  · intro k hk
    rcases hI' k hk with h3 | h3
    · exact h.old k h3
    · exact h.own_lt ⟨r, e, hr, he, h3⟩
  · intro k hk
    rcases hI' k hk with h3 | h3
    · exact .inl h3
    · exact .inr (.inl ⟨r, e, hr, he, h3⟩)

theorem Fr.drew (w : World) : Fr (fun _ => False) w w.drew := ⟨rfl, rfl, rfl, Nat.le_refl _, fun _ _ _ => rfl⟩
theorem Fr.alloc (w : World) (o : Obj) : Fr (fun _ => False) w (w.alloc o) :=
  ⟨rfl, rfl, rfl, by simp, fun b hb _ => by simp only [World.alloc, Array.getElem?_push, Nat.ne_of_lt hb, if_false]⟩
theorem heap_alloc_new (w : World) (o : Obj) : (w.alloc o).heap[w.heap.size]? = some o := by simp only [World.alloc, Array.getElem?_push, if_true]

/-- A new block of cells. -/
theorem HR.addCells (h : HR L I w E R) {base : Nat} (hb : E base = none) (t : TypeId) {cs : List (AVal El)} {vs : List Value} (hr : Reps L I w E cs vs) (h1 : ∀ v ∈ vs, v.oneCell' = true) :
    Post L I E R w base [(base, .cells t cs)] (.ptr base 0) (.pointer (some ⟨w.heap.size, 0, none⟩)) (w.alloc (.cells vs.toArray t)) I (E.put base ⟨some w.heap.size, undef⟩) := by
  have hf := Fr.alloc w (.cells vs.toArray t)
  have hle := Env.le_put (E := E) (r := base) (e := ⟨some w.heap.size, undef⟩) hb
  obtain ⟨g1, g2⟩ := h.add hb ⟨some w.heap.size, undef⟩ (.cells t cs) hf
    ⟨w.heap.size, vs, rfl, heap_alloc_new w _, hr.mono (fun _ h => h) (fun b hb => hf.block b (h.old b hb) id) hle, h1⟩ (fun b hb => by cases hb; exact Nat.le_refl _)
  exact ⟨g2, g1, .ptr (Env.put_same _ _ _), fun r hr => Env.put_ne _ _ (fun e => absurd (hr (.cells t cs) (by rw [e]; simp)) (by omega))⟩

/-- Nothing moved. -/
theorem HR.still (h : HR L I w E R) {base : Nat} {a : AVal El} {v : Value} (hr : Rep L I w E a v) : Post L I E R w base [] a v w I E :=
  ⟨Ext.refl, h, hr, fun _ _ => rfl⟩
end moves
end Go.Ax
