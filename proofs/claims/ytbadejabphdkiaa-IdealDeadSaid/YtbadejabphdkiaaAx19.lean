/- A verified symbolic executor, part 19: contracts of functions that are told once and then used by name. Over any program; the facts on its types are given with it. -/
import Derived.Test.YtbadejabphdkiaaAx18
set_option linter.unusedVariables false
set_option linter.unusedSimpArgs false
namespace Go.Ax
variable {El : TypeId → Type}

mutual
/-- All names, 'n' further up. -/
def shiftB (n : Nat) : AVal El → AVal El
  | .ptr r o => .ptr (n + r) o
  | .eptr r s i o => .eptr (n + r) s i o
  | .cs r o m => .cs (n + r) o m
  | .vec r => .vec (n + r)
  | .mapr r => .mapr (n + r)
  | .fn f l => .fn f (shiftL n l)
  | .agg l => .agg (shiftL n l)
  | .tup l => .tup (shiftL n l)
  | a => a
def shiftL (n : Nat) : List (AVal El) → List (AVal El)
  | [] => []
  | a :: l => shiftB n a :: shiftL n l
end
def shiftR (n : Nat) : List (Res El) → List (Res El)
  | [] => []
  | .cells t cs :: l => .cells t (shiftL n cs) :: shiftR n l
  | .mapC cs :: l => .mapC (shiftL n cs) :: shiftR n l
  | x :: l => x :: shiftR n l
mutual
/-- No list that is held fast by its block. -/
def looseB : AVal El → Bool
  | .list _ _ => false
  | .lptr _ _ _ _ _ => false
  | .fn _ l => looseL l
  | .agg l => looseL l
  | .tup l => looseL l
  | _ => true
def looseL : List (AVal El) → Bool
  | [] => true
  | a :: l => looseB a && looseL l
end
def looseR : List (Res El) → Bool
  | [] => true
  | .cells _ cs :: l => looseL cs && looseR l
  | .mapC cs :: l => looseL cs && looseR l
  | _ :: l => looseR l

theorem shiftL_eq (n : Nat) (l : List (AVal El)) : shiftL n l = l.map (shiftB n) := by
  induction l with
  | nil => rfl
  | cons a l ih => simp [shiftL, ih]
theorem lenR_shift (n : Nat) (l : List (Res El)) : lenR (shiftR n l) = lenR l := by
  induction l with
  | nil => rfl
  | cons a l ih => cases a <;> simp [shiftR, lenR, ih]
theorem getR_shift (n : Nat) (l : List (Res El)) (r : Nat) : getR (shiftR n l) r = match getR l r with
    | .cells t cs => .cells t (shiftL n cs)
    | .mapC cs => .mapC (shiftL n cs)
    | x => x := by
  induction l generalizing r with
  | nil => simp [shiftR, getR]
  | cons a l ih => cases r with
    | zero => cases a <;> simp [shiftR, getR]
    | succ r => cases a <;> simp [shiftR, getR, ih]
theorem looseL_at {l : List (AVal El)} (h : looseL l = true) {i : Nat} {a : AVal El} (ha : l[i]? = some a) : looseB a = true := by
  induction l generalizing i with
  | nil => simp at ha
  | cons b l ih =>
    simp only [looseL, Bool.and_eq_true] at h
    cases i with
    | zero => simp at ha; subst ha; exact h.1
    | succ i => simp at ha; exact ih h.2 ha
theorem looseR_at {R : List (Res El)} (h : looseR R = true) {r : Nat} {t : TypeId} {cs : List (AVal El)} (hg : getR R r = .cells t cs) : looseL cs = true := by
  induction R generalizing r with
  | nil => simp [getR] at hg
  | cons x R ih =>
    have h2 : looseR R = true := by
      cases x <;> simp [looseR] at h <;> first | exact h | exact h.2
    cases r with
    | zero => simp [getR] at hg; subst hg; simp [looseR] at h; exact h.1
    | succ r => exact ih h2 hg
theorem looseR_atC {R : List (Res El)} (h : looseR R = true) {r : Nat} {cs : List (AVal El)} (hg : getR R r = .mapC cs) : looseL cs = true := by
  induction R generalizing r with
  | nil => simp [getR] at hg
  | cons x R ih =>
    have h2 : looseR R = true := by
      cases x <;> simp [looseR] at h <;> first | exact h | exact h.2
    cases r with
    | zero => simp [getR] at hg; subst hg; simp [looseR] at h; exact h.1
    | succ r => exact ih h2 hg

section
variable {L : Lay El} {I I' : Nat → Prop} {w w' : World} {E E' : Env}
theorem Rep.loose {a : AVal El} {v : Value} (h : Rep L I w E a v) (hl : looseB a = true) : Rep L I' w' E a v := by
  induction h with
  | top => exact .top
  | bool => exact .bool
  | int => exact .int
  | str => exact .str
  | nilp => exact .nilp
  | nilf => exact .nilf
  | nilm => exact .nilm
  | nils => exact .nils
  | anyb => exact .anyb
  | ptr h => exact .ptr h
  | eptr h => exact .eptr h
  | lptr => simp [looseB] at hl
  | cs h => exact .cs h
  | fn hn h ih => simp only [looseB] at hl; exact .fn hn (fun i c v hc hv => ih i c v hc hv (looseL_at hl hc))
  | listNil => simp [looseB] at hl
  | list => simp [looseB] at hl
  | vec h h1 => exact .vec h h1
  | mapr h => exact .mapr h
  | agg hn h h1 ih => simp only [looseB] at hl; exact .agg hn (fun i c v hc hv => ih i c v hc hv (looseL_at hl hc)) h1
  | tup hn h ih => simp only [looseB] at hl; exact .tup hn (fun i c v hc hv => ih i c v hc hv (looseL_at hl hc))

theorem Rep.shift {n m : Nat} {a : AVal El} {v : Value} (h : Rep L I w E a v) (hb : refsB m a = true) (hE : ∀ r e, r < m → E r = some e → E' (n + r) = some e) : Rep L I w E' (shiftB n a) v := by
  induction h with
  | top => exact .top
  | bool => exact .bool
  | int => exact .int
  | str => exact .str
  | nilp => exact .nilp
  | nilf => exact .nilf
  | nilm => exact .nilm
  | nils => exact .nils
  | anyb => exact .anyb
  | ptr h => exact .ptr (hE _ _ (by simpa [refsB] using hb) h)
  | eptr h => exact .eptr (hE _ _ (by simpa [refsB] using hb) h)
  | lptr hi hI hh vals hc hr ih => exact .lptr hi hI hh vals hc hr
  | cs h => exact .cs (hE _ _ (by simpa [refsB] using hb) h)
  | fn hn h ih =>
    simp only [refsB] at hb
    simp only [shiftB, shiftL_eq]
    refine .fn (by simpa using hn) (fun i c v hc hv => ?_)
    rw [List.getElem?_map, Option.map_eq_some_iff] at hc
    obtain ⟨c', hc', rfl⟩ := hc
    exact ih i c' v hc' hv (refsL_at hb hc') hE
  | listNil => exact .listNil
  | list hI hh h1 h2 vals hc hr ih => exact .list hI hh h1 h2 vals hc hr
  | vec h h1 => exact .vec (hE _ _ (by simpa [refsB] using hb) h) h1
  | mapr h => exact .mapr (hE _ _ (by simpa [refsB] using hb) h)
  | agg hn h h1 ih =>
    simp only [refsB] at hb
    simp only [shiftB, shiftL_eq]
    refine .agg (by simpa using hn) (fun i c v hc hv => ?_) h1
    rw [List.getElem?_map, Option.map_eq_some_iff] at hc
    obtain ⟨c', hc', rfl⟩ := hc
    exact ih i c' v hc' hv (refsL_at hb hc') hE
  | tup hn h ih =>
    simp only [refsB] at hb
    simp only [shiftB, shiftL_eq]
    refine .tup (by simpa using hn) (fun i c v hc hv => ?_)
    rw [List.getElem?_map, Option.map_eq_some_iff] at hc
    obtain ⟨c', hc', rfl⟩ := hc
    exact ih i c' v hc' hv (refsL_at hb hc') hE

theorem Reps.loose {as : List (AVal El)} {vs : List Value} (h : Reps L I w E as vs) (hl : looseL as = true) : Reps L I' w' E as vs :=
  ⟨h.len, fun i c v hc hv => (h.at_ i c v hc hv).loose (looseL_at hl hc)⟩
theorem Reps.shift {n m : Nat} {as : List (AVal El)} {vs : List Value} (h : Reps L I w E as vs) (hb : refsL m as = true) (hE : ∀ r e, r < m → E r = some e → E' (n + r) = some e) : Reps L I w E' (shiftL n as) vs := by
  rw [shiftL_eq]
  refine ⟨by simpa using h.len, fun i c v hc hv => ?_⟩
  rw [List.getElem?_map, Option.map_eq_some_iff] at hc
  obtain ⟨c', hc', rfl⟩ := hc
  exact (h.at_ i c' v hc' hv).shift (refsL_at hb hc') hE
end

/-- Arguments, with vectors lent as lists. -/
def lendA (R : List (Res El)) : AVal El → AVal El
  | .vec r => match getR R r with
    | .vec t xs => .list t xs
    | _ => .top
  | a => a
def lendL (R : List (Res El)) : List (AVal El) → List (AVal El)
  | [] => []
  | a :: l => lendA R a :: lendL R l
/-- The vectors that are lent, as bits. -/
def lentL (R : List (Res El)) : List (AVal El) → Nat
  | [] => 0
  | .vec r :: l => 2 ^ r ||| lentL R l
  | _ :: l => lentL R l

/-- What a contract says of arguments: how they are read, what is to be shown first, what comes back, and what is new. -/
structure Tell (El : TypeId → Type) where
  args : List (AVal El)
  pre : Prop
  val : AVal El
  res : List (Res El)
abbrev Told (El : TypeId → Type) := List (AVal El) → Option (Tell El)

def ctr (s : Told El) : GSpec El := fun args R base =>
  match s (lendL R args) with
  | none => .fail
  | some y => match refsL 0 y.args && refsB (lenR y.res) y.val && refsR (lenR y.res) y.res && (decide (lentL R args = 0) || (looseB y.val && looseR y.res)) with
    | true => .need y.pre (.leaf (shiftB base y.val, updNew base (shiftR base y.res)))
    | false => .fail
/-- Arguments that are read as told stand for the same values. -/
def ReadsAs (as bs : List (AVal El)) : Prop := ∀ (L : Lay El) (I : Nat → Prop) (w : World) (E : Env) (vs : List Value), Reps L I w E as vs → Reps L I w E bs vs

section
variable {c : Cx El}

theorem lend_ok {I : Nat → Prop} {E : Env} {w : World} {R : List (Res El)} {as : List (AVal El)} {vs : List Value} (hr : HR c.L I w E R) (h : Reps c.L I w E as vs) :
    ∃ I0 : Nat → Prop, (∀ b, I b → I0 b) ∧ (∀ b, I0 b → b < w.heap.size) ∧ (lentL R as = 0 → I0 = I) ∧ Reps c.L I0 w E (lendL R as) vs := by
  refine ⟨fun b => I b ∨ (lentL R as ≠ 0 ∧ Own E R b), fun b hb => .inl hb, fun b hb => hb.elim (hr.old b) (fun h => hr.own_lt h.2), fun h0 => ?_, ?_⟩
  · funext b; simp [h0]
  · have key : ∀ {J : Nat → Prop} {bs : List (AVal El)} {us : List Value}, (∀ b, I b → J b) → (lentL R bs ≠ 0 → ∀ b, Own E R b → J b) → Reps c.L I w E bs us → Reps c.L J w E (lendL R bs) us := by
      intro J bs us hIJ hJ hb
      induction bs generalizing us with
      | nil => cases hb.inv_nil; exact Reps.nil
      | cons a bs ih =>
        obtain ⟨v, us', rfl, h1, h2⟩ := hb.inv_cons
        have hJ' : lentL R bs ≠ 0 → ∀ b, Own E R b → J b := fun hne => hJ (fun h0 => hne (by
          cases a <;> simp [lentL] at h0 <;> first | exact h0 | exact h0.2))
        refine Reps.cons ?_ (ih hJ' h2)
        have same : ∀ x : AVal El, Rep c.L I w E x v → Rep c.L J w E x v := fun x hx => hx.mono hIJ (fun _ _ => rfl) (Env.le_refl _)
        cases a with
        | vec r =>
          simp only [lendA]
          split
          · rename_i t xs hg
            cases h1 with
            | vec he h1 =>
              rename_i e
              obtain ⟨e', k1, k2⟩ := hr.res r (by rw [hg]; simp)
              rw [he] at k1; cases k1
              rw [hg] at k2
              have hne : lentL R (.vec r :: bs) ≠ 0 := by
                simp only [lentL]
                intro h0
                have h1 : (2 ^ r ||| lentL R bs).testBit r = false := by rw [h0]; simp
                simp at h1
              rcases k2 with ⟨g1, rfl, a, g3⟩ | ⟨b, cap, cells, vals, g1, g2, g3, g4, g5, g6, g7⟩
              · rw [g3]; exact .listNil
              · rw [g2]
                have hvb := hJ hne b ⟨r, e, by rw [hg]; simp, he, g1⟩
                refine .list hvb g4 rfl g3 vals (fun i j hi hj => ?_) (fun i x hx j q hq => (g7 i x hx j q hq).mono (fun _ h => h.elim) (fun _ h => h.elim) (Env.le_refl _))
                simpa using g6 i j hi hj
          · exact .top
        | _ => exact same _ h1
    exact key (fun b hb => .inl hb) (fun hne b hb => .inr ⟨hne, hb⟩) h

/-- A call that was shown from nothing. -/
theorem back_new {I I0 I1 : Nat → Prop} {E E1 : Env} {w w' : World} {R R1 rs : List (Res El)} {base : Nat} {x : AVal El} {v : Value} (hr : HR c.L I w E R) (hI0 : ∀ b, I b → I0 b)
    (hb : Back c I0 (E.cut 0) [] w x R1 v w' I1 E1) (hm : matchR R1 rs) (hx : refsB (lenR rs) x = true) (hrs : refsR (lenR rs) rs = true) (hlo : I0 = I ∨ (looseB x = true ∧ looseR rs = true))
    (hfree : ∀ r y, (r, y) ∈ updNew base (shiftR base rs) → base ≤ r → E r = none) :
    ∃ I' E', Post c.L I E R w base (updNew base (shiftR base rs)) (shiftB base x) v w' I' E' := by
  obtain ⟨u1, u2⟩ := updNew_spec base (shiftR base rs)
  rw [lenR_shift] at u1
  have hnew : ∀ j, j < lenR rs → E (base + j) = none := fun j hj => by
    obtain ⟨y, hy⟩ := (u1 (base + j)).2 ⟨by omega, by omega⟩
    exact hfree _ y hy (by omega)
  let E' : Env := fun r => if base ≤ r ∧ r < base + lenR rs then E1 (r - base) else E r
  have hEnew : ∀ r e, r < lenR rs → E1 r = some e → E' (base + r) = some e := fun r e hr' he => by
    show (if base ≤ base + r ∧ base + r < base + lenR rs then E1 (base + r - base) else E (base + r)) = some e
    rw [if_pos ⟨by omega, by omega⟩, show base + r - base = r from by omega]; exact he
  have hEE : E.le E' := fun r e he => by
    show (if base ≤ r ∧ r < base + lenR rs then E1 (r - base) else E r) = some e
    by_cases h : base ≤ r ∧ r < base + lenR rs
    · have := hnew (r - base) (by omega)
      rw [show base + (r - base) = r from by omega, he] at this; cases this
    · rw [if_neg h]; exact he
  have hblk : ∀ b, b < w.heap.size → w'.heap[b]? = w.heap[b]? := fun b hlt => hb.ext.fr.block b hlt (by rintro ⟨r, e, h1, _⟩; exact h1 rfl)
  have hfr : Fr (Own E R) w w' := hb.ext.fr.weaken (by rintro b ⟨r, e, h1, _⟩; exact absurd rfl h1)
  have hless : ∀ r, getR rs r ≠ .dead → getR rs r = getR R1 r := fun r h => matchR_at hm h
  have hr1 : HR c.L I1 w' E1 rs := hb.hr.less hless
  -- the later set of blocks that stay
  obtain ⟨I', hI', hII', hImm, hrep, hres⟩ : ∃ I' : Nat → Prop, (∀ b, I' b → I1 b) ∧ (∀ b, I b → I' b) ∧ (∀ b, I' b → I b ∨ w.heap.size ≤ b) ∧ Rep c.L I' w' E' (shiftB base x) v ∧
      (∀ r e, getR rs r ≠ .dead → E1 r = some e → HRes c.L I1 w' E1 e (getR rs r) → HRes c.L I' w' E' e (getR (shiftR base rs) r)) := by
    have low : ∀ b, I1 b → I0 b ∨ w.heap.size ≤ b := fun b h => by
      rcases hb.ext.immOld b h with h | ⟨r, e, h1, _⟩ | h
      · exact .inl h
      · exact absurd rfl h1
      · exact .inr h
    have vecs : ∀ {J : Nat → Prop} {e : REnv} {t : TypeId} {xs : List (El t)}, HRes c.L I1 w' E1 e (.vec t xs) → HRes c.L J w' E' e (.vec t xs) := fun h => h
    rcases hlo with h | ⟨h1, h2⟩
    · refine ⟨I1, fun _ h => h, fun b hb' => hb.ext.imm b (hI0 b hb'), fun b hb' => by rw [← h]; exact low b hb', hb.rep.shift hx hEnew, fun r e hd he hh => ?_⟩
      rw [getR_shift]
      cases hg : getR rs r with
      | dead => exact absurd hg hd
      | vec t xs => rw [hg] at hh; exact vecs hh
      | cells t cs =>
        rw [hg] at hh
        obtain ⟨b, vs, k1, k2, k3, k4⟩ := hh
        exact ⟨b, vs, k1, k2, k3.shift (refsR_at hrs hg) hEnew, k4⟩
      | mapS k t m => rw [hg] at hh; exact hh
      | mapC cs =>
        rw [hg] at hh
        obtain ⟨b, arr, clock, l, k1, k2, k3, k4⟩ := hh
        exact ⟨b, arr, clock, l, k1, k2, k3.shift (refsR_atC hrs hg) hEnew, k4⟩
    · refine ⟨I, fun b hb' => hb.ext.imm b (hI0 b hb'), fun _ h => h, fun _ h => .inl h, (hb.rep.loose h1).shift hx hEnew, fun r e hd he hh => ?_⟩
      rw [getR_shift]
      cases hg : getR rs r with
      | dead => exact absurd hg hd
      | vec t xs => rw [hg] at hh; exact vecs hh
      | cells t cs =>
        rw [hg] at hh
        obtain ⟨b, vs, k1, k2, k3, k4⟩ := hh
        exact ⟨b, vs, k1, k2, (k3.loose (looseR_at h2 hg)).shift (refsR_at hrs hg) hEnew, k4⟩
      | mapS k t m => rw [hg] at hh; exact hh
      | mapC cs =>
        rw [hg] at hh
        obtain ⟨b, arr, clock, l, k1, k2, k3, k4⟩ := hh
        exact ⟨b, arr, clock, l, k1, k2, (k3.loose (looseR_atC h2 hg)).shift (refsR_atC hrs hg) hEnew, k4⟩
  -- what a resource is afterwards
  have split : ∀ r, getR (updR R (updNew base (shiftR base rs))) r ≠ .dead →
      (∃ j, r = base + j ∧ j < lenR rs ∧ getR rs j ≠ .dead ∧ getR (updR R (updNew base (shiftR base rs))) r = getR (shiftR base rs) j) ∨
      (¬ (base ≤ r ∧ r < base + lenR rs) ∧ getR R r ≠ .dead ∧ getR (updR R (updNew base (shiftR base rs))) r = getR R r) := fun r hd => by
    by_cases h : base ≤ r ∧ r < base + lenR rs
    · have h3 := u2 r ((u1 r).2 h) R
      refine .inl ⟨r - base, by omega, by omega, ?_, h3⟩
      intro hdead
      rw [h3, getR_shift, hdead] at hd
      exact hd rfl
    · have h3 := getR_updR_not (us := updNew base (shiftR base rs)) (r := r) (by rw [u1]; exact h) R
      rw [h3] at hd
      exact .inr ⟨h, hd, h3⟩
  have envNew : ∀ j, j < lenR rs → E' (base + j) = E1 j := fun j hj => by
    show (if base ≤ base + j ∧ base + j < base + lenR rs then E1 (base + j - base) else E (base + j)) = E1 j
    rw [if_pos ⟨by omega, by omega⟩, show base + j - base = j from by omega]
  have envOld : ∀ r, ¬ (base ≤ r ∧ r < base + lenR rs) → E' r = E r := fun r h => by
    show (if base ≤ r ∧ r < base + lenR rs then E1 (r - base) else E r) = E r
    rw [if_neg h]
  have ownNew : ∀ b, Own E1 rs b → w.heap.size ≤ b := by
    rintro b ⟨r, e, h1, h2, h3⟩
    rcases hb.ext.ownOld b ⟨r, e, by rw [← hless r h1]; exact h1, h2, h3⟩ with ⟨r', e', k1, _⟩ | h
    · exact absurd rfl k1
    · exact h
  have own : ∀ b, Own E' (updR R (updNew base (shiftR base rs))) b → (∃ r e, getR R r ≠ .dead ∧ E r = some e ∧ e.blk = some b) ∨ Own E1 rs b := by
    rintro b ⟨r, e, h1, h2, h3⟩
    rcases split r h1 with ⟨j, rfl, hj, hd, _⟩ | ⟨hn, hd, _⟩
    · rw [envNew j hj] at h2
      exact .inr ⟨j, e, hd, h2, h3⟩
    · rw [envOld r hn] at h2
      exact .inl ⟨r, e, hd, h2, h3⟩
  refine ⟨I', E', ⟨⟨hII', hEE, hfr, fun b h => (hImm b h).imp id .inr, fun b h => ?_⟩, ⟨?_, ?_, ?_, ?_⟩, hrep, fun r hn => ?_⟩⟩
  · rcases own b h with h | h
    · exact .inl h
    · exact .inr (ownNew b h)
  · intro r hd
    rcases split r hd with ⟨j, rfl, hj, hdj, hg⟩ | ⟨hn, hdr, hg⟩
    · obtain ⟨e, k1, k2⟩ := hr1.res j hdj
      rw [hg]
      exact ⟨e, by rw [envNew j hj]; exact k1, hres j e hdj k1 k2⟩
    · obtain ⟨e, k1, k2⟩ := hr.res r hdr
      rw [hg]
      exact ⟨e, by rw [envOld r hn]; exact k1, k2.keep hII' (fun b hb' => hblk b (hr.old b hb')) hEE (fun b _ hlt => hblk b hlt)⟩
  · intro r r' e e' b h1 h2 h3 h4 h5 h6
    rcases split r h1 with ⟨j, rfl, hj, hdj, _⟩ | ⟨hn, hdr, _⟩
    · rw [envNew j hj] at h3
      rcases split r' h2 with ⟨j', rfl, hj', hdj', _⟩ | ⟨hn', hdr', _⟩
      · rw [envNew j' hj'] at h4
        rw [hr1.apart j j' e e' b hdj hdj' h3 h4 h5 h6]
      · rw [envOld r' hn'] at h4
        have := ownNew b ⟨j, e, hdj, h3, h5⟩
        have := hr.own_lt ⟨r', e', hdr', h4, h6⟩
        omega
    · rw [envOld r hn] at h3
      rcases split r' h2 with ⟨j', rfl, hj', hdj', _⟩ | ⟨hn', hdr', _⟩
      · rw [envNew j' hj'] at h4
        have := ownNew b ⟨j', e', hdj', h4, h6⟩
        have := hr.own_lt ⟨r, e, hdr, h3, h5⟩
        omega
      · rw [envOld r' hn'] at h4
        exact hr.apart r r' e e' b hdr hdr' h3 h4 h5 h6
  · intro b h hI
    rcases own b h with ho | ho
    · rcases hImm b hI with h1 | h1
      · exact hr.notI b ho h1
      · have := hr.own_lt ho; omega
    · exact hr1.notI b ho (hI' b hI)
  · intro b h
    exact hb.hr.old b (hI' b h)
  · refine envOld r (fun h => ?_)
    obtain ⟨y, hy⟩ := (u1 r).2 h
    have := hn y hy
    omega

/-- A contract holds: it was shown of the function's own text. -/
theorem ctr_ok' {Γ : FuncId → Option (GSpec El)} (hΓ : ∀ f g, Γ f = some g → GOk c f g) {f : FuncId} {fn : Func} {code : Code} (hfn : c.P.funcs[f]? = some fn) (hb : fn.body = some code)
    (henter : ∀ args w, (callFunc f args).run c.P w = .ok (.enter f args) w) {s : Told El}
    (h : ∀ args y, s args = some y → ReadsAs args y.args ∧ (y.pre → ∃ spec n, aexecF cnd c Γ spec n fn code y.args [] (fun x R => x = y.val ∧ matchR R y.res))) :
    GOk c f (ctr s) := by
  refine ⟨henter, fun args R base y ho I E w vals hargs hr hfree => ?_⟩
  unfold ctr at ho
  split at ho
  · exact ho.elim
  rename_i z hs
  split at ho
  · rename_i hg
    obtain ⟨hp, ho⟩ := ho
    simp only [Tree.Out] at ho; subst ho
    simp only [Bool.and_eq_true, Bool.or_eq_true, decide_eq_true_eq] at hg
    obtain ⟨⟨⟨g1, g2⟩, g3⟩, g4⟩ := hg
    obtain ⟨I0, k1, k2, k3, k4⟩ := lend_ok hr hargs
    obtain ⟨r1, r2⟩ := h _ _ hs
    have hr0 : HR c.L I0 w (E.cut 0) [] := ⟨fun r h => absurd rfl h, fun r _ _ _ _ h => absurd rfl h, fun b ⟨r, e, h1, _⟩ => absurd rfl h1, k2⟩
    obtain ⟨spec, n, r2⟩ := r2 hp
    refine Calls.mono (aexecF_ok hΓ hfn hb r2 ((r1 _ _ _ _ _ k4).cutE g1) hr0 (fun r _ => by unfold Env.cut; rw [if_neg (by omega)])) ?_
    rintro e w' ⟨v, x', R', I1, E1, rfl, ⟨rfl, hm⟩, hback⟩
    obtain ⟨I', E', hp'⟩ := back_new hr k1 hback hm g2 g3 (g4.imp k3 id) hfree
    exact ⟨v, I', E', rfl, hp'⟩
  · exact ho.elim
theorem ctr_ok {Γ : FuncId → Option (GSpec El)} {spec : Nat → Option (St El → LSpec El)} (hΓ : ∀ f g, Γ f = some g → GOk c f g) {f : FuncId} {fn : Func} {code : Code} (hfn : c.P.funcs[f]? = some fn) (hb : fn.body = some code)
    (henter : ∀ args w, (callFunc f args).run c.P w = .ok (.enter f args) w) {s : Told El} {n : Nat}
    (h : ∀ args y, s args = some y → ReadsAs args y.args ∧ (y.pre → aexecF cnd c Γ spec n fn code y.args [] (fun x R => x = y.val ∧ matchR R y.res))) :
    GOk c f (ctr s) := ctr_ok' hΓ hfn hb henter (fun args y hy => ⟨(h args y hy).1, fun hp => ⟨spec, n, (h args y hy).2 hp⟩⟩)
end
end Go.Ax
