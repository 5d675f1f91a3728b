/- A verified symbolic executor, part 24: functions from plain data to plain data: what they are given and what they hand back is read as data, for good. Over any program; no condition. -/
import Derived.Test.YtbadejabphdkiaaAx22
set_option linter.unusedVariables false
set_option linter.unusedSimpArgs false
namespace Go.Ax
variable {El : TypeId → Type}

mutual
/-- A value for good: vectors are read as lists; what has a name is let go. -/
def settleA (R : List (Res El)) : AVal El → AVal El
  | .vec r => match getR R r with
    | .vec t xs => .list t xs
    | _ => .top
  | .ptr _ _ => .top
  | .eptr _ _ _ _ => .top
  | .cs _ _ _ => .top
  | .mapr _ => .top
  | .fn f l => .fn f (settleL R l)
  | .agg l => .agg (settleL R l)
  | .tup l => .tup (settleL R l)
  | a => a
def settleL (R : List (Res El)) : List (AVal El) → List (AVal El)
  | [] => []
  | a :: l => settleA R a :: settleL R l
end
def appN : List Nat → List Nat → List Nat
  | [], l => l
  | a :: k, l => a :: appN k l
mutual
/-- The vectors that a value mentions. -/
def vecsA (R : List (Res El)) : AVal El → List Nat
  | .vec r => match getR R r with
    | .vec _ _ => [r]
    | _ => []
  | .fn _ l => vecsL R l
  | .agg l => vecsL R l
  | .tup l => vecsL R l
  | _ => []
def vecsL (R : List (Res El)) : List (AVal El) → List Nat
  | [] => []
  | a :: l => appN (vecsA R a) (vecsL R l)
end
theorem appN_eq (k l : List Nat) : appN k l = k ++ l := by
  induction k with
  | nil => rfl
  | cons a k ih => simp [appN, ih]
theorem settleL_eq (R : List (Res El)) (l : List (AVal El)) : settleL R l = l.map (settleA R) := by
  induction l with
  | nil => rfl
  | cons a l ih => simp [settleL, ih]
theorem mem_vecsL {R : List (Res El)} {l : List (AVal El)} {r : Nat} : r ∈ vecsL R l ↔ ∃ a ∈ l, r ∈ vecsA R a := by
  induction l with
  | nil => simp [vecsL]
  | cons a l ih => simp [vecsL, appN_eq, ih]

mutual
theorem vecsA_live {R : List (Res El)} {r : Nat} : ∀ a : AVal El, r ∈ vecsA R a → getR R r ≠ .dead
  | .vec r', h => by
    simp only [vecsA] at h
    split at h
    · rename_i t xs hg
      simp at h; subst h
      rw [hg]; simp
    · simp at h
  | .fn _ l, h => vecsL_live l h
  | .agg l, h => vecsL_live l h
  | .tup l, h => vecsL_live l h
  | .top, h | .bool _, h | .int _ _, h | .str _, h | .nilp, h | .nilf, h | .nilm, h | .nils, h | .anyb, h | .ptr _ _, h | .eptr _ _ _ _, h | .lptr _ _ _ _ _, h | .cs _ _ _, h | .list _ _, h | .mapr _, h => by simp [vecsA] at h
theorem vecsL_live {R : List (Res El)} {r : Nat} : ∀ l : List (AVal El), r ∈ vecsL R l → getR R r ≠ .dead
  | [], h => by simp [vecsL] at h
  | a :: l, h => by
    simp only [vecsL, appN_eq, List.mem_append] at h
    exact h.elim (vecsA_live a) (vecsL_live l)
end

def killU : List Nat → List (Nat × Res El)
  | [] => []
  | r :: l => (r, .dead) :: killU l

section
variable {L : Lay El} {I : Nat → Prop} {w : World} {E : Env} {R : List (Res El)}

/-- A vector, its block frozen, is a list. -/
theorem vec_list {J : Nat → Prop} {E' : Env} {e : REnv} {t : TypeId} {xs : List (El t)} (h : HRes L I w E e (.vec t xs)) (hJ : ∀ b, e.blk = some b → J b) : Rep L J w E' (.list t xs) e.raw := by
  rcases h with ⟨g1, rfl, a, g3⟩ | ⟨b, cap, cells, vals, g1, g2, g3, g4, g5, g6, g7⟩
  · rw [g3]; exact .listNil
  · rw [g2]
    refine .list (hJ b g1) g4 rfl g3 vals (fun i j hi hj => ?_) (fun i x hx j q hq => (g7 i x hx j q hq).mono (fun _ h => h.elim) (fun _ h => h.elim) (Env.le_refl _))
    simpa using g6 i j hi hj

theorem settle_ok {J : Nat → Prop} {E' : Env} {a : AVal El} {v : Value} (hr : HR L I w E R) (h : Rep L I w E a v) (hI : ∀ b, I b → J b) (hJ : ∀ r ∈ vecsA R a, ∀ e b, E r = some e → e.blk = some b → J b) : Rep L J w E' (settleA R a) v := by
  induction h with
  | top => exact .top
  | bool => exact .bool
  | int => exact .int
  | str => exact .str
  | nilp => exact .nilp
  | nilf => exact .nilf
  | nilm => exact .nilm
  | nils => exact .nils
  | anyb => exact .anyb
  | ptr h => exact .top
  | eptr h => exact .top
  | lptr hi hb hh vals hc hr' ih => exact .lptr hi (hI _ hb) hh vals hc (fun i x hx j c hj => (hr' i x hx j c hj).mono hI (fun _ _ => rfl) (Env.le_refl _))
  | cs h => exact .top
  | fn hl h ih =>
    simp only [settleA, settleL_eq]
    refine .fn (by simpa using hl) (fun i c v hc hv => ?_)
    rw [List.getElem?_map] at hc
    obtain ⟨a, ha, rfl⟩ := Option.map_eq_some_iff.1 hc
    exact ih i a v ha hv hr (fun r hr' => hJ r (mem_vecsL.2 ⟨a, List.mem_of_getElem? ha, hr'⟩))
  | listNil => exact .listNil
  | list hb hh h1 h2 vals hc hr' ih => exact .list (hI _ hb) hh h1 h2 vals hc (fun i x hx j c hj => (hr' i x hx j c hj).mono hI (fun _ _ => rfl) (Env.le_refl _))
  | @vec E r e he h1 =>
    simp only [settleA]
    split
    · rename_i t xs hg
      obtain ⟨e', k1, k2⟩ := hr.res r (by rw [hg]; simp)
      rw [he] at k1; cases k1
      rw [hg] at k2
      exact vec_list k2 (fun b hb => hJ r (by simp [vecsA, hg]) e b he hb)
    · exact .top
  | mapr h => exact .top
  | agg hl h h1 ih =>
    simp only [settleA, settleL_eq]
    refine .agg (by simpa using hl) (fun i c v hc hv => ?_) h1
    rw [List.getElem?_map] at hc
    obtain ⟨a, ha, rfl⟩ := Option.map_eq_some_iff.1 hc
    exact ih i a v ha hv hr (fun r hr' => hJ r (mem_vecsL.2 ⟨a, List.mem_of_getElem? ha, hr'⟩))
  | tup hl h ih =>
    simp only [settleA, settleL_eq]
    refine .tup (by simpa using hl) (fun i c v hc hv => ?_)
    rw [List.getElem?_map] at hc
    obtain ⟨a, ha, rfl⟩ := Option.map_eq_some_iff.1 hc
    exact ih i a v ha hv hr (fun r hr' => hJ r (mem_vecsL.2 ⟨a, List.mem_of_getElem? ha, hr'⟩))

theorem settleL_ok {J : Nat → Prop} {E' : Env} {as : List (AVal El)} {vs : List Value} (hr : HR L I w E R) (h : Reps L I w E as vs) (hI : ∀ b, I b → J b) (hJ : ∀ r ∈ vecsL R as, ∀ e b, E r = some e → e.blk = some b → J b) : Reps L J w E' (settleL R as) vs := by
  rw [settleL_eq]
  refine ⟨by simpa using h.len, fun i c v hc hv => ?_⟩
  rw [List.getElem?_map] at hc
  obtain ⟨a, ha, rfl⟩ := Option.map_eq_some_iff.1 hc
  exact settle_ok hr (h.at_ i a v ha hv) hI (fun r hr' => hJ r (mem_vecsL.2 ⟨a, List.mem_of_getElem? ha, hr'⟩))

/-- Some vectors are given up for good. -/
theorem kill_ok (hr : HR L I w E R) (ns : List Nat) : ∃ I0 : Nat → Prop, Ext I E R w I0 E (updR R (killU ns)) w ∧ HR L I0 w E (updR R (killU ns)) ∧ (∀ b, I0 b → I b ∨ ∃ r ∈ ns, ∃ e, E r = some e ∧ e.blk = some b) ∧
    (∀ r ∈ ns, getR R r ≠ .dead → ∀ e b, E r = some e → e.blk = some b → I0 b) := by
  induction ns generalizing I R with
  | nil => exact ⟨I, Ext.refl, hr, fun b h => .inl h, fun r h => by simp at h⟩
  | cons r ns ih =>
    by_cases hd : getR R r = .dead
    · have hcong : HR L I w E (setR R r .dead) := hr.congr (fun r' => by
        rw [getR_setR]
        split
        · rename_i h; subst h; exact hd.symm
        · rfl)
      have hext : Ext I E R w I E (setR R r .dead) w := ⟨fun _ h => h, Env.le_refl _, Fr.refl _ _, fun _ h => .inl h, fun k ⟨r', e, h1, h2, h3⟩ => by
        rw [getR_setR] at h1
        split at h1
        · exact absurd rfl h1
        · exact .inl ⟨r', e, h1, h2, h3⟩⟩
      obtain ⟨I0, k1, k2, k3, k4⟩ := ih hcong
      refine ⟨I0, hext.trans k1, k2, fun b hb => (k3 b hb).imp id (fun ⟨r', h1, h2⟩ => ⟨r', List.mem_cons_of_mem _ h1, h2⟩), fun r' hr' hne e b he hb => ?_⟩
      rcases List.mem_cons.1 hr' with rfl | hr'
      · exact absurd hd hne
      · by_cases hrr : r' = r
        · subst hrr; exact absurd hd hne
        · exact k4 r' hr' (by rw [getR_setR, if_neg hrr]; exact hne) e b he hb
    · obtain ⟨e, he, hh⟩ := hr.res r hd
      obtain ⟨h1, h2⟩ := hr.kill hd he (fun b => I b ∨ e.blk = some b) (fun b hb => .inl hb) (fun b hb => hb)
      obtain ⟨I0, k1, k2, k3, k4⟩ := ih h1
      refine ⟨I0, h2.trans k1, k2, fun b hb => ?_, fun r' hr' hne e' b he' hb => ?_⟩
      · rcases k3 b hb with (h | h) | ⟨r', g1, g2⟩
        · exact .inl h
        · exact .inr ⟨r, by simp, e, he, h⟩
        · exact .inr ⟨r', List.mem_cons_of_mem _ g1, g2⟩
      · by_cases hrr : r' = r
        · subst hrr
          rw [he] at he'; cases he'
          exact k1.imm b (.inr hb)
        · rcases List.mem_cons.1 hr' with h | hr'
          · exact absurd h hrr
          · exact k4 r' hr' (by rw [getR_setR, if_neg hrr]; exact hne) e' b he' hb

theorem HR.growI {I1 : Nat → Prop} {w' : World} (h : HR L I w E R) (hf : Fr (fun _ => False) w w') (hI : ∀ b, I b → I1 b) (hI' : ∀ b, I1 b → I b ∨ w.heap.size ≤ b) (hlt : ∀ b, I1 b → b < w'.heap.size) : HR L I1 w' E R where
  res r hr := by
    obtain ⟨e, h1, h2⟩ := h.res r hr
    exact ⟨e, h1, h2.keep hI (fun b hb => hf.block b (h.old b hb) id) (Env.le_refl _) (fun b _ hlt => hf.block b hlt id)⟩
  apart := h.apart
  notI b ho hI1 := by
    rcases hI' b hI1 with h1 | h1
    · exact h.notI b ho h1
    · have := h.own_lt ho; omega
  old := hlt
end

/-- What a function hands back, as a list of values. -/
def rd {β : Type} (e : Cd El β) (a : AVal El) (Q : β → Prop) : Prop := match a with
  | .tup [_] => False
  | .tup l => match e.dec true l with
    | some (b, []) => Q b
    | _ => False
  | a => match e.dec true [a] with
    | some (b, []) => Q b
    | _ => False

theorem rd_ok {β : Type} {e : Cd El β} {a : AVal El} {Q : β → Prop} (h : rd e a Q) {L : Lay El} {I : Nat → Prop} {w : World} {E : Env} {v : Value} (hr : Rep L I w E a v) : ∃ b, Q b ∧ Rep L I w E (one (e.enc b)) v := by
  have single : ∀ a' : AVal El, (match e.dec true [a'] with | some (b, []) => Q b | _ => False) → Rep L I w E a' v → ∃ b, Q b ∧ Rep L I w E (one (e.enc b)) v := by
    intro a' h hr
    split at h
    · rename_i b hb
      have := e.reads _ _ _ _ hb L I w E [v] (Reps.cons hr Reps.nil)
      rw [List.append_nil] at this
      refine ⟨b, h, ?_⟩
      have hl := this.len
      match hx : e.enc b, hl with
      | [x], _ => rw [hx] at this; exact this.at_ 0 x v rfl rfl
      | [], hl => simp at hl
      | _ :: _ :: _, hl => simp at hl
    · exact h.elim
  cases a with
  | tup l =>
    unfold rd at h
    split at h
    · exact h.elim
    · rename_i a' l' hne heq
      cases heq
      split at h
      · rename_i b hb
        cases hr with
        | tup hl hh =>
          have this' := e.reads _ _ _ _ hb L I w E _ ⟨hl, hh⟩
          rw [List.append_nil] at this'
          refine ⟨b, h, ?_⟩
          have hlen := this'.len
          have : one (e.enc b) = .tup (e.enc b) := by
            match hx : e.enc b with
            | [] => rfl
            | [x] =>
              exfalso
              rw [hx] at hlen
              match l, hl with
              | [y], _ => exact hne y rfl
              | [], hl => simp at hl hlen; omega
              | _ :: _ :: _, hl => simp at hl hlen; omega
            | _ :: _ :: _ => rfl
          rw [this]
          exact .tup hlen this'.at_
      · exact h.elim
    · rename_i h1 h2; exact absurd rfl (h2 l)
  | _ => exact single _ h hr

section
variable {c : Cx El}

/-- A contract from data to data. -/
def plain {α β : Type} (d : Cd El α) (e : Cd El β) (pre : α → Prop) (f : α → β) : GSpec El := fun args R base => match d.dec true (settleL R args) with
  | some (x, []) => match vecsL R args with
    | [] => .need (pre x) (.leaf (one (e.enc (f x)), []))
    | ns => match looseL (e.enc (f x)) with
      | true => .need (pre x) (.leaf (one (e.enc (f x)), []))
      | false => .need (pre x) (.leaf (one (e.enc (f x)), killU ns))
  | _ => .fail

theorem looseB_one {l : List (AVal El)} (h : looseL l = true) : looseB (one l) = true := by
  match l with
  | [] => rfl
  | [a] => simpa [looseL, one] using h
  | _ :: _ :: _ => exact h

/-- What stands when a call on data has come back. -/
theorem plain_call {Γ : FuncId → Option (GSpec El)} (hΓ : ∀ f g, Γ f = some g → GOk c f g) {f : FuncId} {fn : Func} {code : Code} (hfn : c.P.funcs[f]? = some fn) (hb : fn.body = some code)
    {α β : Type} {d : Cd El α} {e : Cd El β} {g : α → β} {x : α} {spec : Nat → Option (St El → LSpec El)} {n : Nat}
    (h : aexecF cnd c Γ spec n fn code (d.enc x) [] (fun y R => rd e (settleA R y) (fun b => b = g x))) {I : Nat → Prop} {w : World} {vals : List Value} (hold : ∀ b, I b → b < w.heap.size) (hargs : Reps c.L I w noE (d.enc x) vals) :
    Calls c.P f vals.toArray w fun en w' => ∃ v I', en = .returned v ∧ Fr (fun _ => False) w w' ∧ (∀ b, I b → I' b) ∧ (∀ b, I' b → I b ∨ w.heap.size ≤ b) ∧ (∀ b, I' b → b < w'.heap.size) ∧ Rep c.L I' w' noE (one (e.enc (g x))) v := by
  have hr0 : HR c.L I w noE ([] : List (Res El)) := ⟨fun r h => absurd rfl h, fun r _ _ _ _ h => absurd rfl h, fun b ⟨r, e, h1, _⟩ => absurd rfl h1, hold⟩
  refine (aexecF_ok hΓ hfn hb h hargs hr0 (fun r _ => rfl)).mono ?_
  rintro en w' ⟨v, y, R', I1, E1, rfl, hK, hk⟩
  have hfr : Fr (fun _ => False) w w' := hk.ext.fr.weaken (fun b ⟨r, e, h1, _⟩ => absurd rfl h1)
  have hset := settle_ok (J := fun b => I1 b ∨ Own E1 R' b) (E' := noE) hk.hr hk.rep (fun b hb => .inl hb) (fun r hr' e b he hb => by
    exact .inr ⟨r, e, vecsA_live _ hr', he, hb⟩)
  obtain ⟨b, rfl, hrep⟩ := rd_ok hK hset
  refine ⟨v, _, rfl, hfr, fun b hb => .inl (hk.ext.imm b hb), fun b hb => ?_, fun b hb => ?_, hrep⟩
  · rcases hb with hb | hb
    · rcases hk.ext.immOld b hb with h | ⟨r, e, h1, _⟩ | h
      · exact .inl h
      · exact absurd rfl h1
      · exact .inr h
    · rcases hk.ext.ownOld b hb with ⟨r, e, h1, _⟩ | h
      · exact absurd rfl h1
      · exact .inr h
  · rcases hb with hb | hb
    · exact hk.hr.old b hb
    · exact hk.hr.own_lt hb

theorem plain_ok {Γ : FuncId → Option (GSpec El)} (hΓ : ∀ f g, Γ f = some g → GOk c f g) {f : FuncId} {fn : Func} {code : Code} (hfn : c.P.funcs[f]? = some fn) (hb : fn.body = some code)
    (henter : ∀ args w, (callFunc f args).run c.P w = .ok (.enter f args) w) {α β : Type} {d : Cd El α} {e : Cd El β} {pre : α → Prop} {g : α → β}
    (h : ∀ x, pre x → ∃ spec n, aexecF cnd c Γ spec n fn code (d.enc x) [] (fun y R => rd e (settleA R y) (fun b => b = g x))) : GOk c f (plain d e pre g) := by
  refine ⟨henter, fun args R base y ho I E w vals hargs hr hfree => ?_⟩
  unfold plain at ho
  split at ho
  · rename_i x hx
    have base' : ∀ (I0 : Nat → Prop), (∀ b, I0 b → b < w.heap.size) → (∀ b, I b → I0 b) → (∀ r ∈ vecsL R args, ∀ e b, E r = some e → e.blk = some b → I0 b) → pre x →
        Calls c.P f vals.toArray w fun en w' => ∃ v I', en = .returned v ∧ Fr (fun _ => False) w w' ∧ (∀ b, I0 b → I' b) ∧ (∀ b, I' b → I0 b ∨ w.heap.size ≤ b) ∧ (∀ b, I' b → b < w'.heap.size) ∧ Rep c.L I' w' noE (one (e.enc (g x))) v := by
      intro I0 h1 h2 h3 hp
      obtain ⟨spec, n, hx'⟩ := h x hp
      have hs : Reps c.L I0 w noE (settleL R args) vals := settleL_ok hr hargs h2 h3
      have := d.reads _ _ _ _ hx c.L I0 w noE vals hs
      rw [List.append_nil] at this
      exact plain_call hΓ hfn hb hx' h1 this
    have loose : looseL (e.enc (g x)) = true → pre x → y = (one (e.enc (g x)), []) → Calls c.P f vals.toArray w fun e w' => ∃ v I' E', e = .returned v ∧ Post c.L I E R w base y.2 y.1 v w' I' E' := by
      intro hl hp hy
      subst hy
      refine (base' (fun b => I b ∨ Own E R b) (fun b hb => hb.elim (hr.old b) hr.own_lt) (fun b hb => .inl hb) (fun r hr' e b he hb => ?_) hp).mono ?_
      · exact .inr ⟨r, e, vecsL_live _ hr', he, hb⟩
      · rintro en w' ⟨v, I', rfl, k1, k2, k3, k4, k5⟩
        exact ⟨v, I, E, rfl, Ext.grow k1, hr.grow k1, (k5.loose (looseB_one hl)).mono (fun _ h => h) (fun _ _ => rfl) (fun r e he => by cases he), fun r _ => rfl⟩
    split at ho
    · rename_i hv
      obtain ⟨hp, ho⟩ := ho
      simp only [Tree.Out] at ho
      have hy := ho.symm
      subst hy
      refine (base' I hr.old (fun _ h => h) (fun r hr' => by rw [hv] at hr'; simp at hr') hp).mono ?_
      rintro en w' ⟨v, I', rfl, k1, k2, k3, k4, k5⟩
      refine ⟨v, I', E, rfl, ⟨k2, Env.le_refl _, k1.weaken (fun _ h => h.elim), fun b hb => ?_, fun b hb => .inl hb⟩, hr.growI k1 k2 k3 k4, k5.mono (fun _ h => h) (fun _ _ => rfl) (fun r e he => by cases he), fun r _ => rfl⟩
      exact (k3 b hb).imp id .inr
    · rename_i ns hv
      split at ho
      · rename_i hl
        obtain ⟨hp, ho⟩ := ho
        exact loose hl hp ho.symm
      · obtain ⟨hp, ho⟩ := ho
        simp only [Tree.Out] at ho
        have hy := ho.symm
        subst hy
        obtain ⟨I0, q1, q2, q3, q4⟩ := kill_ok hr (vecsL R args)
        refine (base' I0 q2.old q1.imm (fun r hr' e b he hb => ?_) hp).mono ?_
        · exact q4 r hr' (vecsL_live _ hr') e b he hb
        · rintro en w' ⟨v, I', rfl, k1, k2, k3, k4, k5⟩
          have e2 : Ext I0 E (updR R (killU (vecsL R args))) w I' E (updR R (killU (vecsL R args))) w' := ⟨k2, Env.le_refl _, k1.weaken (fun _ h => h.elim), fun b hb => (k3 b hb).imp id .inr, fun b hb => .inl hb⟩
          exact ⟨v, I', E, rfl, q1.trans e2, q2.growI k1 k2 k3 k4, k5.mono (fun _ h => h) (fun _ _ => rfl) (fun r e he => by cases he), fun r _ => rfl⟩
  · exact ho.elim

/-- What a function hands back, as a vector of its own. -/
def rdV (t : TypeId) (R : List (Res El)) (y : AVal El) (Q : List (El t) → Prop) : Prop := match y with
  | .nils => Q []
  | .vec r => match getR R r with
    | .vec t' xs => match Nat.decEq t' t with
      | .isTrue h => Q (h ▸ xs)
      | .isFalse _ => False
    | _ => False
  | _ => False

/-- A contract from data to a vector of the caller's own. -/
def freshV {α : Type} (d : Cd El α) (t : TypeId) (pre : α → Prop) (f : α → List (El t)) : GSpec El := fun args R base => match d.dec true (settleL R args) with
  | some (x, []) => .need (pre x) (.leaf (.vec base, [(base, .vec t (f x))]))
  | _ => .fail

theorem freshV_ok {Γ : FuncId → Option (GSpec El)} (hΓ : ∀ f g, Γ f = some g → GOk c f g) {f : FuncId} {fn : Func} {code : Code} (hfn : c.P.funcs[f]? = some fn) (hb : fn.body = some code)
    (henter : ∀ args w, (callFunc f args).run c.P w = .ok (.enter f args) w) {α : Type} {d : Cd El α} {t : TypeId} {pre : α → Prop} {g : α → List (El t)}
    (h : ∀ x, pre x → ∃ spec n, aexecF cnd c Γ spec n fn code (d.enc x) [] (fun y R => rdV t R y (fun b => b = g x))) : GOk c f (freshV d t pre g) := by
  refine ⟨henter, fun args R base y ho I E w vals hargs hr hfree => ?_⟩
  unfold freshV at ho
  split at ho
  · rename_i x hx
    obtain ⟨hp, ho⟩ := ho
    simp only [Tree.Out] at ho
    have hy := ho.symm
    subst hy
    have hbase : E base = none := hfree base _ (List.mem_singleton.2 rfl) (Nat.le_refl _)
    obtain ⟨spec, n, hx'⟩ := h x hp
    let I0 : Nat → Prop := fun b => I b ∨ Own E R b
    have hs : Reps c.L I0 w noE (settleL R args) vals := settleL_ok hr hargs (fun b hb => .inl hb) (fun r hr' e b he hb => .inr ⟨r, e, vecsL_live _ hr', he, hb⟩)
    have hd := d.reads _ _ _ _ hx c.L I0 w noE vals hs
    rw [List.append_nil] at hd
    have hr0 : HR c.L I0 w noE ([] : List (Res El)) := ⟨fun r h => absurd rfl h, fun r _ _ _ _ h => absurd rfl h, fun b ⟨r, e, h1, _⟩ => absurd rfl h1, fun b hb => hb.elim (hr.old b) hr.own_lt⟩
    refine (aexecF_ok hΓ hfn hb hx' hd hr0 (fun r _ => rfl)).mono ?_
    rintro en w' ⟨v, z, R', I1, E1, rfl, hK, hk⟩
    have hfr : Fr (fun _ => False) w w' := hk.ext.fr.weaken (fun b ⟨r, e, h1, _⟩ => absurd rfl h1)
    have fin : ∀ e : REnv, v = e.raw → e.raw.oneCell' = true → HRes c.L I w' (E.put base e) e (.vec t (g x)) → (∀ b, e.blk = some b → w.heap.size ≤ b) → ∃ v' I' E', (Ending.returned v : Ending) = .returned v' ∧ Post c.L I E R w base [(base, .vec t (g x))] (.vec base) v' w' I' E' := by
      rintro e rfl h1 h2 h3
      obtain ⟨g1, g2⟩ := hr.add hbase e (.vec t (g x)) hfr h2 h3
      exact ⟨_, I, _, rfl, g2, g1, .vec (Env.put_same _ _ _) h1, fun r hr => Env.put_ne _ _ (fun e' => absurd (hr (.vec t (g x)) (by rw [e']; simp)) (by omega))⟩
    unfold rdV at hK
    split at hK
    · have hrep := hk.rep
      cases hrep
      exact fin ⟨none, .slice none 0 0⟩ rfl rfl (.inl ⟨rfl, hK.symm, none, rfl⟩) (fun b hb => by cases hb)
    · rename_i r
      split at hK
      · rename_i t' xs hg
        split at hK
        · rename_i ht _
          subst ht
          have hK : xs = g x := hK
          subst hK
          have hrep := hk.rep
          cases hrep with
          | vec he h1 =>
            rename_i e
            obtain ⟨e', k1, k2⟩ := hk.hr.res r (by rw [hg]; simp)
            rw [he] at k1; cases k1
            rw [hg] at k2
            exact fin e rfl h1 k2 (fun b hb => by
              rcases hk.ext.ownOld b ⟨r, e, by rw [hg]; simp, he, hb⟩ with ⟨r, e, h1, _⟩ | h
              · exact absurd rfl h1
              · exact h)
        · exact hK.elim
      · exact hK.elim
    · exact hK.elim
  · exact ho.elim
end
end Go.Ax
