/- A verified symbolic executor, part 15: code, with loops that are told and loops that are unrolled. Over any program; the facts on its types are given with it. -/
import Derived.Test.YtbadejabphdkiaaAx27
set_option linter.unusedVariables false
set_option linter.unusedSimpArgs false
namespace Go.Ax
variable {El : TypeId → Type}

def dstsO : List Oper → List Tmp
  | [] => []
  | o :: os => match o.dst with
    | some d => d :: dstsO os
    | none => dstsO os
def dstsC : Code → List Tmp
  | .region _ ops _ => dstsO ops.toList
  | .seq a b => dstsC a ++ dstsC b
  | .cond _ a b => dstsC a ++ dstsC b
  | .block _ b => dstsC b
  | .loop b => dstsC b
  | _ => []

/-- The number of the first region. -/
def keyOf : Code → Option Nat
  | .region id _ _ => some id
  | .seq a b => match keyOf a with
    | some k => some k
    | none => keyOf b
  | .cond _ a b => match keyOf a with
    | some k => some k
    | none => keyOf b
  | .block _ b => keyOf b
  | .loop b => keyOf b
  | _ => none

/-- Moves alone. -/
def simpleO : List Oper → List (AVal El) → Option (List (AVal El))
  | [], sl => some sl
  | o :: os, sl => match o.guard, o.op with
    | none, .assign x => simpleO os (setT sl o.dst (evA sl x))
    | none, .move x => simpleO os (setT sl o.dst (evA sl x))
    | _, _ => none
def simpleC : Code → List (AVal El) → Option (List (AVal El))
  | .skip, sl => some sl
  | .region _ ops draw, sl => match draw with
    | false => simpleO ops.toList sl
    | true => none
  | .seq a b, sl => match simpleC a sl with
    | some sl' => simpleC b sl'
    | none => none
  | _, _ => none
/-- One of two. -/
def selZ (t : Bool) (x y : Int) : Int := match t with | true => x | false => y
def selB (t x y : Bool) : Bool := match t with | true => x | false => y
def mergeA (t : Bool) : AVal El → AVal El → AVal El
  | .int k x, .int k' y => if k = k' then .int k (selZ t x y) else .top
  | .bool x, .bool y => .bool (selB t x y)
  | _, _ => .top
def mergeS (t : Bool) (sa sb : List (AVal El)) : List Tmp → List (AVal El) → List (AVal El)
  | [], base => base
  | d :: ds, base => mergeS t sa sb ds (setF base d (mergeA t (nth sa d) (nth sb d)))
/-- Two branches of moves, behind one another. -/
def joinS (t : Bool) (a b : Code) (st : St El) : Option (St El) :=
  match simpleC a st.slots with
  | none => none
  | some sa => match simpleC b st.slots with
    | none => none
    | some sb => some ⟨mergeS t sa sb (dstsC a ++ dstsC b) st.slots, st.res⟩

section defs
variable (c : Cx El) (Γ : FuncId → Option (GSpec El))

def isLit : List Oper → Bool
  | [] => false
  | o :: l => match o.op with
    | .insert _ _ _ _ => true
    | _ => isLit l
def aregionX (ops : Array Oper) (draw : Bool) (st : St El) : Tree (St El) :=
  match draw with
  | true => match isLit ops.toList with
    | true => aregionM c Γ ops.toList st
    | false => aregionE c Γ ops.toList st
  | false => aregionL c Γ ops.toList st

/-- Code without a told loop. -/
def texec : Nat → Code → St El → Tree (AEx × St El)
  | 0, _, _ => .fail
  | n + 1, code, st => match code with
    | .region _ ops draw => (aregionX c Γ ops draw st).bind fun st' => forceSt st' fun st' => .leaf (.normal, st')
    | .seq a b => (texec n a st).bind fun y => match y.1 with
      | .normal => texec n b y.2
      | e => .leaf (e, y.2)
    | .cond x a b => match evA st.slots x with
      | .bool t => match joinS t a b st with
        | some st' => forceSt st' fun st' => .leaf (.normal, st')
        | none => .node t (texec n a ⟨setX st.slots x true, st.res⟩) (texec n b ⟨setX st.slots x false, st.res⟩)
      | _ => .fail
    | .block id b => (texec n b st).bind fun y => match y.1 with
      | .exit i => if i = id then .leaf (.normal, y.2) else .leaf (.exit i, y.2)
      | e => .leaf (e, y.2)
    | .loop b => (texec n b st).bind fun y => match y.1 with
      | .normal => texec n (.loop b) y.2
      | e => .leaf (e, y.2)
    | .exit id => .leaf (.exit id, st)
    | .ret => .leaf (.ret, st)
    | .skip => .leaf (.normal, st)
    | .label _ => .leaf (.normal, st)
    | _ => .fail
end defs

/-- Slots that a piece of code does not write. -/
def KeepsC (code : Code) (a a' : Act) : Prop := a'.tmps.size = a.tmps.size ∧ ∀ t, t ∉ dstsC code → a'.tmps[t]? = a.tmps[t]?

theorem mem_dstsO {os : List Oper} {t : Tmp} : t ∈ dstsO os ↔ ∃ o ∈ os, o.dst = some t := by
  induction os with
  | nil => simp [dstsO]
  | cons o os ih =>
    simp only [dstsO]
    cases hd : o.dst with
    | none => simp [ih, hd]
    | some d => simp [ih, hd, eq_comm]

/-- What stands where a piece of code is left. -/
structure Reach (c : Cx El) (code : Code) (I : Nat → Prop) (E : Env) (st : St El) (a : Act) (w : World) (I' : Nat → Prop) (E' : Env) (st' : St El) (a' : Act) (w' : World) : Prop where
  ext : Ext I E st.res w I' E' st'.res w'
  holds : HoldS c I' E' st' a' w'
  keeps : KeepsC code a a'
  names : Names E st E' st'

section proofs
variable {c : Cx El} {Γ : FuncId → Option (GSpec El)} {I I' I'' : Nat → Prop} {E E' E'' : Env} {st st' st'' : St El} {a a' a'' : Act} {w w' w'' : World}

theorem Reach.trans {x y z : Code} (h : Reach c x I E st a w I' E' st' a' w') (h' : Reach c y I' E' st' a' w' I'' E'' st'' a'' w'') (hz : ∀ t, t ∈ dstsC x ∨ t ∈ dstsC y → t ∈ dstsC z) :
    Reach c z I E st a w I'' E'' st'' a'' w'' :=
  ⟨h.ext.trans h'.ext, h'.holds, ⟨h'.keeps.1.trans h.keeps.1, fun t ht => (h'.keeps.2 t (fun hy => ht (hz t (.inr hy)))).trans (h.keeps.2 t (fun hx => ht (hz t (.inl hx))))⟩, h.names.trans h'.names⟩
theorem Reach.weaken {x z : Code} (h : Reach c x I E st a w I' E' st' a' w') (hz : ∀ t, t ∈ dstsC x → t ∈ dstsC z) : Reach c z I E st a w I' E' st' a' w' :=
  ⟨h.ext, h.holds, ⟨h.keeps.1, fun t ht => h.keeps.2 t (fun hx => ht (hz t hx))⟩, h.names⟩
theorem Reach.refl {x : Code} (h : HoldS c I E st a w) : Reach c x I E st a w I E st a w := ⟨Ext.refl, h, ⟨rfl, fun _ _ => rfl⟩, Names.refl⟩

theorem aregionX_ok (hΓ : ∀ f g, Γ f = some g → GOk c f g) {ops : Array Oper} {draw : Bool} {id : Nat} {Q : Exit → Act → World → Prop} (ho : (aregionX c Γ ops draw st).Out st') (h : HoldS c I E st a w)
    (hQ : ∀ a' w' I' E', Reach c (.region id ops draw) I E st a w I' E' st' a' w' → Q .normal a' w') : (Code.region id ops draw).wp c.P Q a w := by
  have keeps : ∀ {a'}, Keeps ops.toList a a' → KeepsC (.region id ops draw) a a' := fun {a'} hk =>
    ⟨hk.1, fun t ht => hk.2 t (fun o ho hd => ht (mem_dstsO.2 ⟨o, ho, hd⟩))⟩
  cases draw with
  | true =>
    unfold aregionX at ho
    simp only at ho
    split at ho
    · exact aregionM_ok ho h (fun a' w' I' E' h1 h2 h3 h4 => hQ a' w' I' E' ⟨h1, h2, keeps h3, h4⟩)
    · exact aregionE_ok hΓ ho h (fun a' w' I' E' h1 h2 h3 h4 => hQ a' w' I' E' ⟨h1, h2, keeps h3, h4⟩)
  | false => exact wp_region_list (aregion_ok hΓ (aregionL_list ho) h (fun a' w' I' E' h1 h2 h3 h4 => hQ a' w' I' E' ⟨h1, h2, keeps h3, h4⟩))

theorem simpleO_region {all : List Oper} {l : List Oper} {pg : Option Nat} {sl sl' : List (AVal El)} {R : List (Res El)} (h : simpleO l sl = some sl') : (aregion c Γ all l pg ⟨sl, R⟩).Out ⟨sl', R⟩ := by
  induction l generalizing sl pg with
  | nil => simp only [simpleO, Option.some.injEq] at h; subst h; rfl
  | cons o os ih =>
    unfold simpleO at h
    split at h
    · rename_i x hg hop
      unfold aregion
      rw [hg]
      simp only [hop, aop]
      exact ih h
    · rename_i x hg hop
      unfold aregion
      rw [hg]
      simp only [hop, aop]
      exact ih h
    · cases h

theorem simpleC_ok (hΓ : ∀ f g, Γ f = some g → GOk c f g) {code : Code} {sl : List (AVal El)} {I : Nat → Prop} {E : Env} {st : St El} {a : Act} {w : World} {Q : Exit → Act → World → Prop} (hs : simpleC code st.slots = some sl) (h : HoldS c I E st a w)
    (hQ : ∀ a' w' I' E', Reach c code I E st a w I' E' ⟨sl, st.res⟩ a' w' → Q .normal a' w') : code.wp c.P Q a w := by
  induction code generalizing I E st a w sl Q with
  | skip => simp only [simpleC, Option.some.injEq] at hs; subst hs; exact wp_skip (hQ a w I E (Reach.refl h))
  | region id ops draw =>
    cases draw with
    | true => simp [simpleC] at hs
    | false =>
      exact wp_region_list (aregion_ok hΓ (pg := none) (simpleO_region hs) h (fun a' w' I' E' h1 h2 h3 h4 => hQ a' w' I' E' ⟨h1, h2, ⟨h3.1, fun t ht => h3.2 t (fun o ho hd => ht (mem_dstsO.2 ⟨o, ho, hd⟩))⟩, h4⟩))
  | seq x y ihx ihy =>
    simp only [simpleC] at hs
    split at hs
    · rename_i sl' h1
      refine wp_seq (ihx h1 h ?_)
      intro a1 w1 I1 E1 hr
      exact ihy hs hr.holds (fun a2 w2 I2 E2 hr2 => hQ a2 w2 I2 E2 (hr.trans hr2 (fun t ht => List.mem_append.2 ht)))
    · cases hs
  | _ => simp [simpleC] at hs

theorem mergeA_ok {L : Lay El} {t : Bool} {x y : AVal El} {v : Value} (h : if t = true then Rep L I w E x v else Rep L I w E y v) : Rep L I w E (mergeA t x y) v := by
  unfold mergeA
  split
  · split
    · rename_i hk; subst hk; cases t <;> simpa [selZ] using h
    · exact .top
  · cases t <;> simpa [selB] using h
  · exact .top

theorem length_mergeS (t : Bool) (sa sb : List (AVal El)) (ds : List Tmp) (base : List (AVal El)) : (mergeS t sa sb ds base).length = base.length := by
  induction ds generalizing base with
  | nil => rfl
  | cons d ds ih => simp [mergeS, ih, setF_eq]
theorem nth_mergeS (t : Bool) (sa sb : List (AVal El)) (ds : List Tmp) (base : List (AVal El)) (u : Tmp) (hu : u < base.length) :
    nth (mergeS t sa sb ds base) u = mergeA t (nth sa u) (nth sb u) ∨ (u ∉ ds ∧ nth (mergeS t sa sb ds base) u = nth base u) := by
  induction ds generalizing base with
  | nil => exact .inr ⟨by simp, rfl⟩
  | cons d ds ih =>
    simp only [mergeS]
    have hl : (setF base d (mergeA t (nth sa d) (nth sb d))).length = base.length := by simp [setF_eq]
    rcases ih (setF base d (mergeA t (nth sa d) (nth sb d))) (by rw [hl]; exact hu) with h | ⟨h1, h2⟩
    · exact .inl h
    · rw [h2]
      have := nth_setT base (some d) (mergeA t (nth sa d) (nth sb d)) u
      simp only [setT] at this
      rw [this]
      by_cases hd : d = u
      · subst hd
        rw [if_pos ⟨rfl, hu⟩]; exact .inl rfl
      · rw [if_neg (fun h => hd (by simpa using h.1))]
        exact .inr ⟨by simp [Ne.symm hd, h1], rfl⟩

theorem joinS_ok (hΓ : ∀ f g, Γ f = some g → GOk c f g) {x : Operand} {y z : Code} {t : Bool} {Q : Exit → Act → World → Prop} (hj : joinS t y z st = some st') (hev : evA st.slots x = .bool t) (h : HoldS c I E st a w)
    (hQ : ∀ a' w' I' E', Reach c (.cond x y z) I E st a w I' E' st' a' w' → Q .normal a' w') : (Code.cond x y z).wp c.P Q a w := by
  unfold joinS at hj
  split at hj
  · cases hj
  rename_i sa ha
  split at hj
  · cases hj
  rename_i sb hb
  simp only [Option.some.injEq] at hj; subst hj
  have hx := evA_ok h.slots x
  rw [hev] at hx
  generalize hv : a.eval x = v at hx
  cases hx
  have fin : ∀ {code : Code} {sl : List (AVal El)} {a' : Act} {w' : World} {I' : Nat → Prop} {E' : Env}, (∀ d, d ∈ dstsC code → d ∈ dstsC y ++ dstsC z) → (∀ u v, Rep c.L I' w' E' (nth sl u) v → Rep c.L I' w' E' (mergeA t (nth sa u) (nth sb u)) v) →
      Reach c code I E st a w I' E' ⟨sl, st.res⟩ a' w' → Reach c (.cond x y z) I E st a w I' E' ⟨mergeS t sa sb (dstsC y ++ dstsC z) st.slots, st.res⟩ a' w' := by
    intro code sl a' w' I' E' hsub hm hr
    refine ⟨hr.ext, ⟨hr.holds.hr, ?_, hr.holds.free, hr.holds.nodefer⟩, ⟨hr.keeps.1, fun u hu => hr.keeps.2 u (fun hc => hu (hsub u hc))⟩, ⟨hr.names.same, hr.names.len⟩⟩
    have hl0 : st.slots.length = a.tmps.toList.length := Reps.len h.slots
    have hl1 : a'.tmps.size = a.tmps.size := hr.keeps.1
    refine ⟨by rw [length_mergeS, hl0]; simp [hl1], fun u q v hq hvv => ?_⟩
    have hult : u < st.slots.length := by
      rcases Nat.lt_or_ge u st.slots.length with h' | h'
      · exact h'
      · rw [List.getElem?_eq_none (by rw [length_mergeS]; exact h')] at hq; cases hq
    have hq' : nth (mergeS t sa sb (dstsC y ++ dstsC z) st.slots) u = q := by rw [nth_eq, List.getD_eq_getElem?_getD, hq]; rfl
    have hv' : a'.tmps.toList.getD u v = v := by rw [List.getD_eq_getElem?_getD, hvv]; rfl
    rcases nth_mergeS t sa sb (dstsC y ++ dstsC z) st.slots u hult with h1 | ⟨h1, h2⟩
    · rw [h1] at hq'; subst hq'
      have := hr.holds.slots.getD u v
      rw [hv'] at this
      exact hm u v this
    · rw [h2] at hq'; subst hq'
      have hk := hr.keeps.2 u (fun hc => h1 (hsub u hc))
      have h3 := h.slots.getD u v
      have : a.tmps.toList.getD u v = v := by
        rw [List.getD_eq_getElem?_getD, Array.getElem?_toList, ← hk, ← Array.getElem?_toList, hvv]; rfl
      rw [this] at h3
      exact h.hr.keepRep hr.ext h3
  refine wp_cond_split hv (fun ht => ?_) (fun ht => ?_)
  · refine simpleC_ok hΓ ha h (fun a' w' I' E' hr => hQ a' w' I' E' (fin (fun d hd => List.mem_append.2 (.inl hd)) (fun u v hrep => mergeA_ok ?_) hr))
    rw [if_pos ht]; exact hrep
  · refine simpleC_ok hΓ hb h (fun a' w' I' E' hr => hQ a' w' I' E' (fin (fun d hd => List.mem_append.2 (.inr hd)) (fun u v hrep => mergeA_ok ?_) hr))
    rw [if_neg (by rw [ht]; decide)]; exact hrep

theorem setX_same {slots : List (AVal El)} {x : Operand} {t q : Bool} (h : evA slots x = .bool t) (hq : t = q) : setX slots x q = slots := by
  subst hq
  cases x with
  | tmp u => exact setF_same h
  | _ => rfl

theorem texec_ok (hΓ : ∀ f g, Γ f = some g → GOk c f g) : ∀ (n : Nat) (code : Code) (st : St El) (e : AEx) (st' : St El), (texec c Γ n code st).Out (e, st') → ∀ (I : Nat → Prop) (E : Env) (a : Act) (w : World) (Q : Exit → Act → World → Prop),
    HoldS c I E st a w → (∀ a' w' I' E', Reach c code I E st a w I' E' st' a' w' → Q e.of a' w') → code.wp c.P Q a w ∧ ∀ b, code = .loop b → Code.rounds c.P b Q n a w := by
  intro n
  induction n with
  | zero => intro code st e st' ho; exact ho.elim
  | succ n ih =>
    intro code st e st' ho I E a w Q h hQ
    cases code <;> simp only [texec] at ho
    case skip =>
      simp only [Tree.Out, Prod.mk.injEq] at ho; obtain ⟨rfl, rfl⟩ := ho
      exact ⟨wp_skip (hQ a w I E (Reach.refl h)), fun b hb => by cases hb⟩
    case label l =>
      simp only [Tree.Out, Prod.mk.injEq] at ho; obtain ⟨rfl, rfl⟩ := ho
      exact ⟨wp_label (hQ a w I E (Reach.refl h)), fun b hb => by cases hb⟩
    case exit id =>
      simp only [Tree.Out, Prod.mk.injEq] at ho; obtain ⟨rfl, rfl⟩ := ho
      exact ⟨wp_exit (hQ a w I E (Reach.refl h)), fun b hb => by cases hb⟩
    case ret =>
      simp only [Tree.Out, Prod.mk.injEq] at ho; obtain ⟨rfl, rfl⟩ := ho
      exact ⟨wp_ret (hQ a w I E (Reach.refl h)), fun b hb => by cases hb⟩
    case region id ops draw =>
      rw [Tree.out_bind] at ho
      obtain ⟨st1, h1, h2⟩ := ho
      rw [forceSt_eq] at h2
      simp only [Tree.Out, Prod.mk.injEq] at h2; obtain ⟨rfl, rfl⟩ := h2
      exact ⟨aregionX_ok hΓ h1 h hQ, fun b hb => by cases hb⟩
    case seq x y =>
      rw [Tree.out_bind] at ho
      obtain ⟨⟨e1, st1⟩, h1, h2⟩ := ho
      refine ⟨wp_seq ((ih x st e1 st1 h1 I E a w _ h ?_).1), fun b hb => by cases hb⟩
      intro a1 w1 I1 E1 hr
      cases e1 with
      | normal =>
        refine (ih y st1 e st' h2 I1 E1 a1 w1 Q hr.holds ?_).1
        intro a2 w2 I2 E2 hr2
        exact hQ a2 w2 I2 E2 (hr.trans hr2 (fun t ht => List.mem_append.2 ht))
      | exit id =>
        simp only [Tree.Out, Prod.mk.injEq] at h2; obtain ⟨rfl, rfl⟩ := h2
        exact hQ a1 w1 I1 E1 (hr.weaken (fun t ht => List.mem_append.2 (.inl ht)))
      | ret =>
        simp only [Tree.Out, Prod.mk.injEq] at h2; obtain ⟨rfl, rfl⟩ := h2
        exact hQ a1 w1 I1 E1 (hr.weaken (fun t ht => List.mem_append.2 (.inl ht)))
    case cond x y z =>
      have hx := evA_ok h.slots x
      split at ho
      · rename_i t hev
        split at ho
        · rename_i st1 hj
          rw [forceSt_eq] at ho
          simp only [Tree.Out, Prod.mk.injEq] at ho; obtain ⟨rfl, rfl⟩ := ho
          exact ⟨joinS_ok hΓ hj hev h hQ, fun b hb => by cases hb⟩
        have hset : ∀ q, t = q → (⟨setX st.slots x q, st.res⟩ : St El) = st := fun q hq => by rw [setX_same hev hq]
        rw [hev] at hx
        generalize hv : a.eval x = v at hx
        cases hx
        refine ⟨wp_cond_split hv (fun ht => ?_) (fun ht => ?_), fun b hb => by cases hb⟩
        · rcases ho with ⟨_, ho⟩ | ⟨ht', ho⟩
          · rw [hset true ht] at ho
            exact (ih y st e st' ho I E a w Q h (fun a2 w2 I2 E2 hr => hQ a2 w2 I2 E2 (hr.weaken (fun t ht => List.mem_append.2 (.inl ht))))).1
          · rw [ht] at ht'; cases ht'
        · rcases ho with ⟨ht', ho⟩ | ⟨_, ho⟩
          · rw [ht] at ht'; cases ht'
          · rw [hset false ht] at ho
            exact (ih z st e st' ho I E a w Q h (fun a2 w2 I2 E2 hr => hQ a2 w2 I2 E2 (hr.weaken (fun t ht => List.mem_append.2 (.inr ht))))).1
      · exact ho.elim
    case block id y =>
      rw [Tree.out_bind] at ho
      obtain ⟨⟨e1, st1⟩, h1, h2⟩ := ho
      refine ⟨wp_block ((ih y st e1 st1 h1 I E a w _ h ?_).1), fun b hb => by cases hb⟩
      intro a1 w1 I1 E1 hr
      have hr' : Reach c (.block id y) I E st a w I1 E1 st1 a1 w1 := hr.weaken (fun _ h => h)
      cases e1 with
      | normal => simp only [Tree.Out, Prod.mk.injEq] at h2; obtain ⟨rfl, rfl⟩ := h2; exact hQ a1 w1 I1 E1 hr'
      | exit i =>
        simp only at h2
        split at h2
        · rename_i hid
          simp only [Tree.Out, Prod.mk.injEq] at h2; obtain ⟨rfl, rfl⟩ := h2
          simp only [AEx.of, Exit.inBlock, hid, if_true]
          exact hQ a1 w1 I1 E1 hr'
        · rename_i hid
          simp only [Tree.Out, Prod.mk.injEq] at h2; obtain ⟨rfl, rfl⟩ := h2
          simp only [AEx.of, Exit.inBlock, hid, if_false]
          exact hQ a1 w1 I1 E1 hr'
      | ret => simp only [Tree.Out, Prod.mk.injEq] at h2; obtain ⟨rfl, rfl⟩ := h2; exact hQ a1 w1 I1 E1 hr'
    case loop y =>
      rw [Tree.out_bind] at ho
      obtain ⟨⟨e1, st1⟩, h1, h2⟩ := ho
      have hrounds : Code.rounds c.P y Q (n + 1) a w := by
        rw [rounds_succ]
        refine (ih y st e1 st1 h1 I E a w _ h ?_).1
        intro a1 w1 I1 E1 hr
        cases e1 with
        | normal =>
          refine (ih (.loop y) st1 e st' h2 I1 E1 a1 w1 Q hr.holds ?_).2 y rfl
          intro a2 w2 I2 E2 hr2
          exact hQ a2 w2 I2 E2 (hr.trans hr2 (fun t ht => ht.elim id id))
        | exit id =>
          simp only [Tree.Out, Prod.mk.injEq] at h2; obtain ⟨rfl, rfl⟩ := h2
          exact hQ a1 w1 I1 E1 (hr.weaken (fun _ h => h))
        | ret =>
          simp only [Tree.Out, Prod.mk.injEq] at h2; obtain ⟨rfl, rfl⟩ := h2
          exact hQ a1 w1 I1 E1 (hr.weaken (fun _ h => h))
      exact ⟨wp_loop_rounds (n + 1) hrounds, fun b hb => by cases hb; exact hrounds⟩
    all_goals exact ho.elim
end proofs
end Go.Ax
