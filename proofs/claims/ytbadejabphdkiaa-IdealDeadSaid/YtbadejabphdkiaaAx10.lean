/- A verified symbolic executor, part 10: one operation, calls by contract, a region in the text's order. Over any program; the facts on its types are given with it. -/
import Derived.Test.YtbadejabphdkiaaAx26
set_option linter.unusedVariables false
set_option linter.unusedSimpArgs false
namespace Go.Ax
variable {El : TypeId → Type}

/-- A contract: from arguments, resources and the first free name to what the call comes to. -/
abbrev GSpec (El : TypeId → Type) := List (AVal El) → List (Res El) → Nat → Tree (Eff El)

def evA (slots : List (AVal El)) : Operand → AVal El
  | .tmp t => nth slots t
  | .const v => absV v
  | .func f => .fn f []
  | .global _ => .top

def mapA (ρ : Operand → AVal El) : List Operand → List (AVal El)
  | [] => []
  | x :: xs => ρ x :: mapA ρ xs
def mapP (ρ : Operand → AVal El) : List (Nat × Operand) → List (Nat × AVal El)
  | [] => []
  | (i, x) :: xs => (i, ρ x) :: mapP ρ xs

def pureT (t : Tree (AVal El)) : Tree (Eff El) := t.bind fun a => .leaf (a, [])

section defs
variable (c : Cx El) (Γ : FuncId → Option (GSpec El)) (R : List (Res El)) (base : Nat) (ρ : Operand → AVal El)

def aMinMax (b : Bool) (x y : AVal El) : Tree (AVal El) :=
  match x, y with
  | .int k n, .int _ m => .leaf (.int k (if b = true then (if m < n then m else n) else (if m > n then m else n)))
  | _, _ => .fail

def aCall (f : FuncId) (args : List (AVal El)) : Tree (Eff El) :=
  match Γ f with
  | some g => g args R base
  | none => .fail

def aBuiltin (b : Builtin) (ats : List TypeId) (args : List (AVal El)) : Tree (Eff El) :=
  match b, ats, args with
  | .len, [t], [x] => pureT (aLenM c R t x)
  | .delete, [t, _], [m, k] => aDelete c R t m k
  | .append, [s, x], [a, b] => aAppend2 c R base s x a b
  | .cap, [t], [x] => pureT (aCap c t x)
  | .min, _, [x, y] => pureT (aMinMax true x y)
  | .max, _, [x, y] => pureT (aMinMax false x y)
  | _, _, _ => .fail

def aop (o : Op) : Tree (Eff El) :=
  match o with
  | .move x => .leaf (ρ x, [])
  | .assign x => .leaf (ρ x, [])
  | .pick a b d => match ρ a with
    | .bool t => .node t (.leaf (ρ b, [])) (.leaf (ρ d, []))
    | _ => .fail
  | .alloc e => aAlloc c base e
  | .box e x => aBox base e (ρ x)
  | .build t parts => pureT (aBuild c t (mapP ρ parts.toList))
  | .buildSlice t n parts => aBuildSlice2 c base t n (mapP ρ parts.toList)
  | .load t a => pureT (aLoad c R t (ρ a))
  | .store t a x => aStore c R t (ρ a) (ρ x)
  | .nilCheck x => match ρ x with
    | .ptr r o => .leaf (.ptr r o, [])
    | .eptr r s i o => .leaf (.eptr r s i o, [])
    | .lptr t xs s i o => .leaf (.lptr t xs s i o, [])
    | _ => .fail
  | .binOp op t x y _ => pureT (aBin c op t (ρ x) (ρ y))
  | .unOp op _ x => pureT (aUn op (ρ x))
  | .convert s d x => pureT (aConv c s d (ρ x))
  | .makeFunc (.func f) first caps => match first.toList with
    | [] => .leaf (.fn f (mapA ρ caps.toList), [])
    | _ => .fail
  | .makeSlice t l k => aMake c base t (ρ l) (ρ k)
  | .slice t x lo hi mx => aSlice2 c R base t (ρ x) (lo.map ρ) (hi.map ρ) (mx.map ρ)
  | .makeMap t none => aMakeMap c base t
  | .lookup t m k ok => pureT (aLookup c R t (ρ m) (ρ k) ok)
  | .mapUpdate t m k x => aUpdate c R t (ρ m) (ρ k) (ρ x)
  | .insert t m k x => aUpdate c R t (ρ m) (ρ k) (ρ x)
  | .fieldAddr s x f => pureT (aField c s (ρ x) f)
  | .indexAddr t x i => pureT (aIndexAddr c R t (ρ x) (ρ i))
  | .index t x i => pureT (aIndex c t (ρ x) (ρ i))
  | .extract t i => pureT (aExtract (ρ t) i)
  | .call cl => match cl.callee with
    | .builtin b => aBuiltin c R base b cl.argTypes.toList (mapA ρ cl.args.toList)
    | .value (.func f) => aCall Γ R base f (mapA ρ cl.args.toList)
    | .value (.tmp t) => match ρ (.tmp t) with
      | .fn f caps => aCall Γ R base f (mapA ρ cl.args.toList ++ caps)
      | _ => .fail
    | _ => .fail
  | _ => .fail
end defs

/-- All names from 'n' on are free. -/
def FreeFrom (E : Env) (n : Nat) : Prop := ∀ r, n ≤ r → E r = none

/-- What a contract owes. -/
structure GOk (c : Cx El) (f : FuncId) (g : GSpec El) : Prop where
  enters : ∀ args w, (callFunc f args).run c.P w = .ok (.enter f args) w
  ok : ∀ args R base y, (g args R base).Out y → ∀ I E w vals, Reps c.L I w E args vals → HR c.L I w E R → (∀ r x, (r, x) ∈ y.2 → base ≤ r → E r = none) →
    Calls c.P f vals.toArray w fun e w' => ∃ v I' E', e = .returned v ∧ Post c.L I E R w base y.2 y.1 v w' I' E'

/-- What an operation does to a frame and a world. -/
def Does (P : Program) (o : Oper) (a : Act) (w : World) (Φ : Value → World → Prop) : Prop :=
  ∀ (next : Act → World → Prop) (Q : Exit → Act → World → Prop), (∀ v w', Φ v w' → next (a.put o.dst v) w') → o.wp P a w next Q

section proofs
variable {I : Nat → Prop} {E : Env} {R : List (Res El)} {w w' : World} {c : Cx El} {Γ : FuncId → Option (GSpec El)}

theorem does_value {P : Program} {o : Oper} {a : Act} {Φ : Value → World → Prop} {v : Value} (hr : (execOp a.eval o).run P w = .ok (.value v) w') (h : Φ v w') : Does P o a w Φ := by
  intro next Q hn
  unfold Oper.wp
  rw [hr]
  exact hn v w' h
theorem does_skip {P : Program} {o : Oper} {a : Act} {Φ : Value → World → Prop} (hr : (execOp a.eval o).run P w = .ok .skip w') (h : Φ undef w') : Does P o a w Φ := by
  intro next Q hn
  unfold Oper.wp
  rw [hr]
  exact hn undef w' h
theorem does_enter {P : Program} {o : Oper} {a : Act} {Φ : Value → World → Prop} {f : FuncId} {args : Array Value} (hr : (execOp a.eval o).run P w = .ok (.enter f args) w)
    (h : Calls P f args w fun e w' => ∃ v, e = .returned v ∧ Φ v w') : Does P o a w Φ := by
  intro next Q hn
  unfold Oper.wp
  rw [hr]
  refine Calls.mono h ?_
  rintro e w' ⟨v, rfl, hv⟩
  exact hn v w' hv

/-- The frame's slots stand for the abstract ones. -/
def SlotsOk (c : Cx El) (I : Nat → Prop) (w : World) (E : Env) (slots : List (AVal El)) (a : Act) : Prop := Reps c.L I w E slots a.tmps.toList

theorem evA_ok {slots : List (AVal El)} {a : Act} (h : SlotsOk c I w E slots a) (x : Operand) : Rep c.L I w E (evA slots x) (a.eval x) := by
  cases x with
  | tmp t =>
    have := h.getD t undef
    simpa [evA, Act.eval, Array.getD_eq_getD_getElem?, List.getD_eq_getElem?_getD] using this
  | const v => exact absV_ok v
  | global g => exact .top
  | func f => exact .fn (caps := []) (vs := []) rfl (fun i c v hc => by simp at hc)

theorem mapA_ok {ρ : Operand → AVal El} {a : Act} (h : ∀ x, Rep c.L I w E (ρ x) (a.eval x)) (xs : List Operand) : Reps c.L I w E (mapA ρ xs) (xs.map a.eval) := by
  induction xs with
  | nil => exact Reps.nil
  | cons x xs ih => exact Reps.cons (h x) ih

theorem mapP_ok {ρ : Operand → AVal El} {a : Act} (h : ∀ x, Rep c.L I w E (ρ x) (a.eval x)) (xs : List (Nat × Operand)) : PartsRep c.L I w E (mapP ρ xs) (xs.map fun (i, x) => (i, a.eval x)) := by
  induction xs with
  | nil => trivial
  | cons x xs ih => exact ⟨rfl, h x.2, ih⟩

theorem pureT_out {t : Tree (AVal El)} {y : Eff El} (h : (pureT t).Out y) : ∃ a, t.Out a ∧ y = (a, []) := by
  unfold pureT at h
  rw [Tree.out_bind] at h
  obtain ⟨a, h1, h2⟩ := h
  exact ⟨a, h1, h2.symm⟩

theorem aop_ok {ρ : Operand → AVal El} {a : Act} {base : Nat} {o : Oper} {y : Eff El} (hΓ : ∀ f g, Γ f = some g → GOk c f g) (ev : ∀ x, Rep c.L I w E (ρ x) (a.eval x)) (hr : HR c.L I w E R)
    (ho : (aop c Γ R base ρ o.op).Out y) (hfree : ∀ r x, (r, x) ∈ y.2 → base ≤ r → E r = none) :
    Does c.P o a w fun v w' => ∃ I' E', Post c.L I E R w base y.2 y.1 v w' I' E' := by
  have pureV : ∀ {t : Tree (AVal El)} {s : Sem Value}, (execOp a.eval o = do pure (.value (← s))) → (pureT t).Out y → (∀ r, t.Out r → ∃ v, s.run c.P w = .ok v w ∧ Rep c.L I w E r v) →
      Does c.P o a w fun v w' => ∃ I' E', Post c.L I E R w base y.2 y.1 v w' I' E' := by
    intro t s he hp hk
    obtain ⟨r, h1, rfl⟩ := pureT_out hp
    obtain ⟨v, h2, h3⟩ := hk r h1
    exact does_value (v := v) (w' := w) (by rw [he]; simp [h2]) ⟨I, E, hr.still h3⟩
  have effV : ∀ {s : Sem Value}, (execOp a.eval o = do pure (.value (← s))) → (∃ u w' I' E', s.run c.P w = .ok u w' ∧ Post c.L I E R w base y.2 y.1 u w' I' E') →
      Does c.P o a w fun v w' => ∃ I' E', Post c.L I E R w base y.2 y.1 v w' I' E' := by
    rintro s he ⟨u, w', I', E', h1, h2⟩
    exact does_value (v := u) (w' := w') (by rw [he]; simp [h1]) ⟨I', E', h2⟩
  have callV : ∀ {f : FuncId} {as : List (AVal El)} {vals : List Value}, (execOp a.eval o).run c.P w = (callFunc f vals.toArray).run c.P w → Reps c.L I w E as vals → (aCall Γ R base f as).Out y →
      Does c.P o a w fun v w' => ∃ I' E', Post c.L I E R w base y.2 y.1 v w' I' E' := by
    intro f as vals he hrep hp
    unfold aCall at hp
    split at hp
    · rename_i g hg
      have gok := hΓ f g hg
      refine does_enter (by rw [he, gok.enters]) (Calls.mono (gok.ok as R base y hp I E w vals hrep hr hfree) ?_)
      rintro e w' ⟨v, I', E', h1, h2⟩
      exact ⟨v, h1, I', E', h2⟩
    · exact hp.elim
  have hb0 : ∀ x, (base, x) ∈ y.2 → E base = none := fun x hx => hfree base x hx (Nat.le_refl _)
  cases hop : o.op <;> rw [hop] at ho <;> simp only [aop] at ho <;> try exact ho.elim
  case move x => simp only [Tree.Out] at ho; subst ho; exact does_value (v := a.eval x) (w' := w) (by simp [execOp, hop]) ⟨I, E, hr.still (ev x)⟩
  case assign x => simp only [Tree.Out] at ho; subst ho; exact does_value (v := a.eval x) (w' := w) (by simp [execOp, hop]) ⟨I, E, hr.still (ev x)⟩
  case pick p b d =>
    have hp := ev p
    split at ho
    · rename_i t ht
      rw [ht] at hp
      generalize hv : a.eval p = vp at hp
      cases hp
      simp only [Tree.Out] at ho
      rcases ho with ⟨rfl, rfl⟩ | ⟨rfl, rfl⟩
      · exact does_value (v := a.eval b) (w' := w) (by simp [execOp, hop, hv, asBool]) ⟨I, E, hr.still (ev b)⟩
      · exact does_value (v := a.eval d) (w' := w) (by simp [execOp, hop, hv, asBool]) ⟨I, E, hr.still (ev d)⟩
    · exact ho.elim
  case alloc e =>
    refine effV (s := Instr.alloc e true (.tuple #[])) (by simp [execOp, hop]) (aAlloc_ok hr ?_ ho)
    unfold aAlloc aBox at ho
    split at ho
    · split at ho
      · simp only [Tree.Out] at ho; subst ho; exact hb0 _ (List.mem_singleton.2 rfl)
      · exact ho.elim
    · exact ho.elim
  case box e x =>
    refine effV (s := Instr.box e (a.eval x)) (by simp [execOp, hop]) (aBox_ok hr ?_ (ev x) ho)
    unfold aBox at ho
    split at ho
    · simp only [Tree.Out] at ho; subst ho; exact hb0 _ (List.mem_singleton.2 rfl)
    · exact ho.elim
  case build t parts =>
    refine pureV (s := Instr.build t (parts.map fun (i, x) => (i, a.eval x))) (by simp [execOp, hop]) ho (fun r h => ?_)
    have := aBuild_ok (mapP_ok ev parts.toList) h
    have e : (parts.toList.map fun (p : Nat × Operand) => match p with | (i, x) => (i, a.eval x)).toArray = parts.map fun (p : Nat × Operand) => match p with | (i, x) => (i, a.eval x) := Array.ext' (by simp)
    rw [e] at this
    exact this
  case buildSlice t n parts =>
    have hb : E base = none := by
      unfold aBuildSlice2 at ho
      split at ho <;> try exact ho.elim
      split at ho
      · unfold aBuildSlice at ho
        split at ho <;> try exact ho.elim
        split at ho <;> try exact ho.elim
        split at ho <;> try exact ho.elim
        split at ho <;> try exact ho.elim
        simp only [Tree.Out] at ho; subst ho; exact hb0 _ (List.mem_singleton.2 rfl)
      · split at ho <;> try exact ho.elim
        split at ho <;> try exact ho.elim
        simp only [Tree.Out] at ho; subst ho; exact hb0 _ (List.mem_singleton.2 rfl)
    refine effV (s := Instr.buildSlice t n (parts.map fun (i, x) => (i, a.eval x))) (by simp [execOp, hop]) ?_
    have := aBuildSlice2_ok hr hb (mapP_ok ev parts.toList) ho
    have e : (parts.toList.map fun (p : Nat × Operand) => match p with | (i, x) => (i, a.eval x)).toArray = parts.map fun (p : Nat × Operand) => match p with | (i, x) => (i, a.eval x) := Array.ext' (by simp)
    rw [e] at this
    exact this
  case load t x => exact pureV (s := Instr.loadAt t (a.eval x)) (by simp [execOp, hop]) ho (fun r h => aLoad_ok hr (ev x) h)
  case store t x z =>
    obtain ⟨w', I', E', h1, h2⟩ := aStore_ok (base := base) hr (ev x) (ev z) ho
    exact does_skip (w' := w') (by simp [execOp, hop, h1]) ⟨I', E', h2⟩
  case nilCheck x =>
    have hx := ev x
    split at ho
    · rename_i r off he
      simp only [Tree.Out] at ho; subst ho
      rw [he] at hx
      generalize hv : a.eval x = vx at hx
      have hx0 := hx
      cases hx
      exact does_value (w' := w) (by simp [execOp, hop, hv]) ⟨I, E, hr.still hx0⟩
    · rename_i r s i off he
      simp only [Tree.Out] at ho; subst ho
      rw [he] at hx
      generalize hv : a.eval x = vx at hx
      have hx0 := hx
      cases hx
      exact does_value (w' := w) (by simp [execOp, hop, hv]) ⟨I, E, hr.still hx0⟩
    · rename_i t xs s i off he
      simp only [Tree.Out] at ho; subst ho
      rw [he] at hx
      generalize hv : a.eval x = vx at hx
      have hx0 := hx
      cases hx
      exact does_value (w' := w) (by simp [execOp, hop, hv]) ⟨I, E, hr.still hx0⟩
    · exact ho.elim
  case binOp op t x z ty =>
    exact pureV (s := do eqGuard op t x z (a.eval x) (a.eval z); Go.binOp op t (a.eval x) (a.eval z)) (by simp [execOp, hop]) ho (fun r h => aBin_ok (ev x) (ev z) h x z)
  case unOp op t x => exact pureV (s := Op.unary op (a.eval x)) (by simp [execOp, hop]) ho (fun r h => aUn_ok (ev x) h)
  case convert s d x => exact pureV (s := Go.convert s d (a.eval x)) (by simp [execOp, hop]) ho (fun r h => aConv_ok (ev x) h)
  case makeFunc fn first caps =>
    cases fn <;> simp only at ho <;> try exact ho.elim
    rename_i f
    split at ho
    · rename_i hf
      simp only [Tree.Out] at ho; subst ho
      have hf' : first = #[] := by cases first; simp_all
      subst hf'
      have hm := mapA_ok ev caps.toList
      have hcaps : caps.map a.eval = (caps.toList.map a.eval).toArray := Array.ext' (by simp)
      refine does_value (w' := w) (v := .func (.func f) #[] (caps.toList.map a.eval).toArray) (by simp [execOp, hop, Instr.makeFunc, hcaps]) ⟨I, E, hr.still (.fn hm.len hm.at_)⟩
    · exact ho.elim
  case makeSlice t l k =>
    have hb : E base = none := by
      unfold aMake at ho
      split at ho <;> try exact ho.elim
      split at ho <;> try exact ho.elim
      split at ho <;> try exact ho.elim
      simp only [Tree.Out] at ho
      obtain ⟨_, rfl⟩ := ho
      exact hb0 _ (List.mem_singleton.2 rfl)
    exact effV (s := Instr.makeSlice t (a.eval l) (a.eval k)) (by simp [execOp, hop]) (aMake_ok hr hb (ev l) (ev k) ho)
  case slice t x lo hi mx =>
    have opt : ∀ q : Option Operand, OptRep c.L I w E (q.map ρ) (q.map a.eval) := fun q => by
      cases q with
      | none => trivial
      | some q => exact ev q
    exact effV (s := Instr.sliceAt t (a.eval x) (lo.map a.eval) (hi.map a.eval) (mx.map a.eval)) (by simp [execOp, hop]) (aSlice2_ok hr (ev x) (opt lo) (opt hi) (opt mx) ho hfree)
  case makeMap t r =>
    cases r <;> simp only at ho <;> try exact ho.elim
    have hb : E base = none := by
      unfold aMakeMap at ho
      split at ho <;> try exact ho.elim
      split at ho <;> (simp only [Tree.Out] at ho; subst ho; exact hb0 _ (List.mem_singleton.2 rfl))
    exact effV (s := Instr.makeMap t none) (by simp [execOp, hop]) (aMakeMap_ok hr hb ho)
  case lookup t m k ok => exact pureV (s := Instr.lookup t (a.eval m) (a.eval k) ok) (by simp [execOp, hop]) ho (fun r h => aLookup_ok hr (ev m) (ev k) h)
  case mapUpdate t m k x =>
    obtain ⟨w', I', E', h1, h2⟩ := aUpdate_ok (base := base) hr (ev m) (ev k) (ev x) ho
    exact does_skip (w' := w') (by simp [execOp, hop, h1]) ⟨I', E', h2⟩
  case insert t m k x =>
    obtain ⟨w', I', E', h1, h2⟩ := aUpdate_ok (base := base) hr (ev m) (ev k) (ev x) ho
    exact does_skip (w' := w') (by simp [execOp, hop, h1]) ⟨I', E', h2⟩
  case fieldAddr s x f => exact pureV (s := Instr.fieldAt s (a.eval x) f) (by simp [execOp, hop]) ho (fun r h => aField_ok (ev x) h)
  case indexAddr t x i => exact pureV (s := Instr.indexAt t (a.eval x) (a.eval i)) (by simp [execOp, hop]) ho (fun r h => aIndexAddr_ok hr (ev x) (ev i) h)
  case index t x i => exact pureV (s := Instr.index t (a.eval x) (a.eval i)) (by simp [execOp, hop]) ho (fun r h => aIndex_ok (ev x) (ev i) h)
  case extract t i => exact pureV (s := Instr.extract (a.eval t) i) (by simp [execOp, hop]) ho (fun r h => aExtract_ok (ev t) h)
  case call cl =>
    obtain ⟨callee, args, ats⟩ := cl
    have hm := mapA_ok ev args.toList
    split at ho
    · rename_i b hc
      simp only at hc; subst hc
      simp only at ho
      have hargs : args.map a.eval = (args.toList.map a.eval).toArray := Array.ext' (by simp)
      unfold aBuiltin at ho
      split at ho
      · rename_i t x hats hxs
        rw [hxs] at hm
        obtain ⟨v, vs', hv, h1, h2⟩ := hm.inv_cons
        rw [h2.inv_nil] at hv
        refine pureV (s := Builtin.len_ ats o.type (args.map a.eval)) (by simp [execOp, hop, resolve, invoke, builtin]) ho (fun r h => ?_)
        rw [hargs, hv, show ats = #[t] from Array.ext' hats]
        exact aLenM_ok hr h1 h
      · rename_i t kt p q hats hxs
        rw [hxs] at hm
        obtain ⟨v, vs', hv, h1, h2⟩ := hm.inv_cons
        obtain ⟨u, us', hu, h3, h4⟩ := h2.inv_cons
        rw [hu, h4.inv_nil] at hv
        refine effV (s := Builtin.delete_ ats o.type (args.map a.eval)) (by simp [execOp, hop, resolve, invoke, builtin]) ?_
        rw [hargs, hv, show ats = #[t, kt] from Array.ext' hats]
        exact aDelete_ok hr h1 h3 ho
      · rename_i s x p q hats hxs
        rw [hxs] at hm
        obtain ⟨v, vs', hv, h1, h2⟩ := hm.inv_cons
        obtain ⟨u, us', hu, h3, h4⟩ := h2.inv_cons
        rw [hu, h4.inv_nil] at hv
        refine effV (s := Builtin.append_ ats o.type (args.map a.eval)) (by simp [execOp, hop, resolve, invoke, builtin]) ?_
        rw [hargs, hv, show ats = #[s, x] from Array.ext' hats]
        refine aAppend2_ok hr h1 h3 ho hfree (fun y' ho => ?_)
        unfold aAppend at ho
        split at ho <;> try exact ho.elim
        split at ho <;> try exact ho.elim
        split at ho <;> try exact ho.elim
        split at ho <;> try exact ho.elim
        split at ho <;> try exact ho.elim
        simp only [Tree.Out] at ho
        obtain ⟨_, rfl⟩ := ho
        exact ⟨_, List.mem_cons_of_mem _ (List.mem_singleton.2 rfl)⟩
      · rename_i t x hats hxs
        rw [hxs] at hm
        obtain ⟨v, vs', hv, h1, h2⟩ := hm.inv_cons
        rw [h2.inv_nil] at hv
        refine pureV (s := Builtin.cap_ ats o.type (args.map a.eval)) (by simp [execOp, hop, resolve, invoke, builtin]) ho (fun r h => ?_)
        rw [hargs, hv, show ats = #[t] from Array.ext' hats]
        exact aCap_ok h1 h
      · rename_i x p hxs
        rw [hxs] at hm
        obtain ⟨v, vs', hv, h1, h2⟩ := hm.inv_cons
        obtain ⟨u, us', hu, h3, h4⟩ := h2.inv_cons
        rw [hu, h4.inv_nil] at hv
        refine pureV (s := Builtin.min_ ats o.type (args.map a.eval)) (by simp [execOp, hop, resolve, invoke, builtin]) ho (fun r h => ?_)
        rw [hargs, hv]
        unfold aMinMax at h
        split at h
        · simp only [Tree.Out, if_true] at h; subst h; cases h1; cases h3
          exact ⟨_, by simp [Builtin.min_, Builtin.min2], .int⟩
        · exact h.elim
      · rename_i x p hxs
        rw [hxs] at hm
        obtain ⟨v, vs', hv, h1, h2⟩ := hm.inv_cons
        obtain ⟨u, us', hu, h3, h4⟩ := h2.inv_cons
        rw [hu, h4.inv_nil] at hv
        refine pureV (s := Builtin.max_ ats o.type (args.map a.eval)) (by simp [execOp, hop, resolve, invoke, builtin]) ho (fun r h => ?_)
        rw [hargs, hv]
        unfold aMinMax at h
        split at h
        · simp only [Tree.Out, Bool.false_eq_true, if_false] at h; subst h; cases h1; cases h3
          exact ⟨_, by simp [Builtin.max_, Builtin.max2], .int⟩
        · exact h.elim
      · exact ho.elim
    · rename_i f hc
      simp only at hc; subst hc
      refine callV (f := f) (vals := args.toList.map a.eval) ?_ hm ho
      have hargs : args.map a.eval = (args.toList.map a.eval).toArray := Array.ext' (by simp)
      simp [execOp, hop, resolve, Act.eval, Deferred.ofValue, invoke, hargs]
    · rename_i t hc
      simp only at hc; subst hc
      split at ho
      · rename_i f caps hn
        have hev := ev (.tmp t)
        simp only [hn] at hev
        generalize hv : a.eval (.tmp t) = vf at hev
        cases hev with
        | fn hl hh =>
          rename_i vs
          refine callV (f := f) (vals := args.toList.map a.eval ++ vs) ?_ (hm.append ⟨hl, hh⟩) ho
          have hargs : args.map a.eval ++ vs.toArray = (args.toList.map a.eval ++ vs).toArray := by simp
          simp [execOp, hop, resolve, hv, Deferred.ofValue, invoke, ← hargs]
      · exact ho.elim
    · exact ho.elim
end proofs
end Go.Ax
